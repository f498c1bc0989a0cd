/- WHAT IT HOLDS: the document's changes done, what its disk shows, how many bytes files have: walked. | WHAT IT HOLDS: the document's disk in memory; what it shows, its files' bytes: walked. -/
import Derived.Test.YtabnndjdkjkciaaGreatDoorCursorKeepsG26
namespace Go.Proofs.YtabnndjdkjkciaaGreatDoor
open Go.RowKit Go.Maps Go.Sort
attribute [local go_sem ↓] Go.wp_at_zero Go.wp_at_succ

/-- the block of a slice, if any, is there, and meets T -/
def Okb (T : Nat → Prop) (w : World) (A : Option Addr) : Prop := ∀ k, A.map (·.block) = some k → T k ∧ k < w.heap.size
theorem Okb.below {T : Nat → Prop} {w w' : World} {A : Option Addr} (h : Okb T w A) (hs : w.heap.size ≤ w'.heap.size) : Okb T w' A := fun k hk => ⟨(h k hk).1, Nat.lt_of_lt_of_le (h k hk).2 hs⟩
theorem Okb.own {T : Nat → Prop} {w w' : World} {A : Option Addr} {c n size : Nat} {e : TypeId} {xs : List Value} {B : Nat} (hT : ∀ k, w.heap.size ≤ k → T k) (hB : w.heap.size ≤ B) (h : Own w' B e size A n c xs) : Okb T w' A := fun k hk => by
  have := Own.lt h k hk
  exact ⟨hT k (by omega), this.2⟩
def rca (x : Chg Bs) : Array Value := #[.int .i64 x.kind, .string ⟨x.name.toArray⟩, .string ⟨x.to.toArray⟩, .string ⟨x.val.toArray⟩]
theorem rfind_gget (n : Bs) (l : List (Bs × Bs)) : (gget n l = none ∧ rfind n l = -1) ∨ ∃ (v : Bs) (k : Nat) (hk : k < l.length), gget n l = some v ∧ rfind n l = k ∧ l[k] = (n, v) := by
  unfold rfind gget
  cases hf : l.findIdx? (fun p => p.1 == n) with
  | none =>
    left
    refine ⟨?_, rfl⟩
    rw [List.findIdx?_eq_none_iff] at hf
    rw [List.find?_eq_none.2 fun x hx => by simp [hf x hx]]
    rfl
  | some k =>
    right
    obtain ⟨hk, h1, h2⟩ := List.findIdx?_eq_some_iff_getElem.1 hf
    simp only [beq_iff_eq] at h1
    refine ⟨l[k].2, k, hk, ?_, rfl, by rw [← h1]⟩
    have : l.find? (fun p => p.1 == n) = some l[k] := by
      rw [List.find?_eq_some_iff_getElem]
      exact ⟨by simp [h1], k, hk, rfl, fun j hj => by simpa using h2 j hj⟩
    rw [this]
    rfl
set_option maxRecDepth 100000 in
set_option maxHeartbeats 1000000 in
theorem RApply_any {T : Nat → Prop} {A : Option Addr} {c : Nat} {l : List (Bs × Bs)} (x : Chg Bs) (w : World) (hT : ∀ k, w.heap.size ≤ k → T k) (h : SlR w A c l) (hA : Okb T w A) (hl : l.length ≤ 1000000) :
    Calls Tryz.prog 156 #[.slice A l.length c, .agg (rca x)] w fun e w' => ∃ A' c' m, e = .returned (.slice A' (List.length m) c') ∧ Hid (m = fdo l x) ∧ SlR w' A' c' m ∧ Okb T w' A' ∧ Below w.heap.size w w' := by
  obtain ⟨kd, nm, tt, vv⟩ := x
  have hb0 := below_new w (.cells (rca ⟨kd, nm, tt, vv⟩) 248)
  have hB := Blk.new w 248 (rca ⟨kd, nm, tt, vv⟩)
  have hF := RFind_any nm _ (h.below hb0)
  obtain ⟨q0, q1, q2, q3⟩ := hB.fourC
  have HF := Lib.hid hF
  have HL := Lib.hid (h.below hb0)
  have hrf := rfind_gget nm l
  generalize rfind nm l = rf at *
  clear hF
  rcases Decidable.em (kd = 0) with hk0 | hk0
  · have hb0' : ((kd : Int) == 0) = true := by simp [hk0]
    have HX := Lib.hid (fdo_w (l := l) (x := ⟨kd, nm, tt, vv⟩) hk0)
    clear hk0
    go_enter Tryz.func156, Tryz.ntmps156
    go_wp2_with fail
    refine HF.out.mono ?_
    rintro e w1 ⟨rfl, hb1⟩
    have hb2 := bel_call hb0 hb1
    obtain ⟨z0, z1, z2, z3⟩ := (hB.below hb1).fourC
    have hL1 := HL.out.below hb1
    go_wp2_with fail
    refine (RWith_any nm vv _ hL1 (by omega)).mono ?_
    rintro e w2 ⟨A2, c2, m2, rfl, hm2, ho2, hb3⟩
    go_wp2_with fail
    go_ret
    exact ⟨A2, c2, m2, rfl, (show _ = _ from by rw [hm2.out, HX.out]), Own.sl ho2, Okb.own hT hb2.size ho2, bel_call hb2 hb3⟩
  have hb0' : ((kd : Int) == 0) = false := by simp; omega
  rcases hrf with ⟨hg, rfl⟩ | ⟨v, k, hk, hg, rfl, hlk⟩
  · have HX := Lib.hid (fdo_n (l := l) (x := ⟨kd, nm, tt, vv⟩) hk0 hg)
    clear hk0 hg
    go_enter Tryz.func156, Tryz.ntmps156
    go_wp2_with fail
    refine HF.out.mono ?_
    rintro e w1 ⟨rfl, hb1⟩
    have hb2 := bel_call hb0 hb1
    obtain ⟨z0, z1, z2, z3⟩ := (hB.below hb1).fourC
    have hL1 := HL.out.below hb1
    go_wp2_with fail
    go_ret
    exact ⟨A, c, l, rfl, (show _ = _ from by rw [HX.out]), hL1, hA.below hb2.size, hb2⟩
  rcases Decidable.em (kd = 1) with hk1 | hk1
  · have hb1' : ((kd : Int) == 1) = true := by simp [hk1]
    have HX := Lib.hid (fdo_r (l := l) (x := ⟨kd, nm, tt, vv⟩) hk1 hg)
    have hkI : ¬ ((k : Int) < 0) := by omega
    have hkI2 : (k : Int) < (l.length : Int) := by omega
    clear hk0 hk1 hg
    go_enter Tryz.func156, Tryz.ntmps156
    go_wp2_with fail
    refine HF.out.mono ?_
    rintro e w1 ⟨rfl, hb1⟩
    have hb2 := bel_call hb0 hb1
    have hB1 := hB.below hb1
    obtain ⟨z0, z1, z2, z3⟩ := hB1.fourC
    have hL1 := HL.out.below hb1
    obtain ⟨ad, b, o, hAd, had, -, hc1⟩ := hL1.at1 hk
    rw [hlk] at hc1
    subst hAd
    have hst : Blk w1.drew w.heap.size 248 (rca ⟨kd, nm, tt, vv⟩) ∧ w1.drew.cell? ⟨b, o + 1, none⟩ = some (.string ⟨v.toArray⟩) ∧ SlR w1.drew (some ad) c l ∧ Below w.heap.size w w1.drew := ⟨hB1.drew, hc1, hL1, hb2.drew⟩
    clear hlk hL1 hB1 hB q0 q1 q2 q3
    go_upto_region 7 with (fail)
    refine wp_region_held_drew (S := (fun W => Blk W w.heap.size 248 (rca ⟨kd, nm, tt, vv⟩) ∧ W.cell? ⟨b, o + 1, none⟩ = some (.string ⟨v.toArray⟩) ∧ SlR W (some ad) c l ∧ Below w.heap.size w W)) (by kernel_rfl) ?_ (fun hHeld => ?_)
    · first | with_reducible exact hst | with_reducible exact hHeld | exact ⟨hHeld.1.below hb7, (hb7.cell (World.block_lt_of_cell? _ _ hHeld.2.1)).trans hHeld.2.1, hHeld.2.2.1.below hb7, bel_call hHeld.2.2.2 hb7⟩ | exact ⟨hHeld.1.below hb5, (hb5.cell (World.block_lt_of_cell? _ _ hHeld.2.1)).trans hHeld.2.1, hHeld.2.2.1.below hb5, bel_call hHeld.2.2.2 hb5⟩
    refine wpAnyH_take (i := 0) (oi := ⟨some 29, _, _, _, _, _⟩) (v := ?_) rfl (by kernel_rfl) (by kernel_rfl) (by kernel_rfl) (fun _ _ _ h => h) (Or.inl ⟨by kernel_rfl, ?_⟩) (by assumption) ?_
    rotate_left
    · (intro wS hSw; (try dsimp only at hSw); obtain ⟨y0, y1, y2, y3⟩ := hSw.1.fourC; have y5 := hSw.2.1; clear hSw; go_simp; (try with_reducible rfl))
    (try simp only [Act.put, List.setIfInBounds_toArray, List.set_cons_zero, List.set_cons_succ])
    refine wpAnyH_take (i := 1) (oi := ⟨some 30, _, _, _, _, _⟩) (v := ?_) rfl (by kernel_rfl) (by kernel_rfl) (by kernel_rfl) (fun _ _ _ h => h) (Or.inl ⟨by kernel_rfl, ?_⟩) (by assumption) ?_
    rotate_left
    · (intro wS hSw; (try dsimp only at hSw); obtain ⟨y0, y1, y2, y3⟩ := hSw.1.fourC; have y5 := hSw.2.1; clear hSw; go_simp; (try with_reducible rfl))
    (try simp only [Act.put, List.setIfInBounds_toArray, List.set_cons_zero, List.set_cons_succ])
    refine wpAnyH_take (i := 2) (oi := ⟨some 31, _, _, _, _, _⟩) (v := ?_) rfl (by kernel_rfl) (by kernel_rfl) (by kernel_rfl) (fun _ _ _ h => h) (Or.inl ⟨by kernel_rfl, ?_⟩) (by assumption) ?_
    rotate_left
    · (intro wS hSw; (try dsimp only at hSw); obtain ⟨y0, y1, y2, y3⟩ := hSw.1.fourC; have y5 := hSw.2.1; clear hSw; go_simp; (try with_reducible rfl))
    (try simp only [Act.put, List.setIfInBounds_toArray, List.set_cons_zero, List.set_cons_succ])
    refine wpAnyH_take (i := 4) (oi := ⟨some 33, _, _, _, _, _⟩) (v := ?_) rfl (by kernel_rfl) (by kernel_rfl) (by kernel_rfl) (fun _ _ _ h => h) (Or.inl ⟨by kernel_rfl, ?_⟩) (by assumption) ?_
    rotate_left
    · (intro wS hSw; (try dsimp only at hSw); obtain ⟨y0, y1, y2, y3⟩ := hSw.1.fourC; have y5 := hSw.2.1; clear hSw; go_simp; (try with_reducible rfl))
    (try simp only [Act.put, List.setIfInBounds_toArray, List.set_cons_zero, List.set_cons_succ])
    refine wpAnyH_take (i := 5) (oi := ⟨some 34, _, _, _, _, _⟩) (v := ?_) rfl (by kernel_rfl) (by kernel_rfl) (by kernel_rfl) (fun _ _ _ h => h) (Or.inl ⟨by kernel_rfl, ?_⟩) (by assumption) ?_
    rotate_left
    · (intro wS hSw; (try dsimp only at hSw); obtain ⟨y0, y1, y2, y3⟩ := hSw.1.fourC; have y5 := hSw.2.1; clear hSw; go_simp; (try with_reducible rfl))
    (try simp only [Act.put, List.setIfInBounds_toArray, List.set_cons_zero, List.set_cons_succ])
    refine wpAnyH_take (i := 6) (oi := ⟨some 35, _, _, _, _, _⟩) (v := ?_) rfl (by kernel_rfl) (by kernel_rfl) (by kernel_rfl) (fun _ _ _ h => h) (Or.inl ⟨by kernel_rfl, ?_⟩) (by assumption) ?_
    rotate_left
    · (intro wS hSw; (try dsimp only at hSw); obtain ⟨y0, y1, y2, y3⟩ := hSw.1.fourC; have y5 := hSw.2.1; clear hSw; go_simp; (try with_reducible rfl))
    (try simp only [Act.put, List.setIfInBounds_toArray, List.set_cons_zero, List.set_cons_succ])
    refine wpAnyH_take (i := 7) (oi := ⟨some 36, _, _, _, _, _⟩) (v := ?_) rfl (by kernel_rfl) (by kernel_rfl) (by kernel_rfl) (fun _ _ _ h => h) (Or.inl ⟨by kernel_rfl, ?_⟩) (by assumption) ?_
    rotate_left
    · (intro wS hSw; (try dsimp only at hSw); obtain ⟨y0, y1, y2, y3⟩ := hSw.1.fourC; have y5 := hSw.2.1; clear hSw; go_simp; (try with_reducible rfl))
    (try simp only [Act.put, List.setIfInBounds_toArray, List.set_cons_zero, List.set_cons_succ])
    refine wpAnyH_take (i := 8) (oi := ⟨some 37, _, _, _, _, _⟩) (v := ?_) rfl (by kernel_rfl) (by kernel_rfl) (by kernel_rfl) (fun _ _ _ h => h) (Or.inl ⟨by kernel_rfl, ?_⟩) (by assumption) ?_
    rotate_left
    · (intro wS hSw; (try dsimp only at hSw); obtain ⟨y0, y1, y2, y3⟩ := hSw.1.fourC; have y5 := hSw.2.1; clear hSw; go_simp; (try with_reducible rfl))
    (try simp only [Act.put, List.setIfInBounds_toArray, List.set_cons_zero, List.set_cons_succ])
    refine wpAnyH_take (i := 9) (oi := ⟨some 38, _, _, _, _, _⟩) (v := ?_) rfl (by kernel_rfl) (by kernel_rfl) (by kernel_rfl) (fun _ _ _ h => h) (Or.inl ⟨by kernel_rfl, ?_⟩) (by assumption) ?_
    rotate_left
    · (intro wS hSw; (try dsimp only at hSw); obtain ⟨y0, y1, y2, y3⟩ := hSw.1.fourC; have y5 := hSw.2.1; clear hSw; go_simp; (try with_reducible rfl))
    (try simp only [Act.put, List.setIfInBounds_toArray, List.set_cons_zero, List.set_cons_succ])
    refine wpAnyH_take (i := 10) (oi := ⟨some 39, _, _, _, _, _⟩) (v := ?_) rfl (by kernel_rfl) (by kernel_rfl) (by kernel_rfl) (fun _ _ _ h => h) (Or.inl ⟨by kernel_rfl, ?_⟩) (by assumption) ?_
    rotate_left
    · (intro wS hSw; (try dsimp only at hSw); obtain ⟨y0, y1, y2, y3⟩ := hSw.1.fourC; have y5 := hSw.2.1; clear hSw; go_simp; (try with_reducible rfl))
    (try simp only [Act.put, List.setIfInBounds_toArray, List.set_cons_zero, List.set_cons_succ])
    refine wpAnyH_take (i := 11) (oi := ⟨some 40, _, _, _, _, _⟩) (v := ?_) rfl (by kernel_rfl) (by kernel_rfl) (by kernel_rfl) (fun _ _ _ h => h) (Or.inl ⟨by kernel_rfl, ?_⟩) (by assumption) ?_
    rotate_left
    · (intro wS hSw; (try dsimp only at hSw); obtain ⟨y0, y1, y2, y3⟩ := hSw.1.fourC; have y5 := hSw.2.1; clear hSw; go_simp; (try with_reducible rfl))
    (try simp only [Act.put, List.setIfInBounds_toArray, List.set_cons_zero, List.set_cons_succ])
    refine wpAnyH_ready (rs := [3]) (by kernel_rfl) (by simp) ?_
    refine AllReadyH.cons (o := ⟨some 32, _, _, _, _, _⟩) rfl (fun K hK => ?_) AllReadyH.nil
    go_simp
    (refine (RWithout_any nm _ hHeld.2.2.1 (by omega)).mono ?_; rintro e w5 ⟨A5, c5, m5, rfl, hm5, ho5, hb5⟩; have hl5 : m5.length ≤ 1000000 := (by rw [hm5.out]; have := glen_del nm l; omega); have hs5 := Own.sl ho5)
    go_wp2_with fail
    refine hK.out _ _ ?_ (fun hHeld => ?_)
    · ((try dsimp only); (first | with_reducible exact hst | with_reducible exact hHeld | exact ⟨hHeld.1.below hb7, (hb7.cell (World.block_lt_of_cell? _ _ hHeld.2.1)).trans hHeld.2.1, hHeld.2.2.1.below hb7, bel_call hHeld.2.2.2 hb7⟩ | exact ⟨hHeld.1.below hb5, (hb5.cell (World.block_lt_of_cell? _ _ hHeld.2.1)).trans hHeld.2.1, hHeld.2.2.1.below hb5, bel_call hHeld.2.2.2 hb5⟩))
    clear hK K
    (try simp only [Act.put, List.setIfInBounds_toArray, List.set_cons_zero, List.set_cons_succ])
    refine wpAnyH_ready (rs := [12]) (by kernel_rfl) (by simp) ?_
    refine AllReadyH.cons (o := ⟨some 41, _, _, _, _, _⟩) rfl (fun K hK => ?_) AllReadyH.nil
    go_simp
    (refine (RWith_any tt v _ hs5 (by omega)).mono ?_; rintro e w7 ⟨A7, c7, m7, rfl, hm7, ho7, hb7⟩; have hsz7 := hHeld.2.2.2.size)
    go_wp2_with fail
    refine hK.out _ _ ?_ (fun hHeld => ?_)
    · ((try dsimp only); (first | with_reducible exact hst | with_reducible exact hHeld | exact ⟨hHeld.1.below hb7, (hb7.cell (World.block_lt_of_cell? _ _ hHeld.2.1)).trans hHeld.2.1, hHeld.2.2.1.below hb7, bel_call hHeld.2.2.2 hb7⟩ | exact ⟨hHeld.1.below hb5, (hb5.cell (World.block_lt_of_cell? _ _ hHeld.2.1)).trans hHeld.2.1, hHeld.2.2.1.below hb5, bel_call hHeld.2.2.2 hb5⟩))
    clear hK K
    (try simp only [Act.put, List.setIfInBounds_toArray, List.set_cons_zero, List.set_cons_succ])
    refine wpAnyH_take (i := 13) (oi := ⟨some 4, _, _, _, _, _⟩) (v := ?_) rfl (by kernel_rfl) (by kernel_rfl) (by kernel_rfl) (fun _ _ _ h => h) (Or.inl ⟨by kernel_rfl, ?_⟩) (by assumption) ?_
    rotate_left
    · (intro wS hSw; (try dsimp only at hSw); obtain ⟨y0, y1, y2, y3⟩ := hSw.1.fourC; have y5 := hSw.2.1; clear hSw; go_simp; (try with_reducible rfl))
    (try simp only [Act.put, List.setIfInBounds_toArray, List.set_cons_zero, List.set_cons_succ])
    refine wpAnyH_done (by kernel_rfl) ?_ _
    go_wp2_with fail
    go_ret
    exact ⟨A7, c7, m7, rfl, (show _ = _ from by rw [hm7.out, hm5.out, HX.out]), Own.sl ho7, Okb.own hT hsz7 ho7, hHeld.2.2.2⟩
  · have hb1' : ((kd : Int) == 1) = false := by simp; omega
    have HX := Lib.hid (fdo_d (l := l) (x := ⟨kd, nm, tt, vv⟩) hk0 hk1 hg)
    have hkI : ¬ ((k : Int) < 0) := by omega
    clear hk0 hk1 hg
    go_enter Tryz.func156, Tryz.ntmps156
    go_wp2_with fail
    refine HF.out.mono ?_
    rintro e w1 ⟨rfl, hb1⟩
    have hb2 := bel_call hb0 hb1
    obtain ⟨z0, z1, z2, z3⟩ := (hB.below hb1).fourC
    have hL1 := HL.out.below hb1
    go_wp2_with fail
    refine (RWithout_any nm _ hL1 (by omega)).mono ?_
    rintro e w2 ⟨A2, c2, m2, rfl, hm2, ho2, hb3⟩
    go_wp2_with fail
    go_ret
    exact ⟨A2, c2, m2, rfl, (show _ = _ from by rw [hm2.out, HX.out]), Own.sl ho2, Okb.own hT hb2.size ho2, bel_call hb2 hb3⟩
end Go.Proofs.YtabnndjdkjkciaaGreatDoor

namespace Go.Proofs.YtabnndjdkjkciaaGreatDoor
open Go.RowKit Go.Maps Go.Sort
attribute [local go_sem ↓] Go.wp_at_zero Go.wp_at_succ

def rcl (x : Chg Bs) : List Value := [.int .i64 x.kind, .string ⟨x.name.toArray⟩, .string ⟨x.to.toArray⟩, .string ⟨x.val.toArray⟩]
def SlK (w : World) (B : Option Addr) (k : Nat) (cs : List (Chg Bs)) : Prop := Sl w 4 B cs.length k (cs.flatMap rcl)
theorem SlK.below {w w' : World} {A : Option Addr} {c : Nat} {l : List (Chg Bs)} (h : SlK w A c l) (hb : Below w.heap.size w w') : SlK w' A c l := Sl.below h hb
theorem SlK.at1 {w : World} {A : Option Addr} {c : Nat} {l : List (Chg Bs)} (h : SlK w A c l) {k : Nat} (hk : k < l.length) : ∃ ad b o, A = some ad ∧ ad.add (k * 4) = ⟨b, o, none⟩ ∧ w.cell? ⟨b, o, none⟩ = some (.int .i64 l[k].kind) ∧ w.cell? ⟨b, o + 1, none⟩ = some (.string ⟨l[k].name.toArray⟩) ∧ w.cell? ⟨b, o + 2, none⟩ = some (.string ⟨l[k].to.toArray⟩) ∧ w.cell? ⟨b, o + 3, none⟩ = some (.string ⟨l[k].val.toArray⟩) := by
  obtain ⟨ad, b, o, hA, had, hcc⟩ := Sl.atS (f := rcl) (size := 4) (fun _ => rfl) (by omega) h hk
  have h0 := hcc 0 _ rfl
  have h1 := hcc 1 _ rfl
  have h2 := hcc 2 _ rfl
  have h3 := hcc 3 _ rfl
  rw [Nat.add_zero] at h0
  exact ⟨ad, b, o, hA, had, h0, h1, h2, h3⟩
/-- the document's disk as cells -/
def rda (d : Dk Bs) (A : Option Addr) (c : Nat) (B : Option Addr) (k : Nat) : Array Value := #[.int .i64 d.room, .slice A d.sure.length c, .slice B d.pend.length k, .int .i64 d.fuse, .bool d.down]
structure Rdk (T : Nat → Prop) (w : World) (d : Dk Bs) (A : Option Addr) (c : Nat) (B : Option Addr) (k : Nat) : Prop where
  s : SlR w A c d.sure
  sa : Okb T w A
  p : SlK w B k d.pend
  pa : Okb T w B
theorem Rdk.below {T : Nat → Prop} {w w' : World} {d : Dk Bs} {A B : Option Addr} {c k : Nat} (h : Rdk T w d A c B k) (hb : Below w.heap.size w w') : Rdk T w' d A c B k := ⟨h.s.below hb, h.sa.below hb.size, h.p.below hb, h.pa.below hb.size⟩
theorem Blk.fiveC {w : World} {g : Nat} {t : TypeId} {a b c d e : Value} (h : Blk w g t #[a, b, c, d, e]) : w.cell? ⟨g, 0, none⟩ = some a ∧ w.cell? ⟨g, 1, none⟩ = some b ∧ w.cell? ⟨g, 2, none⟩ = some c ∧ w.cell? ⟨g, 3, none⟩ = some d ∧ w.cell? ⟨g, 4, none⟩ = some e ∧
    w.frozen? ⟨g, 0, none⟩ = false ∧ w.frozen? ⟨g, 1, none⟩ = false ∧ w.frozen? ⟨g, 2, none⟩ = false ∧ w.frozen? ⟨g, 3, none⟩ = false ∧ w.frozen? ⟨g, 4, none⟩ = false := ⟨h.cell 0, h.cell 1, h.cell 2, h.cell 3, h.cell 4, h.frozen 0, h.frozen 1, h.frozen 2, h.frozen 3, h.frozen 4⟩
theorem fdos_take {α : Type} (l : List (Bs × α)) {cs : List (Chg α)} {k : Nat} (hk : k < cs.length) : fdos l (cs.take (k + 1)) = fdo (fdos l (cs.take k)) cs[k] := by
  rw [List.take_succ_eq_append_getElem hk, fdos_snoc]
/-- a row of files that the document's walk may read -/
def RowR (T : Nat → Prop) (w w' : World) (e : Ending) (l : List (Bs × Bs)) : Prop := ∃ A' c' m, e = .returned (.slice A' (List.length m) c') ∧ Hid (m = l) ∧ SlR w' A' c' m ∧ Okb T w' A' ∧ Below w.heap.size w w'
set_option maxRecDepth 100000 in
set_option maxHeartbeats 1000000 in
theorem RShown_any {T : Nat → Prop} {d : Dk Bs} {A B : Option Addr} {c k : Nat} (w : World) (hT : ∀ k, w.heap.size ≤ k → T k) (h : Rdk T w d A c B k) (hl : d.sure.length + d.pend.length ≤ 100000) :
    Calls Tryz.prog 104 #[.agg (rda d A c B k)] w fun e w' => RowR T w w' e d.shown := by
  have hb0 := below_new w (.cells (rda d A c B k) 91)
  have HB := Lib.hid (Blk.new w 91 (rda d A c B k))
  obtain ⟨q0, q1, q2, q3, q4, -⟩ := HB.out.fiveC
  have HR := Lib.hid h
  have HT := Lib.hid hT
  have HB0 := Lib.hid hb0
  clear h hT
  go_enter Tryz.func104, Tryz.ntmps104
  go_wp2_with fail
  go_loopw [4, 3] (fun x y wr => ∃ (i : Nat) (E : Option Addr) (n : Nat) (m : List (Bs × Bs)), i ≤ d.pend.length ∧ x = .int .i64 i ∧ y = .slice E m.length n ∧ Hid (m = fdos d.sure (d.pend.take i)) ∧ SlR wr E n m ∧ Okb T wr E ∧ Below (w.alloc (.cells (rda d A c B k) 91)).heap.size (w.alloc (.cells (rda d A c B k) 91)) wr) (fun x _ w => d.pend.length - (intOf x).toNat)
  case atStart => exact ⟨0, A, c, d.sure, Nat.zero_le _, rfl, rfl, Lib.hid rfl, HR.out.s.below hb0, HR.out.sa.below hb0.size, Below.refl _ _⟩
  case round =>
    obtain ⟨i, E, n, m, hi, rfl, rfl, hm, hS, hE, hb⟩ := hrel
    have hBr := HB.out.below hb
    obtain ⟨z0, z1, z2, z3, z4, -⟩ := hBr.fiveC
    have hml : m.length ≤ 100000 := by
      rw [hm.out]
      have := flen_dos d.sure (d.pend.take i)
      rw [List.length_take] at this
      omega
    have hbw := bel_call hb0 hb
    by_cases hlt : i < d.pend.length
    · have hI : (i : Int) < (d.pend.length : Int) := by omega
      obtain ⟨ad, b, o, hAd, had, hc0, hc1, hc2, hc3⟩ := ((HR.out.p.below hb0).below hb).at1 hlt
      have HX := Lib.hid (fdos_take d.sure hlt)
      have hAp := RApply_any (T := T) d.pend[i] wr (fun k hk => HT.out k (Nat.le_trans hbw.size hk)) hS hE (by omega)
      have HA := Lib.hid hAp
      clear hAp hS hE hBr
      generalize d.pend[i] = x at *
      obtain ⟨kd, nm, tt, vv⟩ := x
      dsimp only at *
      subst hAd
      go_wp2_with fail
      refine HA.out.mono ?_
      rintro e w5 ⟨A5, c5, m5, rfl, hm5, hS5, hE5, hb5⟩
      go_wp2_with fail
      go_roundw
      case rel => exact ⟨i + 1, A5, c5, m5, hlt, by go_num, rfl, Lib.hid (by rw [hm5.out, hm.out, HX.out]), hS5, hE5, bel_call hb hb5⟩
      case measure => simp [intOf]; omega
    · have hI : (d.pend.length : Int) ≤ (i : Int) := by omega
      have HM := Lib.hid (show m = d.shown from by rw [hm.out, List.take_of_length_le (by omega)]; rfl)
      clear hm hBr
      go_wp2_with fail
      go_ret
      exact ⟨E, n, m, rfl, HM, hS, hE, hbw⟩
def bln (b : Bs) : Nat := b.length
theorem fused_take {l : List (Bs × Bs)} {k : Nat} (hk : k < l.length) : fused bln (l.take (k + 1)) = fused bln (l.take k) + l[k].2.length := by
  rw [List.take_succ_eq_append_getElem hk]
  unfold fused bln
  rw [List.map_append, List.sum_append]
  simp only [List.map_cons, List.map_nil, List.sum_cons, List.sum_nil, Nat.add_zero]
theorem fused_takeLe (l : List (Bs × Bs)) (k : Nat) : fused bln (l.take k) ≤ fused bln l := by
  conv => rhs; rw [← List.take_append_drop k l]
  unfold fused
  rw [List.map_append, List.sum_append]
  omega
set_option maxRecDepth 100000 in
set_option maxHeartbeats 1000000 in
theorem RUsed_any {A : Option Addr} {c : Nat} {l : List (Bs × Bs)} (w : World) (h : SlR w A c l) (hl : l.length ≤ 100000000) (hu : fused bln l ≤ 4000000000000) : Calls Tryz.prog 103 #[.slice A l.length c] w fun e w' => e = .returned (.int .i64 (fused bln l : Nat)) ∧ Below w.heap.size w w' := by
  have H := Lib.hid h
  clear h
  go_enter Tryz.func103, Tryz.ntmps103
  go_wp2_with fail
  go_loopw [4, 3] (fun x y wr => ∃ k : Nat, k ≤ l.length ∧ x = .int .i64 k ∧ y = .int .i64 (fused bln (l.take k) : Nat) ∧ Below w.heap.size w wr) (fun x _ w => l.length - (intOf x).toNat)
  case atStart => exact ⟨0, Nat.zero_le _, rfl, rfl, Below.refl _ _⟩
  case round =>
    obtain ⟨k, hk, rfl, rfl, hb⟩ := hrel
    have hle := fused_takeLe l k
    by_cases hlt : k < l.length
    · have hI : (k : Int) < (l.length : Int) := by omega
      obtain ⟨ad, b, o, hA, had, hc0, hc1⟩ := (H.out.below hb).at1 hlt
      have hft := fused_take hlt
      have hle2 := fused_takeLe l (k + 1)
      generalize l[k] = x at *
      subst hA
      have hsz : (ByteArray.size ⟨x.2.toArray⟩) = x.2.length := by simp [ByteArray.size]
      generalize fused bln (l.take k) = u at *
      obtain ⟨hwr, hwr2⟩ := wrap_ok (x := (u : Int) + (x.2.length : Int)) (by omega) (by omega)
      go_wp2_with fail
      go_roundw
      case rel => exact ⟨k + 1, hlt, by go_num, by rw [hft]; go_num, hb⟩
      case measure => simp [intOf]; omega
    · have hI : (l.length : Int) ≤ (k : Int) := by omega
      have HM := Lib.hid (show fused bln (l.take k) = fused bln l from by rw [List.take_of_length_le (by omega)])
      go_wp2_with fail
      go_ret
      exact ⟨by rw [← HM.out]; rfl, hb⟩
end Go.Proofs.YtabnndjdkjkciaaGreatDoor
