/- WHAT IT HOLDS: the document's Take and Prefix, and lists side by side, walked. | WHAT IT HOLDS: lists of texts side by side; frame.All, walked. | WHAT IT HOLDS: the law FrameTakes, walked. | WHAT IT HOLDS: the document's Put of segments, and a segment's cell, walked. | WHAT IT HOLDS: what it says that cells are not too long, plainly. | WHAT IT HOLDS: taking segments, the program's and the document's, walked; the law SegmentTakes, walked. | WHAT IT HOLDS: the document's taking of segments, walked. | WHAT IT HOLDS: a segment that was put is taken as it was, what is taken has just those bytes, and a segment is its parts, joined; plainly (no program). | WHAT IT HOLDS: parcels and receipts, plainly (no program). | WHAT IT HOLDS: Check of parcels, receipts' bytes, walked. | WHAT IT HOLDS: the bytes of receipts, walked. | WHAT IT HOLDS: parcel.open, walked. -/
import Derived.Test.YtgipfenjachpnaaGreatParcelTakesG13
import Derived.Test.YtgipfenjachpnaaGreatParcelTakesG10
import Derived.Test.YtgipfenjachpnaaGreatParcelTakesG07
import Derived.Test.YtgipfenjachpnaaGreatParcelTakesG11
namespace Go.Proofs.YtgipfenjachpnaaGreat
open Go.RowKit
attribute [local go_sem ↓] Go.wp_at_zero Go.wp_at_succ

theorem list_beq' (l m : List UInt8) : (l == m) = decide (l = m) := by
  by_cases h : l = m
  · subst h; simp
  · simp [h]
/-- what the document's Take answers -/
def RTakesF (w0 : World) (A0 : Option Addr) (o : List UInt8 × Nat × Nat) (e : Ending) (w' : World) : Prop :=
  ∃ A c m, e = .returned (.tuple #[.slice A (List.length m) c, .int .i64 (o.2.1 : Nat), .int .i64 (o.2.2 : Nat)]) ∧ Hid (m = o.1) ∧ SlB w' A c m ∧ Below w0.heap.size w0 w' ∧ (m ≠ [] → A.map (·.block) = A0.map (·.block))
theorem Sl.lt0 {w : World} {size n c : Nat} {A : Option Addr} {xs : List Value} (h : Sl w size A n c xs) (hne : xs ≠ []) : ∀ g, A.map (·.block) = some g → g < w.heap.size := by
  intro g hg
  rcases Nat.lt_or_ge g w.heap.size with h1 | h1
  · exact h1
  · exact absurd hg (Sl.old h h1 hne)

theorem shift_block (A : Option Addr) (k : Nat) : (Option.map (fun x => x.add k) A).map (·.block) = A.map (·.block) := by cases A <;> simp [addr_add_block]
set_option maxRecDepth 100000 in
set_option maxHeartbeats 2000000 in
theorem rFTake_any (A : Option Addr) (c : Nat) (l : List UInt8) (w : World) (hs : SlB w A c l) (hl : l.length ≤ 10000000) :
    Calls Tryz.prog 51 #[.slice A l.length c] w (RTakesF w A (ftake l)) := by
  have hc1 := hs.2.1
  go_enter Tryz.func51, Tryz.ntmps51
  go_wp2_with fail
  refine (rTake_any A c l _ hs).mono ?_
  rintro e w1 ⟨hb1, ⟨ht, rfl⟩ | ⟨n, k, ht, rfl⟩⟩
  · have hf := Lib.hid (ftake_none ht)
    clear ht
    go_wp2_with fail
    go_ret3
    exact ⟨none, 0, [], by rw [hf.out]; rfl, by rw [hf.out]; rfl, Sl.none_ _ _, hb1, fun h => absurd rfl h⟩
  · obtain ⟨hu, hkl, _⟩ := take_some ht
    by_cases hn : 65536 < n
    · have hf := Lib.hid (ftake_long ht hn)
      have hni : (65536 : Int) < (n : Int) := by omega
      clear ht
      go_wp2_with fail
      go_ret3
      exact ⟨none, 0, [], by rw [hf.out]; rfl, by rw [hf.out]; rfl, Sl.none_ _ _, hb1, fun h => absurd rfl h⟩
    · have hni : ¬ (65536 : Int) < (n : Int) := by omega
      have hw64 : wrap64 (n : Int) = (n : Int) := by simp only [wrap64]; omega
      obtain ⟨q, hq⟩ : ∃ q, q = k + n := ⟨_, rfl⟩
      have hqi : (k : Int) + (n : Int) = (q : Int) := by omega
      by_cases hsh : l.length < k + n + 4
      · have hf := Lib.hid (ftake_short ht hn hsh)
        have hqs : (l.length : Int) < (q : Int) + 4 := by omega
        clear ht hq
        go_wp2_with fail
        go_ret3
        exact ⟨none, 0, [], by rw [hf.out]; rfl, by rw [hf.out]; rfl, Sl.none_ _ _, hb1, fun h => absurd rfl h⟩
      · have hqs : ¬ (l.length : Int) < (q : Int) + 4 := by omega
        have hkq : k ≤ q := by omega
        have hql : q + 4 ≤ l.length := by omega
        have hf : ftake l = if four (sumW (l.take q)) = (l.drop q).take 4 then ((l.take q).drop k, q + 4, 0) else ([], 0, 11) := by
          unfold ftake; rw [ht]; dsimp only; rw [if_neg hn, if_neg hsh, hq]
        have HF := Lib.hid hf
        clear ht hq hsh hf
        have hs1 := hs.below hb1
        have hqc : ¬ (c = q) := by omega
        have hkc : ¬ (c = k) := by omega
        have hq1 : q ≤ c := by omega
        have hq2 : q + 4 ≤ c := by omega
        have hT := Sl.takeB hs1 q
        have hD := Sl.take (Sl.cutB hs1 (k := q) (by omega)) (k := 4) (by omega)
        rw [if_neg hqc, show (bvs (l.drop q)).take 4 = bvs ((l.drop q).take 4) from by simp [bvs, List.map_take, List.map_drop]] at hD
        have hl2 : ((l.drop q).take 4).length = 4 := by simp; omega
        have htl : (l.take q).length = q := by simp; omega
        have hX := Sl.cutB hT (k := k) (by omega)
        have hX0 := Sl.cutB (Sl.takeB hs q) (k := k) (by omega)
        rw [if_neg hkc, htl, show q - k = ((l.take q).drop k).length from by rw [List.length_drop, htl]] at hX hX0
        have hxl := Lib.hid (show ((l.take q).drop k).length = q - k from by rw [List.length_drop, htl])
        generalize (l.take q).drop k = xt at *
        generalize hg2 : (l.drop q).take 4 = l2 at *
        generalize hg1 : l.take q = l1 at *
        clear hg1 hg2 hs1
        rw [← hl2] at hD
        subst htl
        have H4 := Lib.hid hl2
        obtain ⟨p4, hp4⟩ : ∃ p4, p4 = l1.length + 4 := ⟨_, rfl⟩
        have hwq : IntKind.i64.wrap ((l1.length : Int) + 4) = (p4 : Int) := by rw [IntKind.wrap_i64]; omega
        have hpc : p4 ≤ c := by omega
        have hlp : l1.length ≤ p4 := by omega
        have hps : p4 - l1.length = 4 := by omega
        have HP4 := Lib.hid hp4
        clear hp4
        clear hl2
        go_wp2_with fail
        go_cut [41] (fun s41 wx => s41 = .bool (!decide (four (sumW l1) = l2)) ∧ Below w1.heap.size w1 wx)
        case first =>
          have hT' : SlB w1.drew A c l1 := hT
          refine wp_region_held_drew (S := (fun W => SlB W (Option.map (fun x => x.add l1.length) A) (c - l1.length) l2)) (by kernel_rfl) ?_ (fun hHeld => ?_)
          · first | exact hD | exact hD2
          refine wpAnyH_take (i := 0) (oi := ⟨some 29, _, _, _, _, _⟩) (v := ?_) rfl (by kernel_rfl) (by kernel_rfl) (by kernel_rfl) (fun _ _ _ h => h) (Or.inl ⟨by kernel_rfl, ?_⟩) (by assumption) ?_
          rotate_left
          · (intro wS hSw; (try dsimp only at hSw); have hcv := conv_str (P := Tryz.prog) 22 9 5 Tryz.underlying22 Tryz.underlying5 Tryz.underlying9 (n := 4) hSw H4.out.symm; go_simp; (try with_reducible rfl))
          (try simp only [Act.put, List.setIfInBounds_toArray, List.set_cons_zero, List.set_cons_succ])
          refine wpAnyH_take (i := 1) (oi := ⟨some 30, _, _, _, _, _⟩) (v := ?_) rfl (by kernel_rfl) (by kernel_rfl) (by kernel_rfl) (fun _ _ _ h => h) (Or.inl ⟨by kernel_rfl, ?_⟩) (by assumption) ?_
          rotate_left
          · (intro wS hSw; (try dsimp only at hSw); have hcv := conv_str (P := Tryz.prog) 22 9 5 Tryz.underlying22 Tryz.underlying5 Tryz.underlying9 (n := 4) hSw H4.out.symm; go_simp; (try with_reducible rfl))
          (try simp only [Act.put, List.setIfInBounds_toArray, List.set_cons_zero, List.set_cons_succ])
          refine wpAnyH_take (i := 2) (oi := ⟨some 31, _, _, _, _, _⟩) (v := ?_) rfl (by kernel_rfl) (by kernel_rfl) (by kernel_rfl) (fun _ _ _ h => h) (Or.inl ⟨by kernel_rfl, ?_⟩) (by assumption) ?_
          rotate_left
          · (intro wS hSw; (try dsimp only at hSw); have hcv := conv_str (P := Tryz.prog) 22 9 5 Tryz.underlying22 Tryz.underlying5 Tryz.underlying9 (n := 4) hSw H4.out.symm; go_simp; (try with_reducible rfl))
          (try simp only [Act.put, List.setIfInBounds_toArray, List.set_cons_zero, List.set_cons_succ])
          refine wpAnyH_take (i := 6) (oi := ⟨some 35, _, _, _, _, _⟩) (v := ?_) rfl (by kernel_rfl) (by kernel_rfl) (by kernel_rfl) (fun _ _ _ h => h) (Or.inl ⟨by kernel_rfl, ?_⟩) (by assumption) ?_
          rotate_left
          · (intro wS hSw; (try dsimp only at hSw); have hcv := conv_str (P := Tryz.prog) 22 9 5 Tryz.underlying22 Tryz.underlying5 Tryz.underlying9 (n := 4) hSw H4.out.symm; go_simp; (try with_reducible rfl))
          (try simp only [Act.put, List.setIfInBounds_toArray, List.set_cons_zero, List.set_cons_succ])
          refine wpAnyH_take (i := 7) (oi := ⟨some 36, _, _, _, _, _⟩) (v := ?_) rfl (by kernel_rfl) (by kernel_rfl) (by kernel_rfl) (fun _ _ _ h => h) (Or.inl ⟨by kernel_rfl, ?_⟩) (by assumption) ?_
          rotate_left
          · (intro wS hSw; (try dsimp only at hSw); have hcv := conv_str (P := Tryz.prog) 22 9 5 Tryz.underlying22 Tryz.underlying5 Tryz.underlying9 (n := 4) hSw H4.out.symm; go_simp; (try with_reducible rfl))
          (try simp only [Act.put, List.setIfInBounds_toArray, List.set_cons_zero, List.set_cons_succ])
          refine wpAnyH_take (i := 8) (oi := ⟨some 37, _, _, _, _, _⟩) (v := ?_) rfl (by kernel_rfl) (by kernel_rfl) (by kernel_rfl) (fun _ _ _ h => h) (Or.inl ⟨by kernel_rfl, ?_⟩) (by assumption) ?_
          rotate_left
          · (intro wS hSw; (try dsimp only at hSw); have hcv := conv_str (P := Tryz.prog) 22 9 5 Tryz.underlying22 Tryz.underlying5 Tryz.underlying9 (n := 4) hSw H4.out.symm; go_simp; (try with_reducible rfl))
          (try simp only [Act.put, List.setIfInBounds_toArray, List.set_cons_zero, List.set_cons_succ])
          refine wpAnyH_take (i := 9) (oi := ⟨some 38, _, _, _, _, _⟩) (v := ?_) rfl (by kernel_rfl) (by kernel_rfl) (by kernel_rfl) (fun _ _ _ h => h) (Or.inl ⟨by kernel_rfl, ?_⟩) (by assumption) ?_
          rotate_left
          · (intro wS hSw; (try dsimp only at hSw); have hcv := conv_str (P := Tryz.prog) 22 9 5 Tryz.underlying22 Tryz.underlying5 Tryz.underlying9 (n := 4) hSw H4.out.symm; go_simp; (try with_reducible rfl))
          (try simp only [Act.put, List.setIfInBounds_toArray, List.set_cons_zero, List.set_cons_succ])
          refine wpAnyH_take (i := 10) (oi := ⟨some 39, _, _, _, _, _⟩) (v := ?_) rfl (by kernel_rfl) (by kernel_rfl) (by kernel_rfl) (fun _ _ _ h => h) (Or.inl ⟨by kernel_rfl, ?_⟩) (by assumption) ?_
          rotate_left
          · (intro wS hSw; (try dsimp only at hSw); have hcv := conv_str (P := Tryz.prog) 22 9 5 Tryz.underlying22 Tryz.underlying5 Tryz.underlying9 (n := 4) hSw H4.out.symm; go_simp; (try with_reducible rfl))
          (try simp only [Act.put, List.setIfInBounds_toArray, List.set_cons_zero, List.set_cons_succ])
          refine wpAnyH_take (i := 11) (oi := ⟨some 40, _, _, _, _, _⟩) (v := ?_) rfl (by kernel_rfl) (by kernel_rfl) (by kernel_rfl) (fun _ _ _ h => h) (Or.inl ⟨by kernel_rfl, ?_⟩) (by assumption) ?_
          rotate_left
          · (intro wS hSw; (try dsimp only at hSw); have hcv := conv_str (P := Tryz.prog) 22 9 5 Tryz.underlying22 Tryz.underlying5 Tryz.underlying9 (n := 4) hSw H4.out.symm; go_simp; (try with_reducible rfl))
          (try simp only [Act.put, List.setIfInBounds_toArray, List.set_cons_zero, List.set_cons_succ])
          refine wpAnyH_ready (rs := [3]) (by kernel_rfl) (by simp) ?_
          refine AllReadyH.cons (o := ⟨some 32, _, _, _, _, _⟩) rfl (fun K hK => ?_) AllReadyH.nil
          go_simp
          (refine (rSum_any A c l1 _ hT' (by omega)).mono ?_; rintro e w13 ⟨rfl, rfl⟩)
          go_wp2_with fail
          refine hK.out _ _ ?_ (fun hHeld => ?_)
          · ((try dsimp only); (first | exact hD | exact hD2))
          clear hK K
          (try simp only [Act.put, List.setIfInBounds_toArray, List.set_cons_zero, List.set_cons_succ])
          refine wpAnyH_ready (rs := [4]) (by kernel_rfl) (by simp) ?_
          refine AllReadyH.cons (o := ⟨some 33, _, _, _, _, _⟩) rfl (fun K hK => ?_) AllReadyH.nil
          go_simp
          (refine (rFour_any (sumW l1) _).mono ?_; rintro e w14 ⟨A14, c14, m14, rfl, hm14, hs14, hb14⟩; have hD2 := Sl.below hD (below_of_drew hb14); have hcv := conv_str (P := Tryz.prog) 22 9 5 Tryz.underlying22 Tryz.underlying5 Tryz.underlying9 hs14 rfl)
          go_wp2_with fail
          refine hK.out _ _ ?_ (fun hHeld => ?_)
          · ((try dsimp only); (first | exact hD | exact hD2))
          clear hK K
          (try simp only [Act.put, List.setIfInBounds_toArray, List.set_cons_zero, List.set_cons_succ])
          refine wpAnyH_ready (rs := [5]) (by kernel_rfl) (by simp) ?_
          refine AllReadyH.cons (o := ⟨some 34, _, _, _, _, _⟩) rfl (fun K hK => ?_) AllReadyH.nil
          go_simp
          refine hK.out _ _ ?_ (fun hHeld => ?_)
          · ((try dsimp only); (first | exact hD | exact hD2))
          clear hK K
          (try simp only [Act.put, List.setIfInBounds_toArray, List.set_cons_zero, List.set_cons_succ])
          refine wpAnyH_take (i := 12) (oi := ⟨some 41, _, _, _, _, _⟩) (v := ?_) rfl (by kernel_rfl) (by kernel_rfl) (by kernel_rfl) (fun _ _ _ h => h) (Or.inl ⟨by kernel_rfl, ?_⟩) (by assumption) ?_
          rotate_left
          · (intro wS hSw; (try dsimp only at hSw); have hcv := conv_str (P := Tryz.prog) 22 9 5 Tryz.underlying22 Tryz.underlying5 Tryz.underlying9 (n := 4) hSw H4.out.symm; go_simp; (try with_reducible rfl))
          (try simp only [Act.put, List.setIfInBounds_toArray, List.set_cons_zero, List.set_cons_succ])
          refine wpAnyH_done (by kernel_rfl) ?_ _
          go_wp2_with fail
          go_meet
          refine ⟨?_, below_of_drew hb14⟩
          rw [← hm14.out]
          exact congrArg Value.bool (congrArg not (list_beq' m14 l2))
        case rest =>
          obtain ⟨rfl, hbc⟩ := hcut
          have hw := bel_call hb1 hbc
          have hXc := hX.below hbc
          have hlt : xt ≠ [] → (Option.map (fun x => x.add k) A).map (·.block) = A.map (·.block) := fun _ => shift_block A k
          clear hT hD hX hX0 hbc
          by_cases he : four (sumW l1) = l2
          · have hd : decide (four (sumW l1) = l2) = true := decide_eq_true he
            have hov := Lib.hid (show ftake l = (xt, p4, 0) from by rw [HF.out, if_pos he, HP4.out])
            rw [hd]
            clear HF he hd
            go_wp2_with fail
            go_ret3
            refine ⟨_, c - k, xt, ?_, by rw [hov.out]; rfl, hXc, hw, hlt⟩
            rw [hov.out, hxl.out]
            rfl
          · have hd : decide (four (sumW l1) = l2) = false := decide_eq_false he
            have hov := Lib.hid (show ftake l = ([], 0, 11) from by rw [HF.out, if_neg he])
            rw [hd]
            clear HF he hd
            go_wp2_with fail
            go_ret3
            exact ⟨none, 0, [], by rw [hov.out]; rfl, by rw [hov.out]; rfl, Sl.none_ _ _, hw, fun h => absurd rfl h⟩
/-- what the document's Prefix answers -/
def RPreB (w0 : World) (A0 : Option Addr) (o : List (List UInt8) × Nat) (bad : Nat) (e : Ending) (w' : World) : Prop :=
  ∃ A c ps, e = .returned (.tuple #[.slice A (List.length ps) c, .int .i64 (o.2 : Nat), .int .i64 (bad : Nat)]) ∧ Hid (ptx ps = o.1) ∧ SlT w' A c ps ∧ (∀ x ∈ ps, SlB w' x.1 x.2.1 x.2.2 ∧ (x.2.2 ≠ [] → x.1.map (·.block) = A0.map (·.block))) ∧ From w0.heap.size (A.map (·.block)) ∧ Below w0.heap.size w0 w'
/-- the number of what follows the frames: 0: nothing does -/
def fbad (l : List UInt8) : Nat := if (fpre l).2 = l.length then 0 else (ftake (l.drop (fpre l).2)).2.2

theorem fpre_nil : fpre [] = ([], 0) := fpre_bad (by rw [ftake_none (by rfl)]; simp)
theorem fpre_end (n : Nat) : ∀ l : List UInt8, l.length ≤ n → (fpre l).2 ≤ l.length ∧ (ftake (l.drop (fpre l).2)).2.2 ≠ 0 := by
  induction n with
  | zero =>
    intro l hl
    have : l = [] := List.eq_nil_of_length_eq_zero (by omega)
    subst this
    rw [fpre_nil, List.drop_nil, ftake_none (by rfl)]
    simp
  | succ n ih =>
    intro l hl
    by_cases h : (ftake l).2.2 = 0
    · obtain ⟨h1, h2⟩ := ftake_ok h
      rw [fpre_ok h]
      obtain ⟨i1, i2⟩ := ih (l.drop (ftake l).2.1) (by simp; omega)
      rw [List.drop_drop] at i2
      simp only [List.length_drop] at i1
      exact ⟨by dsimp only; omega, i2⟩
    · rw [fpre_bad h]
      exact ⟨by simp, by simpa using h⟩
end Go.Proofs.YtgipfenjachpnaaGreat

namespace Go.Proofs.YtgipfenjachpnaaGreat
open Go.RowKit
attribute [local go_sem ↓] Go.wp_at_zero Go.wp_at_succ

def fall (l : List UInt8) : List (List UInt8) := if (fpre l).2 = l.length then (fpre l).1 else []
/-- what All answers -/
def AllsB (w0 : World) (o : List (List UInt8)) (bad : Nat) (e : Ending) (w' : World) : Prop :=
  ∃ A c ps, e = .returned (.tuple #[.slice A (List.length ps) c, errv bad]) ∧ Hid (ptx ps = o) ∧ SlT w' A c ps ∧ (∀ x ∈ ps, SlB w' x.1 x.2.1 x.2.2 ∧ (x.2.2 ≠ [] → From w0.heap.size (x.1.map (·.block)))) ∧ From w0.heap.size (A.map (·.block)) ∧ Below w0.heap.size w0 w'
theorem fbad_ne {l : List UInt8} (h : (fpre l).2 ≠ l.length) : fbad l = (ftake (l.drop (fpre l).2)).2.2 ∧ fbad l ≠ 0 := by
  have h1 : fbad l = (ftake (l.drop (fpre l).2)).2.2 := by unfold fbad; rw [if_neg h]
  exact ⟨h1, by rw [h1]; exact (fpre_end _ l (Nat.le_refl _)).2⟩
end Go.Proofs.YtgipfenjachpnaaGreat

namespace Go.Proofs.YtgipfenjachpnaaGreat
open Go.RowKit
attribute [local go_sem ↓] Go.wp_at_zero Go.wp_at_succ

theorem ftake_empty {l : List UInt8} (h : (ftake l).2.2 ≠ 0) : (ftake l).1 = [] := by
  unfold ftake at h ⊢
  split at h
  · rfl
  · rename_i n k hv
    by_cases h1 : 65536 < n
    · rw [if_pos h1]
    · rw [if_neg h1] at h ⊢
      by_cases h2 : l.length < k + n + 4
      · rw [if_pos h2]
      · rw [if_neg h2] at h ⊢
        by_cases h3 : four (sumW (l.take (k + n))) = (l.drop (k + n)).take 4
        · rw [if_pos h3] at h; simp at h
        · rw [if_neg h3]
/-- bytes that can be read, each a place, a capacity, its bytes -/
structure BSt (w : World) (ls : List Pt) (W : World) : Prop where
  bel : Below w.heap.size w W
  sl : ∀ x ∈ ls, SlB W x.1 x.2.1 x.2.2
theorem BSt.at {w W : World} {ls : List Pt} (h : BSt w ls W) {A : Option Addr} {c : Nat} {l : List UInt8} (hm : (A, c, l) ∈ ls) : SlB W A c l := h.sl _ hm
theorem BSt.below {w W W' : World} {ls : List Pt} (h : BSt w ls W) (hb : Below W.heap.size W W') : BSt w ls W' := ⟨bel_call h.bel hb, fun x hx => (h.sl x hx).below hb⟩
theorem BSt.add {w W : World} {ls : List Pt} (h : BSt w ls W) {A : Option Addr} {c : Nat} {l : List UInt8} (hs : SlB W A c l) : BSt w ((A, c, l) :: ls) W := ⟨h.bel, fun x hx => by
  rw [List.mem_cons] at hx
  rcases hx with rfl | hx
  · exact hs
  · exact h.sl x hx⟩

/-- a row of bytes that can be written -/
structure Wri (w : World) (g off : Nat) (m : List UInt8) : Prop where
  blk : ∃ cur, w.heap[g]? = some (.cells cur 5)
  at_ : ∀ j (h : j < m.length), w.cell? ⟨g, off + j, none⟩ = some (bv m[j])
theorem Wri.frozen {w : World} {g off : Nat} {m : List UInt8} (h : Wri w g off m) (i : Nat) : w.frozen? ⟨g, i, none⟩ = false := by
  obtain ⟨cur, hc⟩ := h.blk
  simp [World.frozen?, hc]
theorem Wri.set {w : World} {g off : Nat} {m : List UInt8} (h : Wri w g off m) {k : Nat} (_hk : k < m.length) (x : UInt8) : Wri (w.setCell ⟨g, off + k, none⟩ (bv x)) g off (m.set k x) := by
  obtain ⟨cur, hc⟩ := h.blk
  refine ⟨⟨cur.setIfInBounds (off + k) (bv x), by simp [World.setCell, Array.getElem?_modify, hc]⟩, fun j hj => ?_⟩
  have hj2 : j < m.length := by simpa using hj
  have h1 := h.at_ j hj2
  rw [cell_of_row w g _ cur 5 (0, 0) hc] at h1
  rw [cell_of_row _ g _ (cur.setIfInBounds (off + k) (bv x)) 5 (0, 0) (by simp [World.setCell, Array.getElem?_modify, hc])]
  rw [Array.getElem?_setIfInBounds, List.getElem_set]
  by_cases e : k = j
  · subst e
    rw [if_pos rfl, if_pos rfl, if_pos (Array.getElem?_eq_some_iff.1 h1).1]
  · rw [if_neg (by omega), if_neg e]; exact h1
/-- all blocks but those between lo and hi stay -/
structure Beside (lo hi : Nat) (W W' : World) : Prop where
  size : W.heap.size ≤ W'.heap.size
  block : ∀ k, k < W.heap.size → (k < lo ∨ hi ≤ k) → W'.heap[k]? = W.heap[k]?
theorem Beside.refl (lo hi : Nat) (W : World) : Beside lo hi W W := ⟨Nat.le_refl _, fun _ _ _ => rfl⟩
theorem Beside.set {lo hi : Nat} {W W' : World} (h : Beside lo hi W W') {g i : Nat} (h1 : lo ≤ g) (h2 : g < hi) (u : Value) : Beside lo hi W (W'.setCell ⟨g, i, none⟩ u) :=
  ⟨by simpa using h.size, fun k hk hs => (Below.heap_setCell W' ⟨g, i, none⟩ u k (by show k ≠ g; omega)).trans (h.block k hk hs)⟩
theorem Beside.sl {lo hi : Nat} {W W' : World} (h : Beside lo hi W W') {size n c : Nat} {A : Option Addr} {xs : List Value} (hs : Sl W size A n c xs) (hA : xs ≠ [] → ∀ g, A.map (·.block) = some g → g < lo ∨ hi ≤ g) : Sl W' size A n c xs := by
  refine ⟨hs.1, hs.2.1, hs.2.2.1, hs.2.2.2.1, fun j u hj => ?_⟩
  obtain ⟨ad, rfl, hc⟩ := hs.2.2.2.2 j u hj
  have hne : xs ≠ [] := by intro e; rw [e] at hj; simp at hj
  refine ⟨ad, rfl, ?_⟩
  have hlt := World.block_lt_of_cell? W _ hc
  have hb := h.block _ hlt (by rw [addr_add_block]; exact hA hne _ rfl)
  rw [← hc]
  unfold World.cell?
  rw [hb]

theorem meas_one {n k : Nat} (h : k < n) : n - (intOf (.int .i64 ((k : Int) + 1))).toNat < n - (intOf (.int .i64 (k : Int))).toNat := by
  have h1 : (intOf (.int .i64 ((k : Int) + 1))).toNat = k + 1 := by show ((k : Int) + 1).toNat = k + 1; omega
  have h2 : (intOf (.int .i64 (k : Int))).toNat = k := by show (k : Int).toNat = k; omega
  rw [h1, h2]
  omega
theorem val_one (k : Nat) : Value.int .i64 ((k : Int) + 1) = .int .i64 ((k + 1 : Nat) : Int) := rfl

end Go.Proofs.YtgipfenjachpnaaGreat

namespace Go.Proofs.YtgipfenjachpnaaGreat
open Go.RowKit
attribute [local go_sem ↓] Go.wp_at_zero Go.wp_at_succ

def sat (s : Sg) (a : Int) : Ce × Bool := if a < s.1 ∨ (s.2.length : Int) ≤ a - s.1 then ((0, []), false) else (s.2.getD (a - s.1).toNat (0, []), true)
/-- the cell of a segment, and whether there is one -/
def GivesAt (w0 : World) (x : Ce × Bool) (e : Ending) (w' : World) : Prop :=
  ∃ A c m, e = .returned (.tuple #[cv x.1.1 A (List.length m) c, .bool x.2]) ∧ Hid (m = x.1.2) ∧ SlB w' A c m ∧ Below w0.heap.size w0 w'
end Go.Proofs.YtgipfenjachpnaaGreat

namespace Go.Proofs.YtgipfenjachpnaaGreat
theorem longb_all {l : List CeV} {n : Int} (h : longb (l.map ceOf) n = false) (hn : n ≤ 1000) : (∀ x ∈ l, x.2.2.2.length ≤ 1000000000) ∧ l.length ≤ 1000 := by
  unfold longb at h
  simp only [Bool.or_eq_false_iff, decide_eq_false_iff_not, List.any_eq_false] at h
  refine ⟨fun x hx => ?_, ?_⟩
  · have := h.1 (ceOf x) (List.mem_map_of_mem hx)
    simp at this
    omega
  · have := h.2
    simp at this
    omega
end Go.Proofs.YtgipfenjachpnaaGreat

namespace Go.Proofs.YtgipfenjachpnaaGreat
open Go.RowKit
attribute [local go_sem ↓] Go.wp_at_zero Go.wp_at_succ

/-- the segment that bytes are; an error's number -/
def sgEnd (x : Sg × Rs) : Sg × Nat := if rEnd x.2 ≠ 0 then ((0, []), rEnd x.2) else if schk x.1 ≠ 0 then ((0, []), schk x.1) else (x.1, 0)
def sgRead (s : Rs) : Sg × Rs := ((((rWithin 1048576 s).1 : Int), (takeRun (rWithin 1048576 s).2).1), (takeRun (rWithin 1048576 s).2).2)
def sgTake (b : List UInt8) : Sg × Nat := if (fone b).2 ≠ 0 then ((0, []), (fone b).2) else sgEnd (sgRead ((fone b).1, 0))
theorem End_s {g B : Nat} {s : Rs} {w : World} (hR : IsR w g B s) : Calls Tryz.prog 26 #[.pointer (some ⟨g, 0, none⟩)] w fun e w' => e = .returned (errv (rEnd s)) ∧ w = w' := by obtain ⟨l, b⟩ := s; exact End_any hR
theorem NewS.setLow {w : World} {base g c : Nat} {A : Option Addr} {m : List CeV} (h : NewS w base A c m) (hg : g < base) (i : Nat) (u : Value) : NewS (w.setCell ⟨g, i, none⟩ u) base A c m := ⟨Own.set1 h.1 hg _, fun x hx => Own.set1 (h.2 x hx) hg _⟩
theorem fone_len (b : List UInt8) : (fone b).1.length ≤ b.length := by
  unfold fone
  split
  · simp
  · split
    · simp
    · unfold ftake
      split
      · simp
      · split
        · simp
        · split
          · simp
          · split
            · simp only [List.length_drop, List.length_take]; omega
            · simp
end Go.Proofs.YtgipfenjachpnaaGreat

namespace Go.Proofs.YtgipfenjachpnaaGreat
open Go.RowKit
attribute [local go_sem ↓] Go.wp_at_zero Go.wp_at_succ

theorem rEnd_v {A : Option Addr} {c : Nat} {s : Rs} (w : World) : Calls Tryz.prog 30 #[rv A s.1.length c s.2] w fun e w' => e = .returned (.int .i64 (rEnd s : Nat)) ∧ Below w.heap.size w w' := by obtain ⟨l, b⟩ := s; exact rEnd_any w
theorem rWithin_v {A : Option Addr} {c : Nat} {s : Rs} (most : Nat) (w : World) (hS : SlB w A c s.1) {B : Nat} (hBd : s.1 ≠ [] → ∀ ad, A = some ad → ad.block < B) : Calls Tryz.prog 28 #[rv A s.1.length c s.2, .int .u64 most] w (RGives .i64 B (rWithin most s) w) := by obtain ⟨l, b⟩ := s; exact rWithin_any most w hS hBd
end Go.Proofs.YtgipfenjachpnaaGreat

namespace Go.Proofs.YtgipfenjachpnaaGreat
open Go.RowKit

theorem stxt_short {s : Sg} (h : schk s = 0) : (stxt s).length ≤ 65536 := Nat.le_trans (stxt_len h) (by decide)
theorem sput_ok {s : Sg} (h : schk s = 0) : sput s = (frm (stxt s), 0) := by
  unfold sput fput
  have := stxt_short h
  rw [if_neg (by rw [h]; simp), if_neg (by omega)]
  rfl
theorem sput_bad {s : Sg} (h : (sput s).2 = 0) : schk s = 0 := by
  unfold sput at h
  by_cases h0 : schk s = 0
  · exact h0
  · rw [if_pos h0] at h
    exact h
theorem sgTake_put {s : Sg} (h : schk s = 0) : sgTake (sput s).1 = (s, 0) := by
  obtain ⟨h0, h1, h2, h3, h4⟩ := schk_ok h
  obtain ⟨n, hn⟩ : ∃ n : Nat, s.1 = n := ⟨s.1.toNat, by omega⟩
  rw [sput_ok h]
  unfold sgTake
  rw [fone_frm (stxt_short h), if_neg (by simp)]
  have e1 : rWithin 1048576 (stxt s, 0) = (n, (vb s.2.length ++ (prun [] s.2 ++ []), 0)) := by
    unfold stxt
    rw [hn, Int.toNat_natCast, List.append_nil]
    exact rWithin_vb (by unfold U64; omega) (by omega) (by omega) _
  have e2 := takeRun_put (rchk_zero h4) h2 []
  have e3 : sgRead (stxt s, 0) = (s, ([], 0)) := by
    unfold sgRead
    rw [e1]
    dsimp only
    rw [e2]
    obtain ⟨s1, s2⟩ := s
    dsimp only at hn ⊢
    rw [hn]
  rw [show ((stxt s, (0 : Nat)).1, 0) = (stxt s, 0) from rfl, e3]
  unfold sgEnd
  rw [if_neg (by simp [rEnd]), if_neg (by rw [h]; simp)]
theorem rEnd_zero {s : Rs} (h : rEnd s = 0) : s = ([], 0) := by
  obtain ⟨l, b⟩ := s
  unfold rEnd at h
  split at h
  · exact absurd h (by decide)
  · rename_i hc
    dsimp only at hc h
    subst h
    cases l with
    | nil => rfl
    | cons x r => exact absurd ⟨rfl, by simp⟩ hc
theorem sgTake_back {b : List UInt8} {s : Sg} (_hl : b.length ≤ 1000000) (h : sgTake b = (s, 0)) : schk s = 0 ∧ sput s = (b, 0) := by
  unfold sgTake at h
  by_cases hf : (fone b).2 ≠ 0
  · rw [if_pos hf] at h
    injection h with _ h
    exact absurd h hf
  · rw [if_neg hf] at h
    obtain ⟨hb1, hb2⟩ := fone_back (Decidable.byContradiction hf)
    have hfl := fone_len b
    generalize (fone b).1 = t at *
    unfold sgEnd at h
    by_cases he : rEnd (sgRead (t, 0)).2 ≠ 0
    · rw [if_pos he] at h
      injection h with _ h
      exact absurd h he
    · rw [if_neg he] at h
      by_cases hc : schk (sgRead (t, 0)).1 ≠ 0
      · rw [if_pos hc] at h
        injection h with _ h
        exact absurd h hc
      · rw [if_neg hc] at h
        injection h with h _
        have hc0 : schk s = 0 := by rw [← h]; exact Decidable.byContradiction hc
        have he0 := rEnd_zero (Decidable.byContradiction he)
        obtain ⟨f, s3, e1⟩ : ∃ f s, rWithin 1048576 (t, 0) = (f, s) := ⟨_, _, rfl⟩
        obtain ⟨cs, s5, e2⟩ : ∃ r s, takeRun s3 = (r, s) := ⟨_, _, rfl⟩
        have hsr : sgRead (t, 0) = (((f : Int), cs), s5) := by unfold sgRead; rw [e1]; dsimp only; rw [e2]
        rw [hsr] at he0 h
        dsimp only at he0 h
        subst he0
        have hs3 : s3.2 = 0 := by
          rcases Decidable.em (s3.2 = 0) with h' | h'
          · exact h'
          · have hz : takeRun s3 = ([], rFail 3 s3) := tr_start (rNum_of h') (.inl h')
            rw [e2] at hz
            injection hz with _ hz
            rw [rFail_of h'] at hz
            rw [← hz] at h'
            exact absurd rfl h'
        obtain ⟨_, _, hl1⟩ := rWithin_someB e1 hs3
        obtain ⟨l3, b3⟩ := s3
        dsimp only at hs3 hl1
        subst hs3
        have hl3 : l3.length ≤ 1000000000 := by
          have := congrArg List.length hl1
          rw [List.length_append] at this
          omega
        obtain ⟨hl2, _, _⟩ := takeRun_back hl3 e2 rfl
        refine ⟨hc0, ?_⟩
        rw [sput_ok hc0]
        have hst : stxt s = t := by
          rw [← h]
          unfold stxt
          dsimp only
          rw [Int.toNat_natCast, hl1, hl2]
          simp
        rw [hst, ← hb2]
/-- a segment's parts -/
theorem spart_head {s : Sg} (h : schk s = 0) {m : Nat} (hm : m ≤ s.2.length) : spart s s.1 (s.1 + m) = ((s.1, s.2.take m), 0) := by
  unfold spart
  rw [if_neg (by rw [h]; simp), if_neg (by omega)]
  have e1 : (s.1 - s.1).toNat = 0 := by omega
  have e2 : (s.1 + (m : Int) - s.1).toNat = m := by omega
  rw [e1, e2, List.drop_zero]
theorem spart_tail {s : Sg} (h : schk s = 0) {m : Nat} (hm : m ≤ s.2.length) : spart s (s.1 + m) (s.1 + s.2.length) = ((s.1 + m, s.2.drop m), 0) := by
  unfold spart
  rw [if_neg (by rw [h]; simp), if_neg (by omega)]
  have e1 : (s.1 + (m : Int) - s.1).toNat = m := by omega
  have e2 : (s.1 + (s.2.length : Int) - (s.1 + (m : Int))).toNat = s.2.length - m := by omega
  rw [e1, e2, List.take_of_length_le (by simp)]
theorem schk_cut {s : Sg} (h : schk s = 0) {a m n : Nat} (hm : m + n ≤ s.2.length) (ha : a ≤ m) : schk (s.1 + a, (s.2.drop m).take n) = 0 := by
  obtain ⟨h0, h1, h2, h3, h4⟩ := schk_ok h
  have hl : ((s.2.drop m).take n).length = n := by simp; omega
  rw [schk_cells (by dsimp only; omega) (by dsimp only; omega) (by dsimp only; omega)]
  exact rchk_part h4 m n
theorem sjoin_parts {s : Sg} (h : schk s = 0) {m : Nat} (hm : m ≤ s.2.length) : sjoin (s.1, s.2.take m) (s.1 + m, s.2.drop m) = (s, 0) := by
  have c1 : schk (s.1, s.2.take m) = 0 := by
    have := schk_cut h (a := 0) (m := 0) (n := m) (by omega) (Nat.le_refl _)
    simpa using this
  have c2 : schk (s.1 + m, s.2.drop m) = 0 := by
    have := schk_cut h (a := m) (m := m) (n := s.2.length - m) (by omega) (Nat.le_refl _)
    rw [List.take_of_length_le (by simp)] at this
    exact this
  unfold sjoin
  rw [if_neg (by rw [c1]; simp), if_neg (by rw [c2]; simp), if_neg (by simp; omega)]
  dsimp only
  rw [List.take_append_drop, if_neg (by rw [h]; simp)]
theorem sgTake_len64 (b : List UInt8) : (sgTake b).1.2.length ≤ 64 := by
  unfold sgTake
  split
  · simp
  · unfold sgEnd
    split
    · simp
    · split
      · simp
      · rename_i h
        obtain ⟨_, _, h3, _⟩ := schk_ok (Decidable.byContradiction h)
        exact h3
end Go.Proofs.YtgipfenjachpnaaGreat

namespace Go.Proofs.YtgipfenjachpnaaGreat
open Go.RowKit

/-- a parcel: its epoch, its trim, its segment -/
abbrev Pc := Int × Int × Sg
abbrev Rc := Int × Int
/-- an error's number -/
def pchk (p : Pc) : Nat := if p.1 < 0 ∨ 1099511627776 < p.1 ∨ p.2.1 < 0 ∨ 1048576 < p.2.1 then 1 else schk p.2.2
def ptxt (p : Pc) : List UInt8 := vb 1 ++ (vb p.1.toNat ++ (vb p.2.1.toNat ++ stxt p.2.2))
def pput (p : Pc) : List UInt8 × Nat := if pchk p ≠ 0 then ([], pchk p) else fput [] (ptxt p)
def qchk (r : Rc) : Nat := if r.1 < 0 ∨ 1099511627776 < r.1 ∨ r.2 < 0 ∨ 1048576 < r.2 then 1 else 0
def qtxt (r : Rc) : List UInt8 := vb 2 ++ (vb r.1.toNat ++ vb r.2.toNat)
def qput (r : Rc) : List UInt8 × Nat := if qchk r ≠ 0 then ([], qchk r) else fput [] (qtxt r)
/-- the reader behind the kind -/
def pkind (k : Nat) (s : Rs) : Rs := if (rNum s).1 ≠ k then rFail 2 (rNum s).2 else (rNum s).2
def pread (s : Rs) : Pc × Rs :=
  ((((rWithin 1099511627776 s).1 : Int), ((rWithin 1048576 (rWithin 1099511627776 s).2).1 : Int), (sgRead (rWithin 1048576 (rWithin 1099511627776 s).2).2).1), (sgRead (rWithin 1048576 (rWithin 1099511627776 s).2).2).2)
def qread (s : Rs) : Rc × Rs :=
  ((((rWithin 1099511627776 s).1 : Int), ((rWithin 1048576 (rWithin 1099511627776 s).2).1 : Int)), (rWithin 1048576 (rWithin 1099511627776 s).2).2)
def pcEnd (x : Pc × Rs) : Pc × Nat := if rEnd x.2 ≠ 0 then ((0, 0, 0, []), rEnd x.2) else if pchk x.1 ≠ 0 then ((0, 0, 0, []), pchk x.1) else (x.1, 0)
def qcEnd (x : Rc × Rs) : Rc × Nat := if rEnd x.2 ≠ 0 then ((0, 0), rEnd x.2) else (x.1, 0)
def pcTake (b : List UInt8) : Pc × Nat := if (fone b).2 ≠ 0 then ((0, 0, 0, []), (fone b).2) else pcEnd (pread (pkind 1 ((fone b).1, 0)))
def qcTake (b : List UInt8) : Rc × Nat := if (fone b).2 ≠ 0 then ((0, 0), (fone b).2) else qcEnd (qread (pkind 2 ((fone b).1, 0)))
def pcKind (b : List UInt8) : Nat := if (pcTake b).2 = 0 then 1 else if (qcTake b).2 = 0 then 2 else 0

theorem pchk_ok {p : Pc} (h : pchk p = 0) : 0 ≤ p.1 ∧ p.1 ≤ 1099511627776 ∧ 0 ≤ p.2.1 ∧ p.2.1 ≤ 1048576 ∧ schk p.2.2 = 0 := by
  unfold pchk at h
  split at h
  · exact absurd h (by decide)
  · exact ⟨by omega, by omega, by omega, by omega, h⟩
theorem qchk_ok {r : Rc} (h : qchk r = 0) : 0 ≤ r.1 ∧ r.1 ≤ 1099511627776 ∧ 0 ≤ r.2 ∧ r.2 ≤ 1048576 := by
  unfold qchk at h
  split at h
  · exact absurd h (by decide)
  · exact ⟨by omega, by omega, by omega, by omega⟩
theorem pkind_len (k : Nat) (s : Rs) : (pkind k s).1.length ≤ s.1.length := by
  have := rNum_len s
  unfold pkind
  split
  · unfold rFail
    split
    · exact this
    · exact this
  · exact this
theorem rFail2_ne (s : Rs) : (rFail 2 s).2 ≠ 0 := by
  unfold rFail
  split
  · simp
  · assumption
/-- behind the kind nothing is wrong: it was the kind -/
theorem pkind_ok {k : Nat} {s : Rs} (h : (pkind k s).2 = 0) : s.2 = 0 ∧ s.1 = vb k ++ (pkind k s).1 := by
  unfold pkind at h ⊢
  by_cases hk : (rNum s).1 ≠ k
  · rw [if_pos hk] at h
    exact absurd h (rFail2_ne _)
  · rw [if_neg hk] at h ⊢
    obtain ⟨h1, _, h3⟩ := rNum_someB (s := s) (n := (rNum s).1) (s1 := (rNum s).2) rfl h
    refine ⟨h1, ?_⟩
    rw [h3]
    have : (rNum s).1 = k := Decidable.byContradiction hk
    rw [this]
theorem pkind_vb {k : Nat} (hk : U64 k) (r : List UInt8) : pkind k (vb k ++ r, 0) = (r, 0) := by
  unfold pkind
  rw [rNum_vb hk, if_neg (by simp)]
theorem pput_ok {p : Pc} (h : pchk p = 0) : pput p = (frm (ptxt p), 0) := by
  obtain ⟨h1, h2, h3, h4, h5⟩ := pchk_ok h
  have l1 := vb_le10 (n := 1) (by omega)
  have l2 := vb_le10 (n := p.1.toNat) (by omega)
  have l3 := vb_le10 (n := p.2.1.toNat) (by omega)
  have l4 := stxt_len h5
  have hl : (ptxt p).length ≤ 65536 := by
    unfold ptxt
    simp only [List.length_append]
    omega
  unfold pput fput
  rw [if_neg (by rw [h]; simp), if_neg (by omega)]
  rfl
theorem qput_ok {r : Rc} (h : qchk r = 0) : qput r = (frm (qtxt r), 0) := by
  obtain ⟨h1, h2, h3, h4⟩ := qchk_ok h
  have l1 := vb_le10 (n := 2) (by omega)
  have l2 := vb_le10 (n := r.1.toNat) (by omega)
  have l3 := vb_le10 (n := r.2.toNat) (by omega)
  have hl : (qtxt r).length ≤ 65536 := by
    unfold qtxt
    simp only [List.length_append]
    omega
  unfold qput fput
  rw [if_neg (by rw [h]; simp), if_neg (by omega)]
  rfl
theorem sgRead_put {s : Sg} (h : schk s = 0) : sgRead (stxt s, 0) = (s, ([], 0)) := by
  obtain ⟨h0, h1, h2, h3, h4⟩ := schk_ok h
  obtain ⟨n, hn⟩ : ∃ n : Nat, s.1 = n := ⟨s.1.toNat, by omega⟩
  have e1 : rWithin 1048576 (stxt s, 0) = (n, (vb s.2.length ++ (prun [] s.2 ++ []), 0)) := by
    unfold stxt
    rw [hn, Int.toNat_natCast, List.append_nil]
    exact rWithin_vb (by unfold U64; omega) (by omega) (by omega) _
  have e2 := takeRun_put (rchk_zero h4) h2 []
  unfold sgRead
  rw [e1]
  dsimp only
  rw [e2]
  obtain ⟨s1, s2⟩ := s
  dsimp only at hn ⊢
  rw [hn]
theorem sgRead_back {t : Rs} {s : Sg} (hl : t.1.length ≤ 1000000) (h : sgRead t = (s, ([], 0))) : t.2 = 0 ∧ t.1 = stxt s := by
  obtain ⟨f, s3, e1⟩ : ∃ f s, rWithin 1048576 t = (f, s) := ⟨_, _, rfl⟩
  obtain ⟨cs, s5, e2⟩ : ∃ r s, takeRun s3 = (r, s) := ⟨_, _, rfl⟩
  have hsr : sgRead t = (((f : Int), cs), s5) := by unfold sgRead; rw [e1]; dsimp only; rw [e2]
  rw [hsr] at h
  injection h with h he0
  subst he0
  have hs3 : s3.2 = 0 := by
    rcases Decidable.em (s3.2 = 0) with h' | h'
    · exact h'
    · have hz : takeRun s3 = ([], rFail 3 s3) := tr_start (rNum_of h') (.inl h')
      rw [e2] at hz
      injection hz with _ hz
      rw [rFail_of h'] at hz
      rw [← hz] at h'
      exact absurd rfl h'
  obtain ⟨ht, _, hl1⟩ := rWithin_someB e1 hs3
  refine ⟨ht, ?_⟩
  obtain ⟨l3, b3⟩ := s3
  dsimp only at hs3 hl1
  subst hs3
  have hl3 : l3.length ≤ 1000000000 := by
    have := congrArg List.length hl1
    rw [List.length_append] at this
    omega
  obtain ⟨hl2, _, _⟩ := takeRun_back hl3 e2 rfl
  rw [← h]
  unfold stxt
  dsimp only
  rw [Int.toNat_natCast, hl1, hl2]
  simp
theorem wr_put {m : Nat} {x : Int} (_h0 : 0 ≤ x) (h1 : x ≤ m) (hm : m ≤ 4611686018427387904) (r : List UInt8) : rWithin m (vb x.toNat ++ r, 0) = (x.toNat, (r, 0)) := rWithin_vb (by unfold U64; omega) (by omega) (by omega) r
theorem pcTake_put {p : Pc} (h : pchk p = 0) : pcTake (frm (ptxt p)) = (p, 0) := by
  have hl : (ptxt p).length ≤ 65536 := by
    obtain ⟨h1, h2, h3, h4, h5⟩ := pchk_ok h
    have l1 := vb_le10 (n := 1) (by omega)
    have l2 := vb_le10 (n := p.1.toNat) (by omega)
    have l3 := vb_le10 (n := p.2.1.toNat) (by omega)
    have l4 := stxt_len h5
    unfold ptxt
    simp only [List.length_append]
    omega
  obtain ⟨h1, h2, h3, h4, h5⟩ := pchk_ok h
  unfold pcTake
  rw [fone_frm hl, if_neg (by simp)]
  dsimp only
  have e : pread (pkind 1 (ptxt p, 0)) = (p, ([], 0)) := by
    unfold pread ptxt
    rw [pkind_vb (by unfold U64; omega), wr_put (m := 1099511627776) h1 (by omega) (by omega)]
    dsimp only
    rw [wr_put (m := 1048576) h3 (by omega) (by omega)]
    dsimp only
    rw [sgRead_put h5]
    obtain ⟨p1, p2, p3⟩ := p
    dsimp only at h1 h3 ⊢
    rw [Int.toNat_of_nonneg h1, Int.toNat_of_nonneg h3]
  rw [e]
  unfold pcEnd
  rw [if_neg (by simp [rEnd]), if_neg (by rw [h]; simp)]
theorem qcTake_put {r : Rc} (h : qchk r = 0) : qcTake (frm (qtxt r)) = (r, 0) := by
  have hl : (qtxt r).length ≤ 65536 := by
    obtain ⟨h1, h2, h3, h4⟩ := qchk_ok h
    have l1 := vb_le10 (n := 2) (by omega)
    have l2 := vb_le10 (n := r.1.toNat) (by omega)
    have l3 := vb_le10 (n := r.2.toNat) (by omega)
    unfold qtxt
    simp only [List.length_append]
    omega
  obtain ⟨h1, h2, h3, h4⟩ := qchk_ok h
  unfold qcTake
  rw [fone_frm hl, if_neg (by simp)]
  dsimp only
  have e : qread (pkind 2 (qtxt r, 0)) = (r, ([], 0)) := by
    unfold qread qtxt
    rw [pkind_vb (by unfold U64; omega), wr_put (m := 1099511627776) h1 (by omega) (by omega)]
    dsimp only
    have := wr_put (m := 1048576) h3 (by omega) (by omega) []
    rw [List.append_nil] at this
    rw [this]
    obtain ⟨p1, p2⟩ := r
    dsimp only at h1 h3 ⊢
    rw [Int.toNat_of_nonneg h1, Int.toNat_of_nonneg h3]
  rw [e]
  unfold qcEnd
  rw [if_neg (by simp [rEnd])]
theorem pcTake_ok {b : List UInt8} (_hl : b.length ≤ 1000000) {p : Pc} (h : pcTake b = (p, 0)) : pchk p = 0 ∧ b = frm (ptxt p) := by
  unfold pcTake at h
  by_cases hf : (fone b).2 ≠ 0
  · rw [if_pos hf] at h
    injection h with _ h
    exact absurd h hf
  · rw [if_neg hf] at h
    obtain ⟨hb1, hb2⟩ := fone_back (Decidable.byContradiction hf)
    have hfl := fone_len b
    generalize (fone b).1 = t at *
    unfold pcEnd at h
    by_cases he : rEnd (pread (pkind 1 (t, 0))).2 ≠ 0
    · rw [if_pos he] at h
      injection h with _ h
      exact absurd h he
    rw [if_neg he] at h
    by_cases hc : pchk (pread (pkind 1 (t, 0))).1 ≠ 0
    · rw [if_pos hc] at h
      injection h with _ h
      exact absurd h hc
    rw [if_neg hc] at h
    injection h with h _
    have hc0 : pchk p = 0 := by rw [← h]; exact Decidable.byContradiction hc
    have he0 := rEnd_zero (Decidable.byContradiction he)
    have hkl := pkind_len 1 (t, 0)
    have hko := pkind_ok (k := 1) (s := (t, 0))
    generalize pkind 1 (t, 0) = s1 at *
    obtain ⟨x, s2, e1⟩ : ∃ f s, rWithin 1099511627776 s1 = (f, s) := ⟨_, _, rfl⟩
    obtain ⟨y, s3, e2⟩ : ∃ f s, rWithin 1048576 s2 = (f, s) := ⟨_, _, rfl⟩
    obtain ⟨z, s4, e3⟩ : ∃ f s, sgRead s3 = (f, s) := ⟨_, _, rfl⟩
    have e4 : pread s1 = (((x : Int), (y : Int), z), s4) := by unfold pread; rw [e1]; dsimp only; rw [e2]; dsimp only; rw [e3]
    rw [e4] at he0 h
    dsimp only at he0 h hkl
    subst he0
    have l2 := rWithin_len 1099511627776 s1
    have l3 := rWithin_len 1048576 s2
    rw [e1] at l2
    rw [e2] at l3
    dsimp only at l2 l3
    obtain ⟨g3, q3⟩ := sgRead_back (by omega) e3
    obtain ⟨g2, _, q2⟩ := rWithin_someB e2 g3
    obtain ⟨g1, _, q1⟩ := rWithin_someB e1 g2
    obtain ⟨_, q0⟩ := hko g1
    refine ⟨hc0, ?_⟩
    rw [hb2]
    congr 1
    dsimp only at q0
    rw [q0, q1, q2, q3, ← h]
    rfl
theorem qcTake_ok {b : List UInt8} {r : Rc} (h : qcTake b = (r, 0)) : qchk r = 0 ∧ b = frm (qtxt r) := by
  unfold qcTake at h
  by_cases hf : (fone b).2 ≠ 0
  · rw [if_pos hf] at h
    injection h with _ h
    exact absurd h hf
  · rw [if_neg hf] at h
    obtain ⟨hb1, hb2⟩ := fone_back (Decidable.byContradiction hf)
    generalize (fone b).1 = t at *
    unfold qcEnd at h
    by_cases he : rEnd (qread (pkind 2 (t, 0))).2 ≠ 0
    · rw [if_pos he] at h
      injection h with _ h
      exact absurd h he
    rw [if_neg he] at h
    injection h with h _
    have he0 := rEnd_zero (Decidable.byContradiction he)
    have hko := pkind_ok (k := 2) (s := (t, 0))
    generalize pkind 2 (t, 0) = s1 at *
    obtain ⟨x, s2, e1⟩ : ∃ f s, rWithin 1099511627776 s1 = (f, s) := ⟨_, _, rfl⟩
    obtain ⟨y, s3, e2⟩ : ∃ f s, rWithin 1048576 s2 = (f, s) := ⟨_, _, rfl⟩
    have e4 : qread s1 = (((x : Int), (y : Int)), s3) := by unfold qread; rw [e1]; dsimp only; rw [e2]
    rw [e4] at he0 h
    dsimp only at he0 h
    subst he0
    obtain ⟨g2, hy, q2⟩ := rWithin_someB e2 rfl
    obtain ⟨g1, hx, q1⟩ := rWithin_someB e1 g2
    obtain ⟨_, q0⟩ := hko g1
    dsimp only at q0
    rw [← h]
    refine ⟨?_, ?_⟩
    · unfold qchk
      rw [if_neg (by dsimp only; omega)]
    · rw [hb2]
      congr 1
      rw [q0, q1, q2]
      unfold qtxt
      simp
/-- no bytes are both -/
theorem pc_not_qc {b : List UInt8} (hl : b.length ≤ 1000000) {p : Pc} {r : Rc} (h : pcTake b = (p, 0)) (h2 : qcTake b = (r, 0)) : False := by
  obtain ⟨a1, a2⟩ := pcTake_ok hl h
  have h3 : (fone b).1 = ptxt p := by
    obtain ⟨h1, h2, h3, h4, h5⟩ := pchk_ok a1
    have l1 := vb_le10 (n := 1) (by omega)
    have l2 := vb_le10 (n := p.1.toNat) (by omega)
    have l3 := vb_le10 (n := p.2.1.toNat) (by omega)
    have l4 := stxt_len h5
    rw [a2, fone_frm (by unfold ptxt; simp only [List.length_append]; omega)]
  obtain ⟨c1, c2⟩ := qcTake_ok h2
  have h4 : (fone b).1 = qtxt r := by
    obtain ⟨h1, h2, h3, h4⟩ := qchk_ok c1
    have l1 := vb_le10 (n := 2) (by omega)
    have l2 := vb_le10 (n := r.1.toNat) (by omega)
    have l3 := vb_le10 (n := r.2.toNat) (by omega)
    rw [c2, fone_frm (by unfold qtxt; simp only [List.length_append]; omega)]
  rw [h3] at h4
  have e1 : vb 1 = [1] := by rw [vb]; rfl
  have e2 : vb 2 = [2] := by rw [vb]; rfl
  unfold ptxt qtxt at h4
  rw [e1, e2] at h4
  simp at h4
end Go.Proofs.YtgipfenjachpnaaGreat

namespace Go.Proofs.YtgipfenjachpnaaGreat
open Go.RowKit
attribute [local go_sem ↓] Go.wp_at_zero Go.wp_at_succ

abbrev pcv (e t f : Int) (A : Option Addr) (n c : Nat) : Value := .agg #[.int .i64 e, .int .i64 t, .int .i64 f, .slice A n c]
set_option maxRecDepth 100000 in
set_option maxHeartbeats 400000 in
theorem PIn_any (x m : Int) (w : World) : Calls Tryz.prog 37 #[.int .i64 x, .int .i64 m] w fun e w' => e = .returned (.bool (decide (0 ≤ x) && decide (x ≤ m))) ∧ w = w' := by
  go_enter Tryz.func37, Tryz.ntmps37
  by_cases h : 0 ≤ x
  · have h2 : decide (0 ≤ x) = true := by simp [h]
    go_wp2_with fail
    go_ret
    exact ⟨by simp [h], rfl⟩
  · have h2 : decide (0 ≤ x) = false := by simp [h]
    go_wp2_with fail
    go_ret
    exact ⟨by simp, rfl⟩
theorem pchk_bad {p : Pc} (h : (decide (0 ≤ p.1) && decide (p.1 ≤ 1099511627776)) = false ∨ (decide (0 ≤ p.2.1) && decide (p.2.1 ≤ 1048576)) = false) : pchk p = 1 := by
  unfold pchk
  simp only [Bool.and_eq_false_iff, decide_eq_false_iff_not] at h
  rw [if_pos (by omega)]
theorem pchk_good {p : Pc} (h : (decide (0 ≤ p.1) && decide (p.1 ≤ 1099511627776)) = true) (h2 : (decide (0 ≤ p.2.1) && decide (p.2.1 ≤ 1048576)) = true) : pchk p = schk p.2.2 := by
  unfold pchk
  simp only [Bool.and_eq_true, decide_eq_true_eq] at h h2
  rw [if_neg (by omega)]
set_option maxRecDepth 100000 in
set_option maxHeartbeats 1000000 in
theorem PCheck_any {E : Option Addr} {cap : Nat} (x t f : Int) (cs : List CeV) (w : World) (h : SlC w E cap cs) :
    Calls Tryz.prog 17 #[pcv x t f E cs.length cap] w fun e w' => e = .returned (errv (pchk (x, t, f, cs.map ceOf))) ∧ Below w.heap.size w w' := by
  have hbw := below_new w (.cells #[.int .i64 x, .int .i64 t, .int .i64 f, .slice E cs.length cap] 28)
  have hB := Blk.new w 28 #[.int .i64 x, .int .i64 t, .int .i64 f, .slice E cs.length cap]
  have hbad := fun h => Lib.hid (pchk_bad (p := (x, t, f, cs.map ceOf)) h)
  have hgood := fun h h2 => Lib.hid (pchk_good (p := (x, t, f, cs.map ceOf)) h h2)
  have hI1 := fun W => PIn_any x 1099511627776 W
  have hI2 := fun W => PIn_any t 1048576 W
  dsimp only at hbad hgood
  generalize (decide (0 ≤ x) && decide (x ≤ 1099511627776)) = b1 at *
  generalize (decide (0 ≤ t) && decide (t ≤ 1048576)) = b2 at *
  have H1 := Lib.hid hI1
  have H2 := Lib.hid hI2
  clear hI1 hI2
  go_enter Tryz.func17, Tryz.ntmps17
  go_wp2_with fail
  refine (H1.out _).mono ?_
  rintro e w1 ⟨rfl, rfl⟩
  cases b1 with
  | false =>
    have hc := hbad (.inl rfl)
    clear hbad hgood
    go_wp2_with fail
    go_ret
    exact ⟨by rw [hc.out]; rfl, hbw⟩
  | true =>
    go_wp2_with fail
    refine (H2.out _).mono ?_
    rintro e w1 ⟨rfl, rfl⟩
    cases b2 with
    | false =>
      have hc := hbad (.inr rfl)
      clear hbad hgood
      go_wp2_with fail
      go_ret
      exact ⟨by rw [hc.out]; rfl, hbw⟩
    | true =>
      have hc := hgood trivial rfl
      clear hbad hgood
      go_wp2_with fail
      refine (SCheck_any f cs _ (h.below hbw)).mono ?_
      rintro e w1 ⟨rfl, hb1⟩
      go_wp2_with fail
      go_ret
      exact ⟨by rw [hc.out]; rfl, bel_call hbw hb1⟩
theorem qchk_bad {p : Rc} (h : (decide (0 ≤ p.1) && decide (p.1 ≤ 1099511627776)) = false ∨ (decide (0 ≤ p.2) && decide (p.2 ≤ 1048576)) = false) : qchk p = 1 := by
  unfold qchk
  simp only [Bool.and_eq_false_iff, decide_eq_false_iff_not] at h
  rw [if_pos (by omega)]
theorem qchk_good {p : Rc} (h : (decide (0 ≤ p.1) && decide (p.1 ≤ 1099511627776)) = true) (h2 : (decide (0 ≤ p.2) && decide (p.2 ≤ 1048576)) = true) : qchk p = 0 := by
  unfold qchk
  simp only [Bool.and_eq_true, decide_eq_true_eq] at h h2
  rw [if_neg (by omega)]
end Go.Proofs.YtgipfenjachpnaaGreat

namespace Go.Proofs.YtgipfenjachpnaaGreat
open Go.RowKit
attribute [local go_sem ↓] Go.wp_at_zero Go.wp_at_succ

set_option maxRecDepth 100000 in
set_option maxHeartbeats 1000000 in
theorem QPut_any (x t : Int) (w : World) :
    Calls Tryz.prog 19 #[.agg #[.int .i64 x, .int .i64 t]] w (PutsB w (qput (x, t))) := by
  have hbw := below_new w (.cells #[.int .i64 x, .int .i64 t] 41)
  have hB := Blk.new w 41 #[.int .i64 x, .int .i64 t]
  have hbad := fun h => Lib.hid (qchk_bad (p := (x, t)) h)
  have hgood := fun h h2 => Lib.hid (qchk_good (p := (x, t)) h h2)
  have hI1 := fun W => PIn_any x 1099511627776 W
  have hI2 := fun W => PIn_any t 1048576 W
  dsimp only at hbad hgood
  generalize (decide (0 ≤ x) && decide (x ≤ 1099511627776)) = b1 at *
  generalize (decide (0 ≤ t) && decide (t ≤ 1048576)) = b2 at *
  have H1 := Lib.hid hI1
  have H2 := Lib.hid hI2
  clear hI1 hI2
  go_enter Tryz.func19, Tryz.ntmps19
  go_wp2_with fail
  refine (H1.out _).mono ?_
  rintro e w1 ⟨rfl, rfl⟩
  cases b1 with
  | false =>
    have hc := hbad (.inl rfl)
    have HQ : Hid (qput (x, t) = ([], 1)) := (show _ = _ from by unfold qput; rw [hc.out]; rfl)
    clear hbad hgood
    go_wp2_with fail
    go_ret2
    exact ⟨none, 0, [], by rw [HQ.out]; rfl, (show _ = _ from by rw [HQ.out]), Own.none_ _ _ _ _, hbw⟩
  | true =>
    go_wp2_with fail
    refine (H2.out _).mono ?_
    rintro e w1 ⟨rfl, rfl⟩
    cases b2 with
    | false =>
      have hc := hbad (.inr rfl)
      have HQ : Hid (qput (x, t) = ([], 1)) := (show _ = _ from by unfold qput; rw [hc.out]; rfl)
      clear hbad hgood
      go_wp2_with fail
      go_ret2
      exact ⟨none, 0, [], by rw [HQ.out]; rfl, (show _ = _ from by rw [HQ.out]), Own.none_ _ _ _ _, hbw⟩
    | true =>
      have hc : Hid (qchk (x, t) = 0) := hgood trivial rfl
      clear hbad hgood
      obtain ⟨g0, g1, g2, g3⟩ := qchk_ok hc.out
      dsimp only at g0 g1 g2 g3
      have HQ : Hid (qput (x, t) = fput [] (qtxt (x, t))) := (show _ = _ from by unfold qput; rw [hc.out]; rfl)
      obtain ⟨n, rfl⟩ : ∃ n : Nat, x = n := ⟨x.toNat, by omega⟩
      obtain ⟨m, rfl⟩ : ∃ m : Nat, t = m := ⟨t.toNat, by omega⟩
      have hun : U64 n := by unfold U64; omega
      have hum : U64 m := by unfold U64; omega
      have hwn := wrap_u64_of hun
      have hwm := wrap_u64_of hum
      clear g0 g1 g2 g3
      obtain ⟨a0, a1, _, _⟩ := hB.two
      have hL : SlN ((w.alloc (.cells #[.int .i64 (n : Int), .int .i64 (m : Int)] 41)).alloc (.cells #[.int .u64 2, .int .u64 (n : Int), .int .u64 (m : Int)] 67)) (some ⟨w.heap.size + 1, 0, none⟩) 3 [2, n, m] := by
        have h := Sl.lits (w.alloc (.cells #[.int .i64 (n : Int), .int .i64 (m : Int)] 41)) [nv 2, nv n, nv m] 67 (by simp [maxLen])
        rw [show (w.alloc (.cells #[.int .i64 (n : Int), .int .i64 (m : Int)] 41)).heap.size = w.heap.size + 1 from by simp] at h
        exact h
      have HL := Lib.hid hL
      clear hL
      go_wp2_with fail
      refine (Put_any none 0 [] _ 3 [2, n, m] _ (by simp) (Sl.none_ _ _) HL.out (by simp) (by intro z hz; simp at hz; rcases hz with hz | hz | hz <;> rw [hz] <;> first | exact hun | exact hum | (unfold U64; omega))).mono ?_
      rintro e w2 ⟨A2, c2, m2, rfl, hm2, ho2, hb2⟩
      have htx : m2 = qtxt ((n : Int), (m : Int)) := by rw [hm2.out]; unfold qtxt; simp [vbs]
      have l1 := vb_le10 (n := 2) (by omega)
      have l2 := vb_le10 hun
      have l3 := vb_le10 hum
      have hml : m2.length ≤ 100 := by rw [htx]; unfold qtxt; simp only [List.length_append, Int.toNat_natCast]; omega
      have HT := Lib.hid htx
      have hw2 := bel_call (bel_alloc hbw _) hb2
      clear htx l1 l2 l3 a0 a1
      go_wp2_with fail
      refine (FPut_any none 0 [] A2 c2 m2 _ (by simp) (Sl.none_ _ _) ho2.sl (by omega)).mono ?_
      rintro e w4 ⟨A4, c4, m4, rfl, hm4, ho4, hb4⟩
      go_wp2_with fail
      go_ret2
      exact ⟨A4, c4, m4, by rw [HQ.out, ← HT.out]; rfl, (show _ = _ from by rw [hm4.out, HQ.out, HT.out]), ho4.more hw2.size, bel_call hw2 hb4⟩
end Go.Proofs.YtgipfenjachpnaaGreat

namespace Go.Proofs.YtgipfenjachpnaaGreat
open Go.RowKit
attribute [local go_sem ↓] Go.wp_at_zero Go.wp_at_succ

theorem Num_s {g B : Nat} {s : Rs} {w : World} (hR : IsR w g B s) : Calls Tryz.prog 45 #[.pointer (some ⟨g, 0, none⟩)] w fun e w' => e = .returned (.int .u64 ((rNum s).1 : Nat)) ∧ IsR w' g B (rNum s).2 ∧ Wr w w' g := Number_any hR
theorem Fail2_s {g B : Nat} {s : Rs} {w : World} (hR : IsR w g B s) : Calls Tryz.prog 46 #[.pointer (some ⟨g, 0, none⟩), .iface 82 (.int .i64 2)] w fun e w' => e = .returned (.tuple #[]) ∧ IsR w' g B (rFail 2 s) ∧ Wr w w' g := by obtain ⟨l, b⟩ := s; exact Fail_any 2 hR
/-- what open gives: a reader behind the kind, or none and an error -/
def OpenG (w : World) (k : Nat) (b : List UInt8) : Ending → World → Prop := fun e w' => if (fone b).2 ≠ 0 then e = .returned (.tuple #[.pointer none, errv (fone b).2]) ∧ Below w.heap.size w w' else
  ∃ g B, e = .returned (.tuple #[.pointer (some ⟨g, 0, none⟩), .nilIface]) ∧ w.heap.size ≤ g ∧ B ≤ g ∧ IsR w' g B (pkind k ((fone b).1, 0)) ∧ Below w.heap.size w w'
theorem openG_ok {w w' : World} {k : Nat} {b : List UInt8} {e : Ending} (h : (fone b).2 = 0) (h2 : ∃ g B, e = .returned (.tuple #[.pointer (some ⟨g, 0, none⟩), .nilIface]) ∧ w.heap.size ≤ g ∧ B ≤ g ∧ IsR w' g B (pkind k ((fone b).1, 0)) ∧ Below w.heap.size w w') : OpenG w k b e w' := by
  unfold OpenG
  rw [if_neg (by rw [h]; simp)]
  exact h2
theorem openG_bad {w w' : World} {k : Nat} {b : List UInt8} {e : Ending} (h : (fone b).2 ≠ 0) (h2 : e = .returned (.tuple #[.pointer none, errv (fone b).2]) ∧ Below w.heap.size w w') : OpenG w k b e w' := by
  unfold OpenG
  rw [if_pos h]
  exact h2
set_option maxRecDepth 100000 in
set_option maxHeartbeats 1000000 in
theorem POpen_any (k : Nat) (_hk : U64 k) (A : Option Addr) (c : Nat) (b : List UInt8) (w : World) (hs : SlB w A c b) (hl : b.length ≤ 1000000) :
    Calls Tryz.prog 23 #[.slice A b.length c, .int .u64 k] w (OpenG w k b) := by
  have hfl := fone_len b
  go_enter Tryz.func23, Tryz.ntmps23
  go_wp2_with fail
  refine (FOne_any A c b _ hs (by omega)).mono ?_
  rintro e w1 ⟨A1, c1, m1, rfl, hm1, hs1, hb1⟩
  rcases errv_cases (fone b).2 with ⟨h0, hev⟩ | ⟨j, hj, hje, hev⟩
  · have hm1l : m1.length ≤ 1000000 := by rw [hm1.out]; omega
    rw [hev]
    have H0 := Lib.hid h0
    clear hev h0 hfl
    go_wp2_with fail
    refine (RNew_any A1 c1 m1 _ hs1).mono ?_
    rintro e w2 ⟨g, rfl, hg, hR, hb2⟩
    have hw2 := bel_call hb1 hb2
    have hgl := hR.lt
    have hbs := hb1.size
    go_wp2_with fail
    refine (Num_s (s := (m1, 0)) hR).mono ?_
    rintro e w3 ⟨rfl, hR3, hr3⟩
    have hw3 := hw2.trans (hr3.below hw2.size (by omega))
    have hu := rNum_u64 (m1, 0)
    have HP : Hid (pkind k (m1, 0) = if (rNum (m1, 0)).1 ≠ k then rFail 2 (rNum (m1, 0)).2 else (rNum (m1, 0)).2) := (rfl : _ = _)
    generalize rNum (m1, 0) = q at *
    obtain ⟨n, s⟩ := q
    dsimp only at hR3 hu HP ⊢
    by_cases hnk : n = k
    · have hE : ((n : Int) != (k : Int)) = false := by simp [hnk]
      have HP2 : Hid (pkind k (m1, 0) = s) := (show _ = _ from by rw [HP.out, if_neg (by simp [hnk])])
      clear HP hnk hR
      go_wp2_with fail
      go_ret2
      exact openG_ok H0.out ⟨g, _, rfl, by omega, by omega, by rw [← hm1.out, HP2.out]; exact hR3, hw3⟩
    · have hE : ((n : Int) != (k : Int)) = true := by rw [bne_iff_ne]; omega
      have HP2 : Hid (pkind k (m1, 0) = rFail 2 s) := (show _ = _ from by rw [HP.out, if_pos hnk])
      clear HP hnk hR
      go_wp2_with fail
      refine (Fail2_s hR3).mono ?_
      rintro e w4 ⟨rfl, hR4, hr4⟩
      have hw4 := hw3.trans (hr4.below hw3.size (by omega))
      go_wp2_with fail
      go_ret2
      exact openG_ok H0.out ⟨g, _, rfl, by omega, by omega, by rw [← hm1.out, HP2.out]; exact hR4, hw4⟩
  · have HEV := Lib.hid hev
    have HJ := Lib.hid (show (fone b).2 ≠ 0 from by omega)
    rw [hev]
    clear hev hje hfl
    go_wp2_with fail
    go_ret2
    exact openG_bad HJ.out ⟨by rw [HEV.out]; rfl, hb1⟩
end Go.Proofs.YtgipfenjachpnaaGreat
