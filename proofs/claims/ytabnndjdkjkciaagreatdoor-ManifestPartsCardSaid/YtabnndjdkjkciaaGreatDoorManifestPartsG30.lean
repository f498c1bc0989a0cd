/- WHAT IT HOLDS: the document's TakeRun, walked. -/
import Derived.Test.YtabnndjdkjkciaaGreatDoorManifestPartsG29
namespace Go.Proofs.YtabnndjdkjkciaaGreatDoor
open Go.RowKit
attribute [local go_sem ↓] Go.wp_at_zero Go.wp_at_succ

set_option maxRecDepth 100000 in
set_option maxHeartbeats 1000000 in
theorem rfail5_any {A : Option Addr} {n c : Nat} {s : Rs} (k : Nat) (w : World) : Calls Tryz.prog 173 #[rv A n c s.2, .int .i64 k] w fun e w' => e = .returned (.tuple #[.slice none 0 0, rv A n c (rFail k s).2]) ∧ Below w.heap.size w w' := by
  obtain ⟨l, bad⟩ := s
  dsimp only
  have hB0 := (Blk.new w 199 #[.slice A n c, .int .i64 bad]).alloc (.cells #[.slice none 0 0, .int .i64 0] 199)
  have hB1 := Blk.newAt (w := w.alloc (.cells #[.slice A n c, .int .i64 bad] 199)) (g := w.heap.size + 1) (by simp) 199 #[.slice none 0 0, .int .i64 0]
  have hbw := bel_alloc (below_new w (.cells #[.slice A n c, .int .i64 bad] 199)) (.cells #[.slice none 0 0, .int .i64 0] 199)
  rcases Decidable.em (bad = 0) with h0 | h0
  · subst h0
    go_enter Tryz.func173, Tryz.ntmps173
    go_upto_region 3 with (fail)
    have hC0 := (Blk.new w 199 #[.slice A n c, .int .i64 (k : Int)]).alloc (.cells #[.slice none 0 0, .int .i64 0] 199)
    have hC1 := Blk.newAt (w := w.alloc (.cells #[.slice A n c, .int .i64 (k : Int)] 199)) (g := w.heap.size + 1) (by simp) 199 #[.slice none 0 0, .int .i64 0]
    have hwC := bel_alloc (below_new w (.cells #[.slice A n c, .int .i64 (k : Int)] 199)) (.cells #[.slice none 0 0, .int .i64 0] 199)
    clear hB0 hB1 hbw
    have hst : Blk _ w.heap.size 199 #[.slice A n c, .int .i64 (k : Int)] ∧ Below w.heap.size w _ := ⟨hC0.drew, hwC.drew⟩
    have hst1 := hC1.drew
    refine wp_region_held_drew (S := (fun W => Blk W w.heap.size 199 #[.slice A n c, .int .i64 (k : Int)] ∧ Below w.heap.size w W)) (by kernel_rfl) ?_ (fun hHeld => ?_)
    · exact hst
    refine gen0 (T := fun W => ((fun W => Blk W w.heap.size 199 #[.slice A n c, .int .i64 (k : Int)] ∧ Below w.heap.size w W)) W ∧ Blk W (w.heap.size + 1) 199 #[.slice none 0 0, .int .i64 0] ∧ True) ?_ (fun wq1 hT => ?_)
    · exact ⟨by (first | exact hst | exact hHeld | exact ⟨(hHeld.1.far (by dsimp only; omega) _).far (by dsimp only; omega) _, bel_set (bel_set hHeld.2 (by dsimp only; omega) _) (by dsimp only; omega) _⟩), by (first | assumption | exact hst1 | exact f0.set2 _ _), trivial⟩
    (try clear f0 f1 f2 f3 f4 f5 f6 f7 f8 f9 f10 f11)
    obtain ⟨hHeld, f0, -⟩ := hT
    refine wpAnyH_take (i := 0) (oi := ⟨some 11, _, _, _, _, _⟩) (v := ?_) rfl (by kernel_rfl) (by kernel_rfl) (by kernel_rfl) (fun _ _ _ h => h) (Or.inl ⟨by kernel_rfl, ?_⟩) (by assumption) ?_
    rotate_left
    · (intro wS hSw; (try dsimp only at hSw); obtain ⟨q0, q1, _, _⟩ := hSw.1.two; clear hSw; go_simp; (try with_reducible rfl))
    (try simp only [Act.put, List.setIfInBounds_toArray, List.set_cons_zero, List.set_cons_succ])
    refine wpAnyH_take (i := 1) (oi := ⟨some 4, _, _, _, _, _⟩) (v := ?_) rfl (by kernel_rfl) (by kernel_rfl) (by kernel_rfl) (fun _ _ _ h => h) (Or.inl ⟨by kernel_rfl, ?_⟩) (by assumption) ?_
    rotate_left
    · (intro wS hSw; (try dsimp only at hSw); obtain ⟨q0, q1, _, _⟩ := hSw.1.two; clear hSw; go_simp; (try with_reducible rfl))
    (try simp only [Act.put, List.setIfInBounds_toArray, List.set_cons_zero, List.set_cons_succ])
    refine wpAnyH_ready (rs := [2]) (by kernel_rfl) (by simp) ?_
    refine AllReadyH.cons (o := ⟨none, _, _, _, _, _⟩) rfl (fun K hK => ?_) AllReadyH.nil
    obtain ⟨s0, s1, sf0, sf1⟩ := f0.two
    go_simp
    refine hK.out _ _ ?_ (fun _ => ?_)
    · ((try dsimp only); (first | exact hst | exact hHeld | exact ⟨(hHeld.1.far (by dsimp only; omega) _).far (by dsimp only; omega) _, bel_set (bel_set hHeld.2 (by dsimp only; omega) _) (by dsimp only; omega) _⟩))
    clear hK K
    (try simp only [Act.put, List.setIfInBounds_toArray, List.set_cons_zero, List.set_cons_succ])
    refine gen0 (T := fun W => ((fun W => Blk W w.heap.size 199 #[.slice A n c, .int .i64 (k : Int)] ∧ Below w.heap.size w W)) W ∧ Blk W (w.heap.size + 1) 199 #[.slice A n c, .int .i64 (k : Int)] ∧ True) ?_ (fun wq2 hT => ?_)
    · exact ⟨by (first | exact hst | exact hHeld | exact ⟨(hHeld.1.far (by dsimp only; omega) _).far (by dsimp only; omega) _, bel_set (bel_set hHeld.2 (by dsimp only; omega) _) (by dsimp only; omega) _⟩), by (first | assumption | exact hst1 | exact f0.set2 _ _), trivial⟩
    (try clear f0 f1 f2 f3 f4 f5 f6 f7 f8 f9 f10 f11)
    obtain ⟨hHeld, f0, -⟩ := hT
    refine wpAnyH_done (by kernel_rfl) ?_ _
    go_wp2_with fail
    exact bodyPost_ret (res_r2 rfl rfl (g := w.heap.size + 1) f0) rfl ⟨rfl, hHeld.2⟩
  · have hb : ((bad : Int) == 0) = false := by simp; omega
    have hk : (rFail k (l, bad)).2 = bad := by unfold rFail; rw [if_neg h0]
    have HK := Lib.hid hk
    clear h0 hk
    go_enter Tryz.func173, Tryz.ntmps173
    go_upto_region 3 with (fail)
    have hC0 := hB0
    have hC1 := hB1
    have hwC := hbw
    clear hB0 hB1 hbw
    have hst : Blk _ w.heap.size 199 #[.slice A n c, .int .i64 (bad : Int)] ∧ Below w.heap.size w _ := ⟨hC0.drew, hwC.drew⟩
    have hst1 := hC1.drew
    refine wp_region_held_drew (S := (fun W => Blk W w.heap.size 199 #[.slice A n c, .int .i64 (bad : Int)] ∧ Below w.heap.size w W)) (by kernel_rfl) ?_ (fun hHeld => ?_)
    · exact hst
    refine gen0 (T := fun W => ((fun W => Blk W w.heap.size 199 #[.slice A n c, .int .i64 (bad : Int)] ∧ Below w.heap.size w W)) W ∧ Blk W (w.heap.size + 1) 199 #[.slice none 0 0, .int .i64 0] ∧ True) ?_ (fun wq1 hT => ?_)
    · exact ⟨by (first | exact hst | exact hHeld | exact ⟨(hHeld.1.far (by dsimp only; omega) _).far (by dsimp only; omega) _, bel_set (bel_set hHeld.2 (by dsimp only; omega) _) (by dsimp only; omega) _⟩), by (first | assumption | exact hst1 | exact f0.set2 _ _), trivial⟩
    (try clear f0 f1 f2 f3 f4 f5 f6 f7 f8 f9 f10 f11)
    obtain ⟨hHeld, f0, -⟩ := hT
    refine wpAnyH_take (i := 0) (oi := ⟨some 11, _, _, _, _, _⟩) (v := ?_) rfl (by kernel_rfl) (by kernel_rfl) (by kernel_rfl) (fun _ _ _ h => h) (Or.inl ⟨by kernel_rfl, ?_⟩) (by assumption) ?_
    rotate_left
    · (intro wS hSw; (try dsimp only at hSw); obtain ⟨q0, q1, _, _⟩ := hSw.1.two; clear hSw; go_simp; (try with_reducible rfl))
    (try simp only [Act.put, List.setIfInBounds_toArray, List.set_cons_zero, List.set_cons_succ])
    refine wpAnyH_take (i := 1) (oi := ⟨some 4, _, _, _, _, _⟩) (v := ?_) rfl (by kernel_rfl) (by kernel_rfl) (by kernel_rfl) (fun _ _ _ h => h) (Or.inl ⟨by kernel_rfl, ?_⟩) (by assumption) ?_
    rotate_left
    · (intro wS hSw; (try dsimp only at hSw); obtain ⟨q0, q1, _, _⟩ := hSw.1.two; clear hSw; go_simp; (try with_reducible rfl))
    (try simp only [Act.put, List.setIfInBounds_toArray, List.set_cons_zero, List.set_cons_succ])
    refine wpAnyH_ready (rs := [2]) (by kernel_rfl) (by simp) ?_
    refine AllReadyH.cons (o := ⟨none, _, _, _, _, _⟩) rfl (fun K hK => ?_) AllReadyH.nil
    obtain ⟨s0, s1, sf0, sf1⟩ := f0.two
    go_simp
    refine hK.out _ _ ?_ (fun _ => ?_)
    · ((try dsimp only); (first | exact hst | exact hHeld | exact ⟨(hHeld.1.far (by dsimp only; omega) _).far (by dsimp only; omega) _, bel_set (bel_set hHeld.2 (by dsimp only; omega) _) (by dsimp only; omega) _⟩))
    clear hK K
    (try simp only [Act.put, List.setIfInBounds_toArray, List.set_cons_zero, List.set_cons_succ])
    refine gen0 (T := fun W => ((fun W => Blk W w.heap.size 199 #[.slice A n c, .int .i64 (bad : Int)] ∧ Below w.heap.size w W)) W ∧ Blk W (w.heap.size + 1) 199 #[.slice A n c, .int .i64 (bad : Int)] ∧ True) ?_ (fun wq2 hT => ?_)
    · exact ⟨by (first | exact hst | exact hHeld | exact ⟨(hHeld.1.far (by dsimp only; omega) _).far (by dsimp only; omega) _, bel_set (bel_set hHeld.2 (by dsimp only; omega) _) (by dsimp only; omega) _⟩), by (first | assumption | exact hst1 | exact f0.set2 _ _), trivial⟩
    (try clear f0 f1 f2 f3 f4 f5 f6 f7 f8 f9 f10 f11)
    obtain ⟨hHeld, f0, -⟩ := hT
    refine wpAnyH_done (by kernel_rfl) ?_ _
    go_wp2_with fail
    exact bodyPost_ret (res_r2 rfl rfl (g := w.heap.size + 1) f0) rfl ⟨by rw [HK.out]; rfl, hHeld.2⟩
theorem rFail_fst (k : Nat) (s : Rs) : (rFail k s).1 = s.1 := by unfold rFail; split <;> rfl
theorem RV_fail {w : World} {B : Nat} {A : Option Addr} {c : Nat} {s : Rs} (k : Nat) (h : SlB w A c s.1) (hb : s.1 ≠ [] → ∀ ad, A = some ad → ad.block < B) : RV w B (rv A s.1.length c (rFail k s).2) (rFail k s) :=
  ⟨A, c, by rw [rFail_fst], by rw [rFail_fst]; exact h, by rw [rFail_fst]; exact hb⟩
theorem tr_start {s s1 : Rs} {n : Nat} (h : rNum s = (n, s1)) (hc : s1.2 ≠ 0 ∨ 64 < n) : takeRun s = ([], rFail 3 s1) := by
  have hs : (tkNew s).s = rFail 3 s1 := by
    unfold tkNew
    rw [h]
    dsimp only
    by_cases hn : 64 < n
    · rw [if_pos hn]
    · rw [if_neg hn]
      rcases hc with hc | hc
      · rw [rFail_of hc]
      · exact absurd hc hn
  have hb : (tkNew s).s.2 ≠ 0 := by
    rw [hs]
    exact rFail_bad (by decide)
  unfold takeRun
  rw [tkEnd_stop (.inr hb), if_pos hb, hs]
/-- the cells of a run, and the reader then -/
def RRun (B : Nat) (r : List Ce × Rs) (w : World) (e : Ending) (w' : World) : Prop :=
  ∃ A c m v, e = .returned (.tuple #[.slice A (List.length m) c, v]) ∧ Hid (m = r.1) ∧ Own w' w.heap.size 117 2 A (List.length m) c (m.flatMap df) ∧ RV w' B v r.2 ∧ Below w.heap.size w w'
def rowv (k : Nat) : Int := if k = 1 then -1 else (k : Int)
/-- the head of the loop -/
structure RtM (w : World) (B : Nat) (t : Tk) (E : Option Addr) (d : Nat) (W : World) : Prop where
  rd : ∃ A c, Blk W w.heap.size 199 #[.slice A t.s.1.length c, .int .i64 (t.s.2 : Nat)] ∧ SlB W A c t.s.1 ∧ (t.s.1 ≠ [] → ∀ ad, A = some ad → ad.block < B)
  z : Blk W (w.heap.size + 1) 199 #[.slice none 0 0, .int .i64 0]
  out : Own W (w.heap.size + 1 + 1) 117 2 E t.out.length d (t.out.flatMap df)
  bel : Below w.heap.size w W
theorem rt_store {w W : World} {B : Nat} {s1 : Rs} {A1 : Option Addr} {c1 : Nat} {x y : Value} {zs : Array Value} (hG : Blk W w.heap.size 199 #[x, y]) (hZ : Blk W (w.heap.size + 1) 199 zs) (hw : Below w.heap.size w W) (hS : SlB W A1 c1 s1.1) (hBd : s1.1 ≠ [] → ∀ ad, A1 = some ad → ad.block < B) (hBB : B ≤ w.heap.size) (u v : Value) :
    Blk ((W.setCell ⟨w.heap.size, 0, none⟩ u).setCell ⟨w.heap.size, 1, none⟩ v) w.heap.size 199 #[u, v] ∧ Blk ((W.setCell ⟨w.heap.size, 0, none⟩ u).setCell ⟨w.heap.size, 1, none⟩ v) (w.heap.size + 1) 199 zs ∧ Below w.heap.size w ((W.setCell ⟨w.heap.size, 0, none⟩ u).setCell ⟨w.heap.size, 1, none⟩ v) ∧ SlB ((W.setCell ⟨w.heap.size, 0, none⟩ u).setCell ⟨w.heap.size, 1, none⟩ v) A1 c1 s1.1 :=
  ⟨hG.set2 _ _, (hZ.far (by dsimp only; omega) _).far (by dsimp only; omega) _, bel_set (bel_set hw (Nat.le_refl _) _) (Nat.le_refl _) _, SlB.apart hS hBd hBB ((Below.setCell (p := ⟨w.heap.size, 1, none⟩) (Below.setCell (p := ⟨w.heap.size, 0, none⟩) (Below.refl _ _) (Nat.le_refl _) _) (Nat.le_refl _) _))⟩
theorem rFixed_le (n : Nat) (s : Rs) : (rFixed (n : Int) s).1.length ≤ n := by
  unfold rFixed
  split
  · simp
  · split
    · simp
    · simp only [List.length_take, Int.toNat_natCast]
      exact Nat.min_le_left _ _
theorem ba_cat (l m : List UInt8) (k : Nat) : (({ data := l.toArray } : ByteArray).extract 0 k ++ ({ data := m.toArray } : ByteArray)) = ⟨(l.take k ++ m).toArray⟩ := by
  apply ByteArray.ext
  simp [ByteArray.data_extract]
theorem inti_ne (n : Int) : ∀ b, Value.int .i64 n ≠ bv b := fun b h => by injection h with h _; cases h
theorem rt_store9 {w W : World} {B g9 : Nat} {s1 : Rs} {A1 E : Option Addr} {c1 d : Nat} {o : List Ce} {x y : Value} {zs gs : Array Value} (hX : Blk W g9 199 #[x, y]) (hG : Blk W w.heap.size 199 gs) (hZ : Blk W (w.heap.size + 1) 199 zs) (hw : Below w.heap.size w W) (hOut : Own W (w.heap.size + 1 + 1) 117 2 E o.length d (o.flatMap df)) (hS : SlB W A1 c1 s1.1) (hBd : s1.1 ≠ [] → ∀ ad, A1 = some ad → ad.block < B) (hBB : B ≤ w.heap.size) (h9 : w.heap.size + 1 < g9) (u v : Value) :
    Blk ((W.setCell ⟨g9, 0, none⟩ u).setCell ⟨g9, 1, none⟩ v) g9 199 #[u, v] ∧ Blk ((W.setCell ⟨g9, 0, none⟩ u).setCell ⟨g9, 1, none⟩ v) w.heap.size 199 gs ∧ Blk ((W.setCell ⟨g9, 0, none⟩ u).setCell ⟨g9, 1, none⟩ v) (w.heap.size + 1) 199 zs ∧ Below w.heap.size w ((W.setCell ⟨g9, 0, none⟩ u).setCell ⟨g9, 1, none⟩ v) ∧ Own ((W.setCell ⟨g9, 0, none⟩ u).setCell ⟨g9, 1, none⟩ v) (w.heap.size + 1 + 1) 117 2 E o.length d (o.flatMap df) ∧ SlB ((W.setCell ⟨g9, 0, none⟩ u).setCell ⟨g9, 1, none⟩ v) A1 c1 s1.1 :=
  ⟨hX.set2 _ _, (hG.far (by dsimp only; omega) _).far (by dsimp only; omega) _, (hZ.far (by dsimp only; omega) _).far (by dsimp only; omega) _, bel_set (bel_set hw (by dsimp only; omega) _) (by dsimp only; omega) _,
    (hOut.setOther (Own.offBlk hOut hX (by decide)) _ _).setOther (Own.offBlk hOut hX (by decide)) _ _, SlB.apart hS hBd hBB ((Below.setCell (p := ⟨g9, 1, none⟩) (Below.setCell (p := ⟨g9, 0, none⟩) (Below.refl _ _) (by dsimp only; omega) _) (by dsimp only; omega) _))⟩
set_option maxRecDepth 100000 in
set_option maxHeartbeats 4000000 in
theorem rTakeRun_any {A : Option Addr} {c : Nat} {s : Rs} (w : World) (hS0 : SlB w A c s.1) {B : Nat} (hBd0 : s.1 ≠ [] → ∀ ad, A = some ad → ad.block < B) (hBB : B ≤ w.heap.size) (hl : s.1.length ≤ 1000000) :
    Calls Tryz.prog 114 #[rv A s.1.length c s.2] w (RRun B (takeRun s) w) := by
  have hB0 := (Blk.new w 199 #[.slice A s.1.length c, .int .i64 (s.2 : Nat)]).alloc (.cells #[.slice none 0 0, .int .i64 0] 199)
  have hB1 := Blk.newAt (w := w.alloc (.cells #[.slice A s.1.length c, .int .i64 (s.2 : Nat)] 199)) (g := w.heap.size + 1) (by simp) 199 #[.slice none 0 0, .int .i64 0]
  have hbw := bel_alloc (below_new w (.cells #[.slice A s.1.length c, .int .i64 (s.2 : Nat)] 199)) (.cells #[.slice none 0 0, .int .i64 0] 199)
  obtain ⟨a0, a1, _, _⟩ := hB0.two
  have hN := fun W (h : SlB W A c s.1) => rNumber_any (bad := s.2) W h hBd0
  have hu := rNum_u64 s
  have hnl := rNum_len s
  obtain ⟨n, s1, hn⟩ : ∃ n s1, rNum s = (n, s1) := ⟨_, _, rfl⟩
  rw [show (s.1, s.2) = s from rfl, hn] at hN
  rw [hn] at hu hnl
  dsimp only at hu hnl
  have HN := Lib.hid hN
  have HNUM := Lib.hid hn
  clear hN hn
  go_enter Tryz.func114, Tryz.ntmps114
  go_wp2_with fail
  refine (HN.out _ (hS0.below hbw)).mono ?_
  rintro e w1 ⟨v, rfl, ⟨A1, c1, rfl, hS1, hBd⟩, hb1⟩
  dsimp only at hS1 hBd
  have hG1 := hB0.below hb1
  have hZ1 := hB1.below hb1
  have hw1 := bel_call hbw hb1
  clear hB0 hB1 hbw hb1 a0 a1 HN
  obtain ⟨a0, a1, af0, af1⟩ := hG1.two
  go_upto_region 2 with (fail)
  obtain ⟨hG, hZ, hw, hS⟩ := rt_store hG1 hZ1 hw1 hS1 hBd hBB (.slice A1 s1.1.length c1) (.int .i64 (s1.2 : Nat))
  clear hG1 hZ1 hw1 hS1 a0 a1 af0 af1
  generalize hWe : (w1.setCell { block := w.heap.size, off := 0 } (Value.slice A1 s1.1.length c1)).setCell { block := w.heap.size, off := 1 } (Value.int IntKind.i64 (s1.2 : Nat)) = W at *
  clear hWe
  obtain ⟨a0, a1, af0, af1⟩ := hG.two
  have hsz : w.heap.size ≤ W.heap.size := hw.size
  rcases Decidable.em (s1.2 = 0) with hb0 | hb0
  · rcases Nat.lt_or_ge 64 n with h64 | h64
    · have hbb : (((s1.2 : Nat) : Int) != 0) = false := by simp [hb0]
      have hnI : (64 : Int) < (n : Int) := by omega
      have HT := Lib.hid (tr_start HNUM.out (.inr h64))
      clear hb0
      go_wp2_with fail
      refine (rfail5_any (s := s1) 3 _).mono ?_
      rintro e w9 ⟨rfl, hb9⟩
      have hZ9 := hZ.below hb9
      obtain ⟨z0, z1, zf0, zf1⟩ := hZ9.two
      go_wp2_with fail
      exact bodyPost_ret (res_r2 rfl rfl (g := w.heap.size + 1) (hZ9.set2 _ _)) rfl ⟨none, 0, [], _, rfl, (show _ = _ from by rw [HT.out]), Own.none_ _ _ _ _, by rw [HT.out]; exact RV_fail 3 (SlB.apart hS hBd hBB (((Below.refl _ _).trans (hb9.mono hsz)).setCell (by dsimp only; omega) _ |>.setCell (by dsimp only; omega) _)) hBd, bel_set (bel_set (bel_call hw hb9) (by dsimp only; omega) _) (by dsimp only; omega) _⟩
    · have hbb : (((s1.2 : Nat) : Int) != 0) = false := by simp [hb0]
      have hnI : (n : Int) ≤ 64 := by omega
      have HB0 := Lib.hid hb0
      clear hb0
      have hb1 := below_new W (.cells #[] 117)
      have ht0 : tkNew s = ⟨s1, [], n, [], 1⟩ := by
        unfold tkNew
        rw [HNUM.out]
        dsimp only
        rw [if_neg (by omega), Nat.min_eq_left h64]
      have hM0 : RtM w B (tkNew s) (some ⟨W.heap.size, 0, none⟩) 0 (W.alloc (.cells #[] 117)) := by
        rw [ht0]
        exact ⟨⟨A1, c1, hG.below hb1, Sl.below hS hb1, hBd⟩, hZ.below hb1, Own.lit 2 (by have := hZ.lt; omega), bel_call hw hb1⟩
      have hO0 : TkOk (tkNew s) := by rw [ht0]; exact ⟨by dsimp only [List.length_nil]; omega, by dsimp only; omega, by dsimp only [List.length_nil]; omega, by dsimp only; omega⟩
      have HS0 : Hid ((tkNew s).left + (tkNew s).out.length = n ∧ (tkNew s).out = [] ∧ (tkNew s).last = [] ∧ (tkNew s).kind = 1 ∧ (tkNew s).s.2 = 0) := (show _ ∧ _ from by rw [ht0]; exact ⟨rfl, rfl, rfl, rfl, HB0.out⟩)
      have HM0 := Lib.hid hM0
      have HO0 := Lib.hid hO0
      clear ht0 hM0 hO0 hb1 hG hZ hS
      go_wp2_with fail
      go_loopw [5, 6, 7] (fun s5 s6 s7 wr => ∃ (t : Tk) (E : Option Addr) (d : Nat), s5 = .slice E t.out.length d ∧ s6 = .string ⟨t.last.toArray⟩ ∧ s7 = .int .i64 (rowv t.kind) ∧ Hid (RtM w B t E d wr) ∧ Hid (TkOk t) ∧ Hid (t.left + t.out.length = n) ∧ Hid (t.s.2 = 0) ∧ Hid (tkEnd (tkNew s) = tkEnd t)) (fun s5 s6 s7 wr => n - (match s5 with | .slice _ m _ => m | _ => 0))
      case atStart =>
        obtain ⟨q1, q2, q3, q4, q5⟩ := HS0.out
        exact ⟨tkNew s, _, 0, by rw [q2]; rfl, by rw [q3], by rw [q4]; rfl, HM0.out, HO0.out, q1, q5, (show _ = _ from rfl)⟩
      case round =>
        obtain ⟨t, E, d, rfl, rfl, rfl, hM, hO, hLn, hb0, hE⟩ := hrel
        clear HM0 HO0 HS0 a0 a1 af0 af1 hw hsz
        obtain ⟨hO1, hO2, hO3, hO4⟩ := hO.out
        obtain ⟨⟨A2, c2, hG, hS, hBd⟩, hZ, hOut, hw⟩ := hM.out
        clear hM
        obtain ⟨a0, a1, af0, af1⟩ := hG.two
        have hsz : w.heap.size ≤ wr.heap.size := hw.size
        have hLN := hLn.out
        rcases Nat.eq_zero_or_pos t.left with h0 | h0
        · have hlo : ¬ (t.out.length : Int) < (n : Int) := by omega
          have HT := Lib.hid (tr_done hE.out h0 hb0.out)
          have hX := hG
          clear hLN h0
          have hst : Blk _ w.heap.size 199 #[.slice A2 (t.s).1.length c2, .int .i64 ((t.s).2 : Nat)] ∧ Below w.heap.size w _ := ⟨hX.drew, hw.drew⟩
          have hst1 := hZ.drew
          have hst2 := Sl.drewN hS 1
          have hst3 := World.ownsRow.drew hOut
          go_upto_region 38 with (fail)
          refine wp_region_held_drew (S := (fun W' => Blk W' w.heap.size 199 #[.slice A2 (t.s).1.length c2, .int .i64 ((t.s).2 : Nat)] ∧ Below w.heap.size w W')) (by kernel_rfl) ?_ (fun hHeld => ?_)
          · exact hst
          refine gen0 (T := fun W => ((fun W' => Blk W' w.heap.size 199 #[.slice A2 (t.s).1.length c2, .int .i64 ((t.s).2 : Nat)] ∧ Below w.heap.size w W')) W ∧ Blk W (w.heap.size + 1) 199 #[.slice none 0 0, .int .i64 0] ∧ SlB W A2 c2 (t.s).1 ∧ Own W (w.heap.size + 1 + 1) 117 2 E t.out.length d (t.out.flatMap df) ∧ True) ?_ (fun wq1 hT => ?_)
          · exact ⟨by (first | exact hst | exact hHeld | exact ⟨(hHeld.1.far (by dsimp only; omega) _).far (by dsimp only; omega) _, bel_set (bel_set hHeld.2 (by dsimp only; omega) _) (by dsimp only; omega) _⟩), by (first | assumption | exact hst1 | exact hst2 | exact hst3 | exact SlB.apart f1 hBd hBB (Below.setCell (Below.setCell (Below.refl _ _) (by dsimp only; omega) _) (by dsimp only; omega) _) | exact f2.set2 (by omega) _ _ | exact f0.set2 _ _), by (first | assumption | exact hst1 | exact hst2 | exact hst3 | exact SlB.apart f1 hBd hBB (Below.setCell (Below.setCell (Below.refl _ _) (by dsimp only; omega) _) (by dsimp only; omega) _) | exact f2.set2 (by omega) _ _ | exact f0.set2 _ _), by (first | assumption | exact hst1 | exact hst2 | exact hst3 | exact SlB.apart f1 hBd hBB (Below.setCell (Below.setCell (Below.refl _ _) (by dsimp only; omega) _) (by dsimp only; omega) _) | exact f2.set2 (by omega) _ _ | exact f0.set2 _ _), trivial⟩
          (try clear f0 f1 f2 f3 f4 f5 f6 f7 f8 f9 f10 f11)
          obtain ⟨hHeld, f0, f1, f2, -⟩ := hT
          refine wpAnyH_take (i := 0) (oi := ⟨some 171, _, _, _, _, _⟩) (v := ?_) rfl (by kernel_rfl) (by kernel_rfl) (by kernel_rfl) (fun _ _ _ h => h) (Or.inl ⟨by kernel_rfl, ?_⟩) (by assumption) ?_
          rotate_left
          · (intro wS hSw; (try dsimp only at hSw); obtain ⟨q0, q1, _, _⟩ := hSw.1.two; clear hSw; go_simp; (try with_reducible rfl))
          (try simp only [Act.put, List.setIfInBounds_toArray, List.set_cons_zero, List.set_cons_succ])
          refine wpAnyH_take (i := 1) (oi := ⟨some 172, _, _, _, _, _⟩) (v := ?_) rfl (by kernel_rfl) (by kernel_rfl) (by kernel_rfl) (fun _ _ _ h => h) (Or.inl ⟨by kernel_rfl, ?_⟩) (by assumption) ?_
          rotate_left
          · (intro wS hSw; (try dsimp only at hSw); obtain ⟨q0, q1, _, _⟩ := hSw.1.two; clear hSw; go_simp; (try with_reducible rfl))
          (try simp only [Act.put, List.setIfInBounds_toArray, List.set_cons_zero, List.set_cons_succ])
          refine wpAnyH_take (i := 2) (oi := ⟨some 2, _, _, _, _, _⟩) (v := ?_) rfl (by kernel_rfl) (by kernel_rfl) (by kernel_rfl) (fun _ _ _ h => h) (Or.inl ⟨by kernel_rfl, ?_⟩) (by assumption) ?_
          rotate_left
          · (intro wS hSw; (try dsimp only at hSw); obtain ⟨q0, q1, _, _⟩ := hSw.1.two; clear hSw; go_simp; (try with_reducible rfl))
          (try simp only [Act.put, List.setIfInBounds_toArray, List.set_cons_zero, List.set_cons_succ])
          refine wpAnyH_ready (rs := [3]) (by kernel_rfl) (by simp) ?_
          refine AllReadyH.cons (o := ⟨none, _, _, _, _, _⟩) rfl (fun K hK => ?_) AllReadyH.nil
          obtain ⟨s0, s1, sf0, sf1⟩ := f0.two
          go_simp
          refine hK.out _ _ ?_ (fun _ => ?_)
          · ((try dsimp only); (first | exact hst | exact hHeld | exact ⟨(hHeld.1.far (by dsimp only; omega) _).far (by dsimp only; omega) _, bel_set (bel_set hHeld.2 (by dsimp only; omega) _) (by dsimp only; omega) _⟩))
          clear hK K
          (try simp only [Act.put, List.setIfInBounds_toArray, List.set_cons_zero, List.set_cons_succ])
          refine gen0 (T := fun W => ((fun W' => Blk W' w.heap.size 199 #[.slice A2 (t.s).1.length c2, .int .i64 ((t.s).2 : Nat)] ∧ Below w.heap.size w W')) W ∧ SlB W A2 c2 (t.s).1 ∧ Own W (w.heap.size + 1 + 1) 117 2 E t.out.length d (t.out.flatMap df) ∧ Blk W (w.heap.size + 1) 199 #[.slice A2 (t.s).1.length c2, .int .i64 ((t.s).2 : Nat)] ∧ True) ?_ (fun wq2 hT => ?_)
          · exact ⟨by (first | exact hst | exact hHeld | exact ⟨(hHeld.1.far (by dsimp only; omega) _).far (by dsimp only; omega) _, bel_set (bel_set hHeld.2 (by dsimp only; omega) _) (by dsimp only; omega) _⟩), by (first | assumption | exact hst1 | exact hst2 | exact hst3 | exact SlB.apart f1 hBd hBB (Below.setCell (Below.setCell (Below.refl _ _) (by dsimp only; omega) _) (by dsimp only; omega) _) | exact f2.set2 (by omega) _ _ | exact f0.set2 _ _), by (first | assumption | exact hst1 | exact hst2 | exact hst3 | exact SlB.apart f1 hBd hBB (Below.setCell (Below.setCell (Below.refl _ _) (by dsimp only; omega) _) (by dsimp only; omega) _) | exact f2.set2 (by omega) _ _ | exact f0.set2 _ _), by (first | assumption | exact hst1 | exact hst2 | exact hst3 | exact SlB.apart f1 hBd hBB (Below.setCell (Below.setCell (Below.refl _ _) (by dsimp only; omega) _) (by dsimp only; omega) _) | exact f2.set2 (by omega) _ _ | exact f0.set2 _ _), trivial⟩
          (try clear f0 f1 f2 f3 f4 f5 f6 f7 f8 f9 f10 f11)
          obtain ⟨hHeld, f0, f1, f2, -⟩ := hT
          refine wpAnyH_done (by kernel_rfl) ?_ _
          go_wp2_with fail
          exact bodyPost_ret (res_r2 rfl rfl (g := w.heap.size + 1) f2) rfl ⟨E, d, t.out, _, rfl, (show _ = _ from by rw [HT.out]), f1.more (by omega), by rw [HT.out]; exact ⟨A2, c2, rfl, f0, hBd⟩, hHeld.2⟩
        · have hlo : (t.out.length : Int) < (n : Int) := by omega
          have hN := fun W (h : SlB W A2 c2 t.s.1) => rNumber_any (bad := t.s.2) W h hBd
          have hu2 := rNum_u64 t.s
          have hnl2 := rNum_len t.s
          obtain ⟨many, s2, hn2⟩ : ∃ n s1, rNum t.s = (n, s1) := ⟨_, _, rfl⟩
          rw [show (t.s.1, t.s.2) = t.s from rfl, hn2] at hN
          rw [hn2] at hu2 hnl2
          dsimp only at hu2 hnl2
          have HN := Lib.hid hN
          have HN2 := Lib.hid hn2
          clear hN hn2
          go_wp2_with fail
          refine (HN.out _ hS).mono ?_
          rintro e w2 ⟨v, rfl, ⟨A3, c3, rfl, hS3, hBd3⟩, hb2⟩
          dsimp only at hS3 hBd3
          clear HN hBd
          have hBd := hBd3
          clear hBd3
          -- a reader's value s2 in world w2 goes to a new box and to the reader's own
          obtain ⟨hG3, hZ3, hw3, hS4⟩ := rt_store (hG.below hb2) (hZ.below hb2) (bel_call hw hb2) hS3 hBd hBB (.slice A3 (s2).1.length c3) (.int .i64 ((s2).2 : Nat))
          have hOut3 := Own.set2 (Own.below hOut hb2) (g := w.heap.size) (by omega) (.slice A3 (s2).1.length c3) (.int .i64 ((s2).2 : Nat))
          have hg9 : w.heap.size + 1 < (w2).heap.size := Nat.lt_of_lt_of_le hZ.lt hb2.size
          obtain ⟨W1, hW1⟩ : ∃ W1, W1 = ((w2).setCell ⟨w.heap.size, 0, none⟩ (.slice A3 (s2).1.length c3)).setCell ⟨w.heap.size, 1, none⟩ (.int .i64 ((s2).2 : Nat)) := ⟨_, rfl⟩
          have hge : W1.heap.size = (w2).heap.size := by rw [hW1]; simp
          rw [← hW1] at hG3 hZ3 hw3 hS4 hOut3
          have hbx := below_new W1 (.cells #[.slice A3 (s2).1.length c3, .int .i64 ((s2).2 : Nat)] 199)
          have hX3 := Blk.newAt (w := W1) (g := (w2).heap.size) hge.symm 199 #[.slice A3 (s2).1.length c3, .int .i64 ((s2).2 : Nat)]
          replace hG3 := hG3.below hbx
          replace hZ3 := hZ3.below hbx
          replace hw3 := bel_call hw3 hbx
          replace hS4 := Sl.below hS4 hbx
          replace hOut3 := Own.below hOut3 hbx
          subst hW1
          obtain ⟨b0, b1, bf0, bf1⟩ := (hG.below hb2).two
          have hlt0 : w.heap.size < (w2).heap.size := by omega
          clear hG hZ hw hS hOut hbx hb2 a0 a1 af0 af1 hsz hS3 hge
          go_upto_region 9 with (fail)
          clear b0 b1 bf0 bf1 hlt0
          generalize hWe : (((w2).setCell { block := w.heap.size, off := 0 } (Value.slice A3 (s2).1.length c3)).setCell { block := w.heap.size, off := 1 } (Value.int IntKind.i64 ((s2).2 : Nat))).alloc (.cells #[.slice A3 (s2).1.length c3, .int .i64 ((s2).2 : Nat)] 199) = W2 at *
          clear hWe
          generalize hge : (w2).heap.size = g9 at *
          clear hge
          have hG := hG3
          have hZ := hZ3
          have hw := hw3
          have hS := hS4
          have hOut := hOut3
          clear hG3 hZ3 hw3 hS4 hOut3
          have hsz : w.heap.size ≤ (W2).heap.size := hw.size
          obtain ⟨a0, a1, af0, af1⟩ := hG.two
          rcases Decidable.em (s2.2 = 0) with hb2 | hb2
          · have hbb2 : (((s2.2 : Nat) : Int) != 0) = false := by simp [hb2]
            rcases Nat.eq_zero_or_pos many with hm0 | hm0
            · have hmI : ¬ (0 : Int) < (many : Int) := by omega
              have HB2 := Lib.hid hb2
              have hX := hX3
              clear hX3 hb2
              have hN := fun W (h : SlB W A3 c3 s2.1) => rNumber_any (bad := s2.2) W h hBd
              have hu5 := rNum_u64 s2
              have hnl5 := rNum_len s2
              obtain ⟨sz, s5, hn5⟩ : ∃ n s1, rNum s2 = (n, s1) := ⟨_, _, rfl⟩
              rw [show (s2.1, s2.2) = s2 from rfl, hn5] at hN
              rw [hn5] at hu5 hnl5
              dsimp only at hu5 hnl5
              have HN := Lib.hid hN
              have HN5 := Lib.hid hn5
              clear hN hn5 hLN
              go_wp2_with fail
              refine (HN.out _ hS).mono ?_
              rintro e w5 ⟨v, rfl, ⟨A5, c5, rfl, hS3, hBd5⟩, hb2⟩
              dsimp only at hS3 hBd5
              clear HN hBd a0 a1 af0 af1
              have hBd := hBd5
              clear hBd5
              have x0 := 0
              have x1 := 0
              have xf0 := 0
              have xf1 := 0
              obtain ⟨hX4, hG4, hZ4, hw4, hOut4, hS4⟩ := rt_store9 (hX.below hb2) (hG.below hb2) (hZ.below hb2) (bel_call hw hb2) (Own.below hOut hb2) hS3 hBd hBB hg9 (.slice A5 (s5).1.length c5) (.int .i64 ((s5).2 : Nat))
              obtain ⟨b0, b1, bf0, bf1⟩ := (hX.below hb2).two
              clear hX hG hZ hw hS hOut hb2 x0 x1 xf0 xf1 hsz hS3
              go_upto_region 24 with (fail)
              clear b0 b1 bf0 bf1
              generalize hWe : ((w5).setCell { block := g9, off := 0 } (Value.slice A5 (s5).1.length c5)).setCell { block := g9, off := 1 } (Value.int IntKind.i64 ((s5).2 : Nat)) = W5 at *
              clear hWe
              have hX := hX4
              have hG := hG4
              have hZ := hZ4
              have hw := hw4
              have hS := hS4
              have hOut := hOut4
              clear hX4 hG4 hZ4 hw4 hS4 hOut4
              have hsz : w.heap.size ≤ (W5).heap.size := hw.size
              obtain ⟨x0, x1, xf0, xf1⟩ := hX.two
              have hlongT : s5.2 ≠ 0 ∨ 64 < sz → takeRun s = ([], rFail 3 s5) := fun hc => by
                have h1 := st_long HN2.out HN5.out HB2.out hm0 hc
                have h2 := tr_bad hE.out h0 hb0.out rfl (by rw [h1]; exact rFail_bad (by decide))
                rw [h1] at h2
                exact h2
              rcases Decidable.em (s5.2 = 0) with hb5 | hb5
              · have hbb5 : (((s5.2 : Nat) : Int) != 0) = false := by simp [hb5]
                rcases Nat.lt_or_ge 64 sz with hz | hz
                · have hzI : (64 : Int) < (sz : Int) := by omega
                  have HT := Lib.hid (hlongT (.inr hz))
                  clear hlongT hb5
                  go_wp2_with fail
                  refine (rfail5_any (s := s5) 3 _).mono ?_
                  rintro e w9 ⟨rfl, hb9⟩
                  have hZ9 := hZ.below hb9
                  obtain ⟨z0, z1, zf0, zf1⟩ := hZ9.two
                  go_wp2_with fail
                  exact bodyPost_ret (res_r2 rfl rfl (g := w.heap.size + 1) (hZ9.set2 _ _)) rfl ⟨none, 0, [], _, rfl, (show _ = _ from by rw [HT.out]), Own.none_ _ _ _ _, by rw [HT.out]; exact RV_fail 3 (SlB.apart hS hBd hBB (((Below.refl _ _).trans (hb9.mono hsz)).setCell (by dsimp only; omega) _ |>.setCell (by dsimp only; omega) _)) hBd, bel_set (bel_set (bel_call hw hb9) (by dsimp only; omega) _) (by dsimp only; omega) _⟩
                · have hzI : (sz : Int) ≤ 64 := by omega
                  have hN := fun W (h : SlB W A5 c5 s5.1) => rNumber_any (bad := s5.2) W h hBd
                  have hu6 := rNum_u64 s5
                  have hnl6 := rNum_len s5
                  obtain ⟨k, s6, hn6⟩ : ∃ n s1, rNum s5 = (n, s1) := ⟨_, _, rfl⟩
                  rw [show (s5.1, s5.2) = s5 from rfl, hn6] at hN
                  rw [hn6] at hu6 hnl6
                  dsimp only at hu6 hnl6
                  have HN := Lib.hid hN
                  have HN6 := Lib.hid hn6
                  clear hN hn6 hlongT hb5
                  go_wp2_with fail
                  refine (HN.out _ hS).mono ?_
                  rintro e w6 ⟨v, rfl, ⟨A6, c6, rfl, hS3, hBd6⟩, hb2⟩
                  dsimp only at hS3 hBd6
                  clear HN hBd
                  have hBd := hBd6
                  clear hBd6
                  obtain ⟨hX4, hG4, hZ4, hw4, hOut4, hS4⟩ := rt_store9 (hX.below hb2) (hG.below hb2) (hZ.below hb2) (bel_call hw hb2) (Own.below hOut hb2) hS3 hBd hBB hg9 (.slice A6 (s6).1.length c6) (.int .i64 ((s6).2 : Nat))
                  obtain ⟨b0, b1, bf0, bf1⟩ := (hX.below hb2).two
                  clear hX hG hZ hw hS hOut hb2 x0 x1 xf0 xf1 hsz hS3
                  go_upto_region 27 with (fail)
                  clear b0 b1 bf0 bf1
                  generalize hWe : ((w6).setCell { block := g9, off := 0 } (Value.slice A6 (s6).1.length c6)).setCell { block := g9, off := 1 } (Value.int IntKind.i64 ((s6).2 : Nat)) = W6 at *
                  clear hWe
                  have hX := hX4
                  have hG := hG4
                  have hZ := hZ4
                  have hw := hw4
                  have hS := hS4
                  have hOut := hOut4
                  clear hX4 hG4 hZ4 hw4 hS4 hOut4
                  have hsz : w.heap.size ≤ (W6).heap.size := hw.size
                  obtain ⟨x0, x1, xf0, xf1⟩ := hX.two
                  have hshT : s6.2 ≠ 0 ∨ sz < k ∨ t.last.length < k → takeRun s = ([], rFail 2 s6) := fun hc => by
                    have h1 := st_share HN2.out HN5.out HB2.out hm0 hz HN6.out hc
                    have h2 := tr_bad hE.out h0 hb0.out rfl (by rw [h1]; exact rFail_bad (by decide))
                    rw [h1] at h2
                    exact h2
                  rcases Decidable.em (s6.2 = 0) with hb6 | hb6
                  · have hbb6 : (((s6.2 : Nat) : Int) != 0) = false := by simp [hb6]
                    rcases Nat.lt_or_ge sz k with hk1 | hk1
                    · have hkI : (sz : Int) < (k : Int) := by omega
                      have HT := Lib.hid (hshT (.inr (.inl hk1)))
                      clear hshT hb6
                      go_wp2_with fail
                      refine (rfail5_any (s := s6) 2 _).mono ?_
                      rintro e w9 ⟨rfl, hb9⟩
                      have hZ9 := hZ.below hb9
                      obtain ⟨z0, z1, zf0, zf1⟩ := hZ9.two
                      go_wp2_with fail
                      exact bodyPost_ret (res_r2 rfl rfl (g := w.heap.size + 1) (hZ9.set2 _ _)) rfl ⟨none, 0, [], _, rfl, (show _ = _ from by rw [HT.out]), Own.none_ _ _ _ _, by rw [HT.out]; exact RV_fail 2 (SlB.apart hS hBd hBB (((Below.refl _ _).trans (hb9.mono hsz)).setCell (by dsimp only; omega) _ |>.setCell (by dsimp only; omega) _)) hBd, bel_set (bel_set (bel_call hw hb9) (by dsimp only; omega) _) (by dsimp only; omega) _⟩
                    · have hkI : (k : Int) ≤ (sz : Int) := by omega
                      rcases Nat.lt_or_ge t.last.length k with hk2 | hk2
                      · have hkJ : (t.last.length : Int) < (k : Int) := by omega
                        have HT := Lib.hid (hshT (.inr (.inr hk2)))
                        clear hshT hb6
                        go_wp2_with fail
                        refine (rfail5_any (s := s6) 2 _).mono ?_
                        rintro e w9 ⟨rfl, hb9⟩
                        have hZ9 := hZ.below hb9
                        obtain ⟨z0, z1, zf0, zf1⟩ := hZ9.two
                        go_wp2_with fail
                        exact bodyPost_ret (res_r2 rfl rfl (g := w.heap.size + 1) (hZ9.set2 _ _)) rfl ⟨none, 0, [], _, rfl, (show _ = _ from by rw [HT.out]), Own.none_ _ _ _ _, by rw [HT.out]; exact RV_fail 2 (SlB.apart hS hBd hBB (((Below.refl _ _).trans (hb9.mono hsz)).setCell (by dsimp only; omega) _ |>.setCell (by dsimp only; omega) _)) hBd, bel_set (bel_set (bel_call hw hb9) (by dsimp only; omega) _) (by dsimp only; omega) _⟩
                      · have hkJ : (k : Int) ≤ (t.last.length : Int) := by omega
                        obtain ⟨nk, hnk⟩ : ∃ nk, sz - k = nk := ⟨_, rfl⟩
                        have hN := fun W (h : SlB W A6 c6 s6.1) => rFixed_any (bad := s6.2) (nk : Int) W h hBd
                        have hnl7 := rFixed_len (nk : Int) s6
                        have hfl := rFixed_le nk s6
                        obtain ⟨fx, s7, hf7⟩ : ∃ f s, rFixed (nk : Int) s6 = (f, s) := ⟨_, _, rfl⟩
                        rw [show (s6.1, s6.2) = s6 from rfl, hf7] at hN
                        rw [hf7] at hnl7 hfl
                        dsimp only at hnl7 hfl
                        have hfl2 : fx.length ≤ 64 := by omega
                        have HN := Lib.hid hN
                        have HF7 := Lib.hid (show rFixed ((sz - k : Nat) : Int) s6 = (fx, s7) from by rw [hnk]; exact hf7)
                        have HB6 := Lib.hid hb6
                        have hw1 : IntKind.u64.wrap ((sz : Int) - (k : Int)) = (nk : Int) := by rw [IntKind.wrap_u64]; omega
                        have hw2 : IntKind.i64.wrap (nk : Int) = (nk : Int) := by rw [IntKind.wrap_i64]; omega
                        have hw3 : (sz : Int) - (k : Int) = (nk : Int) := by omega
                        clear hN hf7 hshT hb6 hnk
                        go_wp2_with fail
                        refine (HN.out _ hS).mono ?_
                        rintro e w7 ⟨A8, c8, m8, v, rfl, hm8, hS8, ⟨A7, c7, rfl, hS3, hBd7⟩, hb2⟩
                        dsimp only at hS3 hBd7 hm8
                        clear HN hBd hw1 hw2 hw3
                        have hBd := hBd7
                        clear hBd7
                        have hS9 : SlB ((w7.setCell ⟨g9, 0, none⟩ (.slice A7 s7.1.length c7)).setCell ⟨g9, 1, none⟩ (.int .i64 (s7.2 : Nat))) A8 c8 m8 := SlB.wr hS8 (hX.below hb2) (slice_ne _ _ _) (inti_ne _) (((Wr.refl _ _).set_ 0 _).set_ 1 _)
                        clear hS8
                        obtain ⟨hX4, hG4, hZ4, hw4, hOut4, hS4⟩ := rt_store9 (hX.below hb2) (hG.below hb2) (hZ.below hb2) (bel_call hw hb2) (Own.below hOut hb2) hS3 hBd hBB hg9 (.slice A7 (s7).1.length c7) (.int .i64 ((s7).2 : Nat))
                        obtain ⟨b0, b1, bf0, bf1⟩ := (hX.below hb2).two
                        clear hX hG hZ hw hS hOut hb2 x0 x1 xf0 xf1 hsz hS3
                        go_upto_region 30 with (fail)
                        clear b0 b1 bf0 bf1
                        generalize hWe : ((w7).setCell { block := g9, off := 0 } (Value.slice A7 (s7).1.length c7)).setCell { block := g9, off := 1 } (Value.int IntKind.i64 ((s7).2 : Nat)) = W7 at *
                        clear hWe
                        have hX := hX4
                        have hG := hG4
                        have hZ := hZ4
                        have hw := hw4
                        have hS := hS4
                        have hOut := hOut4
                        clear hX4 hG4 hZ4 hw4 hS4 hOut4
                        have hsz : w.heap.size ≤ (W7).heap.size := hw.size
                        obtain ⟨x0, x1, xf0, xf1⟩ := hX.two
                        rcases Decidable.em (s7.2 = 0) with hb7 | hb7
                        · have hbb7 : (((s7.2 : Nat) : Int) != 0) = false := by simp [hb7]
                          obtain ⟨hG8, hZ8, hw8, hS8⟩ := rt_store hG hZ hw hS hBd hBB (.slice A7 s7.1.length c7) (.int .i64 (s7.2 : Nat))
                          have hOut8 := Own.set2 hOut (g := w.heap.size) (by omega) (.slice A7 s7.1.length c7) (.int .i64 (s7.2 : Nat))
                          have hS10 : SlB ((W7.setCell ⟨w.heap.size, 0, none⟩ (.slice A7 s7.1.length c7)).setCell ⟨w.heap.size, 1, none⟩ (.int .i64 (s7.2 : Nat))) A8 c8 m8 := SlB.wr hS9 hG (slice_ne _ _ _) (inti_ne _) (((Wr.refl _ _).set_ 0 _).set_ 1 _)
                          obtain ⟨b0, b1, bf0, bf1⟩ := hG.two
                          have HB7 := Lib.hid hb7
                          obtain ⟨tx, htx⟩ : ∃ tx, tx = t.last.take k ++ fx := ⟨_, rfl⟩
                          have htl : tx.length ≤ 1000000 := by
                            rw [htx, List.length_append, List.length_take]
                            have := Nat.min_le_left k t.last.length
                            omega
                          have HTX := Lib.hid htx
                          have HM8 := Lib.hid (show m8 = fx from hm8.out)
                          clear hX hG hZ hw hS hOut hS9 hb7 htx hm8
                          go_upto_region 33 with (fail)
                          clear b0 b1 bf0 bf1 x0 x1 xf0 xf1
                          generalize hWe : ((W7.setCell { block := w.heap.size, off := 0 } (Value.slice A7 s7.1.length c7)).setCell { block := w.heap.size, off := 1 } (Value.int IntKind.i64 (s7.2 : Nat))) = W8 at *
                          clear hWe hsz
                          have hG := hG8
                          have hZ := hZ8
                          have hw := hw8
                          have hS := hS8
                          have hOut := hOut8
                          clear hG8 hZ8 hw8 hS8 hOut8
                          have hst : Below W8.heap.size W8 W8.drew := (Below.refl _ _).drew
                          have hk0 : (0 : Int) ≤ (k : Int) := by omega
                          have HCV := Lib.hid (fun (W : World) (hb : Below W8.heap.size W8 W) => conv_str (P := Tryz.prog) 29 9 5 Tryz.underlying29 Tryz.underlying5 Tryz.underlying9 (Sl.below hS10 hb) rfl)
                          have hm8l : m8.length ≤ 64 := by rw [HM8.out]; exact hfl2
                          have hkm : ¬ 9223372036854775807 < k + m8.length := by omega
                          have hxe : (({ data := t.last.toArray } : ByteArray).extract 0 k ++ ({ data := m8.toArray } : ByteArray)) = ⟨tx.toArray⟩ := by rw [ba_cat, HTX.out, HM8.out]
                          refine wp_region_held_drew (S := (fun W => Below W8.heap.size W8 W)) (by kernel_rfl) ?_ (fun hHeld => ?_)
                          · exact hst
                          refine gen0 (T := fun W => ((fun W => Below W8.heap.size W8 W)) W ∧ True) ?_ (fun wq1 hT => ?_)
                          · exact ⟨by (first | exact hst | exact hHeld), trivial⟩
                          (try clear f0 f1 f2 f3 f4 f5 f6 f7 f8 f9 f10 f11)
                          obtain ⟨hHeld, -⟩ := hT
                          refine wpAnyH_take (i := 0) (oi := ⟨some 149, _, _, _, _, _⟩) (v := ?_) rfl (by kernel_rfl) (by kernel_rfl) (by kernel_rfl) (fun _ _ _ h => h) (Or.inl ⟨by kernel_rfl, ?_⟩) (by assumption) ?_
                          rotate_left
                          · (intro wS hSw; (try dsimp only at hSw); have hcv := HCV.out _ hSw; clear hSw; go_simp; (try with_reducible rfl))
                          (try simp only [Act.put, List.setIfInBounds_toArray, List.set_cons_zero, List.set_cons_succ])
                          refine wpAnyH_take (i := 1) (oi := ⟨some 150, _, _, _, _, _⟩) (v := ?_) rfl (by kernel_rfl) (by kernel_rfl) (by kernel_rfl) (fun _ _ _ h => h) (Or.inl ⟨by kernel_rfl, ?_⟩) (by assumption) ?_
                          rotate_left
                          · (intro wS hSw; (try dsimp only at hSw); have hcv := HCV.out _ hSw; clear hSw; go_simp; (try with_reducible rfl))
                          (try simp only [Act.put, List.setIfInBounds_toArray, List.set_cons_zero, List.set_cons_succ])
                          refine wpAnyH_take (i := 2) (oi := ⟨some 151, _, _, _, _, _⟩) (v := ?_) rfl (by kernel_rfl) (by kernel_rfl) (by kernel_rfl) (fun _ _ _ h => h) (Or.inl ⟨by kernel_rfl, ?_⟩) (by assumption) ?_
                          rotate_left
                          · (intro wS hSw; (try dsimp only at hSw); have hcv := HCV.out _ hSw; clear hSw; go_simp; (try with_reducible rfl))
                          (try simp only [Act.put, List.setIfInBounds_toArray, List.set_cons_zero, List.set_cons_succ])
                          refine wpAnyH_take (i := 3) (oi := ⟨some 152, _, _, _, _, _⟩) (v := ?_) rfl (by kernel_rfl) (by kernel_rfl) (by kernel_rfl) (fun _ _ _ h => h) (Or.inl ⟨by kernel_rfl, ?_⟩) (by assumption) ?_
                          rotate_left
                          · (intro wS hSw; (try dsimp only at hSw); have hcv := HCV.out _ hSw; clear hSw; go_simp; (try with_reducible rfl))
                          (try simp only [Act.put, List.setIfInBounds_toArray, List.set_cons_zero, List.set_cons_succ])
                          refine wpAnyH_take (i := 4) (oi := ⟨some 153, _, _, _, _, _⟩) (v := ?_) rfl (by kernel_rfl) (by kernel_rfl) (by kernel_rfl) (fun _ _ _ h => h) (Or.inl ⟨by kernel_rfl, ?_⟩) (by assumption) ?_
                          rotate_left
                          · (intro wS hSw; (try dsimp only at hSw); have hcv := HCV.out _ hSw; clear hSw; go_simp; (try with_reducible rfl))
                          (try simp only [Act.put, List.setIfInBounds_toArray, List.set_cons_zero, List.set_cons_succ])
                          refine wpAnyH_take (i := 5) (oi := ⟨some 154, _, _, _, _, _⟩) (v := ?_) rfl (by kernel_rfl) (by kernel_rfl) (by kernel_rfl) (fun _ _ _ h => h) (Or.inl ⟨by kernel_rfl, ?_⟩) (by assumption) ?_
                          rotate_left
                          · (intro wS hSw; (try dsimp only at hSw); have hcv := HCV.out _ hSw; clear hSw; go_simp; (try with_reducible rfl))
                          (try simp only [Act.put, List.setIfInBounds_toArray, List.set_cons_zero, List.set_cons_succ])
                          refine wpAnyH_take (i := 6) (oi := ⟨some 16, _, _, _, _, _⟩) (v := ?_) rfl (by kernel_rfl) (by kernel_rfl) (by kernel_rfl) (fun _ _ _ h => h) (Or.inl ⟨by kernel_rfl, ?_⟩) (by assumption) ?_
                          rotate_left
                          · (intro wS hSw; (try dsimp only at hSw); have hcv := HCV.out _ hSw; clear hSw; go_simp; (try with_reducible rfl))
                          (try simp only [Act.put, List.setIfInBounds_toArray, List.set_cons_zero, List.set_cons_succ])
                          refine wpAnyH_done (by kernel_rfl) ?_ _
                          have hck : IntKind.i64.wrap (k : Int) = (k : Int) := by rw [IntKind.wrap_i64]; omega
                          clear hxe hkm HCV
                          go_wp2_with fail
                          refine (common_any tx t.last _ htl (by omega)).mono ?_
                          rintro e w10 ⟨rfl, hb10⟩
                          rw [cpl_comm tx t.last]
                          have hb11 := bel_call hHeld hb10
                          replace hG := hG.below hb11
                          replace hZ := hZ.below hb11
                          replace hS := Sl.below hS hb11
                          replace hw := bel_call hw hb11
                          replace hOut := Own.below hOut hb11
                          have hsz : w.heap.size ≤ w10.heap.size := hw.size
                          clear hHeld hb10 hb11 hst hS10
                          obtain ⟨a0, a1, af0, af1⟩ := hG.two
                          by_cases hcp : cpl t.last tx = k
                          · have hci : (((cpl t.last tx : Nat) : Int) != (k : Int)) = false := by simp [hcp]
                            have hst := st_textok HN2.out HN5.out HB2.out hm0 hz HN6.out hk1 hk2 HB6.out HF7.out HB7.out HTX.out hcp
                            have hE2 := tkEnd_step (t := t) (by omega) hb0.out
                            have hok := tkStep_ok hO.out h0 (by rw [hst]; exact HB7.out)
                            rw [hst] at hE2 hok
                            have HE2 := Lib.hid (hE.out.trans hE2)
                            have HOK := Lib.hid hok
                            have hol2 : t.out.length ≤ 200 := by omega
                            have hzl := hZ.lt
                            clear hcp hst hE2 hok
                            go_wp2_with (at_builtin; go_must (refine wpl_dcell rfl _ _ rfl (w.heap.size + 1 + 1) E d t.out (1, tx) rfl hOut rfl (by omega) hzl ?_; intro A9 c9 m9 w9 hm9 ho9 hb9))
                            go_roundw
                            case rel => exact ⟨⟨s7, m9, t.left - 1, tx, 1⟩, A9, c9, rfl, rfl, rfl, (show RtM _ _ _ _ _ _ from ⟨⟨A7, c7, (hb9.block _ (by omega)).trans hG, SlB.apart hS hBd (by omega) hb9, hBd⟩, (hb9.block _ (by omega)).trans hZ, ho9, hw.trans (hb9.mono (by omega))⟩), (show TkOk _ from by rw [hm9.out]; exact HOK.out), (show _ = _ from by have := hLn.out; dsimp only; rw [hm9.out, List.length_append, List.length_singleton]; omega), HB7.out, (show _ = _ from by rw [hm9.out]; exact HE2.out)⟩
                            case measure =>
                              have := hLn.out
                              dsimp only
                              rw [hm9.out, List.length_append, List.length_singleton]
                              omega
                          · have hci : (((cpl t.last tx : Nat) : Int) != (k : Int)) = true := by simp; omega
                            have h1 := st_textbad HN2.out HN5.out HB2.out hm0 hz HN6.out hk1 hk2 HB6.out HF7.out HB7.out HTX.out hcp
                            have h2 := tr_bad hE.out h0 hb0.out rfl (by rw [h1]; exact rFail_bad (by decide))
                            rw [h1] at h2
                            have HT := Lib.hid h2
                            clear h1 h2 hcp
                            go_wp2_with fail
                            refine (rfail5_any (s := s7) 2 _).mono ?_
                            rintro e w9 ⟨rfl, hb9⟩
                            have hZ9 := hZ.below hb9
                            obtain ⟨z0, z1, zf0, zf1⟩ := hZ9.two
                            go_wp2_with fail
                            exact bodyPost_ret (res_r2 rfl rfl (g := w.heap.size + 1) (hZ9.set2 _ _)) rfl ⟨none, 0, [], _, rfl, (show _ = _ from by rw [HT.out]), Own.none_ _ _ _ _, by rw [HT.out]; exact RV_fail 2 (SlB.apart hS hBd hBB (((Below.refl _ _).trans (hb9.mono hsz)).setCell (by dsimp only; omega) _ |>.setCell (by dsimp only; omega) _)) hBd, bel_set (bel_set (bel_call hw hb9) (by dsimp only; omega) _) (by dsimp only; omega) _⟩
                        · have hbb7 : (((s7.2 : Nat) : Int) != 0) = true := by simp; omega
                          have h1 := st_fixbad HN2.out HN5.out HB2.out hm0 hz HN6.out hk1 hk2 HB6.out HF7.out hb7
                          have h2 := tr_bad hE.out h0 hb0.out rfl (by rw [h1]; exact hb7)
                          rw [h1] at h2
                          have HT := Lib.hid h2
                          clear h1 h2 hb7
                          have hst : Blk _ g9 199 #[.slice A7 (s7).1.length c7, .int .i64 ((s7).2 : Nat)] ∧ Below w.heap.size w _ := ⟨hX.drew, hw.drew⟩
                          have hst1 := hZ.drew
                          have hst2 := Sl.drewN hS 1
                          have hst3 := World.ownsRow.drew hOut
                          go_upto_region 31 with (fail)
                          refine wp_region_held_drew (S := (fun W' => Blk W' g9 199 #[.slice A7 (s7).1.length c7, .int .i64 ((s7).2 : Nat)] ∧ Below w.heap.size w W')) (by kernel_rfl) ?_ (fun hHeld => ?_)
                          · exact hst
                          refine gen0 (T := fun W => ((fun W' => Blk W' g9 199 #[.slice A7 (s7).1.length c7, .int .i64 ((s7).2 : Nat)] ∧ Below w.heap.size w W')) W ∧ Blk W (w.heap.size + 1) 199 #[.slice none 0 0, .int .i64 0] ∧ SlB W A7 c7 (s7).1 ∧ Own W (w.heap.size + 1 + 1) 117 2 E t.out.length d (t.out.flatMap df) ∧ True) ?_ (fun wq1 hT => ?_)
                          · exact ⟨by (first | exact hst | exact hHeld | exact ⟨(hHeld.1.far (by dsimp only; omega) _).far (by dsimp only; omega) _, bel_set (bel_set hHeld.2 (by dsimp only; omega) _) (by dsimp only; omega) _⟩), by (first | assumption | exact hst1 | exact hst2 | exact hst3 | exact SlB.apart f1 hBd hBB (Below.setCell (Below.setCell (Below.refl _ _) (by dsimp only; omega) _) (by dsimp only; omega) _) | exact f2.set2 (by omega) _ _ | exact f0.set2 _ _), by (first | assumption | exact hst1 | exact hst2 | exact hst3 | exact SlB.apart f1 hBd hBB (Below.setCell (Below.setCell (Below.refl _ _) (by dsimp only; omega) _) (by dsimp only; omega) _) | exact f2.set2 (by omega) _ _ | exact f0.set2 _ _), by (first | assumption | exact hst1 | exact hst2 | exact hst3 | exact SlB.apart f1 hBd hBB (Below.setCell (Below.setCell (Below.refl _ _) (by dsimp only; omega) _) (by dsimp only; omega) _) | exact f2.set2 (by omega) _ _ | exact f0.set2 _ _), trivial⟩
                          (try clear f0 f1 f2 f3 f4 f5 f6 f7 f8 f9 f10 f11)
                          obtain ⟨hHeld, f0, f1, f2, -⟩ := hT
                          refine wpAnyH_take (i := 0) (oi := ⟨some 147, _, _, _, _, _⟩) (v := ?_) rfl (by kernel_rfl) (by kernel_rfl) (by kernel_rfl) (fun _ _ _ h => h) (Or.inl ⟨by kernel_rfl, ?_⟩) (by assumption) ?_
                          rotate_left
                          · (intro wS hSw; (try dsimp only at hSw); obtain ⟨q0, q1, _, _⟩ := hSw.1.two; clear hSw; go_simp; (try with_reducible rfl))
                          (try simp only [Act.put, List.setIfInBounds_toArray, List.set_cons_zero, List.set_cons_succ])
                          refine wpAnyH_take (i := 1) (oi := ⟨some 2, _, _, _, _, _⟩) (v := ?_) rfl (by kernel_rfl) (by kernel_rfl) (by kernel_rfl) (fun _ _ _ h => h) (Or.inl ⟨by kernel_rfl, ?_⟩) (by assumption) ?_
                          rotate_left
                          · (intro wS hSw; (try dsimp only at hSw); obtain ⟨q0, q1, _, _⟩ := hSw.1.two; clear hSw; go_simp; (try with_reducible rfl))
                          (try simp only [Act.put, List.setIfInBounds_toArray, List.set_cons_zero, List.set_cons_succ])
                          refine wpAnyH_ready (rs := [2]) (by kernel_rfl) (by simp) ?_
                          refine AllReadyH.cons (o := ⟨none, _, _, _, _, _⟩) rfl (fun K hK => ?_) AllReadyH.nil
                          obtain ⟨s0, s1, sf0, sf1⟩ := f0.two
                          go_simp
                          refine hK.out _ _ ?_ (fun _ => ?_)
                          · ((try dsimp only); (first | exact hst | exact hHeld | exact ⟨(hHeld.1.far (by dsimp only; omega) _).far (by dsimp only; omega) _, bel_set (bel_set hHeld.2 (by dsimp only; omega) _) (by dsimp only; omega) _⟩))
                          clear hK K
                          (try simp only [Act.put, List.setIfInBounds_toArray, List.set_cons_zero, List.set_cons_succ])
                          refine gen0 (T := fun W => ((fun W' => Blk W' g9 199 #[.slice A7 (s7).1.length c7, .int .i64 ((s7).2 : Nat)] ∧ Below w.heap.size w W')) W ∧ SlB W A7 c7 (s7).1 ∧ Own W (w.heap.size + 1 + 1) 117 2 E t.out.length d (t.out.flatMap df) ∧ Blk W (w.heap.size + 1) 199 #[.slice A7 (s7).1.length c7, .int .i64 ((s7).2 : Nat)] ∧ True) ?_ (fun wq2 hT => ?_)
                          · exact ⟨by (first | exact hst | exact hHeld | exact ⟨(hHeld.1.far (by dsimp only; omega) _).far (by dsimp only; omega) _, bel_set (bel_set hHeld.2 (by dsimp only; omega) _) (by dsimp only; omega) _⟩), by (first | assumption | exact hst1 | exact hst2 | exact hst3 | exact SlB.apart f1 hBd hBB (Below.setCell (Below.setCell (Below.refl _ _) (by dsimp only; omega) _) (by dsimp only; omega) _) | exact f2.set2 (by omega) _ _ | exact f0.set2 _ _), by (first | assumption | exact hst1 | exact hst2 | exact hst3 | exact SlB.apart f1 hBd hBB (Below.setCell (Below.setCell (Below.refl _ _) (by dsimp only; omega) _) (by dsimp only; omega) _) | exact f2.set2 (by omega) _ _ | exact f0.set2 _ _), by (first | assumption | exact hst1 | exact hst2 | exact hst3 | exact SlB.apart f1 hBd hBB (Below.setCell (Below.setCell (Below.refl _ _) (by dsimp only; omega) _) (by dsimp only; omega) _) | exact f2.set2 (by omega) _ _ | exact f0.set2 _ _), trivial⟩
                          (try clear f0 f1 f2 f3 f4 f5 f6 f7 f8 f9 f10 f11)
                          obtain ⟨hHeld, f0, f1, f2, -⟩ := hT
                          refine wpAnyH_done (by kernel_rfl) ?_ _
                          go_wp2_with fail
                          exact bodyPost_ret (res_r2 rfl rfl (g := w.heap.size + 1) f2) rfl ⟨none, 0, [], _, rfl, (show _ = _ from by rw [HT.out]), Own.none_ _ _ _ _, by rw [HT.out]; exact ⟨A7, c7, rfl, f0, hBd⟩, hHeld.2⟩
                  · have hbb6 : (((s6.2 : Nat) : Int) != 0) = true := by simp; omega
                    have HT := Lib.hid (hshT (.inl hb6))
                    clear hshT hb6
                    go_wp2_with fail
                    refine (rfail5_any (s := s6) 2 _).mono ?_
                    rintro e w9 ⟨rfl, hb9⟩
                    have hZ9 := hZ.below hb9
                    obtain ⟨z0, z1, zf0, zf1⟩ := hZ9.two
                    go_wp2_with fail
                    exact bodyPost_ret (res_r2 rfl rfl (g := w.heap.size + 1) (hZ9.set2 _ _)) rfl ⟨none, 0, [], _, rfl, (show _ = _ from by rw [HT.out]), Own.none_ _ _ _ _, by rw [HT.out]; exact RV_fail 2 (SlB.apart hS hBd hBB (((Below.refl _ _).trans (hb9.mono hsz)).setCell (by dsimp only; omega) _ |>.setCell (by dsimp only; omega) _)) hBd, bel_set (bel_set (bel_call hw hb9) (by dsimp only; omega) _) (by dsimp only; omega) _⟩
              · have hbb5 : (((s5.2 : Nat) : Int) != 0) = true := by simp; omega
                have HT := Lib.hid (hlongT (.inl hb5))
                clear hlongT hb5
                go_wp2_with fail
                refine (rfail5_any (s := s5) 3 _).mono ?_
                rintro e w9 ⟨rfl, hb9⟩
                have hZ9 := hZ.below hb9
                obtain ⟨z0, z1, zf0, zf1⟩ := hZ9.two
                go_wp2_with fail
                exact bodyPost_ret (res_r2 rfl rfl (g := w.heap.size + 1) (hZ9.set2 _ _)) rfl ⟨none, 0, [], _, rfl, (show _ = _ from by rw [HT.out]), Own.none_ _ _ _ _, by rw [HT.out]; exact RV_fail 3 (SlB.apart hS hBd hBB (((Below.refl _ _).trans (hb9.mono hsz)).setCell (by dsimp only; omega) _ |>.setCell (by dsimp only; omega) _)) hBd, bel_set (bel_set (bel_call hw hb9) (by dsimp only; omega) _) (by dsimp only; omega) _⟩
            · have hmI : (0 : Int) < (many : Int) := by omega
              have HB2 := Lib.hid hb2
              clear hb2
              have hwl : IntKind.u64.wrap ((n : Int) - (t.out.length : Int)) = (t.left : Int) := by rw [IntKind.wrap_u64]; omega
              have hsl : (n : Int) - (t.out.length : Int) = (t.left : Int) := by omega
              have HSL := Lib.hid hsl
              clear hsl
              rcases Nat.lt_or_ge t.left many with hfar | hfar
              · have hfI : (n : Int) - (t.out.length : Int) < (many : Int) := by omega
                have HT := Lib.hid (tr_bad hE.out h0 hb0.out rfl (by rw [st_far HN2.out HB2.out hm0 hfar]; exact rFail_bad (by decide)))
                rw [st_far HN2.out HB2.out hm0 hfar] at HT
                clear hLN
                go_wp2_with fail
                refine (rfail5_any (s := s2) 2 _).mono ?_
                rintro e w9 ⟨rfl, hb9⟩
                have hZ9 := hZ.below hb9
                obtain ⟨z0, z1, zf0, zf1⟩ := hZ9.two
                go_wp2_with fail
                exact bodyPost_ret (res_r2 rfl rfl (g := w.heap.size + 1) (hZ9.set2 _ _)) rfl ⟨none, 0, [], _, rfl, (show _ = _ from by rw [HT.out]), Own.none_ _ _ _ _, by rw [HT.out]; exact RV_fail 2 (SlB.apart hS hBd hBB (((Below.refl _ _).trans (hb9.mono hsz)).setCell (by dsimp only; omega) _ |>.setCell (by dsimp only; omega) _)) hBd, bel_set (bel_set (bel_call hw hb9) (by dsimp only; omega) _) (by dsimp only; omega) _⟩
              · have hfI : (many : Int) ≤ (n : Int) - (t.out.length : Int) := by omega
                have hN := fun W (h : SlB W A3 c3 s2.1) => rWithin_any (bad := s2.2) 3 W h hBd
                have hkk := rWithin_leT 3 s2
                have hnl4 := rWithin_len2 3 s2
                obtain ⟨kk, s4, hk4⟩ : ∃ n s1, rWithin 3 s2 = (n, s1) := ⟨_, _, rfl⟩
                rw [show (s2.1, s2.2) = s2 from rfl, hk4] at hN
                rw [hk4] at hkk hnl4
                dsimp only at hkk hnl4
                have HN := Lib.hid hN
                have HK4 := Lib.hid hk4
                clear hN hk4 hLN
                go_wp2_with fail
                refine (HN.out _ hS).mono ?_
                rintro e w5 ⟨v, rfl, ⟨A5, c5, rfl, hS3, hBd5⟩, hb2⟩
                dsimp only at hS3 hBd5
                clear HN hBd hX3
                have hBd := hBd5
                clear hBd5
                -- a reader's value s4 in world w5 goes to a new box and to the reader's own
                obtain ⟨hG3, hZ3, hw3, hS4⟩ := rt_store (hG.below hb2) (hZ.below hb2) (bel_call hw hb2) hS3 hBd hBB (.slice A5 (s4).1.length c5) (.int .i64 ((s4).2 : Nat))
                have hOut3 := Own.set2 (Own.below hOut hb2) (g := w.heap.size) (by omega) (.slice A5 (s4).1.length c5) (.int .i64 ((s4).2 : Nat))
                have hg9 : w.heap.size + 1 < (w5).heap.size := Nat.lt_of_lt_of_le hZ.lt hb2.size
                obtain ⟨W1, hW1⟩ : ∃ W1, W1 = ((w5).setCell ⟨w.heap.size, 0, none⟩ (.slice A5 (s4).1.length c5)).setCell ⟨w.heap.size, 1, none⟩ (.int .i64 ((s4).2 : Nat)) := ⟨_, rfl⟩
                have hge : W1.heap.size = (w5).heap.size := by rw [hW1]; simp
                rw [← hW1] at hG3 hZ3 hw3 hS4 hOut3
                have hbx := below_new W1 (.cells #[.slice A5 (s4).1.length c5, .int .i64 ((s4).2 : Nat)] 199)
                have hX3 := Blk.newAt (w := W1) (g := (w5).heap.size) hge.symm 199 #[.slice A5 (s4).1.length c5, .int .i64 ((s4).2 : Nat)]
                replace hG3 := hG3.below hbx
                replace hZ3 := hZ3.below hbx
                replace hw3 := bel_call hw3 hbx
                replace hS4 := Sl.below hS4 hbx
                replace hOut3 := Own.below hOut3 hbx
                subst hW1
                obtain ⟨b0, b1, bf0, bf1⟩ := (hG.below hb2).two
                have hlt0 : w.heap.size < (w5).heap.size := by omega
                clear hG hZ hw hS hOut hbx hb2 a0 a1 af0 af1 hsz hS3 hge
                go_upto_region 16 with (fail)
                clear b0 b1 bf0 bf1 hlt0
                generalize hWe : (((w5).setCell { block := w.heap.size, off := 0 } (Value.slice A5 (s4).1.length c5)).setCell { block := w.heap.size, off := 1 } (Value.int IntKind.i64 ((s4).2 : Nat))).alloc (.cells #[.slice A5 (s4).1.length c5, .int .i64 ((s4).2 : Nat)] 199) = W5 at *
                clear hWe
                generalize hge : (w5).heap.size = g11 at *
                clear hge
                have hG := hG3
                have hZ := hZ3
                have hw := hw3
                have hS := hS4
                have hOut := hOut3
                clear hG3 hZ3 hw3 hS4 hOut3
                have hsz : w.heap.size ≤ (W5).heap.size := hw.size
                obtain ⟨a0, a1, af0, af1⟩ := hG.two
                have hbadT : s4.2 ≠ 0 ∨ kk = 1 ∨ kk = t.kind → takeRun s = ([], rFail 2 s4) := fun hc => by
                  have h1 := st_rowbad HN2.out HB2.out hm0 hfar HK4.out hc
                  have h2 := tr_bad hE.out h0 hb0.out rfl (by rw [h1]; exact rFail_bad (by decide))
                  rw [h1] at h2
                  exact h2
                rcases Decidable.em (s4.2 = 0) with hb4 | hb4
                · have hbb4 : (((s4.2 : Nat) : Int) != 0) = false := by simp [hb4]
                  rcases Decidable.em (kk = 1) with hk1 | hk1
                  · have HT := Lib.hid (hbadT (.inr (.inl hk1)))
                    have hkb : ((kk : Int) == 1) = true := by rw [hk1]; rfl
                    clear hbadT hk1 hb4
                    go_wp2_with fail
                    refine (rfail5_any (s := s4) 2 _).mono ?_
                    rintro e w9 ⟨rfl, hb9⟩
                    have hZ9 := hZ.below hb9
                    obtain ⟨z0, z1, zf0, zf1⟩ := hZ9.two
                    go_wp2_with fail
                    exact bodyPost_ret (res_r2 rfl rfl (g := w.heap.size + 1) (hZ9.set2 _ _)) rfl ⟨none, 0, [], _, rfl, (show _ = _ from by rw [HT.out]), Own.none_ _ _ _ _, by rw [HT.out]; exact RV_fail 2 (SlB.apart hS hBd hBB (((Below.refl _ _).trans (hb9.mono hsz)).setCell (by dsimp only; omega) _ |>.setCell (by dsimp only; omega) _)) hBd, bel_set (bel_set (bel_call hw hb9) (by dsimp only; omega) _) (by dsimp only; omega) _⟩
                  · have hkb : ((kk : Int) == 1) = false := by rw [beq_eq_false_iff_ne]; omega
                    rcases Decidable.em (kk = t.kind) with hk2 | hk2
                    · have HT := Lib.hid (hbadT (.inr (.inr hk2)))
                      have hkc : ((kk : Int) == rowv t.kind) = true := by
                        rw [beq_iff_eq]
                        unfold rowv
                        rw [if_neg (by omega)]
                        omega
                      clear hbadT hk1 hk2 hb4
                      go_wp2_with fail
                      refine (rfail5_any (s := s4) 2 _).mono ?_
                      rintro e w9 ⟨rfl, hb9⟩
                      have hZ9 := hZ.below hb9
                      obtain ⟨z0, z1, zf0, zf1⟩ := hZ9.two
                      go_wp2_with fail
                      exact bodyPost_ret (res_r2 rfl rfl (g := w.heap.size + 1) (hZ9.set2 _ _)) rfl ⟨none, 0, [], _, rfl, (show _ = _ from by rw [HT.out]), Own.none_ _ _ _ _, by rw [HT.out]; exact RV_fail 2 (SlB.apart hS hBd hBB (((Below.refl _ _).trans (hb9.mono hsz)).setCell (by dsimp only; omega) _ |>.setCell (by dsimp only; omega) _)) hBd, bel_set (bel_set (bel_call hw hb9) (by dsimp only; omega) _) (by dsimp only; omega) _⟩
                    · have hkc : ((kk : Int) == rowv t.kind) = false := by
                        rw [beq_eq_false_iff_ne]
                        unfold rowv
                        split <;> omega
                      have hst := st_rowok HN2.out HB2.out hm0 hfar HK4.out hb4 (by omega)
                      have hE2 := tkEnd_step (t := t) (by omega) hb0.out
                      have hok := tkStep_ok hO.out h0 (by rw [hst]; exact hb4)
                      rw [hst] at hE2 hok
                      have HE2 := Lib.hid (hE.out.trans hE2)
                      have HOK := Lib.hid hok
                      have HB4 := Lib.hid hb4
                      have HRV : Hid (rowv kk = (kk : Int)) := (show _ = _ from by unfold rowv; rw [if_neg hk1])
                      clear hbadT hk1 hk2 hb4 hst hE2 hok
                      have hL2 : many ≤ 64 := by omega
                      have HM2 : Hid (∀ W, W = W5 → RtM w B { t with s := s4 } E d W) := (show ∀ W, _ → _ from fun W h => by rw [h]; exact ⟨⟨A5, c5, hG, hS, hBd⟩, hZ, hOut, hw⟩)
                      clear hG hS hZ hOut hw
                      go_wp2_with fail
                      clear a0 a1 af0 af1
                      go_loopw [5, 12] (fun s5 s12 wq => ∃ (j : Nat) (E' : Option Addr) (d' : Nat) (o' : List Ce), j ≤ many ∧ s12 = .int .u64 j ∧ s5 = .slice E' o'.length d' ∧ Hid (o' = t.out ++ List.replicate j ((kk : Int), [])) ∧ Hid (RtM w B { t with s := s4, out := o' } E' d' wq)) (fun s5 s12 wq => many - (intOf s12).toNat)
                      case atStart => exact ⟨0, E, d, t.out, Nat.zero_le _, rfl, rfl, (show _ = _ from by simp), HM2.out _ rfl⟩
                      case round =>
                        obtain ⟨j, E', d', o', hj, rfl, rfl, ho', hMq⟩ := hrel
                        clear HM2
                        have hol : o'.length = t.out.length + j := by rw [ho'.out]; simp
                        by_cases hjl : j < many
                        · have hjI : (j : Int) < (many : Int) := by omega
                          obtain ⟨⟨A7, c7, hG, hS, hBd7⟩, hZ, hOut, hw⟩ := hMq.out
                          have hol2 : o'.length ≤ 200 := by omega
                          have hwj : IntKind.u64.wrap ((j : Int) + 1) = ((j + 1 : Nat) : Int) := by rw [IntKind.wrap_u64]; omega
                          have hzl := hZ.lt
                          clear hol
                          go_wp2_with (at_builtin; go_must (refine wpl_dcell rfl _ _ rfl (w.heap.size + 1 + 1) E' d' o' ((kk : Int), []) rfl hOut rfl (by omega) hzl ?_; intro A8 c8 m8 w8 hm8 ho8 hb8))
                          go_roundw
                          case rel => exact ⟨j + 1, A8, c8, m8, hjl, by go_num, rfl, (show _ = _ from by rw [hm8.out, ho'.out, List.replicate_succ', List.append_assoc]), (show RtM _ _ _ _ _ _ from ⟨⟨A7, c7, (hb8.block _ (by omega)).trans hG, SlB.apart hS hBd7 (by omega) hb8, hBd7⟩, (hb8.block _ (by omega)).trans hZ, ho8, hw.trans (hb8.mono (by omega))⟩)⟩
                          case measure => simp [intOf]; omega
                        · have hjI : ¬ (j : Int) < (many : Int) := by omega
                          have hjm : j = many := by omega
                          subst hjm
                          clear hjl
                          go_wp2_with fail
                          go_roundw
                          case rel => exact ⟨⟨s4, o', t.left - j, t.last, kk⟩, E', d', rfl, rfl, by rw [HRV.out], (show RtM _ _ _ _ _ _ from ⟨hMq.out.rd, hMq.out.z, hMq.out.out, hMq.out.bel⟩), (show TkOk _ from by rw [ho'.out]; exact HOK.out), (show _ = _ from by have := hLn.out; dsimp only; omega), HB4.out, (show _ = _ from by rw [ho'.out]; exact HE2.out)⟩
                          case measure => dsimp only; omega
                · have hbb4 : (((s4.2 : Nat) : Int) != 0) = true := by simp; omega
                  have HT := Lib.hid (hbadT (.inl hb4))
                  clear hbadT hb4
                  go_wp2_with fail
                  refine (rfail5_any (s := s4) 2 _).mono ?_
                  rintro e w9 ⟨rfl, hb9⟩
                  have hZ9 := hZ.below hb9
                  obtain ⟨z0, z1, zf0, zf1⟩ := hZ9.two
                  go_wp2_with fail
                  exact bodyPost_ret (res_r2 rfl rfl (g := w.heap.size + 1) (hZ9.set2 _ _)) rfl ⟨none, 0, [], _, rfl, (show _ = _ from by rw [HT.out]), Own.none_ _ _ _ _, by rw [HT.out]; exact RV_fail 2 (SlB.apart hS hBd hBB (((Below.refl _ _).trans (hb9.mono hsz)).setCell (by dsimp only; omega) _ |>.setCell (by dsimp only; omega) _)) hBd, bel_set (bel_set (bel_call hw hb9) (by dsimp only; omega) _) (by dsimp only; omega) _⟩
          · have hbb2 : (((s2.2 : Nat) : Int) != 0) = true := by simp; omega
            have HT := Lib.hid (tr_bad hE.out h0 hb0.out (st_bad HN2.out hb2) hb2)
            clear hb2 hLN
            have hX := hG
            dsimp only at HT
            have hst : Blk _ w.heap.size 199 #[.slice A3 (s2).1.length c3, .int .i64 ((s2).2 : Nat)] ∧ Below w.heap.size w _ := ⟨hX.drew, hw.drew⟩
            have hst1 := hZ.drew
            have hst2 := Sl.drewN hS 1
            have hst3 := World.ownsRow.drew hOut
            go_upto_region 10 with (fail)
            refine wp_region_held_drew (S := (fun W' => Blk W' w.heap.size 199 #[.slice A3 (s2).1.length c3, .int .i64 ((s2).2 : Nat)] ∧ Below w.heap.size w W')) (by kernel_rfl) ?_ (fun hHeld => ?_)
            · exact hst
            refine gen0 (T := fun W => ((fun W' => Blk W' w.heap.size 199 #[.slice A3 (s2).1.length c3, .int .i64 ((s2).2 : Nat)] ∧ Below w.heap.size w W')) W ∧ Blk W (w.heap.size + 1) 199 #[.slice none 0 0, .int .i64 0] ∧ SlB W A3 c3 (s2).1 ∧ Own W (w.heap.size + 1 + 1) 117 2 E t.out.length d (t.out.flatMap df) ∧ True) ?_ (fun wq1 hT => ?_)
            · exact ⟨by (first | exact hst | exact hHeld | exact ⟨(hHeld.1.far (by dsimp only; omega) _).far (by dsimp only; omega) _, bel_set (bel_set hHeld.2 (by dsimp only; omega) _) (by dsimp only; omega) _⟩), by (first | assumption | exact hst1 | exact hst2 | exact hst3 | exact SlB.apart f1 hBd hBB (Below.setCell (Below.setCell (Below.refl _ _) (by dsimp only; omega) _) (by dsimp only; omega) _) | exact f2.set2 (by omega) _ _ | exact f0.set2 _ _), by (first | assumption | exact hst1 | exact hst2 | exact hst3 | exact SlB.apart f1 hBd hBB (Below.setCell (Below.setCell (Below.refl _ _) (by dsimp only; omega) _) (by dsimp only; omega) _) | exact f2.set2 (by omega) _ _ | exact f0.set2 _ _), by (first | assumption | exact hst1 | exact hst2 | exact hst3 | exact SlB.apart f1 hBd hBB (Below.setCell (Below.setCell (Below.refl _ _) (by dsimp only; omega) _) (by dsimp only; omega) _) | exact f2.set2 (by omega) _ _ | exact f0.set2 _ _), trivial⟩
            (try clear f0 f1 f2 f3 f4 f5 f6 f7 f8 f9 f10 f11)
            obtain ⟨hHeld, f0, f1, f2, -⟩ := hT
            refine wpAnyH_take (i := 0) (oi := ⟨some 48, _, _, _, _, _⟩) (v := ?_) rfl (by kernel_rfl) (by kernel_rfl) (by kernel_rfl) (fun _ _ _ h => h) (Or.inl ⟨by kernel_rfl, ?_⟩) (by assumption) ?_
            rotate_left
            · (intro wS hSw; (try dsimp only at hSw); obtain ⟨q0, q1, _, _⟩ := hSw.1.two; clear hSw; go_simp; (try with_reducible rfl))
            (try simp only [Act.put, List.setIfInBounds_toArray, List.set_cons_zero, List.set_cons_succ])
            refine wpAnyH_take (i := 1) (oi := ⟨some 2, _, _, _, _, _⟩) (v := ?_) rfl (by kernel_rfl) (by kernel_rfl) (by kernel_rfl) (fun _ _ _ h => h) (Or.inl ⟨by kernel_rfl, ?_⟩) (by assumption) ?_
            rotate_left
            · (intro wS hSw; (try dsimp only at hSw); obtain ⟨q0, q1, _, _⟩ := hSw.1.two; clear hSw; go_simp; (try with_reducible rfl))
            (try simp only [Act.put, List.setIfInBounds_toArray, List.set_cons_zero, List.set_cons_succ])
            refine wpAnyH_ready (rs := [2]) (by kernel_rfl) (by simp) ?_
            refine AllReadyH.cons (o := ⟨none, _, _, _, _, _⟩) rfl (fun K hK => ?_) AllReadyH.nil
            obtain ⟨s0, s1, sf0, sf1⟩ := f0.two
            go_simp
            refine hK.out _ _ ?_ (fun _ => ?_)
            · ((try dsimp only); (first | exact hst | exact hHeld | exact ⟨(hHeld.1.far (by dsimp only; omega) _).far (by dsimp only; omega) _, bel_set (bel_set hHeld.2 (by dsimp only; omega) _) (by dsimp only; omega) _⟩))
            clear hK K
            (try simp only [Act.put, List.setIfInBounds_toArray, List.set_cons_zero, List.set_cons_succ])
            refine gen0 (T := fun W => ((fun W' => Blk W' w.heap.size 199 #[.slice A3 (s2).1.length c3, .int .i64 ((s2).2 : Nat)] ∧ Below w.heap.size w W')) W ∧ SlB W A3 c3 (s2).1 ∧ Own W (w.heap.size + 1 + 1) 117 2 E t.out.length d (t.out.flatMap df) ∧ Blk W (w.heap.size + 1) 199 #[.slice A3 (s2).1.length c3, .int .i64 ((s2).2 : Nat)] ∧ True) ?_ (fun wq2 hT => ?_)
            · exact ⟨by (first | exact hst | exact hHeld | exact ⟨(hHeld.1.far (by dsimp only; omega) _).far (by dsimp only; omega) _, bel_set (bel_set hHeld.2 (by dsimp only; omega) _) (by dsimp only; omega) _⟩), by (first | assumption | exact hst1 | exact hst2 | exact hst3 | exact SlB.apart f1 hBd hBB (Below.setCell (Below.setCell (Below.refl _ _) (by dsimp only; omega) _) (by dsimp only; omega) _) | exact f2.set2 (by omega) _ _ | exact f0.set2 _ _), by (first | assumption | exact hst1 | exact hst2 | exact hst3 | exact SlB.apart f1 hBd hBB (Below.setCell (Below.setCell (Below.refl _ _) (by dsimp only; omega) _) (by dsimp only; omega) _) | exact f2.set2 (by omega) _ _ | exact f0.set2 _ _), by (first | assumption | exact hst1 | exact hst2 | exact hst3 | exact SlB.apart f1 hBd hBB (Below.setCell (Below.setCell (Below.refl _ _) (by dsimp only; omega) _) (by dsimp only; omega) _) | exact f2.set2 (by omega) _ _ | exact f0.set2 _ _), trivial⟩
            (try clear f0 f1 f2 f3 f4 f5 f6 f7 f8 f9 f10 f11)
            obtain ⟨hHeld, f0, f1, f2, -⟩ := hT
            refine wpAnyH_done (by kernel_rfl) ?_ _
            go_wp2_with fail
            exact bodyPost_ret (res_r2 rfl rfl (g := w.heap.size + 1) f2) rfl ⟨none, 0, [], _, rfl, (show _ = _ from by rw [HT.out]), Own.none_ _ _ _ _, by rw [HT.out]; exact ⟨A3, c3, rfl, f0, hBd⟩, hHeld.2⟩
  · have hbb : (((s1.2 : Nat) : Int) != 0) = true := by simp; omega
    have HT := Lib.hid (tr_start HNUM.out (.inl hb0))
    clear hb0
    go_wp2_with fail
    refine (rfail5_any (s := s1) 3 _).mono ?_
    rintro e w9 ⟨rfl, hb9⟩
    have hZ9 := hZ.below hb9
    obtain ⟨z0, z1, zf0, zf1⟩ := hZ9.two
    go_wp2_with fail
    exact bodyPost_ret (res_r2 rfl rfl (g := w.heap.size + 1) (hZ9.set2 _ _)) rfl ⟨none, 0, [], _, rfl, (show _ = _ from by rw [HT.out]), Own.none_ _ _ _ _, by rw [HT.out]; exact RV_fail 3 (SlB.apart hS hBd hBB (((Below.refl _ _).trans (hb9.mono hsz)).setCell (by dsimp only; omega) _ |>.setCell (by dsimp only; omega) _)) hBd, bel_set (bel_set (bel_call hw hb9) (by dsimp only; omega) _) (by dsimp only; omega) _⟩
end Go.Proofs.YtabnndjdkjkciaaGreatDoor
