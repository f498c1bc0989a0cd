/- WHAT IT HOLDS: the fixed fact of the cursor's laws, walked: the empty cursor, put and taken back. | WHAT IT HOLDS: copy of elements of several cells, plainly. -/
import Derived.Test.YtabnndjdkjkciaaGreatDoorCursorKeepsG18
import Derived.Test.YtabnndjdkjkciaaGreatDoorCursorKeepsG04
import Derived.Test.YtabnndjdkjkciaaGreatDoorCursorKeepsG07
import Derived.Laws.CopyOwn
namespace Go.Proofs.YtabnndjdkjkciaaGreatDoor
open Go.RowKit
attribute [local go_sem ↓] Go.wp_at_zero Go.wp_at_succ

def ctx0 : List UInt8 := [0, 0, 0, 0, 0]
theorem frm_c0 : frm ctx0 = 5 :: (ctx0 ++ four (sumW (txb ctx0))) := by
  unfold frm txb
  rw [show ctx0.length = 5 from rfl, vb_small (by decide)]
  rfl
theorem crchk0 : crchk (0, 0, 0, 0, []) = 0 := by
  refine crchk_fine (x := (0, 0, 0, 0, [])) ?_ (by decide) (by decide)
  dsimp only
  rw [mchk_rest (by decide) (by decide) (by decide) (by decide) (by decide) (fun _ => by decide)]
  rfl
theorem CrCheck0_any (w : World) : Calls Tryz.prog 139 #[crv 0 0 0 0 none 0 0] w fun e w' => e = .returned .nilIface ∧ Below w.heap.size w w' := by
  have h := CrCheck_any (A := none) (c := 0) 0 0 0 0 [] w (Sl.none_ _ _) (fun p hp => by cases hp)
  rw [crchk0] at h
  exact h
set_option maxRecDepth 100000 in
set_option maxHeartbeats 1000000 in
theorem CPut0_any (w : World) : Calls Tryz.prog 67 #[crv 0 0 0 0 none 0 0] w fun e w' => ∃ A c m, e = .returned (.tuple #[.slice A (List.length m) c, .nilIface]) ∧ Hid (m = frm ctx0) ∧ SlB w' A c m ∧ Below w.heap.size w w' := by
  have hB := Blk.new w 72 #[.int .i64 0, .int .i64 0, .int .i64 0, .int .i64 0, .slice none 0 0]
  have hbw := below_new w (.cells #[.int .i64 0, .int .i64 0, .int .i64 0, .int .i64 0, .slice none 0 0] 72)
  go_enter Tryz.func67, Tryz.ntmps67
  go_wp2_with fail
  refine (CrCheck0_any _).mono ?_
  rintro e w1 ⟨rfl, hb1⟩
  have hB1 := Blk.below hB hb1
  have hw1 := bel_call hbw hb1
  clear hB hbw hb1
  obtain ⟨a0, a1, a2, a3, a4, -⟩ := Blk.five hB1
  have hL : SlN (w1.alloc (.cells #[.int .u64 0, .int .u64 0, .int .u64 0, .int .u64 0, .int .u64 0] 124)) (some ⟨w1.heap.size, 0, none⟩) 5 [0, 0, 0, 0, 0] := Sl.lits w1 [nv 0, nv 0, nv 0, nv 0, nv 0] 124 (by simp [maxLen])
  have HL := Lib.hid hL
  clear hL
  go_wp2_with fail
  refine (Put_any none 0 [] _ 5 [0, 0, 0, 0, 0] _ (by simp) (Sl.none_ _ _) HL.out (by simp) (by intro z hz; simp at hz; subst hz; unfold U64; omega)).mono ?_
  rintro e w2 ⟨A2, c2, m2, rfl, hm2, ho2, hb2⟩
  have hm2b : Hid (m2 = ctx0) := (show _ = _ from by rw [hm2.out]; simp [vbs, vb_small, ctx0])
  have hml5 : m2.length ≤ 100 := by rw [hm2b.out]; simp [ctx0]
  have hB2 := Blk.below (Blk.alloc hB1 (.cells #[.int .u64 0, .int .u64 0, .int .u64 0, .int .u64 0, .int .u64 0] 124)) hb2
  have hw2 := bel_call (bel_alloc hw1 (.cells #[.int .u64 0, .int .u64 0, .int .u64 0, .int .u64 0, .int .u64 0] 124)) hb2
  have hs2 := ho2.sl
  clear hB1 hw1 hb2 hm2 ho2 HL a0 a1 a2 a3 a4
  obtain ⟨a0, a1, a2, a3, a4, -⟩ := Blk.five hB2
  go_wp2_with fail
  go_loopw [34, 5] (fun x y wr => x = .int .i64 0 ∧ y = .slice A2 m2.length c2 ∧ wr = w2) (fun x y wr => 0)
  case atStart => exact ⟨rfl, rfl, rfl⟩
  case round =>
    obtain ⟨rfl, rfl, rfl⟩ := hrel
    go_wp2_with fail
    refine (FPut_any none 0 [] A2 c2 m2 _ (by simp) (Sl.none_ _ _) hs2 (by omega)).mono ?_
    rintro e w6 ⟨A6, c6, m6, he, hm6, ho6, hb6⟩
    have hfp : fput [] m2 = (frm ctx0, 0) := by
      unfold fput
      rw [hm2b.out, if_neg (by simp [ctx0])]
      rfl
    rw [hfp] at he hm6
    dsimp only at he hm6
    rw [show errv 0 = .nilIface from rfl] at he
    subst he
    go_wp2_with fail
    go_ret2
    exact ⟨A6, c6, m6, rfl, hm6, ho6.sl, bel_call hw2 hb6⟩
theorem rw0 (l : List UInt8) : rWithin 1048576 (0 :: l, 0) = (0, (l, 0)) := by
  have h := rNum_vb (n := 0) (by unfold U64; omega) l
  rw [vb_small (by decide)] at h
  have h2 : rNum (0 :: l, 0) = (0, (l, 0)) := h
  unfold rWithin
  rw [h2, if_neg (by simp)]
theorem rn0 (l : List UInt8) : rNum (0 :: l, 0) = (0, (l, 0)) := by
  have h := rNum_vb (n := 0) (by unfold U64; omega) l
  rw [vb_small (by decide)] at h
  exact h
set_option maxRecDepth 100000 in
set_option maxHeartbeats 400000 in
theorem TkAddr0 {w : World} {g B : Nat} {l : List UInt8} (hR : IsR w g B (0 :: l, 0)) : Calls Tryz.prog 140 #[.agg #[.pointer (some ⟨g, 0, none⟩)]] w fun e w' => e = .returned (.int .i64 0) ∧ IsR w' g B (l, 0) ∧ Wr w w' g := by
  have hR1 := hR.below (below_new w (.cells #[.pointer (some ⟨g, 0, none⟩)] 232))
  have hw1 : Wr w (w.alloc (.cells #[.pointer (some ⟨g, 0, none⟩)] 232)) g := (Wr.refl _ _).alloc _
  go_enter Tryz.func140, Tryz.ntmps140
  go_wp2_with fail
  refine (Within_any 1048576 hR1).mono ?_
  rintro e w2 ⟨rfl, hR2, hr2⟩
  rw [rw0] at hR2 ⊢
  go_wp2_with fail
  go_ret
  exact ⟨rfl, hR2, hw1.trans hr2⟩
structure TkC (w W : World) (g gt : Nat) : Prop where
  bel : Below w.heap.size w W
  res : Blk W w.heap.size 72 #[.int .i64 0, .int .i64 0, .int .i64 0, .int .i64 0, .slice none 0 0]
  tk : Blk W gt 232 #[.pointer (some ⟨g, 0, none⟩)]
  g1 : w.heap.size < g
  g2 : g < gt
structure GcC (W : World) (g gt gc : Nat) : Prop where
  blk : Blk W gc 72 #[.int .i64 0, .int .i64 0, .int .i64 0, .int .i64 0, .slice none 0 0]
  lt : gt < gc
section
variable {w W W' : World} {g gt gc B : Nat}
theorem TkC.below (h : TkC w W g gt) (hb : Below W.heap.size W W') : TkC w W' g gt := ⟨bel_call h.bel hb, h.res.below hb, h.tk.below hb, h.g1, h.g2⟩
theorem TkC.drew (h : TkC w W g gt) : TkC w W.drew g gt := ⟨h.bel.drew, h.res.drew, h.tk.drew, h.g1, h.g2⟩
theorem TkC.alloc (h : TkC w W g gt) (o : Obj) : TkC w (W.alloc o) g gt := ⟨bel_alloc h.bel o, h.res.alloc o, h.tk.alloc o, h.g1, h.g2⟩
theorem TkC.wr (h : TkC w W g gt) (hr : Wr W W' g) : TkC w W' g gt := ⟨h.bel.trans (hr.below h.bel.size (Nat.le_of_lt h.g1)), h.res.wr hr (Nat.ne_of_lt h.g1), h.tk.wr hr (Nat.ne_of_gt h.g2), h.g1, h.g2⟩
theorem TkC.set5 (h : TkC w W g gt) (hg : gt < gc) (x y z u v : Value) : TkC w (((((W.setCell ⟨gc, 0, none⟩ x).setCell ⟨gc, 1, none⟩ y).setCell ⟨gc, 2, none⟩ z).setCell ⟨gc, 3, none⟩ u).setCell ⟨gc, 4, none⟩ v) g gt :=
  have h1 := h.g1
  have h2 := h.g2
  ⟨bel_set5 h.bel (by omega) _ _ _ _ _, ((((h.res.far (by dsimp only; omega) x).far (by dsimp only; omega) y).far (by dsimp only; omega) z).far (by dsimp only; omega) u).far (by dsimp only; omega) v, ((((h.tk.far (by dsimp only; omega) x).far (by dsimp only; omega) y).far (by dsimp only; omega) z).far (by dsimp only; omega) u).far (by dsimp only; omega) v, h1, h2⟩
theorem GcC.wr (h : GcC W g gt gc) (hg : g < gt) (hr : Wr W W' g) : GcC W' g gt gc := ⟨h.blk.wr hr (Nat.ne_of_gt (Nat.lt_trans hg h.lt)), h.lt⟩
theorem GcC.set5 (h : GcC W g gt gc) : GcC (((((W.setCell ⟨gc, 0, none⟩ (.int .i64 0)).setCell ⟨gc, 1, none⟩ (.int .i64 0)).setCell ⟨gc, 2, none⟩ (.int .i64 0)).setCell ⟨gc, 3, none⟩ (.int .i64 0)).setCell ⟨gc, 4, none⟩ (.slice none 0 0)) g gt gc := ⟨Blk.set5 h.blk _ _ _ _ _, h.lt⟩
theorem GcC.new (h : TkC w W g gt) : GcC (W.alloc (.cells #[.int .i64 0, .int .i64 0, .int .i64 0, .int .i64 0, .slice none 0 0] 72)) g gt W.heap.size := ⟨Blk.new _ _ _, h.tk.lt⟩
theorem IsR.set5 {s : List UInt8 × Nat} (h : IsR W g B s) (h1 : g < gc) (h2 : B ≤ gc) (x y z u v : Value) : IsR (((((W.setCell ⟨gc, 0, none⟩ x).setCell ⟨gc, 1, none⟩ y).setCell ⟨gc, 2, none⟩ z).setCell ⟨gc, 3, none⟩ u).setCell ⟨gc, 4, none⟩ v) g B s := by
  refine h.apart (C := gc) h1 h2 ?_
  refine Below.setCell (p := ⟨gc, 4, none⟩) ?_ (Nat.le_refl gc) v
  refine Below.setCell (p := ⟨gc, 3, none⟩) ?_ (Nat.le_refl gc) u
  refine Below.setCell (p := ⟨gc, 2, none⟩) ?_ (Nat.le_refl gc) z
  refine Below.setCell (p := ⟨gc, 1, none⟩) ?_ (Nat.le_refl gc) y
  exact Below.setCell (p := ⟨gc, 0, none⟩) (Below.refl _ _) (Nat.le_refl gc) x
theorem IsR.alloc {s : List UInt8 × Nat} (h : IsR W g B s) (o : Obj) : IsR (W.alloc o) g B s := h.below (below_new _ _)
end
set_option maxRecDepth 100000 in
set_option maxHeartbeats 2000000 in
theorem CTake0_any (A : Option Addr) (c : Nat) (b : List UInt8) (w : World) (hs : SlB w A c b) (hb : b = frm ctx0) :
    Calls Tryz.prog 68 #[.slice A b.length c] w fun e w' => e = .returned (.tuple #[crv 0 0 0 0 none 0 0, .nilIface]) ∧ Below w.heap.size w w' := by
  have hRes := Blk.new w 72 #[.int .i64 0, .int .i64 0, .int .i64 0, .int .i64 0, .slice none 0 0]
  have hw := below_new w (.cells #[.int .i64 0, .int .i64 0, .int .i64 0, .int .i64 0, .slice none 0 0] 72)
  have hfo := fone_frm (t := ctx0) (by simp [ctx0])
  rw [← hb] at hfo
  have hbl : b.length ≤ 10000000 := by
    rw [hb, frm_c0]
    simp [ctx0, four_len]
  have HFO := Lib.hid hfo
  clear hfo hb
  go_enter Tryz.func68, Tryz.ntmps68
  go_wp2_with fail
  refine (FOne_any A c b _ (hs.below hw) hbl).mono ?_
  rintro e w1 ⟨A1, c1, m1, rfl, hm1, hs1, hb1⟩
  have hm1b : m1 = ctx0 := by rw [hm1.out, HFO.out]
  rw [HFO.out, show errv 0 = .nilIface from rfl]
  replace hRes := hRes.below hb1
  replace hw := bel_call hw hb1
  clear hb1 hm1 HFO
  subst hm1b
  go_wp2_with fail
  refine (RNew_any A1 c1 ctx0 _ hs1).mono ?_
  rintro e w2 ⟨g, rfl, hg, hR, hb2⟩
  have hwl : w.heap.size < w1.heap.size := hRes.lt
  replace hRes := hRes.below hb2
  replace hw := bel_call hw hb2
  have hgl := hR.lt
  have hR' : IsR w2 g w1.heap.size ([0, 0, 0, 0, 0], 0) := hR
  have h12 := hb2.size
  clear hR hs1 hb2
  generalize w1.heap.size = B at *
  go_upto_region 5 with (fail)
  have hT : TkC w (w2.alloc (.cells #[.pointer (some ⟨g, 0, none⟩)] 232)) g w2.heap.size := ⟨bel_alloc hw _, hRes.alloc _, Blk.new _ _ _, by omega, hgl⟩
  have hR5 := (hR'.alloc (.cells #[.pointer (some ⟨g, 0, none⟩)] 232)).drew
  have hst := hT.drew
  clear hT hR' hRes hw
  generalize w2.heap.size = gt at *
  go_cut [7] (fun s7 wz => ∃ gc, s7 = .pointer (some ⟨gc, 0, none⟩) ∧ TkC w wz g gt ∧ IsR wz g B ([0], 0) ∧ GcC wz g gt gc)
  case first =>
    refine wp_region_held_drew (S := (fun W => TkC w W g gt)) (by kernel_rfl) ?_ (fun hHeld => ?_)
    · exact hst
    refine gen0 (T := fun W => ((fun W => TkC w W g gt)) W ∧ IsR W g B ([0, 0, 0, 0, 0], 0) ∧ True) ?_ (fun wq1 hT => ?_)
    · exact ⟨by (with_reducible exact hst), by (with_reducible assumption), trivial⟩
    (try clear f0 f1 f2 f3 f4 f5 f6 f7 f8 f9 f10 f11)
    obtain ⟨hHeld, f0, -⟩ := hT
    refine wpAnyH_take (i := 0) (oi := ⟨some 25, _, _, _, _, _⟩) (v := ?_) rfl (by kernel_rfl) (by kernel_rfl) (by kernel_rfl) (fun _ _ _ h => h) (Or.inl ⟨by kernel_rfl, ?_⟩) (by assumption) ?_
    rotate_left
    · (intro wS hSw; (try dsimp only at hSw); have q0 := hSw.tk.cell 0; clear hSw; go_simp; (try with_reducible rfl))
    (try simp only [Act.put, List.setIfInBounds_toArray, List.set_cons_zero, List.set_cons_succ])
    refine wpAnyH_take (i := 2) (oi := ⟨some 27, _, _, _, _, _⟩) (v := ?_) rfl (by kernel_rfl) (by kernel_rfl) (by kernel_rfl) (fun _ _ _ h => h) (Or.inl ⟨by kernel_rfl, ?_⟩) (by assumption) ?_
    rotate_left
    · (intro wS hSw; (try dsimp only at hSw); have q0 := hSw.tk.cell 0; clear hSw; go_simp; (try with_reducible rfl))
    (try simp only [Act.put, List.setIfInBounds_toArray, List.set_cons_zero, List.set_cons_succ])
    refine wpAnyH_take (i := 4) (oi := ⟨some 29, _, _, _, _, _⟩) (v := ?_) rfl (by kernel_rfl) (by kernel_rfl) (by kernel_rfl) (fun _ _ _ h => h) (Or.inl ⟨by kernel_rfl, ?_⟩) (by assumption) ?_
    rotate_left
    · (intro wS hSw; (try dsimp only at hSw); have q0 := hSw.tk.cell 0; clear hSw; go_simp; (try with_reducible rfl))
    (try simp only [Act.put, List.setIfInBounds_toArray, List.set_cons_zero, List.set_cons_succ])
    refine wpAnyH_take (i := 6) (oi := ⟨some 31, _, _, _, _, _⟩) (v := ?_) rfl (by kernel_rfl) (by kernel_rfl) (by kernel_rfl) (fun _ _ _ h => h) (Or.inl ⟨by kernel_rfl, ?_⟩) (by assumption) ?_
    rotate_left
    · (intro wS hSw; (try dsimp only at hSw); have q0 := hSw.tk.cell 0; clear hSw; go_simp; (try with_reducible rfl))
    (try simp only [Act.put, List.setIfInBounds_toArray, List.set_cons_zero, List.set_cons_succ])
    refine wpAnyH_ready (rs := [1, 9]) (by kernel_rfl) (by simp) ?_
    refine AllReadyH.cons (o := ⟨some 26, _, _, _, _, _⟩) rfl (fun K hK => ?_) ?_
    · go_simp
      (refine (TkAddr0 f0).mono ?_; rintro e w9 ⟨rfl, hR9, hr9⟩)
      go_wp2_with fail
      refine hK.out _ _ ?_ (fun _ => ?_)
      · ((try dsimp only); (with_reducible exact hHeld.wr hr9))
      clear hK K
      (try simp only [Act.put, List.setIfInBounds_toArray, List.set_cons_zero, List.set_cons_succ])
      refine gen0 (T := fun W => ((fun W => TkC w W g gt)) W ∧ IsR W g B ([0, 0, 0, 0], 0) ∧ True) ?_ (fun wq2 hT => ?_)
      · exact ⟨by (with_reducible exact hHeld.wr hr9), by (with_reducible assumption), trivial⟩
      (try clear f0 f1 f2 f3 f4 f5 f6 f7 f8 f9 f10 f11)
      obtain ⟨hHeld, f0, -⟩ := hT
      refine wpAnyH_ready (rs := [3, 9]) (by kernel_rfl) (by simp) ?_
      refine AllReadyH.cons (o := ⟨some 28, _, _, _, _, _⟩) rfl (fun K hK => ?_) ?_
      · go_simp
        (refine (TkAddr0 f0).mono ?_; rintro e w9 ⟨rfl, hR9, hr9⟩)
        go_wp2_with fail
        refine hK.out _ _ ?_ (fun _ => ?_)
        · ((try dsimp only); (with_reducible exact hHeld.wr hr9))
        clear hK K
        (try simp only [Act.put, List.setIfInBounds_toArray, List.set_cons_zero, List.set_cons_succ])
        refine gen0 (T := fun W => ((fun W => TkC w W g gt)) W ∧ IsR W g B ([0, 0, 0], 0) ∧ True) ?_ (fun wq3 hT => ?_)
        · exact ⟨by (with_reducible exact hHeld.wr hr9), by (with_reducible assumption), trivial⟩
        (try clear f0 f1 f2 f3 f4 f5 f6 f7 f8 f9 f10 f11)
        obtain ⟨hHeld, f0, -⟩ := hT
        refine wpAnyH_ready (rs := [5, 9]) (by kernel_rfl) (by simp) ?_
        refine AllReadyH.cons (o := ⟨some 30, _, _, _, _, _⟩) rfl (fun K hK => ?_) ?_
        · go_simp
          (refine (TkAddr0 f0).mono ?_; rintro e w9 ⟨rfl, hR9, hr9⟩)
          go_wp2_with fail
          refine hK.out _ _ ?_ (fun _ => ?_)
          · ((try dsimp only); (with_reducible exact hHeld.wr hr9))
          clear hK K
          (try simp only [Act.put, List.setIfInBounds_toArray, List.set_cons_zero, List.set_cons_succ])
          refine gen0 (T := fun W => ((fun W => TkC w W g gt)) W ∧ IsR W g B ([0, 0], 0) ∧ True) ?_ (fun wq4 hT => ?_)
          · exact ⟨by (with_reducible exact hHeld.wr hr9), by (with_reducible assumption), trivial⟩
          (try clear f0 f1 f2 f3 f4 f5 f6 f7 f8 f9 f10 f11)
          obtain ⟨hHeld, f0, -⟩ := hT
          refine wpAnyH_ready (rs := [7, 9]) (by kernel_rfl) (by simp) ?_
          refine AllReadyH.cons (o := ⟨some 32, _, _, _, _, _⟩) rfl (fun K hK => ?_) ?_
          · go_simp
            (refine (TkAddr0 f0).mono ?_; rintro e w9 ⟨rfl, hR9, hr9⟩)
            go_wp2_with fail
            refine hK.out _ _ ?_ (fun _ => ?_)
            · ((try dsimp only); (with_reducible exact hHeld.wr hr9))
            clear hK K
            (try simp only [Act.put, List.setIfInBounds_toArray, List.set_cons_zero, List.set_cons_succ])
            refine gen0 (T := fun W => ((fun W => TkC w W g gt)) W ∧ IsR W g B ([0], 0) ∧ True) ?_ (fun wq5 hT => ?_)
            · exact ⟨by (with_reducible exact hHeld.wr hr9), by (with_reducible assumption), trivial⟩
            (try clear f0 f1 f2 f3 f4 f5 f6 f7 f8 f9 f10 f11)
            obtain ⟨hHeld, f0, -⟩ := hT
            refine wpAnyH_take (i := 8) (oi := ⟨some 33, _, _, _, _, _⟩) (v := ?_) rfl (by kernel_rfl) (by kernel_rfl) (by kernel_rfl) (fun _ _ _ h => h) (Or.inl ⟨by kernel_rfl, ?_⟩) (by assumption) ?_
            rotate_left
            · (intro wS hSw; (try dsimp only at hSw); have q0 := hSw.tk.cell 0; clear hSw; go_simp; (try with_reducible rfl))
            (try simp only [Act.put, List.setIfInBounds_toArray, List.set_cons_zero, List.set_cons_succ])
            refine wpAnyH_ready (rs := [9]) (by kernel_rfl) (by simp) ?_
            refine AllReadyH.cons (o := ⟨some 7, _, _, _, _, _⟩) rfl (fun K hK => ?_) AllReadyH.nil
            go_simp
            refine hK.out _ _ ?_ (fun _ => ?_)
            · ((try dsimp only); (with_reducible exact hHeld.alloc _))
            clear hK K
            (try simp only [Act.put, List.setIfInBounds_toArray, List.set_cons_zero, List.set_cons_succ])
            refine gen0 (T := fun W => ((fun W => TkC w W g gt)) W ∧ IsR W g B ([0], 0) ∧ GcC W g gt wq5.heap.size ∧ True) ?_ (fun wq6 hT => ?_)
            · exact ⟨by (with_reducible exact hHeld.alloc _), by (with_reducible exact f0.alloc _), by (with_reducible exact GcC.new hHeld), trivial⟩
            (try clear f0 f1 f2 f3 f4 f5 f6 f7 f8 f9 f10 f11)
            obtain ⟨hHeld, f0, f1, -⟩ := hT
            refine wpAnyH_ready (rs := [10]) (by kernel_rfl) (by simp) ?_
            refine AllReadyH.cons (o := ⟨none, _, _, _, _, _⟩) rfl (fun K hK => ?_) AllReadyH.nil
            obtain ⟨s0, s1, s2, s3, s4, sf0, sf1, sf2, sf3, sf4⟩ := f1.blk.five
            go_simp
            refine hK.out _ _ ?_ (fun _ => ?_)
            · ((try dsimp only); (exact hHeld.set5 f1.lt _ _ _ _ _))
            clear hK K
            (try simp only [Act.put, List.setIfInBounds_toArray, List.set_cons_zero, List.set_cons_succ])
            refine gen0 (T := fun W => ((fun W => TkC w W g gt)) W ∧ IsR W g B ([0], 0) ∧ GcC W g gt wq5.heap.size ∧ True) ?_ (fun wq7 hT => ?_)
            · exact ⟨by (exact hHeld.set5 f1.lt _ _ _ _ _), by (exact f0.set5 (Nat.lt_trans hHeld.g2 f1.lt) (Nat.le_trans (by omega) (Nat.le_of_lt f1.lt)) _ _ _ _ _), by (exact f1.set5), trivial⟩
            (try clear f0 f1 f2 f3 f4 f5 f6 f7 f8 f9 f10 f11)
            obtain ⟨hHeld, f0, f1, -⟩ := hT
            refine wpAnyH_done (by kernel_rfl) ?_ _
            (go_wp2_with fail; go_meet; exact ⟨_, rfl, hHeld, f0, f1⟩)
          refine AllReadyH.cons (o := ⟨some 7, _, _, _, _, _⟩) rfl (fun K hK => ?_) ?_
          · go_simp
            refine hK.out _ _ ?_ (fun _ => ?_)
            · ((try dsimp only); (with_reducible exact hHeld.alloc _))
            clear hK K
            (try simp only [Act.put, List.setIfInBounds_toArray, List.set_cons_zero, List.set_cons_succ])
            refine gen0 (T := fun W => ((fun W => TkC w W g gt)) W ∧ IsR W g B ([0, 0], 0) ∧ GcC W g gt wq4.heap.size ∧ True) ?_ (fun wq8 hT => ?_)
            · exact ⟨by (with_reducible exact hHeld.alloc _), by (with_reducible exact f0.alloc _), by (with_reducible exact GcC.new hHeld), trivial⟩
            (try clear f0 f1 f2 f3 f4 f5 f6 f7 f8 f9 f10 f11)
            obtain ⟨hHeld, f0, f1, -⟩ := hT
            refine wpAnyH_ready (rs := [7]) (by kernel_rfl) (by simp) ?_
            refine AllReadyH.cons (o := ⟨some 32, _, _, _, _, _⟩) rfl (fun K hK => ?_) AllReadyH.nil
            go_simp
            (refine (TkAddr0 f0).mono ?_; rintro e w9 ⟨rfl, hR9, hr9⟩)
            go_wp2_with fail
            refine hK.out _ _ ?_ (fun _ => ?_)
            · ((try dsimp only); (with_reducible exact hHeld.wr hr9))
            clear hK K
            (try simp only [Act.put, List.setIfInBounds_toArray, List.set_cons_zero, List.set_cons_succ])
            refine gen0 (T := fun W => ((fun W => TkC w W g gt)) W ∧ IsR W g B ([0], 0) ∧ GcC W g gt wq4.heap.size ∧ True) ?_ (fun wq9 hT => ?_)
            · exact ⟨by (with_reducible exact hHeld.wr hr9), by (with_reducible assumption), by (with_reducible exact f1.wr hHeld.g2 hr9), trivial⟩
            (try clear f0 f1 f2 f3 f4 f5 f6 f7 f8 f9 f10 f11)
            obtain ⟨hHeld, f0, f1, -⟩ := hT
            refine wpAnyH_take (i := 8) (oi := ⟨some 33, _, _, _, _, _⟩) (v := ?_) rfl (by kernel_rfl) (by kernel_rfl) (by kernel_rfl) (fun _ _ _ h => h) (Or.inl ⟨by kernel_rfl, ?_⟩) (by assumption) ?_
            rotate_left
            · (intro wS hSw; (try dsimp only at hSw); have q0 := hSw.tk.cell 0; clear hSw; go_simp; (try with_reducible rfl))
            (try simp only [Act.put, List.setIfInBounds_toArray, List.set_cons_zero, List.set_cons_succ])
            refine wpAnyH_ready (rs := [10]) (by kernel_rfl) (by simp) ?_
            refine AllReadyH.cons (o := ⟨none, _, _, _, _, _⟩) rfl (fun K hK => ?_) AllReadyH.nil
            obtain ⟨s0, s1, s2, s3, s4, sf0, sf1, sf2, sf3, sf4⟩ := f1.blk.five
            go_simp
            refine hK.out _ _ ?_ (fun _ => ?_)
            · ((try dsimp only); (exact hHeld.set5 f1.lt _ _ _ _ _))
            clear hK K
            (try simp only [Act.put, List.setIfInBounds_toArray, List.set_cons_zero, List.set_cons_succ])
            refine gen0 (T := fun W => ((fun W => TkC w W g gt)) W ∧ IsR W g B ([0], 0) ∧ GcC W g gt wq4.heap.size ∧ True) ?_ (fun wq10 hT => ?_)
            · exact ⟨by (exact hHeld.set5 f1.lt _ _ _ _ _), by (exact f0.set5 (Nat.lt_trans hHeld.g2 f1.lt) (Nat.le_trans (by omega) (Nat.le_of_lt f1.lt)) _ _ _ _ _), by (exact f1.set5), trivial⟩
            (try clear f0 f1 f2 f3 f4 f5 f6 f7 f8 f9 f10 f11)
            obtain ⟨hHeld, f0, f1, -⟩ := hT
            refine wpAnyH_done (by kernel_rfl) ?_ _
            (go_wp2_with fail; go_meet; exact ⟨_, rfl, hHeld, f0, f1⟩)
          exact AllReadyH.nil
        refine AllReadyH.cons (o := ⟨some 7, _, _, _, _, _⟩) rfl (fun K hK => ?_) ?_
        · go_simp
          refine hK.out _ _ ?_ (fun _ => ?_)
          · ((try dsimp only); (with_reducible exact hHeld.alloc _))
          clear hK K
          (try simp only [Act.put, List.setIfInBounds_toArray, List.set_cons_zero, List.set_cons_succ])
          refine gen0 (T := fun W => ((fun W => TkC w W g gt)) W ∧ IsR W g B ([0, 0, 0], 0) ∧ GcC W g gt wq3.heap.size ∧ True) ?_ (fun wq11 hT => ?_)
          · exact ⟨by (with_reducible exact hHeld.alloc _), by (with_reducible exact f0.alloc _), by (with_reducible exact GcC.new hHeld), trivial⟩
          (try clear f0 f1 f2 f3 f4 f5 f6 f7 f8 f9 f10 f11)
          obtain ⟨hHeld, f0, f1, -⟩ := hT
          refine wpAnyH_ready (rs := [5]) (by kernel_rfl) (by simp) ?_
          refine AllReadyH.cons (o := ⟨some 30, _, _, _, _, _⟩) rfl (fun K hK => ?_) AllReadyH.nil
          go_simp
          (refine (TkAddr0 f0).mono ?_; rintro e w9 ⟨rfl, hR9, hr9⟩)
          go_wp2_with fail
          refine hK.out _ _ ?_ (fun _ => ?_)
          · ((try dsimp only); (with_reducible exact hHeld.wr hr9))
          clear hK K
          (try simp only [Act.put, List.setIfInBounds_toArray, List.set_cons_zero, List.set_cons_succ])
          refine gen0 (T := fun W => ((fun W => TkC w W g gt)) W ∧ IsR W g B ([0, 0], 0) ∧ GcC W g gt wq3.heap.size ∧ True) ?_ (fun wq12 hT => ?_)
          · exact ⟨by (with_reducible exact hHeld.wr hr9), by (with_reducible assumption), by (with_reducible exact f1.wr hHeld.g2 hr9), trivial⟩
          (try clear f0 f1 f2 f3 f4 f5 f6 f7 f8 f9 f10 f11)
          obtain ⟨hHeld, f0, f1, -⟩ := hT
          refine wpAnyH_ready (rs := [7]) (by kernel_rfl) (by simp) ?_
          refine AllReadyH.cons (o := ⟨some 32, _, _, _, _, _⟩) rfl (fun K hK => ?_) AllReadyH.nil
          go_simp
          (refine (TkAddr0 f0).mono ?_; rintro e w9 ⟨rfl, hR9, hr9⟩)
          go_wp2_with fail
          refine hK.out _ _ ?_ (fun _ => ?_)
          · ((try dsimp only); (with_reducible exact hHeld.wr hr9))
          clear hK K
          (try simp only [Act.put, List.setIfInBounds_toArray, List.set_cons_zero, List.set_cons_succ])
          refine gen0 (T := fun W => ((fun W => TkC w W g gt)) W ∧ IsR W g B ([0], 0) ∧ GcC W g gt wq3.heap.size ∧ True) ?_ (fun wq13 hT => ?_)
          · exact ⟨by (with_reducible exact hHeld.wr hr9), by (with_reducible assumption), by (with_reducible exact f1.wr hHeld.g2 hr9), trivial⟩
          (try clear f0 f1 f2 f3 f4 f5 f6 f7 f8 f9 f10 f11)
          obtain ⟨hHeld, f0, f1, -⟩ := hT
          refine wpAnyH_take (i := 8) (oi := ⟨some 33, _, _, _, _, _⟩) (v := ?_) rfl (by kernel_rfl) (by kernel_rfl) (by kernel_rfl) (fun _ _ _ h => h) (Or.inl ⟨by kernel_rfl, ?_⟩) (by assumption) ?_
          rotate_left
          · (intro wS hSw; (try dsimp only at hSw); have q0 := hSw.tk.cell 0; clear hSw; go_simp; (try with_reducible rfl))
          (try simp only [Act.put, List.setIfInBounds_toArray, List.set_cons_zero, List.set_cons_succ])
          refine wpAnyH_ready (rs := [10]) (by kernel_rfl) (by simp) ?_
          refine AllReadyH.cons (o := ⟨none, _, _, _, _, _⟩) rfl (fun K hK => ?_) AllReadyH.nil
          obtain ⟨s0, s1, s2, s3, s4, sf0, sf1, sf2, sf3, sf4⟩ := f1.blk.five
          go_simp
          refine hK.out _ _ ?_ (fun _ => ?_)
          · ((try dsimp only); (exact hHeld.set5 f1.lt _ _ _ _ _))
          clear hK K
          (try simp only [Act.put, List.setIfInBounds_toArray, List.set_cons_zero, List.set_cons_succ])
          refine gen0 (T := fun W => ((fun W => TkC w W g gt)) W ∧ IsR W g B ([0], 0) ∧ GcC W g gt wq3.heap.size ∧ True) ?_ (fun wq14 hT => ?_)
          · exact ⟨by (exact hHeld.set5 f1.lt _ _ _ _ _), by (exact f0.set5 (Nat.lt_trans hHeld.g2 f1.lt) (Nat.le_trans (by omega) (Nat.le_of_lt f1.lt)) _ _ _ _ _), by (exact f1.set5), trivial⟩
          (try clear f0 f1 f2 f3 f4 f5 f6 f7 f8 f9 f10 f11)
          obtain ⟨hHeld, f0, f1, -⟩ := hT
          refine wpAnyH_done (by kernel_rfl) ?_ _
          (go_wp2_with fail; go_meet; exact ⟨_, rfl, hHeld, f0, f1⟩)
        exact AllReadyH.nil
      refine AllReadyH.cons (o := ⟨some 7, _, _, _, _, _⟩) rfl (fun K hK => ?_) ?_
      · go_simp
        refine hK.out _ _ ?_ (fun _ => ?_)
        · ((try dsimp only); (with_reducible exact hHeld.alloc _))
        clear hK K
        (try simp only [Act.put, List.setIfInBounds_toArray, List.set_cons_zero, List.set_cons_succ])
        refine gen0 (T := fun W => ((fun W => TkC w W g gt)) W ∧ IsR W g B ([0, 0, 0, 0], 0) ∧ GcC W g gt wq2.heap.size ∧ True) ?_ (fun wq15 hT => ?_)
        · exact ⟨by (with_reducible exact hHeld.alloc _), by (with_reducible exact f0.alloc _), by (with_reducible exact GcC.new hHeld), trivial⟩
        (try clear f0 f1 f2 f3 f4 f5 f6 f7 f8 f9 f10 f11)
        obtain ⟨hHeld, f0, f1, -⟩ := hT
        refine wpAnyH_ready (rs := [3]) (by kernel_rfl) (by simp) ?_
        refine AllReadyH.cons (o := ⟨some 28, _, _, _, _, _⟩) rfl (fun K hK => ?_) AllReadyH.nil
        go_simp
        (refine (TkAddr0 f0).mono ?_; rintro e w9 ⟨rfl, hR9, hr9⟩)
        go_wp2_with fail
        refine hK.out _ _ ?_ (fun _ => ?_)
        · ((try dsimp only); (with_reducible exact hHeld.wr hr9))
        clear hK K
        (try simp only [Act.put, List.setIfInBounds_toArray, List.set_cons_zero, List.set_cons_succ])
        refine gen0 (T := fun W => ((fun W => TkC w W g gt)) W ∧ IsR W g B ([0, 0, 0], 0) ∧ GcC W g gt wq2.heap.size ∧ True) ?_ (fun wq16 hT => ?_)
        · exact ⟨by (with_reducible exact hHeld.wr hr9), by (with_reducible assumption), by (with_reducible exact f1.wr hHeld.g2 hr9), trivial⟩
        (try clear f0 f1 f2 f3 f4 f5 f6 f7 f8 f9 f10 f11)
        obtain ⟨hHeld, f0, f1, -⟩ := hT
        refine wpAnyH_ready (rs := [5]) (by kernel_rfl) (by simp) ?_
        refine AllReadyH.cons (o := ⟨some 30, _, _, _, _, _⟩) rfl (fun K hK => ?_) AllReadyH.nil
        go_simp
        (refine (TkAddr0 f0).mono ?_; rintro e w9 ⟨rfl, hR9, hr9⟩)
        go_wp2_with fail
        refine hK.out _ _ ?_ (fun _ => ?_)
        · ((try dsimp only); (with_reducible exact hHeld.wr hr9))
        clear hK K
        (try simp only [Act.put, List.setIfInBounds_toArray, List.set_cons_zero, List.set_cons_succ])
        refine gen0 (T := fun W => ((fun W => TkC w W g gt)) W ∧ IsR W g B ([0, 0], 0) ∧ GcC W g gt wq2.heap.size ∧ True) ?_ (fun wq17 hT => ?_)
        · exact ⟨by (with_reducible exact hHeld.wr hr9), by (with_reducible assumption), by (with_reducible exact f1.wr hHeld.g2 hr9), trivial⟩
        (try clear f0 f1 f2 f3 f4 f5 f6 f7 f8 f9 f10 f11)
        obtain ⟨hHeld, f0, f1, -⟩ := hT
        refine wpAnyH_ready (rs := [7]) (by kernel_rfl) (by simp) ?_
        refine AllReadyH.cons (o := ⟨some 32, _, _, _, _, _⟩) rfl (fun K hK => ?_) AllReadyH.nil
        go_simp
        (refine (TkAddr0 f0).mono ?_; rintro e w9 ⟨rfl, hR9, hr9⟩)
        go_wp2_with fail
        refine hK.out _ _ ?_ (fun _ => ?_)
        · ((try dsimp only); (with_reducible exact hHeld.wr hr9))
        clear hK K
        (try simp only [Act.put, List.setIfInBounds_toArray, List.set_cons_zero, List.set_cons_succ])
        refine gen0 (T := fun W => ((fun W => TkC w W g gt)) W ∧ IsR W g B ([0], 0) ∧ GcC W g gt wq2.heap.size ∧ True) ?_ (fun wq18 hT => ?_)
        · exact ⟨by (with_reducible exact hHeld.wr hr9), by (with_reducible assumption), by (with_reducible exact f1.wr hHeld.g2 hr9), trivial⟩
        (try clear f0 f1 f2 f3 f4 f5 f6 f7 f8 f9 f10 f11)
        obtain ⟨hHeld, f0, f1, -⟩ := hT
        refine wpAnyH_take (i := 8) (oi := ⟨some 33, _, _, _, _, _⟩) (v := ?_) rfl (by kernel_rfl) (by kernel_rfl) (by kernel_rfl) (fun _ _ _ h => h) (Or.inl ⟨by kernel_rfl, ?_⟩) (by assumption) ?_
        rotate_left
        · (intro wS hSw; (try dsimp only at hSw); have q0 := hSw.tk.cell 0; clear hSw; go_simp; (try with_reducible rfl))
        (try simp only [Act.put, List.setIfInBounds_toArray, List.set_cons_zero, List.set_cons_succ])
        refine wpAnyH_ready (rs := [10]) (by kernel_rfl) (by simp) ?_
        refine AllReadyH.cons (o := ⟨none, _, _, _, _, _⟩) rfl (fun K hK => ?_) AllReadyH.nil
        obtain ⟨s0, s1, s2, s3, s4, sf0, sf1, sf2, sf3, sf4⟩ := f1.blk.five
        go_simp
        refine hK.out _ _ ?_ (fun _ => ?_)
        · ((try dsimp only); (exact hHeld.set5 f1.lt _ _ _ _ _))
        clear hK K
        (try simp only [Act.put, List.setIfInBounds_toArray, List.set_cons_zero, List.set_cons_succ])
        refine gen0 (T := fun W => ((fun W => TkC w W g gt)) W ∧ IsR W g B ([0], 0) ∧ GcC W g gt wq2.heap.size ∧ True) ?_ (fun wq19 hT => ?_)
        · exact ⟨by (exact hHeld.set5 f1.lt _ _ _ _ _), by (exact f0.set5 (Nat.lt_trans hHeld.g2 f1.lt) (Nat.le_trans (by omega) (Nat.le_of_lt f1.lt)) _ _ _ _ _), by (exact f1.set5), trivial⟩
        (try clear f0 f1 f2 f3 f4 f5 f6 f7 f8 f9 f10 f11)
        obtain ⟨hHeld, f0, f1, -⟩ := hT
        refine wpAnyH_done (by kernel_rfl) ?_ _
        (go_wp2_with fail; go_meet; exact ⟨_, rfl, hHeld, f0, f1⟩)
      exact AllReadyH.nil
    refine AllReadyH.cons (o := ⟨some 7, _, _, _, _, _⟩) rfl (fun K hK => ?_) ?_
    · go_simp
      refine hK.out _ _ ?_ (fun _ => ?_)
      · ((try dsimp only); (with_reducible exact hHeld.alloc _))
      clear hK K
      (try simp only [Act.put, List.setIfInBounds_toArray, List.set_cons_zero, List.set_cons_succ])
      refine gen0 (T := fun W => ((fun W => TkC w W g gt)) W ∧ IsR W g B ([0, 0, 0, 0, 0], 0) ∧ GcC W g gt wq1.heap.size ∧ True) ?_ (fun wq20 hT => ?_)
      · exact ⟨by (with_reducible exact hHeld.alloc _), by (with_reducible exact f0.alloc _), by (with_reducible exact GcC.new hHeld), trivial⟩
      (try clear f0 f1 f2 f3 f4 f5 f6 f7 f8 f9 f10 f11)
      obtain ⟨hHeld, f0, f1, -⟩ := hT
      refine wpAnyH_ready (rs := [1]) (by kernel_rfl) (by simp) ?_
      refine AllReadyH.cons (o := ⟨some 26, _, _, _, _, _⟩) rfl (fun K hK => ?_) AllReadyH.nil
      go_simp
      (refine (TkAddr0 f0).mono ?_; rintro e w9 ⟨rfl, hR9, hr9⟩)
      go_wp2_with fail
      refine hK.out _ _ ?_ (fun _ => ?_)
      · ((try dsimp only); (with_reducible exact hHeld.wr hr9))
      clear hK K
      (try simp only [Act.put, List.setIfInBounds_toArray, List.set_cons_zero, List.set_cons_succ])
      refine gen0 (T := fun W => ((fun W => TkC w W g gt)) W ∧ IsR W g B ([0, 0, 0, 0], 0) ∧ GcC W g gt wq1.heap.size ∧ True) ?_ (fun wq21 hT => ?_)
      · exact ⟨by (with_reducible exact hHeld.wr hr9), by (with_reducible assumption), by (with_reducible exact f1.wr hHeld.g2 hr9), trivial⟩
      (try clear f0 f1 f2 f3 f4 f5 f6 f7 f8 f9 f10 f11)
      obtain ⟨hHeld, f0, f1, -⟩ := hT
      refine wpAnyH_ready (rs := [3]) (by kernel_rfl) (by simp) ?_
      refine AllReadyH.cons (o := ⟨some 28, _, _, _, _, _⟩) rfl (fun K hK => ?_) AllReadyH.nil
      go_simp
      (refine (TkAddr0 f0).mono ?_; rintro e w9 ⟨rfl, hR9, hr9⟩)
      go_wp2_with fail
      refine hK.out _ _ ?_ (fun _ => ?_)
      · ((try dsimp only); (with_reducible exact hHeld.wr hr9))
      clear hK K
      (try simp only [Act.put, List.setIfInBounds_toArray, List.set_cons_zero, List.set_cons_succ])
      refine gen0 (T := fun W => ((fun W => TkC w W g gt)) W ∧ IsR W g B ([0, 0, 0], 0) ∧ GcC W g gt wq1.heap.size ∧ True) ?_ (fun wq22 hT => ?_)
      · exact ⟨by (with_reducible exact hHeld.wr hr9), by (with_reducible assumption), by (with_reducible exact f1.wr hHeld.g2 hr9), trivial⟩
      (try clear f0 f1 f2 f3 f4 f5 f6 f7 f8 f9 f10 f11)
      obtain ⟨hHeld, f0, f1, -⟩ := hT
      refine wpAnyH_ready (rs := [5]) (by kernel_rfl) (by simp) ?_
      refine AllReadyH.cons (o := ⟨some 30, _, _, _, _, _⟩) rfl (fun K hK => ?_) AllReadyH.nil
      go_simp
      (refine (TkAddr0 f0).mono ?_; rintro e w9 ⟨rfl, hR9, hr9⟩)
      go_wp2_with fail
      refine hK.out _ _ ?_ (fun _ => ?_)
      · ((try dsimp only); (with_reducible exact hHeld.wr hr9))
      clear hK K
      (try simp only [Act.put, List.setIfInBounds_toArray, List.set_cons_zero, List.set_cons_succ])
      refine gen0 (T := fun W => ((fun W => TkC w W g gt)) W ∧ IsR W g B ([0, 0], 0) ∧ GcC W g gt wq1.heap.size ∧ True) ?_ (fun wq23 hT => ?_)
      · exact ⟨by (with_reducible exact hHeld.wr hr9), by (with_reducible assumption), by (with_reducible exact f1.wr hHeld.g2 hr9), trivial⟩
      (try clear f0 f1 f2 f3 f4 f5 f6 f7 f8 f9 f10 f11)
      obtain ⟨hHeld, f0, f1, -⟩ := hT
      refine wpAnyH_ready (rs := [7]) (by kernel_rfl) (by simp) ?_
      refine AllReadyH.cons (o := ⟨some 32, _, _, _, _, _⟩) rfl (fun K hK => ?_) AllReadyH.nil
      go_simp
      (refine (TkAddr0 f0).mono ?_; rintro e w9 ⟨rfl, hR9, hr9⟩)
      go_wp2_with fail
      refine hK.out _ _ ?_ (fun _ => ?_)
      · ((try dsimp only); (with_reducible exact hHeld.wr hr9))
      clear hK K
      (try simp only [Act.put, List.setIfInBounds_toArray, List.set_cons_zero, List.set_cons_succ])
      refine gen0 (T := fun W => ((fun W => TkC w W g gt)) W ∧ IsR W g B ([0], 0) ∧ GcC W g gt wq1.heap.size ∧ True) ?_ (fun wq24 hT => ?_)
      · exact ⟨by (with_reducible exact hHeld.wr hr9), by (with_reducible assumption), by (with_reducible exact f1.wr hHeld.g2 hr9), trivial⟩
      (try clear f0 f1 f2 f3 f4 f5 f6 f7 f8 f9 f10 f11)
      obtain ⟨hHeld, f0, f1, -⟩ := hT
      refine wpAnyH_take (i := 8) (oi := ⟨some 33, _, _, _, _, _⟩) (v := ?_) rfl (by kernel_rfl) (by kernel_rfl) (by kernel_rfl) (fun _ _ _ h => h) (Or.inl ⟨by kernel_rfl, ?_⟩) (by assumption) ?_
      rotate_left
      · (intro wS hSw; (try dsimp only at hSw); have q0 := hSw.tk.cell 0; clear hSw; go_simp; (try with_reducible rfl))
      (try simp only [Act.put, List.setIfInBounds_toArray, List.set_cons_zero, List.set_cons_succ])
      refine wpAnyH_ready (rs := [10]) (by kernel_rfl) (by simp) ?_
      refine AllReadyH.cons (o := ⟨none, _, _, _, _, _⟩) rfl (fun K hK => ?_) AllReadyH.nil
      obtain ⟨s0, s1, s2, s3, s4, sf0, sf1, sf2, sf3, sf4⟩ := f1.blk.five
      go_simp
      refine hK.out _ _ ?_ (fun _ => ?_)
      · ((try dsimp only); (exact hHeld.set5 f1.lt _ _ _ _ _))
      clear hK K
      (try simp only [Act.put, List.setIfInBounds_toArray, List.set_cons_zero, List.set_cons_succ])
      refine gen0 (T := fun W => ((fun W => TkC w W g gt)) W ∧ IsR W g B ([0], 0) ∧ GcC W g gt wq1.heap.size ∧ True) ?_ (fun wq25 hT => ?_)
      · exact ⟨by (exact hHeld.set5 f1.lt _ _ _ _ _), by (exact f0.set5 (Nat.lt_trans hHeld.g2 f1.lt) (Nat.le_trans (by omega) (Nat.le_of_lt f1.lt)) _ _ _ _ _), by (exact f1.set5), trivial⟩
      (try clear f0 f1 f2 f3 f4 f5 f6 f7 f8 f9 f10 f11)
      obtain ⟨hHeld, f0, f1, -⟩ := hT
      refine wpAnyH_done (by kernel_rfl) ?_ _
      (go_wp2_with fail; go_meet; exact ⟨_, rfl, hHeld, f0, f1⟩)
    exact AllReadyH.nil
  case rest =>
    obtain ⟨gc, rfl, hT, hR, hG⟩ := hcut
    clear hst hR5
    have q0 := hT.tk.cell 0
    go_wp2_with fail
    refine (Number_any hR).mono ?_
    rintro e w3 ⟨rfl, hR3, hr3⟩
    rw [rn0] at hR3 ⊢
    replace hT := hT.wr hr3
    replace hG := hG.wr hT.g2 hr3
    clear hR hr3 q0
    have q0 := hT.tk.cell 0
    obtain ⟨c0, c1', c2, c3, c4, -⟩ := Blk.five hG.blk
    dsimp only at hR3
    go_wp2_with fail
    go_loopw [47] (fun x wr => x = .int .u64 0 ∧ wr = w3) (fun x wr => 0)
    case atStart => exact ⟨rfl, rfl⟩
    case round =>
      obtain ⟨rfl, rfl⟩ := hrel
      go_wp2_with fail
      refine (End_any hR3).mono ?_
      rintro e w4 ⟨rfl, rfl⟩
      rw [show errv (rEnd ([], 0)) = .nilIface from rfl]
      go_wp2_with fail
      refine (CrCheck0_any _).mono ?_
      rintro e w5 ⟨rfl, hb5⟩
      replace hT := hT.below hb5
      replace hG := hG.blk.below hb5
      clear hb5 q0 c0 c1' c2 c3 c4
      obtain ⟨c0, c1', c2, c3, c4, -⟩ := Blk.five hG
      obtain ⟨r0, r1, r2, r3, r4, rf0, rf1, rf2, rf3, rf4⟩ := Blk.five hT.res
      go_wp2_with fail
      exact bodyPost_ret (res_cr2 rfl rfl (g := w.heap.size) (hT.res.set5 _ _ _ _ _)) rfl ⟨rfl, bel_set5 hT.bel (Nat.le_refl _) _ _ _ _ _⟩
end Go.Proofs.YtabnndjdkjkciaaGreatDoor

namespace Go.Proofs.YtabnndjdkjkciaaGreatDoor
open Go.RowKit

theorem run_copy_rowK {P : Program} (w : World) (dT sT ty elem : TypeId) (k : Nat) (g o dLen dCap : Nat) (a : Addr) (sLen sCap : Nat) (cur : Array Value) (t : TypeId) (cs : List Value)
    (hu : P.underlying dT = some (.slice elem)) (hs : (P.info? elem).map (·.size) = some k)
    (hg : w.heap[g]? = some (.cells cur t (0, 0))) (hn : cs.length = Nat.min sLen dLen * k)
    (hsrc : ∀ j v, cs[j]? = some v → w.cell? (a.add j) = some v) (hfit : o + cs.length ≤ cur.size) (h1 : ∀ v ∈ cs, v.oneCell' = true) :
    (Builtin.copy_ #[dT, sT] ty #[.slice (some ⟨g, o, none⟩) dLen dCap, .slice (some a) sLen sCap]).run P w =
      .ok (goInt (Nat.min sLen dLen)) (w.setRow g (cur.toList.take o ++ cs ++ cur.toList.drop (o + cs.length)).toArray) := by
  have hl := run_loadCells_list (P := P) w a cs hsrc
  have hst := run_storeCells_at P g o t cs 0 cur w hg (by simpa using hfit) h1
  cases hq : P.info? elem with
  | none => simp [hq] at hs
  | some i =>
    have hi : i.size = k := by simpa [hq] using hs
    simp [Builtin.copy_, run_underlying hu, Builtin.lenOf, Builtin.firstCells, sizeOf, typeInfo, hq, hi, ← hn, hl, hst]
theorem step_copyK {P : Program} {ops : Array Oper} {o : Oper} {a : Act} {w : World} {K : Act → World → Prop} {Q : Exit → Act → World → Prop} {E : Prop} (hgd : o.guard = none) (d s : Operand) (dT sT : TypeId)
    (ho : o.op = .call { callee := .builtin .copy, args := #[d, s], argTypes := #[dT, sT] }) (elem : TypeId) (k : Nat) (hu : P.underlying dT = some (.slice elem)) (hsz : (P.info? elem).map (·.size) = some k)
    (g off dLen dCap : Nat) (ad : Addr) (sLen sCap : Nat) (hd : a.eval d = .slice (some ⟨g, off, none⟩) dLen dCap) (hs : a.eval s = .slice (some ad) sLen sCap)
    (cur : List Value) (t : TypeId) (hg : w.heap[g]? = some (.cells cur.toArray t (0, 0))) (cs : List Value) (q : Nat) (hq : Nat.min sLen dLen = q) (hn : cs.length = q * k)
    (hsrc : ∀ j v, cs[j]? = some v → w.cell? (ad.add j) = some v) (hfit : off + cs.length ≤ cur.length) (h1 : ∀ v ∈ cs, v.oneCell' = true) (B : Nat) (w0 : World) (hb : Below B w0 w) (hBg : B ≤ g)
    (h : ∀ w', Hid (w'.heap[g]? = some (.cells (splice cur off cs).toArray t (0, 0))) → Below B w0 w' → K (a.put o.dst (goInt q)) w') :
    if Region.wanted o (yielded ops a.tmps) = true then Oper.wp P o a w K Q else E := by
  subst hq
  have hw : Region.wanted o (yielded ops a.tmps) = true := by simp [Region.wanted, hgd]
  rw [if_pos hw]
  have hrun := run_copy_rowK (P := P) w dT sT o.type elem k g off dLen dCap ad sLen sCap cur.toArray t cs hu hsz hg hn hsrc (by simpa using hfit) h1
  unfold Oper.wp
  simp [execOp, ho, resolve, invoke, builtin, hd, hs, hrun, Result.andThen]
  exact h _ (show _ = _ by simpa [splice] using setRow_heap w g _ _ t _ hg) (below_setRow hb hBg _)
end Go.Proofs.YtabnndjdkjkciaaGreatDoor
