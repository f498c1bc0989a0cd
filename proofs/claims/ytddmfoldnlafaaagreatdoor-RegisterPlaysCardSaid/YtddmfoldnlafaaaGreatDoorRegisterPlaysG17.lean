/- WHAT IT HOLDS: a register's lease acquired: walked. | WHAT IT HOLDS: the law's register is alive, walked. | WHAT IT HOLDS: arguments that are acts of a store, opened to the words of Kit. | WHAT IT HOLDS: which scripts of a store's acts are long, walked. | WHAT IT HOLDS: arguments that are acts of a register, opened to the words of Kit. | WHAT IT HOLDS: which scripts of a register's acts are long, walked. | WHAT IT HOLDS: the document's rows of files in memory; found, struck, put: walked. -/
import Derived.Test.YtddmfoldnlafaaaGreatDoorRegisterPlaysG16
import Derived.Test.YtddmfoldnlafaaaGreatDoorRegisterPlaysG07
import Derived.Test.YtddmfoldnlafaaaGreatDoorRegisterPlaysG12
namespace Go.Proofs.YtddmfoldnlafaaaGreatDoor
open Go.RowKit Go.Maps Go.Sort
attribute [local go_sem ↓] Go.wp_at_zero Go.wp_at_succ

set_option maxRecDepth 100000 in
set_option maxHeartbeats 1000000 in
theorem RgAdd_any {g : Nat} {n : Int} (w : World) (hc : w.cell? ⟨g, 6, none⟩ = some (.int .i64 n)) (hz : w.frozen? ⟨g, 6, none⟩ = false) :
    Calls Tryz.prog 69 #[.pointer (some ⟨g, 6, none⟩), .int .i64 1] w fun e w' => e = .returned (.int .i64 (wrap64 (n + 1))) ∧ w' = w.setCell ⟨g, 6, none⟩ (.int .i64 (wrap64 (n + 1))) := by
  have hs : (Op.intArith .add .i64 n 1).run Tryz.prog w = .ok (.int .i64 (wrap64 (n + 1))) w := by simp [go_sem]; simp only [IntKind.wrap_i64, wrap64]
  have hd := run_call_add (P := Tryz.prog) (f := 129) Tryz.func129 (by kernel_rfl) (by kernel_rfl) (by kernel_rfl) .i64 (by kernel_rfl) hc hz hs
  go_enter Tryz.func69, Tryz.ntmps69
  go_wp2_with fail
  go_ret
  exact ⟨rfl, rfl⟩
set_option maxRecDepth 100000 in
set_option maxHeartbeats 1000000 in
theorem RAcquire_any {w : World} {gr gs : Nat} {q : Fp} {d : Dk Sv} {sp bo n : Int} {L : L3r} (h : RgM w gr gs q d sp bo L n) (hf : Fok d) (hl : d.sure.length + d.pend.length ≤ 900) (o now : Int) :
    Calls Tryz.prog 23 #[.pointer (some ⟨gr, 0, none⟩), .int .i64 o, .int .i64 now] w fun e w' => ∃ ret k d' L' n', AcqO d L n sp bo o now ret k d' L' n' ∧ e = .returned (.tuple #[lv ret.1 ret.2.1 ret.2.2, errv k]) ∧ RgG w gr gs q sp bo d' L' n' w' := by
  have hGr := fun W => Grant_any L.1 L.2.1 L.2.2 o now sp bo W
  unfold Leased at hGr
  have hno := @AcqO.no d L n sp bo o now
  have hbad := @AcqO.bad d L n sp bo o now
  have hok := @AcqO.ok d L n sp bo o now
  unfold grantL at hno hbad hok
  generalize grant L.1 L.2.1 L.2.2 o now sp bo = t at *
  obtain ⟨t1, t2, t3, t4⟩ := t
  dsimp only at hGr hno hbad hok
  have HGr := Lib.hid hGr
  have HNo := Lib.hid hno
  have HBad := Lib.hid hbad
  have HOk := Lib.hid hok
  have H := Lib.hid h
  have hb0 := below_new w (.cells #[.int .i64 0, .int .i64 0, .int .i64 0] 56)
  have hB0 := Blk.new w 56 #[.int .i64 0, .int .i64 0, .int .i64 0]
  have hm0 := h.below hb0
  have hs0 : (w.alloc (.cells #[.int .i64 0, .int .i64 0, .int .i64 0] 56)).heap.size = w.heap.size + 1 := by simp
  have Hgr := Lib.hid h.blk.lt
  clear h hno hbad hok hGr
  go_enter Tryz.func23, Tryz.ntmps23
  go_upto_region 3 with (fail)
  refine gen1 (T := fun W => RgM W gr gs q d sp bo L n ∧ Blk W w.heap.size 56 #[.int .i64 0, .int .i64 0, .int .i64 0] ∧ Below w.heap.size w W ∧ W.heap.size = w.heap.size + 1) ⟨hm0, hB0, hb0, hs0⟩ (fun w0 hT => ?_)
  clear hm0 hB0 hb0 hs0
  obtain ⟨hm0, hB0, hb0, hs0⟩ := hT
  go_cut [8, 9] (fun y z wz => ∃ g : Nat, y = .pointer (some ⟨g, 0, none⟩) ∧ z = errv t4 ∧ w0.heap.size ≤ g ∧ Blk wz g 56 #[.int .i64 t1, .int .i64 t2, .int .i64 t3] ∧ Below w0.heap.size w0 wz)
  case first =>
    have hst : Below w0.heap.size w0 w0.drew := Below.drew (Below.refl _ _)
    refine wp_region_held_drew (S := (fun W => Below w0.heap.size w0 W)) (by kernel_rfl) ?_ (fun hHeld => ?_)
    · exact hst
    refine gen0 (T := fun W => ((fun W => Below w0.heap.size w0 W)) W ∧ True) ?_ (fun wq1 hT => ?_)
    · exact ⟨by (with_reducible exact hst), trivial⟩
    (try clear f0 f1 f2 f3 f4 f5 f6 f7 f8 f9 f10 f11)
    obtain ⟨hHeld, -⟩ := hT
    refine wpAnyH_take (i := 0) (oi := ⟨some 16, _, _, _, _, _⟩) (v := ?_) rfl (by kernel_rfl) (by kernel_rfl) (by kernel_rfl) (fun _ _ _ h => h) (Or.inl ⟨by kernel_rfl, ?_⟩) (by assumption) ?_
    rotate_left
    · (intro wS hSw; (try dsimp only at hSw); obtain ⟨x0, x1, x2, x3, x4, x5, x6⟩ := (hm0.below hSw).blk.sevC; clear hSw; go_simp; (try with_reducible rfl))
    (try simp only [Act.put, List.setIfInBounds_toArray, List.set_cons_zero, List.set_cons_succ])
    refine wpAnyH_take (i := 1) (oi := ⟨some 17, _, _, _, _, _⟩) (v := ?_) rfl (by kernel_rfl) (by kernel_rfl) (by kernel_rfl) (fun _ _ _ h => h) (Or.inl ⟨by kernel_rfl, ?_⟩) (by assumption) ?_
    rotate_left
    · (intro wS hSw; (try dsimp only at hSw); obtain ⟨x0, x1, x2, x3, x4, x5, x6⟩ := (hm0.below hSw).blk.sevC; clear hSw; go_simp; (try with_reducible rfl))
    (try simp only [Act.put, List.setIfInBounds_toArray, List.set_cons_zero, List.set_cons_succ])
    refine wpAnyH_take (i := 2) (oi := ⟨some 18, _, _, _, _, _⟩) (v := ?_) rfl (by kernel_rfl) (by kernel_rfl) (by kernel_rfl) (fun _ _ _ h => h) (Or.inl ⟨by kernel_rfl, ?_⟩) (by assumption) ?_
    rotate_left
    · (intro wS hSw; (try dsimp only at hSw); obtain ⟨x0, x1, x2, x3, x4, x5, x6⟩ := (hm0.below hSw).blk.sevC; clear hSw; go_simp; (try with_reducible rfl))
    (try simp only [Act.put, List.setIfInBounds_toArray, List.set_cons_zero, List.set_cons_succ])
    refine wpAnyH_take (i := 3) (oi := ⟨some 19, _, _, _, _, _⟩) (v := ?_) rfl (by kernel_rfl) (by kernel_rfl) (by kernel_rfl) (fun _ _ _ h => h) (Or.inl ⟨by kernel_rfl, ?_⟩) (by assumption) ?_
    rotate_left
    · (intro wS hSw; (try dsimp only at hSw); obtain ⟨x0, x1, x2, x3, x4, x5, x6⟩ := (hm0.below hSw).blk.sevC; clear hSw; go_simp; (try with_reducible rfl))
    (try simp only [Act.put, List.setIfInBounds_toArray, List.set_cons_zero, List.set_cons_succ])
    refine wpAnyH_take (i := 4) (oi := ⟨some 20, _, _, _, _, _⟩) (v := ?_) rfl (by kernel_rfl) (by kernel_rfl) (by kernel_rfl) (fun _ _ _ h => h) (Or.inl ⟨by kernel_rfl, ?_⟩) (by assumption) ?_
    rotate_left
    · (intro wS hSw; (try dsimp only at hSw); obtain ⟨x0, x1, x2, x3, x4, x5, x6⟩ := (hm0.below hSw).blk.sevC; clear hSw; go_simp; (try with_reducible rfl))
    (try simp only [Act.put, List.setIfInBounds_toArray, List.set_cons_zero, List.set_cons_succ])
    refine wpAnyH_take (i := 5) (oi := ⟨some 21, _, _, _, _, _⟩) (v := ?_) rfl (by kernel_rfl) (by kernel_rfl) (by kernel_rfl) (fun _ _ _ h => h) (Or.inl ⟨by kernel_rfl, ?_⟩) (by assumption) ?_
    rotate_left
    · (intro wS hSw; (try dsimp only at hSw); obtain ⟨x0, x1, x2, x3, x4, x5, x6⟩ := (hm0.below hSw).blk.sevC; clear hSw; go_simp; (try with_reducible rfl))
    (try simp only [Act.put, List.setIfInBounds_toArray, List.set_cons_zero, List.set_cons_succ])
    refine wpAnyH_take (i := 6) (oi := ⟨some 22, _, _, _, _, _⟩) (v := ?_) rfl (by kernel_rfl) (by kernel_rfl) (by kernel_rfl) (fun _ _ _ h => h) (Or.inl ⟨by kernel_rfl, ?_⟩) (by assumption) ?_
    rotate_left
    · (intro wS hSw; (try dsimp only at hSw); obtain ⟨x0, x1, x2, x3, x4, x5, x6⟩ := (hm0.below hSw).blk.sevC; clear hSw; go_simp; (try with_reducible rfl))
    (try simp only [Act.put, List.setIfInBounds_toArray, List.set_cons_zero, List.set_cons_succ])
    refine wpAnyH_take (i := 7) (oi := ⟨some 23, _, _, _, _, _⟩) (v := ?_) rfl (by kernel_rfl) (by kernel_rfl) (by kernel_rfl) (fun _ _ _ h => h) (Or.inl ⟨by kernel_rfl, ?_⟩) (by assumption) ?_
    rotate_left
    · (intro wS hSw; (try dsimp only at hSw); obtain ⟨x0, x1, x2, x3, x4, x5, x6⟩ := (hm0.below hSw).blk.sevC; clear hSw; go_simp; (try with_reducible rfl))
    (try simp only [Act.put, List.setIfInBounds_toArray, List.set_cons_zero, List.set_cons_succ])
    refine wpAnyH_take (i := 8) (oi := ⟨some 24, _, _, _, _, _⟩) (v := ?_) rfl (by kernel_rfl) (by kernel_rfl) (by kernel_rfl) (fun _ _ _ h => h) (Or.inl ⟨by kernel_rfl, ?_⟩) (by assumption) ?_
    rotate_left
    · (intro wS hSw; (try dsimp only at hSw); obtain ⟨x0, x1, x2, x3, x4, x5, x6⟩ := (hm0.below hSw).blk.sevC; clear hSw; go_simp; (try with_reducible rfl))
    (try simp only [Act.put, List.setIfInBounds_toArray, List.set_cons_zero, List.set_cons_succ])
    refine wpAnyH_take (i := 9) (oi := ⟨some 25, _, _, _, _, _⟩) (v := ?_) rfl (by kernel_rfl) (by kernel_rfl) (by kernel_rfl) (fun _ _ _ h => h) (Or.inl ⟨by kernel_rfl, ?_⟩) (by assumption) ?_
    rotate_left
    · (intro wS hSw; (try dsimp only at hSw); obtain ⟨x0, x1, x2, x3, x4, x5, x6⟩ := (hm0.below hSw).blk.sevC; clear hSw; go_simp; (try with_reducible rfl))
    (try simp only [Act.put, List.setIfInBounds_toArray, List.set_cons_zero, List.set_cons_succ])
    refine wpAnyH_take (i := 10) (oi := ⟨some 26, _, _, _, _, _⟩) (v := ?_) rfl (by kernel_rfl) (by kernel_rfl) (by kernel_rfl) (fun _ _ _ h => h) (Or.inl ⟨by kernel_rfl, ?_⟩) (by assumption) ?_
    rotate_left
    · (intro wS hSw; (try dsimp only at hSw); obtain ⟨x0, x1, x2, x3, x4, x5, x6⟩ := (hm0.below hSw).blk.sevC; clear hSw; go_simp; (try with_reducible rfl))
    (try simp only [Act.put, List.setIfInBounds_toArray, List.set_cons_zero, List.set_cons_succ])
    refine wpAnyH_take (i := 11) (oi := ⟨some 27, _, _, _, _, _⟩) (v := ?_) rfl (by kernel_rfl) (by kernel_rfl) (by kernel_rfl) (fun _ _ _ h => h) (Or.inl ⟨by kernel_rfl, ?_⟩) (by assumption) ?_
    rotate_left
    · (intro wS hSw; (try dsimp only at hSw); obtain ⟨x0, x1, x2, x3, x4, x5, x6⟩ := (hm0.below hSw).blk.sevC; clear hSw; go_simp; (try with_reducible rfl))
    (try simp only [Act.put, List.setIfInBounds_toArray, List.set_cons_zero, List.set_cons_succ])
    refine wpAnyH_take (i := 12) (oi := ⟨some 28, _, _, _, _, _⟩) (v := ?_) rfl (by kernel_rfl) (by kernel_rfl) (by kernel_rfl) (fun _ _ _ h => h) (Or.inl ⟨by kernel_rfl, ?_⟩) (by assumption) ?_
    rotate_left
    · (intro wS hSw; (try dsimp only at hSw); obtain ⟨x0, x1, x2, x3, x4, x5, x6⟩ := (hm0.below hSw).blk.sevC; clear hSw; go_simp; (try with_reducible rfl))
    (try simp only [Act.put, List.setIfInBounds_toArray, List.set_cons_zero, List.set_cons_succ])
    refine wpAnyH_take (i := 13) (oi := ⟨some 29, _, _, _, _, _⟩) (v := ?_) rfl (by kernel_rfl) (by kernel_rfl) (by kernel_rfl) (fun _ _ _ h => h) (Or.inl ⟨by kernel_rfl, ?_⟩) (by assumption) ?_
    rotate_left
    · (intro wS hSw; (try dsimp only at hSw); obtain ⟨x0, x1, x2, x3, x4, x5, x6⟩ := (hm0.below hSw).blk.sevC; clear hSw; go_simp; (try with_reducible rfl))
    (try simp only [Act.put, List.setIfInBounds_toArray, List.set_cons_zero, List.set_cons_succ])
    refine wpAnyH_ready (rs := [14, 18]) (by kernel_rfl) (by simp) ?_
    refine AllReadyH.cons (o := ⟨some 30, _, _, _, _, _⟩) rfl (fun K hK => ?_) ?_
    · go_simp
      (refine (HGr.out _).mono ?_; rintro e w9 ⟨rfl, hb9⟩)
      go_wp2_with fail
      refine hK.out _ _ ?_ (fun _ => ?_)
      · ((try dsimp only); (exact bel_call hHeld hb9))
      clear hK K
      (try simp only [Act.put, List.setIfInBounds_toArray, List.set_cons_zero, List.set_cons_succ])
      refine gen0 (T := fun W => ((fun W => Below w0.heap.size w0 W)) W ∧ True) ?_ (fun wq2 hT => ?_)
      · exact ⟨by (exact bel_call hHeld hb9), trivial⟩
      (try clear f0 f1 f2 f3 f4 f5 f6 f7 f8 f9 f10 f11)
      obtain ⟨hHeld, -⟩ := hT
      refine wpAnyH_take (i := 15) (oi := ⟨some 15, _, _, _, _, _⟩) (v := ?_) rfl (by kernel_rfl) (by kernel_rfl) (by kernel_rfl) (fun _ _ _ h => h) (Or.inl ⟨by kernel_rfl, ?_⟩) (by assumption) ?_
      rotate_left
      · (intro wS hSw; (try dsimp only at hSw); obtain ⟨x0, x1, x2, x3, x4, x5, x6⟩ := (hm0.below hSw).blk.sevC; clear hSw; go_simp; (try with_reducible rfl))
      (try simp only [Act.put, List.setIfInBounds_toArray, List.set_cons_zero, List.set_cons_succ])
      refine wpAnyH_take (i := 16) (oi := ⟨some 31, _, _, _, _, _⟩) (v := ?_) rfl (by kernel_rfl) (by kernel_rfl) (by kernel_rfl) (fun _ _ _ h => h) (Or.inl ⟨by kernel_rfl, ?_⟩) (by assumption) ?_
      rotate_left
      · (intro wS hSw; (try dsimp only at hSw); obtain ⟨x0, x1, x2, x3, x4, x5, x6⟩ := (hm0.below hSw).blk.sevC; clear hSw; go_simp; (try with_reducible rfl))
      (try simp only [Act.put, List.setIfInBounds_toArray, List.set_cons_zero, List.set_cons_succ])
      refine wpAnyH_take (i := 17) (oi := ⟨some 32, _, _, _, _, _⟩) (v := ?_) rfl (by kernel_rfl) (by kernel_rfl) (by kernel_rfl) (fun _ _ _ h => h) (Or.inl ⟨by kernel_rfl, ?_⟩) (by assumption) ?_
      rotate_left
      · (intro wS hSw; (try dsimp only at hSw); obtain ⟨x0, x1, x2, x3, x4, x5, x6⟩ := (hm0.below hSw).blk.sevC; clear hSw; go_simp; (try with_reducible rfl))
      (try simp only [Act.put, List.setIfInBounds_toArray, List.set_cons_zero, List.set_cons_succ])
      refine wpAnyH_ready (rs := [18]) (by kernel_rfl) (by simp) ?_
      refine AllReadyH.cons (o := ⟨some 8, _, _, _, _, _⟩) rfl (fun K hK => ?_) AllReadyH.nil
      go_simp
      refine hK.out _ _ ?_ (fun _ => ?_)
      · ((try dsimp only); (exact bel_alloc hHeld _))
      clear hK K
      (try simp only [Act.put, List.setIfInBounds_toArray, List.set_cons_zero, List.set_cons_succ])
      refine gen0 (T := fun W => ((fun W => Below w0.heap.size w0 W)) W ∧ Blk W wq2.heap.size 56 #[.int .i64 0, .int .i64 0, .int .i64 0] ∧ w0.heap.size ≤ wq2.heap.size ∧ True) ?_ (fun wq3 hT => ?_)
      · exact ⟨by (exact bel_alloc hHeld _), by (with_reducible exact Blk.new _ _ _), by (exact hHeld.size), trivial⟩
      (try clear f0 f1 f2 f3 f4 f5 f6 f7 f8 f9 f10 f11)
      obtain ⟨hHeld, f0, f1, -⟩ := hT
      refine wpAnyH_ready (rs := [19]) (by kernel_rfl) (by simp) ?_
      refine AllReadyH.cons (o := ⟨none, _, _, _, _, _⟩) rfl (fun K hK => ?_) AllReadyH.nil
      obtain ⟨s0, s1, s2, s3, s4, s5⟩ := f0.three
      go_simp
      refine hK.out _ _ ?_ (fun _ => ?_)
      · ((try dsimp only); (exact bel_set (bel_set (bel_set hHeld (by assumption) _) (by assumption) _) (by assumption) _))
      clear hK K
      (try simp only [Act.put, List.setIfInBounds_toArray, List.set_cons_zero, List.set_cons_succ])
      refine gen0 (T := fun W => ((fun W => Below w0.heap.size w0 W)) W ∧ w0.heap.size ≤ wq2.heap.size ∧ Blk W wq2.heap.size 56 #[.int .i64 t1, .int .i64 t2, .int .i64 t3] ∧ True) ?_ (fun wq4 hT => ?_)
      · exact ⟨by (exact bel_set (bel_set (bel_set hHeld (by assumption) _) (by assumption) _) (by assumption) _), by (with_reducible assumption), by (exact ((f0.set_ 0 _).set_ 1 _).set_ 2 _), trivial⟩
      (try clear f0 f1 f2 f3 f4 f5 f6 f7 f8 f9 f10 f11)
      obtain ⟨hHeld, f0, f1, -⟩ := hT
      refine wpAnyH_take (i := 20) (oi := ⟨some 9, _, _, _, _, _⟩) (v := ?_) rfl (by kernel_rfl) (by kernel_rfl) (by kernel_rfl) (fun _ _ _ h => h) (Or.inl ⟨by kernel_rfl, ?_⟩) (by assumption) ?_
      rotate_left
      · (intro wS hSw; (try dsimp only at hSw); obtain ⟨x0, x1, x2, x3, x4, x5, x6⟩ := (hm0.below hSw).blk.sevC; clear hSw; go_simp; (try with_reducible rfl))
      (try simp only [Act.put, List.setIfInBounds_toArray, List.set_cons_zero, List.set_cons_succ])
      refine wpAnyH_done (by kernel_rfl) ?_ _
      (go_wp2_with fail; go_meet; exact ⟨_, rfl, rfl, f0, f1, hHeld⟩)
    refine AllReadyH.cons (o := ⟨some 8, _, _, _, _, _⟩) rfl (fun K hK => ?_) ?_
    · go_simp
      refine hK.out _ _ ?_ (fun _ => ?_)
      · ((try dsimp only); (exact bel_alloc hHeld _))
      clear hK K
      (try simp only [Act.put, List.setIfInBounds_toArray, List.set_cons_zero, List.set_cons_succ])
      refine gen0 (T := fun W => ((fun W => Below w0.heap.size w0 W)) W ∧ Blk W wq1.heap.size 56 #[.int .i64 0, .int .i64 0, .int .i64 0] ∧ w0.heap.size ≤ wq1.heap.size ∧ True) ?_ (fun wq5 hT => ?_)
      · exact ⟨by (exact bel_alloc hHeld _), by (with_reducible exact Blk.new _ _ _), by (exact hHeld.size), trivial⟩
      (try clear f0 f1 f2 f3 f4 f5 f6 f7 f8 f9 f10 f11)
      obtain ⟨hHeld, f0, f1, -⟩ := hT
      refine wpAnyH_ready (rs := [14]) (by kernel_rfl) (by simp) ?_
      refine AllReadyH.cons (o := ⟨some 30, _, _, _, _, _⟩) rfl (fun K hK => ?_) AllReadyH.nil
      go_simp
      (refine (HGr.out _).mono ?_; rintro e w9 ⟨rfl, hb9⟩)
      go_wp2_with fail
      refine hK.out _ _ ?_ (fun _ => ?_)
      · ((try dsimp only); (exact bel_call hHeld hb9))
      clear hK K
      (try simp only [Act.put, List.setIfInBounds_toArray, List.set_cons_zero, List.set_cons_succ])
      refine gen0 (T := fun W => ((fun W => Below w0.heap.size w0 W)) W ∧ Blk W wq1.heap.size 56 #[.int .i64 0, .int .i64 0, .int .i64 0] ∧ w0.heap.size ≤ wq1.heap.size ∧ True) ?_ (fun wq6 hT => ?_)
      · exact ⟨by (exact bel_call hHeld hb9), by (exact f0.below hb9), by (with_reducible assumption), trivial⟩
      (try clear f0 f1 f2 f3 f4 f5 f6 f7 f8 f9 f10 f11)
      obtain ⟨hHeld, f0, f1, -⟩ := hT
      refine wpAnyH_take (i := 15) (oi := ⟨some 15, _, _, _, _, _⟩) (v := ?_) rfl (by kernel_rfl) (by kernel_rfl) (by kernel_rfl) (fun _ _ _ h => h) (Or.inl ⟨by kernel_rfl, ?_⟩) (by assumption) ?_
      rotate_left
      · (intro wS hSw; (try dsimp only at hSw); obtain ⟨x0, x1, x2, x3, x4, x5, x6⟩ := (hm0.below hSw).blk.sevC; clear hSw; go_simp; (try with_reducible rfl))
      (try simp only [Act.put, List.setIfInBounds_toArray, List.set_cons_zero, List.set_cons_succ])
      refine wpAnyH_take (i := 16) (oi := ⟨some 31, _, _, _, _, _⟩) (v := ?_) rfl (by kernel_rfl) (by kernel_rfl) (by kernel_rfl) (fun _ _ _ h => h) (Or.inl ⟨by kernel_rfl, ?_⟩) (by assumption) ?_
      rotate_left
      · (intro wS hSw; (try dsimp only at hSw); obtain ⟨x0, x1, x2, x3, x4, x5, x6⟩ := (hm0.below hSw).blk.sevC; clear hSw; go_simp; (try with_reducible rfl))
      (try simp only [Act.put, List.setIfInBounds_toArray, List.set_cons_zero, List.set_cons_succ])
      refine wpAnyH_take (i := 17) (oi := ⟨some 32, _, _, _, _, _⟩) (v := ?_) rfl (by kernel_rfl) (by kernel_rfl) (by kernel_rfl) (fun _ _ _ h => h) (Or.inl ⟨by kernel_rfl, ?_⟩) (by assumption) ?_
      rotate_left
      · (intro wS hSw; (try dsimp only at hSw); obtain ⟨x0, x1, x2, x3, x4, x5, x6⟩ := (hm0.below hSw).blk.sevC; clear hSw; go_simp; (try with_reducible rfl))
      (try simp only [Act.put, List.setIfInBounds_toArray, List.set_cons_zero, List.set_cons_succ])
      refine wpAnyH_ready (rs := [19]) (by kernel_rfl) (by simp) ?_
      refine AllReadyH.cons (o := ⟨none, _, _, _, _, _⟩) rfl (fun K hK => ?_) AllReadyH.nil
      obtain ⟨s0, s1, s2, s3, s4, s5⟩ := f0.three
      go_simp
      refine hK.out _ _ ?_ (fun _ => ?_)
      · ((try dsimp only); (exact bel_set (bel_set (bel_set hHeld (by assumption) _) (by assumption) _) (by assumption) _))
      clear hK K
      (try simp only [Act.put, List.setIfInBounds_toArray, List.set_cons_zero, List.set_cons_succ])
      refine gen0 (T := fun W => ((fun W => Below w0.heap.size w0 W)) W ∧ w0.heap.size ≤ wq1.heap.size ∧ Blk W wq1.heap.size 56 #[.int .i64 t1, .int .i64 t2, .int .i64 t3] ∧ True) ?_ (fun wq7 hT => ?_)
      · exact ⟨by (exact bel_set (bel_set (bel_set hHeld (by assumption) _) (by assumption) _) (by assumption) _), by (with_reducible assumption), by (exact ((f0.set_ 0 _).set_ 1 _).set_ 2 _), trivial⟩
      (try clear f0 f1 f2 f3 f4 f5 f6 f7 f8 f9 f10 f11)
      obtain ⟨hHeld, f0, f1, -⟩ := hT
      refine wpAnyH_take (i := 20) (oi := ⟨some 9, _, _, _, _, _⟩) (v := ?_) rfl (by kernel_rfl) (by kernel_rfl) (by kernel_rfl) (fun _ _ _ h => h) (Or.inl ⟨by kernel_rfl, ?_⟩) (by assumption) ?_
      rotate_left
      · (intro wS hSw; (try dsimp only at hSw); obtain ⟨x0, x1, x2, x3, x4, x5, x6⟩ := (hm0.below hSw).blk.sevC; clear hSw; go_simp; (try with_reducible rfl))
      (try simp only [Act.put, List.setIfInBounds_toArray, List.set_cons_zero, List.set_cons_succ])
      refine wpAnyH_done (by kernel_rfl) ?_ _
      (go_wp2_with fail; go_meet; exact ⟨_, rfl, rfl, f0, f1, hHeld⟩)
    exact AllReadyH.nil
  case rest =>
    obtain ⟨g, rfl, rfl, hlo, hBl, hHeld⟩ := hcut
    have hm1 := hm0.below hHeld
    have hB1 := hB0.below hHeld
    have hb1 := hb0.trans (hHeld.mono hb0.size)
    have hgne : w.heap.size ≠ g := by omega
    have hgne2 : gr ≠ g := by have := Hgr.out; omega
    clear hm0 hB0 hb0 hHeld
    rcases Decidable.em (t4 = 0) with h0 | h0
    rotate_left
    · obtain ⟨ev, hev⟩ := errv_ifc h0
      obtain ⟨b0, b1, b2, bf0, bf1, bf2⟩ := hB1.three
      have hB2 := ((hB1.set_ 0 (.int .i64 0)).set_ 1 (.int .i64 0)).set_ 2 (.int .i64 0)
      have hb2 := bel_set (bel_set (bel_set hb1 (p := ⟨w.heap.size, 0, none⟩) (Nat.le_refl _) (.int .i64 0)) (p := ⟨w.heap.size, 1, none⟩) (Nat.le_refl _) (.int .i64 0)) (p := ⟨w.heap.size, 2, none⟩) (Nat.le_refl _) (.int .i64 0)
      have HE := Lib.hid hev
      have HA := Lib.hid (HNo.out h0)
      have HB2 := Lib.hid hB2
      have HRR := Lib.hid (RgG.still H.out hb2)
      rw [hev]
      clear hev h0 hB1 hB2 hb1 hb2 hm1 hBl
      go_wp2_with fail
      exact bodyPost_ret (res_lease rfl rfl (g := w.heap.size) HB2.out) rfl ⟨(0, 0, 0), t4, d, L, n, HA.out, by rw [HE.out]; rfl, HRR.out⟩
    subst h0
    have HK := Lib.hid (RKeep_any hm1 hf hl (t1, t2, t3))
    obtain ⟨c0, c1, c2, -, -, -⟩ := hBl.three
    rw [show errv 0 = Value.nilIface from rfl]
    have Hb1 := Lib.hid hb1
    have HB1 := Lib.hid hB1
    have HBl := Lib.hid hBl
    have HM1 := Lib.hid hm1
    have hqn : ∀ i, w.heap.size ≤ i → ¬ q.M i := fun i hi hq => by have := H.out.st.dsk.ltM hq; omega
    have Hqn := Lib.hid hqn
    clear hb1 hB1 hBl hm1 hqn
    go_wp2_with fail
    refine HK.out.mono ?_
    clear HK
    rintro e w3 ⟨A, c, rfl, q3, hg3, hR3, hF3, hM3⟩
    have hB3 : Blk w3 w.heap.size 56 #[.int .i64 0, .int .i64 0, .int .i64 0] := (hF3.block _ HB1.out.lt (Hqn.out _ (Nat.le_refl _)) (by have := Hgr.out; omega)).trans HB1.out
    have hBl3 : Blk w3 g 56 #[.int .i64 t1, .int .i64 t2, .int .i64 t3] := (hF3.block _ HBl.out.lt (Hqn.out _ (by omega)) (fun e => hgne2 e.symm)).trans HBl.out
    have HF3 := Lib.hid ((Frg.of_below (q := q) gr Hb1.out).trans hF3 (fun i hi => .inl hi))
    have HM3 := Lib.hid (show ∀ i, q3.M i → q.M i ∨ w.heap.size ≤ i from fun i hi => by
      rcases hM3 i hi with h1 | h1
      · exact .inl h1
      · have := Hb1.out.size; exact .inr (by omega))
    have Hg3 := Lib.hid hg3
    have hbad := HBad.out A c (by first | rfl | trivial)
    have hok := HOk.out A c (by first | rfl | trivial)
    have Hq3 := Lib.hid (show ¬ q3.M w.heap.size from fun hq => by
      rcases hM3 _ hq with h1 | h1
      · exact Hqn.out _ (Nat.le_refl _) h1
      · have := HB1.out.lt; omega)
    have Hgs := Lib.hid H.out.st.blk.lt
    clear hF3 hM3 hg3 HB1 HBl Hb1 HM1 c0 c1 c2 HBad HOk HNo
    generalize rgKeep d (t1, t2, t3) A c = r at *
    obtain ⟨d3, k3⟩ := r
    dsimp only at hR3 hbad hok ⊢
    rcases Decidable.em (k3 = 0) with h0 | h0
    rotate_left
    · obtain ⟨ev, hev⟩ := errv_ifc h0
      rw [if_neg h0] at hR3
      obtain ⟨b0, b1, b2, bf0, bf1, bf2⟩ := hB3.three
      have hB4 := ((hB3.set_ 0 (.int .i64 0)).set_ 1 (.int .i64 0)).set_ 2 (.int .i64 0)
      have hw : Wr w3 (((w3.setCell ⟨w.heap.size, 0, none⟩ (.int .i64 0)).setCell ⟨w.heap.size, 1, none⟩ (.int .i64 0)).setCell ⟨w.heap.size, 2, none⟩ (.int .i64 0)) w.heap.size := (((Wr.refl _ _).set_ 0 _).set_ 1 _).set_ 2 _
      have HR4 := Lib.hid (hR3.other hB3 lease_nob Hq3.out (by have := Hgr.out; omega) (by have := Hgs.out; omega) hw)
      have HF4 := Lib.hid (HF3.out.more hw (Nat.le_refl _))
      have HE := Lib.hid hev
      have HA := Lib.hid (hbad h0)
      have HB4 := Lib.hid hB4
      rw [hev]
      clear hev h0 hbad hok hB4 hw hB3 hBl3 hR3
      go_wp2_with fail
      exact bodyPost_ret (res_lease rfl rfl (g := w.heap.size) HB4.out) rfl ⟨(0, 0, 0), k3, d3, L, n, HA.out, by rw [HE.out]; rfl, q3, Hg3.out, HR4.out, HF4.out, HM3.out⟩
    · subst h0
      rw [if_pos rfl] at hR3
      have HA := Lib.hid (hok (by first | rfl | trivial))
      have hc6 := hR3.blk.cell 6
      have hz6 := hR3.blk.frozen 6
      have HAdd := Lib.hid (RgAdd_any w3 hc6 hz6)
      have hw4 : Wr w3 (w3.setCell ⟨gr, 6, none⟩ (.int .i64 (wrap64 (n + 1)))) gr := (Wr.refl _ _).set_ 6 _
      have hR4 := hR3.set (L' := (t1, t2, t3)) (m := wrap64 (n + 1)) hw4 (hR3.blk.set_ 6 (.int .i64 (wrap64 (n + 1))))
      have hB4 := hB3.wr hw4 (by have := Hgr.out; omega)
      have hBl4 := hBl3.wr hw4 (fun e => hgne2 e.symm)
      have HF4 := Lib.hid (HF3.out.wr hw4)
      rw [show errv 0 = Value.nilIface from rfl]
      have HR4 := Lib.hid hR4
      have HB4 := Lib.hid hB4
      have HBl4 := Lib.hid hBl4
      clear hbad hok hw4 hR4 hB4 hBl4 hB3 hBl3 hR3 hc6 hz6
      go_wp2_with fail
      refine HAdd.out.mono ?_
      rintro e w4 ⟨rfl, rfl⟩
      go_upto_region 10 with (fail)
      refine gen1 (T := fun W => RgM W gr gs q3 d3 sp bo (t1, t2, t3) (wrap64 (n + 1)) ∧ Blk W w.heap.size 56 #[.int .i64 0, .int .i64 0, .int .i64 0] ∧ Blk W g 56 #[.int .i64 t1, .int .i64 t2, .int .i64 t3] ∧ Frg q gr w W) ⟨HR4.out, HB4.out, HBl4.out, HF4.out⟩ (fun w5 hT => ?_)
      obtain ⟨hR5, hB5, hBl5, hF5⟩ := hT
      obtain ⟨b0, b1, b2, bf0, bf1, bf2⟩ := hB5.three
      obtain ⟨c0, c1, c2, -, -, -⟩ := hBl5.three
      have hw : Wr w5 (((w5.setCell ⟨w.heap.size, 0, none⟩ (.int .i64 t1)).setCell ⟨w.heap.size, 1, none⟩ (.int .i64 t2)).setCell ⟨w.heap.size, 2, none⟩ (.int .i64 t3)) w.heap.size := (((Wr.refl _ _).set_ 0 _).set_ 1 _).set_ 2 _
      have HB6 := Lib.hid (((hB5.set_ 0 (.int .i64 t1)).set_ 1 (.int .i64 t2)).set_ 2 (.int .i64 t3))
      have HR6 := Lib.hid (hR5.other hB5 lease_nob Hq3.out (by have := Hgr.out; omega) (by have := Hgs.out; omega) hw)
      have HF6 := Lib.hid (hF5.more hw (Nat.le_refl _))
      clear hR5 hB5 hBl5 hF5 hw HR4 HB4 HBl4 HF4 HAdd
      go_wp2_with fail
      exact bodyPost_ret (res_lease rfl rfl (g := w.heap.size) HB6.out) rfl ⟨(t1, t2, t3), 0, d3, (t1, t2, t3), wrap64 (n + 1), HA.out, rfl, q3, Hg3.out, HR6.out, HF6.out, HM3.out⟩
end Go.Proofs.YtddmfoldnlafaaaGreatDoor

namespace Go.Proofs.YtddmfoldnlafaaaGreatDoor
open Go.RowKit Go.Maps Go.Sort
attribute [local go_sem ↓] Go.wp_at_zero Go.wp_at_succ

/-- opened without an error -/
theorem RgO.ok {w w' : World} {q : Fp} {sp bo : Int} {d' : Dk Sv} {L : L3r} {e : Ending} (h : RgO w q sp bo (d', L, 0) e w') : ∃ q' gr gs, e = .returned (.tuple #[.pointer (some ⟨gr, 0, none⟩), .nilIface]) ∧ q'.g = q.g ∧ RgM w' gr gs q' d' sp bo L 0 ∧ Frd q w w' ∧ (∀ i, q'.M i → q.M i ∨ w.heap.size ≤ i) ∧ w.heap.size ≤ gr := by
  obtain ⟨q', hg, hD, hF, hM, h0⟩ := h
  rcases h0 with ⟨-, gr, gs, he, hR, h1, -⟩ | ⟨h0, -⟩
  · exact ⟨q', gr, gs, he, hg, hR, hF, hM, h1⟩
  · exact absurd rfl h0
theorem keep_alive (A : Option Addr) (c : Nat) : (rgKeep (dk0 1000) (1, 1, 5) A c).2 = 0 := by kernel_rfl
theorem grant_alive : grantL (0, 0, 0) 1 0 5 0 = ((1, 1, 5), 0) := by kernel_rfl
theorem acq_alive {ret : L3r} {k : Nat} {d' : Dk Sv} {L' : L3r} {n' : Int} (h : AcqO (dk0 1000) (0, 0, 0) 0 5 0 1 0 ret k d' L' n') : ret = (1, 1, 5) ∧ k = 0 := by
  have hg := grant_alive
  have hk := keep_alive
  cases h with
  | no h => rw [hg] at h; exact absurd rfl h
  | bad A c h h2 => rw [hg] at h2; exact absurd (hk A c) h2
  | ok A c h h2 => rw [hg]; exact ⟨rfl, rfl⟩
set_option maxRecDepth 100000 in
set_option maxHeartbeats 1000000 in
theorem AliveR_any (w : World) : Calls Tryz.prog 19 #[] w fun e w' => e = .returned (.bool true) ∧ Below w.heap.size w w' := by
  go_enter Tryz.func19, Tryz.ntmps19
  go_wp2_with fail
  refine (New_any 1000 w).mono ?_
  rintro e w1 (⟨h, -⟩ | ⟨-, q, rfl, hD, hM, hb⟩)
  · omega
  rw [show errv 0 = Value.nilIface from rfl]
  have HF1 := Lib.hid (show Fro w w1 q from ⟨hb, hM⟩)
  have hO := RgOpen_any hD (Fok.dk0 1000) (by decide) 5 0
  rw [show rgOpen (dk0 1000) 5 0 = (dk0 1000, (0, 0, 0), 0) from by kernel_rfl] at hO
  have HO := Lib.hid hO
  clear hD hM hb hO
  go_wp2_with fail
  refine HO.out.mono ?_
  rintro e w2 hOO
  obtain ⟨q2, gr, gs, rfl, hg2, hR2, hF2, hM2, hgr⟩ := hOO.ok
  have HA := Lib.hid (RAcquire_any hR2 (Fok.dk0 1000) (by decide) 1 0)
  have HF2 := Lib.hid (HF1.out.frd hF2 hM2)
  have Hgr := Lib.hid (Nat.le_trans HF1.out.1.size hgr)
  clear HO hOO hF2 hM2 hR2 hg2 hgr HF1
  go_wp2_with fail
  refine HA.out.mono ?_
  rintro e w3 ⟨ret, k, d', L', n', hA, rfl, q3, hg3, hR3, hF3, hM3⟩
  obtain ⟨rfl, rfl⟩ := acq_alive hA
  rw [show errv 0 = Value.nilIface from rfl]
  have HB := Lib.hid (bel_alloc (HF2.out.frg hF3 hM3 Hgr.out).1 (.cells #[.int .i64 1, .int .i64 1, .int .i64 5] 56))
  clear HA hA hg3 hR3 hF3 hM3
  go_wp2_with fail
  go_ret
  exact ⟨rfl, HB.out⟩
end Go.Proofs.YtddmfoldnlafaaaGreatDoor

namespace Go.Proofs.YtddmfoldnlafaaaGreatDoor
open Go.ChangeShapes Go.WideShapes Go.ChangeAt Go.RowKit Go.Deep

/-- an act on a store: its kind, its name, its bytes, an act on its disk, what is kept -/
structure SA where
  k : Int
  n : List UInt8
  A : Option Addr
  c : Nat
  l : List UInt8
  d : DA
  B : Option Addr
  kc : Nat
  ks : List Bool
def sac (a : SA) : List Value := [.int .i64 a.k, .string ⟨a.n.toArray⟩, .slice a.A a.l.length a.c, .int .i64 a.d.k, .string ⟨a.d.n.toArray⟩, .string ⟨a.d.t.toArray⟩, .slice a.d.A a.d.l.length a.d.c, .int .i64 a.d.f, .slice a.d.B a.d.ks.length a.d.kc, .slice a.B a.ks.length a.kc]
def SAok (w : World) (a : SA) : Prop := SlB w a.A a.c a.l ∧ SlZ w a.B a.kc a.ks ∧ DAok w a.d ∧ I64 a.k ∧ a.n.length ≤ maxLen
section
variable {H : Type} {enc : TypeId × Value → H} {P : Program} {w : World} {base b0 : Nat} {held : Bool} {r : Reach} {t e b z u : TypeId} {v : Value} {d : DataW H} {p : List MemPlace}
/-- a slice of elements of so many cells -/
theorem open_sliceH {T : Type} (f : T → List Value) (Q : T → Prop) {k : Nat} (hfl : ∀ x, (f x).length = k) (hk : 0 < k) (ht : P.underlying t = some (.slice e)) (hC : P.cellsOf e = k)
    (hel : ∀ (cs' : List Value) (n : Nat) (y : DataW H × List MemPlace), DataW.trod enc P w base (fun _ => true) held n e cs' = some y → ∃ x : T, f x = cs' ∧ Q x)
    {fuel : Nat} {yy : DataW H × List MemPlace} (hf : DataW.trod enc P w base (fun _ => true) held fuel t [v] = some yy) :
    ∃ (A : Option Addr) (c : Nat) (l : List T), v = .slice A l.length c ∧ Sl w k A l.length c (l.flatMap f) ∧ ∀ x ∈ l, Q x := by
  rcases open_slice ht hf with ⟨hcs, _⟩ | ⟨a, n, c, m, nn, D, Pl, hcs, _, hl, hm, hmm, _, hi⟩
  · simp at hcs
    subst hcs
    exact ⟨none, 0, [], rfl, by simpa using Sl.none_ w k, fun x hx => by simp at hx⟩
  · simp at hcs
    subst hcs
    simp only [if_true] at hmm
    subst hmm
    have hx : ∀ i, i < n → ∃ x : T, Q x ∧ ∀ j u, (f x)[j]? = some u → w.cell? (a.add (i * k + j)) = some u := by
      intro i hin
      obtain ⟨cs', hc, ht'⟩ := hi i (by omega)
      rw [hC] at hc
      obtain ⟨_, hcl, hat⟩ := World.cells?_some hc
      obtain ⟨x, hxe, hxq⟩ := hel cs' nn _ ht'
      refine ⟨x, hxq, fun j u hj => ?_⟩
      have hjk : j < k := by rw [← hfl x]; exact (List.getElem?_eq_some_iff.1 hj).1
      rw [hxe] at hj
      rw [← Go.Deep.add_add, hat j hjk, hj]
    obtain ⟨l, hll, hlr⟩ := list_choice _ n hx
    refine ⟨some a, _, l, by rw [hll], ⟨flat_len hfl l, by omega, hm, (fun h => by cases h), fun j u hj => ⟨a, rfl, ?_⟩⟩, fun x hx => ?_⟩
    · have hjl := (List.getElem?_eq_some_iff.1 hj).1
      rw [flat_len hfl] at hjl
      have hkk : j / k < l.length := by rw [Nat.div_lt_iff_lt_mul hk]; exact hjl
      have hr : j % k < k := Nat.mod_lt _ hk
      have he := flat_get hfl l (j / k) (j % k) hkk hr
      have hj2 : j / k * k + j % k = j := by rw [Nat.mul_comm]; exact Nat.div_add_mod _ _
      rw [hj2, hj] at he
      have := (hlr _ hkk).2 _ _ he.symm
      rwa [hj2] at this
    · obtain ⟨i, hi, rfl⟩ := List.getElem_of_mem hx
      exact (hlr i hi).1
/-- an act on a disk inside of another struct -/
theorem open_da {f0 f1 f2 f3 f4 f5 : Field} (hs : P.underlying t = some (.struct #[f0, f1, f2, f3, f4, f5])) (h0 : P.underlying f0.type = some (.int .i64)) (h1 : P.underlying f1.type = some .string) (h2 : P.underlying f2.type = some .string) (h3 : P.underlying f3.type = some (.slice e)) (h4 : P.underlying f4.type = some (.int .i64)) (h5 : P.underlying f5.type = some (.slice z))
    (he : P.underlying e = some (.int .u8)) (hz : P.underlying z = some .bool) (hCe : P.cellsOf e = 1) (hCz : P.cellsOf z = 1) (hone : oneCellFields P #[f0, f1, f2, f3, f4, f5] = true) (hC : P.cellsOf t = 6)
    (cs : List Value) (fuel : Nat) (y : DataW H × List MemPlace) (h : DataW.trod enc P w base (fun _ => true) held fuel t cs = some y) : ∃ a : DA, dac a = cs ∧ DAok w a := by
  obtain ⟨xs, n, _, _, hl, hxl, hf⟩ := DataW.trod_struct hs h
  rw [hC] at hl
  have q0 := hf 0 f0 rfl
  have q1 := hf 1 f1 rfl
  have q2 := hf 2 f2 rfl
  have q3 := hf 3 f3 rfl
  have q4 := hf 4 f4 rfl
  have q5 := hf 5 f5 rfl
  obtain ⟨o0, k0⟩ := hone_of hone 0 f0 rfl
  obtain ⟨o1, k1⟩ := hone_of hone 1 f1 rfl
  obtain ⟨o2, k2⟩ := hone_of hone 2 f2 rfl
  obtain ⟨o3, k3⟩ := hone_of hone 3 f3 rfl
  obtain ⟨o4, k4⟩ := hone_of hone 4 f4 rfl
  obtain ⟨o5, k5⟩ := hone_of hone 5 f5 rfl
  have hxl6 : xs.length = 6 := hxl
  rw [List.getElem?_eq_getElem (by omega)] at q0 q1 q2 q3 q4 q5
  match cs, hl with
  | [c0, c1, c2, c3, c4, c5], _ =>
    simp only [o0, k0, List.drop_zero, List.take_succ_cons, List.take_zero] at q0
    simp only [o1, k1, List.drop_succ_cons, List.drop_zero, List.take_succ_cons, List.take_zero] at q1
    simp only [o2, k2, List.drop_succ_cons, List.drop_zero, List.take_succ_cons, List.take_zero] at q2
    simp only [o3, k3, List.drop_succ_cons, List.drop_zero, List.take_succ_cons, List.take_zero] at q3
    simp only [o4, k4, List.drop_succ_cons, List.drop_zero, List.take_succ_cons, List.take_zero] at q4
    simp only [o5, k5, List.drop_succ_cons, List.drop_zero, List.take_succ_cons, List.take_zero] at q5
    obtain ⟨k, rfl, hk⟩ := int_cell h0 q0
    obtain ⟨nm, rfl, hn⟩ := string_cell h1 q1
    obtain ⟨tw, rfl, ht⟩ := string_cell h2 q2
    obtain ⟨A, c, l, rfl, hb⟩ := bytes_cellD h3 he hCe q3
    obtain ⟨f, rfl, hfi⟩ := int_cell h4 q4
    obtain ⟨B, kc, ks, rfl, hks⟩ := bools_cell h5 hz hCz q5
    exact ⟨⟨k, nm, tw, A, c, l, f, B, kc, ks⟩, rfl, hb, hks, hk, hfi, hn, ht⟩
/-- an act on a store -/
theorem open_sa {g0 g1 g2 g3 g4 f0 f1 f2 f3 f4 f5 : Field} (hg : P.underlying t = some (.struct #[g0, g1, g2, g3, g4])) (i0 : P.underlying g0.type = some (.int .i64)) (i1 : P.underlying g1.type = some .string) (i2 : P.underlying g2.type = some (.slice e)) (hs : P.underlying g3.type = some (.struct #[f0, f1, f2, f3, f4, f5])) (i4 : P.underlying g4.type = some (.slice z))
    (h0 : P.underlying f0.type = some (.int .i64)) (h1 : P.underlying f1.type = some .string) (h2 : P.underlying f2.type = some .string) (h3 : P.underlying f3.type = some (.slice e)) (h4 : P.underlying f4.type = some (.int .i64)) (h5 : P.underlying f5.type = some (.slice z))
    (he : P.underlying e = some (.int .u8)) (hz : P.underlying z = some .bool) (hCe : P.cellsOf e = 1) (hCz : P.cellsOf z = 1) (hone : oneCellFields P #[f0, f1, f2, f3, f4, f5] = true) (hC3 : P.cellsOf g3.type = 6) (hC : P.cellsOf t = 10)
    (o0 : g0.offset = 0) (o1 : g1.offset = 1) (o2 : g2.offset = 2) (o3 : g3.offset = 3) (o4 : g4.offset = 9) (k0 : P.cellsOf g0.type = 1) (k1 : P.cellsOf g1.type = 1) (k2 : P.cellsOf g2.type = 1) (k4 : P.cellsOf g4.type = 1)
    (cs : List Value) (fuel : Nat) (y : DataW H × List MemPlace) (h : DataW.trod enc P w base (fun _ => true) held fuel t cs = some y) : ∃ a : SA, sac a = cs ∧ SAok w a := by
  obtain ⟨xs, n, _, _, hl, hxl, hf⟩ := DataW.trod_struct hg h
  rw [hC] at hl
  have q0 := hf 0 g0 rfl
  have q1 := hf 1 g1 rfl
  have q2 := hf 2 g2 rfl
  have q3 := hf 3 g3 rfl
  have q4 := hf 4 g4 rfl
  have hxl6 : xs.length = 5 := hxl
  rw [List.getElem?_eq_getElem (by omega)] at q0 q1 q2 q3 q4
  match cs, hl with
  | [c0, c1, c2, c3, c4, c5, c6, c7, c8, c9], _ =>
    simp only [o0, k0, List.drop_zero, List.take_succ_cons, List.take_zero] at q0
    simp only [o1, k1, List.drop_succ_cons, List.drop_zero, List.take_succ_cons, List.take_zero] at q1
    simp only [o2, k2, List.drop_succ_cons, List.drop_zero, List.take_succ_cons, List.take_zero] at q2
    simp only [o3, hC3, List.drop_succ_cons, List.drop_zero, List.take_succ_cons, List.take_zero] at q3
    simp only [o4, k4, List.drop_succ_cons, List.drop_zero, List.take_succ_cons, List.take_zero] at q4
    obtain ⟨k, rfl, hk⟩ := int_cell i0 q0
    obtain ⟨nm, rfl, hn⟩ := string_cell i1 q1
    obtain ⟨A, c, l, rfl, hb⟩ := bytes_cellD i2 he hCe q2
    obtain ⟨da, hda, hok⟩ := open_da hs h0 h1 h2 h3 h4 h5 he hz hCe hCz hone hC3 _ _ _ q3
    obtain ⟨B, kc, ks, rfl, hks⟩ := bools_cell i4 hz hCz q4
    refine ⟨⟨k, nm, A, c, l, da, B, kc, ks⟩, ?_, hb, hks, hok, hk, hn⟩
    show [_, _, _] ++ dac da ++ [_] = _
    rw [hda]
    rfl
end
end Go.Proofs.YtddmfoldnlafaaaGreatDoor

namespace Go.Proofs.YtddmfoldnlafaaaGreatDoor
open Go.RowKit Go.Maps Go.Sort
attribute [local go_sem ↓] Go.wp_at_zero Go.wp_at_succ

def SA.long (a : SA) : Bool := decide (60 < a.n.length) || decide (60 < a.ks.length) || decide (300 < a.l.length ∧ a.l.length ≤ 65536) || decide (66000 < a.l.length) || dLong [a.d] 1
theorem SA.short {a : SA} (h : a.long = false) : a.n.length ≤ 60 ∧ a.ks.length ≤ 60 ∧ a.l.length ≤ 66000 ∧ (a.l.length ≤ 300 ∨ 65536 < a.l.length) ∧ dLong [a.d] 1 = false := by
  unfold SA.long at h
  simp only [Bool.or_eq_false_iff, decide_eq_false_iff_not] at h
  exact ⟨by omega, by omega, by omega, by omega, h.2⟩
theorem SlDA.lit1 (w : World) (o : Obj) (t : TypeId) {a : DA} (h : DAok w a) : SlDA ((w.alloc o).alloc (.cells #[.int .i64 a.k, .string ⟨a.n.toArray⟩, .string ⟨a.t.toArray⟩, .slice a.A a.l.length a.c, .int .i64 a.f, .slice a.B a.ks.length a.kc] t)) (some ⟨w.heap.size + 1, 0, none⟩) 1 [a] := by
  have hsz : (w.alloc o).heap.size = w.heap.size + 1 := by simp
  refine ⟨⟨rfl, Nat.le_refl _, by simp [maxLen], (fun h => by cases h), fun j u hj => ⟨_, rfl, ?_⟩⟩, fun x hx => ?_⟩
  · rw [← hsz, addr_lit, cell_of_row _ _ _ _ t (0, 0) (heap_alloc_new (w.alloc o) _)]
    simpa [dac] using hj
  · obtain rfl : x = a := by simpa using hx
    exact (h.below (below_new w o)).below (below_new (w.alloc o) _)
end Go.Proofs.YtddmfoldnlafaaaGreatDoor

namespace Go.Proofs.YtddmfoldnlafaaaGreatDoor
open Go.ChangeShapes Go.WideShapes Go.ChangeAt Go.RowKit Go.Deep

/-- an act on a register: its kind, an owner, a time, an act on its disk, what is kept -/
structure RA where
  k : Int
  o : Int
  n : Int
  d : DA
  B : Option Addr
  kc : Nat
  ks : List Bool
def rac (a : RA) : List Value := [.int .i64 a.k, .int .i64 a.o, .int .i64 a.n, .int .i64 a.d.k, .string ⟨a.d.n.toArray⟩, .string ⟨a.d.t.toArray⟩, .slice a.d.A a.d.l.length a.d.c, .int .i64 a.d.f, .slice a.d.B a.d.ks.length a.d.kc, .slice a.B a.ks.length a.kc]
theorem rac_len (a : RA) : (rac a).length = 10 := rfl
def RAok (w : World) (a : RA) : Prop := SlZ w a.B a.kc a.ks ∧ DAok w a.d ∧ I64 a.k ∧ I64 a.o ∧ I64 a.n
def SlRA (w : World) (A : Option Addr) (c : Nat) (s : List RA) : Prop := Sl w 10 A s.length c (s.flatMap rac) ∧ ∀ a ∈ s, RAok w a
theorem RAok.below {w w' : World} {a : RA} (h : RAok w a) (hb : Below w.heap.size w w') : RAok w' a := ⟨Sl.below h.1 hb, h.2.1.below hb, h.2.2⟩
theorem SlRA.below {w w' : World} {A : Option Addr} {c : Nat} {s : List RA} (h : SlRA w A c s) (hb : Below w.heap.size w w') : SlRA w' A c s := ⟨h.1.below hb, fun a ha => (h.2 a ha).below hb⟩
section
variable {H : Type} {enc : TypeId × Value → H} {P : Program} {w : World} {base b0 : Nat} {held : Bool} {r : Reach} {t e b z u : TypeId} {v : Value} {d : DataW H} {p : List MemPlace}
/-- an act on a register -/
theorem open_ra {g0 g1 g2 g3 g4 f0 f1 f2 f3 f4 f5 : Field} (hg : P.underlying t = some (.struct #[g0, g1, g2, g3, g4])) (i0 : P.underlying g0.type = some (.int .i64)) (i1 : P.underlying g1.type = some (.int .i64)) (i2 : P.underlying g2.type = some (.int .i64)) (hs : P.underlying g3.type = some (.struct #[f0, f1, f2, f3, f4, f5])) (i4 : P.underlying g4.type = some (.slice z))
    (h0 : P.underlying f0.type = some (.int .i64)) (h1 : P.underlying f1.type = some .string) (h2 : P.underlying f2.type = some .string) (h3 : P.underlying f3.type = some (.slice e)) (h4 : P.underlying f4.type = some (.int .i64)) (h5 : P.underlying f5.type = some (.slice z))
    (he : P.underlying e = some (.int .u8)) (hz : P.underlying z = some .bool) (hCe : P.cellsOf e = 1) (hCz : P.cellsOf z = 1) (hone : oneCellFields P #[f0, f1, f2, f3, f4, f5] = true) (hC3 : P.cellsOf g3.type = 6) (hC : P.cellsOf t = 10)
    (o0 : g0.offset = 0) (o1 : g1.offset = 1) (o2 : g2.offset = 2) (o3 : g3.offset = 3) (o4 : g4.offset = 9) (k0 : P.cellsOf g0.type = 1) (k1 : P.cellsOf g1.type = 1) (k2 : P.cellsOf g2.type = 1) (k4 : P.cellsOf g4.type = 1)
    (cs : List Value) (fuel : Nat) (y : DataW H × List MemPlace) (h : DataW.trod enc P w base (fun _ => true) held fuel t cs = some y) : ∃ a : RA, rac a = cs ∧ RAok w a := by
  obtain ⟨xs, n, _, _, hl, hxl, hf⟩ := DataW.trod_struct hg h
  rw [hC] at hl
  have q0 := hf 0 g0 rfl
  have q1 := hf 1 g1 rfl
  have q2 := hf 2 g2 rfl
  have q3 := hf 3 g3 rfl
  have q4 := hf 4 g4 rfl
  have hxl6 : xs.length = 5 := hxl
  rw [List.getElem?_eq_getElem (by omega)] at q0 q1 q2 q3 q4
  match cs, hl with
  | [c0, c1, c2, c3, c4, c5, c6, c7, c8, c9], _ =>
    simp only [o0, k0, List.drop_zero, List.take_succ_cons, List.take_zero] at q0
    simp only [o1, k1, List.drop_succ_cons, List.drop_zero, List.take_succ_cons, List.take_zero] at q1
    simp only [o2, k2, List.drop_succ_cons, List.drop_zero, List.take_succ_cons, List.take_zero] at q2
    simp only [o3, hC3, List.drop_succ_cons, List.drop_zero, List.take_succ_cons, List.take_zero] at q3
    simp only [o4, k4, List.drop_succ_cons, List.drop_zero, List.take_succ_cons, List.take_zero] at q4
    obtain ⟨k, rfl, hk⟩ := int_cell i0 q0
    obtain ⟨ow, rfl, how⟩ := int_cell i1 q1
    obtain ⟨nw, rfl, hnw⟩ := int_cell i2 q2
    obtain ⟨da, hda, hok⟩ := open_da hs h0 h1 h2 h3 h4 h5 he hz hCe hCz hone hC3 _ _ _ q3
    obtain ⟨B, kc, ks, rfl, hks⟩ := bools_cell i4 hz hCz q4
    refine ⟨⟨k, ow, nw, da, B, kc, ks⟩, ?_, hks, hok, hk, how, hnw⟩
    show [_, _, _] ++ dac da ++ [_] = _
    rw [hda]
    rfl
theorem open_racts {g0 g1 g2 g3 g4 f0 f1 f2 f3 f4 f5 : Field} (ht : P.underlying u = some (.slice t)) (hg : P.underlying t = some (.struct #[g0, g1, g2, g3, g4])) (i0 : P.underlying g0.type = some (.int .i64)) (i1 : P.underlying g1.type = some (.int .i64)) (i2 : P.underlying g2.type = some (.int .i64)) (hs : P.underlying g3.type = some (.struct #[f0, f1, f2, f3, f4, f5])) (i4 : P.underlying g4.type = some (.slice z))
    (h0 : P.underlying f0.type = some (.int .i64)) (h1 : P.underlying f1.type = some .string) (h2 : P.underlying f2.type = some .string) (h3 : P.underlying f3.type = some (.slice e)) (h4 : P.underlying f4.type = some (.int .i64)) (h5 : P.underlying f5.type = some (.slice z))
    (he : P.underlying e = some (.int .u8)) (hz : P.underlying z = some .bool) (hCe : P.cellsOf e = 1) (hCz : P.cellsOf z = 1) (hone : oneCellFields P #[f0, f1, f2, f3, f4, f5] = true) (hC3 : P.cellsOf g3.type = 6) (hC : P.cellsOf t = 10)
    (o0 : g0.offset = 0) (o1 : g1.offset = 1) (o2 : g2.offset = 2) (o3 : g3.offset = 3) (o4 : g4.offset = 9) (k0 : P.cellsOf g0.type = 1) (k1 : P.cellsOf g1.type = 1) (k2 : P.cellsOf g2.type = 1) (k4 : P.cellsOf g4.type = 1)
    (hv : Value.okWide P w r b0 u v) (h : DataW.Trod enc P w base (fun _ => true) held u v d p) :
    ∃ (A : Option Addr) (c : Nat) (l : List RA), v = .slice A l.length c ∧ SlRA w A c l := by
  obtain ⟨A0, n0, c0, rfl⟩ := okWide_slice ht hv
  obtain ⟨fuel, hf⟩ := h
  obtain ⟨A, c, l, hvv, hl, hq⟩ := open_sliceH rac (RAok w) rac_len (by decide) ht hC (fun cs' nn y hy => open_ra hg i0 i1 i2 hs i4 h0 h1 h2 h3 h4 h5 he hz hCe hCz hone hC3 hC o0 o1 o2 o3 o4 k0 k1 k2 k4 cs' nn y hy) hf
  exact ⟨A, c, l, hvv, hl, hq⟩
end
end Go.Proofs.YtddmfoldnlafaaaGreatDoor

namespace Go.Proofs.YtddmfoldnlafaaaGreatDoor
open Go.RowKit Go.Maps Go.Sort
attribute [local go_sem ↓] Go.wp_at_zero Go.wp_at_succ

def RA.long (a : RA) : Bool := decide (60 < a.ks.length) || dLong [a.d] 1
def raLong (s : List RA) (most : Int) : Bool := s.any RA.long || decide (most < s.length)
theorem raLong_at {s : List RA} {most : Int} {k : Nat} (hk : k < s.length) (h : s[k].long = true) : raLong s most = true := by
  unfold raLong
  rw [List.any_eq_true.2 ⟨s[k], List.getElem_mem hk, h⟩]
  rfl
theorem raLong_none {s : List RA} {most : Int} (h : ∀ i (hi : i < s.length), s[i].long = false) : raLong s most = decide (most < s.length) := by
  unfold raLong
  rw [List.any_eq_false.2 fun x hx => by
    obtain ⟨i, hi, rfl⟩ := List.getElem_of_mem hx
    simp [h i hi]]
  rfl
theorem RA.short {a : RA} (h : a.long = false) : a.ks.length ≤ 60 ∧ dLong [a.d] 1 = false := by
  unfold RA.long at h
  simp only [Bool.or_eq_false_iff, decide_eq_false_iff_not] at h
  exact ⟨by omega, h.2⟩
theorem raLong_short {s : List RA} {most : Int} (h : raLong s most = false) : (s.length : Int) ≤ most ∧ ∀ a ∈ s, a.long = false := by
  unfold raLong at h
  simp only [Bool.or_eq_false_iff, decide_eq_false_iff_not] at h
  refine ⟨by omega, fun a ha => ?_⟩
  have := List.any_eq_false.1 h.1 a ha
  simpa using this
set_option maxRecDepth 100000 in
set_option maxHeartbeats 1000000 in
theorem RaLong_any {A : Option Addr} {c : Nat} {s : List RA} (w : World) (h : SlRA w A c s) (most : Int) : Calls Tryz.prog 20 #[.slice A s.length c, .int .i64 most] w fun e w' => e = .returned (.bool (raLong s most)) ∧ Below w.heap.size w w' := by
  have hsl : s.length ≤ maxLen := Nat.le_trans h.1.2.1 h.1.2.2.1
  unfold maxLen at hsl
  have H := Lib.hid h
  clear h
  go_enter Tryz.func20, Tryz.ntmps20
  go_wp2_with fail
  go_loopw [9] (fun x wr => ∃ k : Nat, k ≤ s.length ∧ x = .int .i64 k ∧ (∀ i (hi : i < s.length), i < k → s[i].long = false) ∧ Below w.heap.size w wr) (fun x w => s.length - (intOf x).toNat)
  case atStart => exact ⟨0, Nat.zero_le _, rfl, (fun i _ hi => by omega), Below.refl _ _⟩
  case round =>
    obtain ⟨k, hk, rfl, hno, hb⟩ := hrel
    by_cases hlt : k < s.length
    · have hS := H.out.below hb
      obtain ⟨ad, b, o, hA, had, hcc⟩ := Sl.atS (f := rac) (size := 10) (fun _ => rfl) (by omega) hS.1 hlt
      have hc0 := hcc 0 _ rfl
      have hc1 := hcc 1 _ rfl
      have hc2 := hcc 2 _ rfl
      have hc3 := hcc 3 _ rfl
      have hc4 := hcc 4 _ rfl
      have hc5 := hcc 5 _ rfl
      have hc6 := hcc 6 _ rfl
      have hc7 := hcc 7 _ rfl
      have hc8 := hcc 8 _ rfl
      have hc9 := hcc 9 _ rfl
      rw [Nat.add_zero] at hc0
      have hok := hS.2 _ (List.getElem_mem hlt)
      clear hcc hS
      generalize hx : s[k] = x at *
      obtain ⟨kd, ow, nw, dx, B1, kc, ks⟩ := x
      obtain ⟨q2, q3, -, -, -⟩ := hok
      have q8 : ks.length ≤ maxLen := Nat.le_trans q2.2.1 q2.2.2.1
      clear q2
      have hok := Lib.hid q3
      clear q3
      dsimp only at *
      unfold maxLen at *
      rw [hA] at *
      clear hA
      have hbn := bel_alloc hb (.cells #[.int .i64 kd, .int .i64 ow, .int .i64 nw, .int .i64 dx.k, .string ⟨dx.n.toArray⟩, .string ⟨dx.t.toArray⟩, .slice dx.A dx.l.length dx.c, .int .i64 dx.f, .slice dx.B dx.ks.length dx.kc, .slice B1 ks.length kc] 64)
      rcases Nat.lt_or_ge 60 ks.length with g3 | g3
      · have i3 : (60 : Int) < (ks.length : Int) := by omega
        have HE := Lib.hid (raLong_at (most := most) hlt (by rw [hx]; unfold RA.long; simp; omega))
        clear hno hx hok
        go_wp2_with fail
        go_ret
        exact ⟨by rw [HE.out]; rfl, hbn⟩
      have i3 : (ks.length : Int) ≤ 60 := by omega
      have hlk := Lib.hid (SlDA.lit1 wr (.cells #[.int .i64 kd, .int .i64 ow, .int .i64 nw, .int .i64 dx.k, .string ⟨dx.n.toArray⟩, .string ⟨dx.t.toArray⟩, .slice dx.A dx.l.length dx.c, .int .i64 dx.f, .slice dx.B dx.ks.length dx.kc, .slice B1 ks.length kc] 64) 62 hok.out)
      have hbn2 := bel_alloc hbn (.cells #[.int .i64 dx.k, .string ⟨dx.n.toArray⟩, .string ⟨dx.t.toArray⟩, .slice dx.A dx.l.length dx.c, .int .i64 dx.f, .slice dx.B dx.ks.length dx.kc] 62)
      have HL := Lib.hid (DLong_any _ hlk.out 1)
      have hc1 := Lib.hid hbn2
      clear hlk hbn2
      go_wp2_with fail
      refine HL.out.mono ?_
      rintro e w5 ⟨rfl, hb5⟩
      have hb6 := bel_call hc1.out hb5
      cases hdl : dLong [dx] 1 with
      | true =>
        have HE := Lib.hid (raLong_at (most := most) hlt (by rw [hx]; unfold RA.long; rw [hdl]; simp))
        clear hno hx hok HL hc1 hb5
        go_wp2_with fail
        go_ret
        exact ⟨by rw [HE.out]; rfl, hb6⟩
      | false =>
        have hno2 := Lib.hid (show ∀ i (hi : i < s.length), i < k + 1 → s[i].long = false from fun i hi hi2 => by
          rcases Nat.lt_or_ge i k with h1 | h1
          · exact hno i hi h1
          · obtain rfl : i = k := by omega
            rw [hx]; unfold RA.long; rw [hdl]; simp; omega)
        clear hno hx hok HL hc1 hb5
        go_wp2_with fail
        go_roundw
        case rel => exact ⟨k + 1, hlt, rfl, hno2.out, hb6⟩
        case measure => simp [intOf]; omega
    · have hke : k = s.length := by omega
      have HE := Lib.hid (raLong_none (most := most) fun i hi => hno i hi (by omega))
      subst hke
      clear hno
      go_wp2_with fail
      go_ret
      exact ⟨by rw [HE.out]; rfl, hb⟩
end Go.Proofs.YtddmfoldnlafaaaGreatDoor

namespace Go.Proofs.YtddmfoldnlafaaaGreatDoor
open Go.RowKit Go.Maps Go.Sort
attribute [local go_sem ↓] Go.wp_at_zero Go.wp_at_succ

/-- a file of the document's -/
def rfv (p : Bs × Bs) : List Value := [.string ⟨p.1.toArray⟩, .string ⟨p.2.toArray⟩]
def SlR (w : World) (A : Option Addr) (c : Nat) (l : List (Bs × Bs)) : Prop := Sl w 2 A l.length c (l.flatMap rfv)
abbrev OwnR (w : World) (B : Nat) (A : Option Addr) (c : Nat) (l : List (Bs × Bs)) : Prop := Own w B 187 2 A l.length c (l.flatMap rfv)
theorem SlR.below {w w' : World} {A : Option Addr} {c : Nat} {l : List (Bs × Bs)} (h : SlR w A c l) (hb : Below w.heap.size w w') : SlR w' A c l := Sl.below h hb
theorem SlR.len {w : World} {A : Option Addr} {c : Nat} {l : List (Bs × Bs)} (h : SlR w A c l) : l.length ≤ 9223372036854775807 := Nat.le_trans h.2.1 h.2.2.1
theorem SlR.at1 {w : World} {A : Option Addr} {c : Nat} {l : List (Bs × Bs)} (h : SlR w A c l) {k : Nat} (hk : k < l.length) : ∃ ad b o, A = some ad ∧ ad.add (k * 2) = ⟨b, o, none⟩ ∧ w.cell? ⟨b, o, none⟩ = some (.string ⟨l[k].1.toArray⟩) ∧ w.cell? ⟨b, o + 1, none⟩ = some (.string ⟨l[k].2.toArray⟩) := by
  obtain ⟨ad, b, o, hA, had, hcc⟩ := Sl.atS (f := rfv) (size := 2) (fun _ => rfl) (by omega) h hk
  have h0 := hcc 0 _ rfl
  have h1 := hcc 1 _ rfl
  rw [Nat.add_zero] at h0
  exact ⟨ad, b, o, hA, had, h0, h1⟩
theorem rf_info : (Tryz.prog.info? 187).map (fun i => (i.zero, i.size, i.bytes)) = some (some (.agg #[.string ⟨#[]⟩, .string ⟨#[]⟩]), 2, 32) := by kernel_rfl
theorem one_rfv (p : Bs × Bs) : ∀ u ∈ rfv p, u.oneCell' = true := by
  intro u hu
  simp only [rfv, List.mem_cons, List.not_mem_nil, or_false] at hu
  rcases hu with rfl | rfl <;> rfl
theorem lit_rf (w : World) (p : Bs × Bs) : Sl (w.alloc (.cells #[.string ⟨p.1.toArray⟩, .string ⟨p.2.toArray⟩] 187)) 2 (some ⟨w.heap.size, 0, none⟩) 1 1 (rfv p) :=
  ⟨by simp [rfv], by omega, by simp [maxLen], (fun h => by cases h), fun j u hj => ⟨_, rfl, by
    rw [addr_lit, cell_of_row _ _ _ _ 187 (0, 0) (heap_alloc_new w _)]
    simpa [rfv] using hj⟩⟩
/-- append of one file -/
theorem wpl_rf {w : World} {ops : Array Oper} {rest : List Oper} {o : Oper} {a : Act} {Q : Exit → Act → World → Prop} (hgd : o.guard = none) (s x : Operand)
    (ho : o.op = .call { callee := .builtin .append, args := #[s, x], argTypes := #[82, 82] })
    (base : Nat) (A : Option Addr) (c : Nat) (l : List (Bs × Bs)) (hs : a.eval s = .slice A l.length c) (hown : OwnR w base A c l) (hn : l.length ≤ 1000000000000)
    (p : Bs × Bs) (gx : Nat) (hgx : gx = w.heap.size) (hx : a.eval x = .slice (some ⟨gx, 0, none⟩) 1 1) (hbase : base ≤ w.heap.size)
    (h : ∀ A' c' m w', Hid (m = l ++ [p]) → OwnR w' base A' c' m → (w.alloc (.cells #[.string ⟨p.1.toArray⟩, .string ⟨p.2.toArray⟩] 187)).grownBy w' (A.map (·.block)) → (A'.map (·.block) = A.map (·.block) ∨ A'.map (·.block) = some (w.alloc (.cells #[.string ⟨p.1.toArray⟩, .string ⟨p.2.toArray⟩] 187)).heap.size) → wpList Tryz.prog ops Q rest (a.put o.dst (.slice A' m.length c')) w') : wpList Tryz.prog ops Q (o :: rest) a (w.alloc (.cells #[.string ⟨p.1.toArray⟩, .string ⟨p.2.toArray⟩] 187)) := by
  subst hgx
  obtain ⟨i0, hi, hz0, hz1, hz2⟩ := info_parts rf_info
  have hown2 : OwnR (w.alloc (.cells #[.string ⟨p.1.toArray⟩, .string ⟨p.2.toArray⟩] 187)) base A c l := World.ownsRow.alloc hown _
  refine wpl_append hgd s x 82 ho base 187 i0 _ 2 32 Tryz.underlying82 hi hz0 hz1 hz2 rfl (by decide) A l.length c _ hs hown2 _ 1 1 (rfv p) hx (lit_rf w p) (one_rfv p) (by omega) (by unfold maxLen; omega) (by simp; omega) ?_
  intro A' c' w' hap
  have hlen : l.length + 1 = (l ++ [p]).length := by simp
  rw [hlen]
  exact h A' c' (l ++ [p]) w' (show _ = _ from rfl) (by have := hap.own; unfold OwnR; rw [List.flatMap_append]; simpa using this) hap.grown hap.place
/-- a row of one's own has grown -/
theorem bel_grown {w0 w w' : World} {B : Nat} {A : Option Addr} {o : Obj} (h : Below B w0 w) (hlo : B ≤ w.heap.size) (hA : ∀ k, A.map (·.block) = some k → B ≤ k) (hg : (w.alloc o).grownBy w' (A.map (·.block))) (hs : B ≤ w0.heap.size) : Below B w0 w' := by
  have h2 := h.alloc hlo o
  refine ⟨hg.os.trans h2.os, hg.tape.trans h2.tape, hg.output.trans h2.output, Nat.le_trans h2.size hg.size, fun i hi => (hg.block i (Nat.lt_of_lt_of_le hi (Nat.le_trans hs h2.size)) (fun e => ?_)).trans (h2.block i hi)⟩
  have := hA i e.symm
  omega
/-! ### found -/
def rfind (n : Bs) (l : List (Bs × Bs)) : Int := match l.findIdx? (fun p => p.1 == n) with | none => -1 | some k => k
theorem rfind_at {n : Bs} {l : List (Bs × Bs)} {k : Nat} (hk : k < l.length) (he : l[k].1 = n) (hno : ∀ i (hi : i < l.length), i < k → l[i].1 ≠ n) : rfind n l = k := by
  unfold rfind
  rw [List.findIdx?_eq_some_iff_getElem.2 ⟨hk, by simp [he], fun j hj => by simpa using hno j (by omega) hj⟩]
theorem rfind_none {n : Bs} {l : List (Bs × Bs)} (hno : ∀ i (hi : i < l.length), l[i].1 ≠ n) : rfind n l = -1 := by
  unfold rfind
  rw [List.findIdx?_eq_none_iff.2]
  intro x hx
  obtain ⟨i, hi, rfl⟩ := List.getElem_of_mem hx
  simpa using hno i hi
set_option maxRecDepth 100000 in
set_option maxHeartbeats 1000000 in
theorem RFind_any {A : Option Addr} {c : Nat} {l : List (Bs × Bs)} (n : Bs) (w : World) (h : SlR w A c l) : Calls Tryz.prog 133 #[.slice A l.length c, .string ⟨n.toArray⟩] w fun e w' => e = .returned (.int .i64 (rfind n l)) ∧ Below w.heap.size w w' := by
  have hll := h.len
  have H := Lib.hid h
  clear h
  go_enter Tryz.func133, Tryz.ntmps133
  go_wp2_with fail
  go_loopw [5] (fun x wr => ∃ k : Nat, k ≤ l.length ∧ x = .int .i64 k ∧ (∀ i (hi : i < l.length), i < k → l[i].1 ≠ n) ∧ Below w.heap.size w wr) (fun x w => l.length - (intOf x).toNat)
  case atStart => exact ⟨0, Nat.zero_le _, rfl, (fun i _ hi => by omega), Below.refl _ _⟩
  case round =>
    obtain ⟨k, hk, rfl, hno, hb⟩ := hrel
    by_cases hlt : k < l.length
    · obtain ⟨ad, b, o, hA, had, hc0, hc1⟩ := (H.out.below hb).at1 hlt
      have hI : (k : Int) < (l.length : Int) := by omega
      by_cases he : l[k].1 = n
      · have HR := Lib.hid (rfind_at hlt he hno)
        rw [he] at hc0
        have hbe : (n == n) = true := by simp
        subst hA
        clear hno he
        go_wp2_with fail
        go_ret
        exact ⟨by rw [HR.out]; rfl, hb⟩
      · have hbe : (l[k].1 == n) = false := by simpa using he
        have hno2 : ∀ i (hi : i < l.length), i < k + 1 → l[i].1 ≠ n := fun i hi hik => by
          rcases Nat.lt_or_ge i k with h | h
          · exact hno i hi h
          · obtain rfl : i = k := by omega
            exact he
        have HN := Lib.hid hno2
        clear hno hno2 he
        generalize l[k] = x at *
        subst hA
        go_wp2_with fail
        go_roundw
        case rel => exact ⟨k + 1, hlt, by go_num, HN.out, hb⟩
        case measure => simp [intOf]; omega
    · have hI : (l.length : Int) ≤ (k : Int) := by omega
      have HR := Lib.hid (rfind_none (fun i hi => hno i hi (by omega)))
      clear hno
      go_wp2_with fail
      go_ret
      exact ⟨by rw [HR.out]; rfl, hb⟩
end Go.Proofs.YtddmfoldnlafaaaGreatDoor
