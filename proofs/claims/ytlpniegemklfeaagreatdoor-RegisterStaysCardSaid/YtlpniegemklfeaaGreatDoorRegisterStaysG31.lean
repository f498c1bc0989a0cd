/- WHAT IT HOLDS: a register's lease acquired: walked. | WHAT IT HOLDS: the law's register is alive, walked. -/
import Derived.Test.YtlpniegemklfeaaGreatDoorRegisterStaysG30
namespace Go.Proofs.YtlpniegemklfeaaGreatDoor
open Go.RowKit Go.Maps Go.Sort
attribute [local go_sem ↓] Go.wp_at_zero Go.wp_at_succ

set_option maxRecDepth 100000 in
set_option maxHeartbeats 1000000 in
theorem RgAdd_any {g : Nat} {n : Int} (w : World) (hc : w.cell? ⟨g, 6, none⟩ = some (.int .i64 n)) (hz : w.frozen? ⟨g, 6, none⟩ = false) :
    Calls Tryz.prog 31 #[.pointer (some ⟨g, 6, none⟩), .int .i64 1] w fun e w' => e = .returned (.int .i64 (wrap64 (n + 1))) ∧ w' = w.setCell ⟨g, 6, none⟩ (.int .i64 (wrap64 (n + 1))) := by
  have hs : (Op.intArith .add .i64 n 1).run Tryz.prog w = .ok (.int .i64 (wrap64 (n + 1))) w := by simp [go_sem]; simp only [IntKind.wrap_i64, wrap64]
  have hd := run_call_add (P := Tryz.prog) (f := 60) Tryz.func60 (by kernel_rfl) (by kernel_rfl) (by kernel_rfl) .i64 (by kernel_rfl) hc hz hs
  go_enter Tryz.func31, Tryz.ntmps31
  go_wp2_with fail
  go_ret
  exact ⟨rfl, rfl⟩
set_option maxRecDepth 100000 in
set_option maxHeartbeats 1000000 in
theorem RAcquire_any {w : World} {gr gs : Nat} {q : Fp} {d : Dk Sv} {sp bo n : Int} {L : L3r} (h : RgM w gr gs q d sp bo L n) (hf : Fok d) (hl : d.sure.length + d.pend.length ≤ 900) (o now : Int) :
    Calls Tryz.prog 11 #[.pointer (some ⟨gr, 0, none⟩), .int .i64 o, .int .i64 now] w fun e w' => ∃ ret k d' L' n', AcqO d L n sp bo o now ret k d' L' n' ∧ e = .returned (.tuple #[lv ret.1 ret.2.1 ret.2.2, errv k]) ∧ RgG w gr gs q sp bo d' L' n' w' := by
  have hGr := fun W => Grant_any L.1 L.2.1 L.2.2 o now sp bo W
  unfold Leased at hGr
  have hno := @AcqO.no d L n sp bo o now
  have hbad := @AcqO.bad d L n sp bo o now
  have hok := @AcqO.ok d L n sp bo o now
  unfold grantL at hno hbad hok
  generalize grant L.1 L.2.1 L.2.2 o now sp bo = t at *
  obtain ⟨t1, t2, t3, t4⟩ := t
  dsimp only at hGr hno hbad hok
  have HGr := Lib.hid hGr
  have HNo := Lib.hid hno
  have HBad := Lib.hid hbad
  have HOk := Lib.hid hok
  have H := Lib.hid h
  have hb0 := below_new w (.cells #[.int .i64 0, .int .i64 0, .int .i64 0] 43)
  have hB0 := Blk.new w 43 #[.int .i64 0, .int .i64 0, .int .i64 0]
  have hm0 := h.below hb0
  have hs0 : (w.alloc (.cells #[.int .i64 0, .int .i64 0, .int .i64 0] 43)).heap.size = w.heap.size + 1 := by simp
  have Hgr := Lib.hid h.blk.lt
  clear h hno hbad hok hGr
  go_enter Tryz.func11, Tryz.ntmps11
  go_upto_region 3 with (fail)
  refine gen1 (T := fun W => RgM W gr gs q d sp bo L n ∧ Blk W w.heap.size 43 #[.int .i64 0, .int .i64 0, .int .i64 0] ∧ Below w.heap.size w W ∧ W.heap.size = w.heap.size + 1) ⟨hm0, hB0, hb0, hs0⟩ (fun w0 hT => ?_)
  clear hm0 hB0 hb0 hs0
  obtain ⟨hm0, hB0, hb0, hs0⟩ := hT
  go_cut [8, 9] (fun y z wz => ∃ g : Nat, y = .pointer (some ⟨g, 0, none⟩) ∧ z = errv t4 ∧ w0.heap.size ≤ g ∧ Blk wz g 43 #[.int .i64 t1, .int .i64 t2, .int .i64 t3] ∧ Below w0.heap.size w0 wz)
  case first =>
    have hst : Below w0.heap.size w0 w0.drew := Below.drew (Below.refl _ _)
    refine wp_region_held_drew (S := (fun W => Below w0.heap.size w0 W)) (by kernel_rfl) ?_ (fun hHeld => ?_)
    · exact hst
    refine gen0 (T := fun W => ((fun W => Below w0.heap.size w0 W)) W ∧ True) ?_ (fun wq1 hT => ?_)
    · exact ⟨by (first | with_reducible exact hst | with_reducible exact hHeld | exact bel_call hHeld hb9 | exact bel_alloc hHeld _ | exact bel_set (bel_set (bel_set hHeld (by assumption) _) (by assumption) _) (by assumption) _), trivial⟩
    (try clear f0 f1 f2 f3 f4 f5 f6 f7 f8 f9 f10 f11)
    obtain ⟨hHeld, -⟩ := hT
    refine wpAnyH_take (i := 0) (oi := ⟨some 16, _, _, _, _, _⟩) (v := ?_) rfl (by kernel_rfl) (by kernel_rfl) (by kernel_rfl) (fun _ _ _ h => h) (Or.inl ⟨by kernel_rfl, ?_⟩) (by assumption) ?_
    rotate_left
    · (intro wS hSw; (try dsimp only at hSw); obtain ⟨x0, x1, x2, x3, x4, x5, x6⟩ := (hm0.below hSw).blk.sevC; clear hSw; go_simp; (try with_reducible rfl))
    (try simp only [Act.put, List.setIfInBounds_toArray, List.set_cons_zero, List.set_cons_succ])
    refine wpAnyH_take (i := 1) (oi := ⟨some 17, _, _, _, _, _⟩) (v := ?_) rfl (by kernel_rfl) (by kernel_rfl) (by kernel_rfl) (fun _ _ _ h => h) (Or.inl ⟨by kernel_rfl, ?_⟩) (by assumption) ?_
    rotate_left
    · (intro wS hSw; (try dsimp only at hSw); obtain ⟨x0, x1, x2, x3, x4, x5, x6⟩ := (hm0.below hSw).blk.sevC; clear hSw; go_simp; (try with_reducible rfl))
    (try simp only [Act.put, List.setIfInBounds_toArray, List.set_cons_zero, List.set_cons_succ])
    refine wpAnyH_take (i := 2) (oi := ⟨some 18, _, _, _, _, _⟩) (v := ?_) rfl (by kernel_rfl) (by kernel_rfl) (by kernel_rfl) (fun _ _ _ h => h) (Or.inl ⟨by kernel_rfl, ?_⟩) (by assumption) ?_
    rotate_left
    · (intro wS hSw; (try dsimp only at hSw); obtain ⟨x0, x1, x2, x3, x4, x5, x6⟩ := (hm0.below hSw).blk.sevC; clear hSw; go_simp; (try with_reducible rfl))
    (try simp only [Act.put, List.setIfInBounds_toArray, List.set_cons_zero, List.set_cons_succ])
    refine wpAnyH_take (i := 3) (oi := ⟨some 19, _, _, _, _, _⟩) (v := ?_) rfl (by kernel_rfl) (by kernel_rfl) (by kernel_rfl) (fun _ _ _ h => h) (Or.inl ⟨by kernel_rfl, ?_⟩) (by assumption) ?_
    rotate_left
    · (intro wS hSw; (try dsimp only at hSw); obtain ⟨x0, x1, x2, x3, x4, x5, x6⟩ := (hm0.below hSw).blk.sevC; clear hSw; go_simp; (try with_reducible rfl))
    (try simp only [Act.put, List.setIfInBounds_toArray, List.set_cons_zero, List.set_cons_succ])
    refine wpAnyH_take (i := 4) (oi := ⟨some 20, _, _, _, _, _⟩) (v := ?_) rfl (by kernel_rfl) (by kernel_rfl) (by kernel_rfl) (fun _ _ _ h => h) (Or.inl ⟨by kernel_rfl, ?_⟩) (by assumption) ?_
    rotate_left
    · (intro wS hSw; (try dsimp only at hSw); obtain ⟨x0, x1, x2, x3, x4, x5, x6⟩ := (hm0.below hSw).blk.sevC; clear hSw; go_simp; (try with_reducible rfl))
    (try simp only [Act.put, List.setIfInBounds_toArray, List.set_cons_zero, List.set_cons_succ])
    refine wpAnyH_take (i := 5) (oi := ⟨some 21, _, _, _, _, _⟩) (v := ?_) rfl (by kernel_rfl) (by kernel_rfl) (by kernel_rfl) (fun _ _ _ h => h) (Or.inl ⟨by kernel_rfl, ?_⟩) (by assumption) ?_
    rotate_left
    · (intro wS hSw; (try dsimp only at hSw); obtain ⟨x0, x1, x2, x3, x4, x5, x6⟩ := (hm0.below hSw).blk.sevC; clear hSw; go_simp; (try with_reducible rfl))
    (try simp only [Act.put, List.setIfInBounds_toArray, List.set_cons_zero, List.set_cons_succ])
    refine wpAnyH_take (i := 6) (oi := ⟨some 22, _, _, _, _, _⟩) (v := ?_) rfl (by kernel_rfl) (by kernel_rfl) (by kernel_rfl) (fun _ _ _ h => h) (Or.inl ⟨by kernel_rfl, ?_⟩) (by assumption) ?_
    rotate_left
    · (intro wS hSw; (try dsimp only at hSw); obtain ⟨x0, x1, x2, x3, x4, x5, x6⟩ := (hm0.below hSw).blk.sevC; clear hSw; go_simp; (try with_reducible rfl))
    (try simp only [Act.put, List.setIfInBounds_toArray, List.set_cons_zero, List.set_cons_succ])
    refine wpAnyH_take (i := 7) (oi := ⟨some 23, _, _, _, _, _⟩) (v := ?_) rfl (by kernel_rfl) (by kernel_rfl) (by kernel_rfl) (fun _ _ _ h => h) (Or.inl ⟨by kernel_rfl, ?_⟩) (by assumption) ?_
    rotate_left
    · (intro wS hSw; (try dsimp only at hSw); obtain ⟨x0, x1, x2, x3, x4, x5, x6⟩ := (hm0.below hSw).blk.sevC; clear hSw; go_simp; (try with_reducible rfl))
    (try simp only [Act.put, List.setIfInBounds_toArray, List.set_cons_zero, List.set_cons_succ])
    refine wpAnyH_take (i := 8) (oi := ⟨some 24, _, _, _, _, _⟩) (v := ?_) rfl (by kernel_rfl) (by kernel_rfl) (by kernel_rfl) (fun _ _ _ h => h) (Or.inl ⟨by kernel_rfl, ?_⟩) (by assumption) ?_
    rotate_left
    · (intro wS hSw; (try dsimp only at hSw); obtain ⟨x0, x1, x2, x3, x4, x5, x6⟩ := (hm0.below hSw).blk.sevC; clear hSw; go_simp; (try with_reducible rfl))
    (try simp only [Act.put, List.setIfInBounds_toArray, List.set_cons_zero, List.set_cons_succ])
    refine wpAnyH_take (i := 9) (oi := ⟨some 25, _, _, _, _, _⟩) (v := ?_) rfl (by kernel_rfl) (by kernel_rfl) (by kernel_rfl) (fun _ _ _ h => h) (Or.inl ⟨by kernel_rfl, ?_⟩) (by assumption) ?_
    rotate_left
    · (intro wS hSw; (try dsimp only at hSw); obtain ⟨x0, x1, x2, x3, x4, x5, x6⟩ := (hm0.below hSw).blk.sevC; clear hSw; go_simp; (try with_reducible rfl))
    (try simp only [Act.put, List.setIfInBounds_toArray, List.set_cons_zero, List.set_cons_succ])
    refine wpAnyH_take (i := 10) (oi := ⟨some 26, _, _, _, _, _⟩) (v := ?_) rfl (by kernel_rfl) (by kernel_rfl) (by kernel_rfl) (fun _ _ _ h => h) (Or.inl ⟨by kernel_rfl, ?_⟩) (by assumption) ?_
    rotate_left
    · (intro wS hSw; (try dsimp only at hSw); obtain ⟨x0, x1, x2, x3, x4, x5, x6⟩ := (hm0.below hSw).blk.sevC; clear hSw; go_simp; (try with_reducible rfl))
    (try simp only [Act.put, List.setIfInBounds_toArray, List.set_cons_zero, List.set_cons_succ])
    refine wpAnyH_take (i := 11) (oi := ⟨some 27, _, _, _, _, _⟩) (v := ?_) rfl (by kernel_rfl) (by kernel_rfl) (by kernel_rfl) (fun _ _ _ h => h) (Or.inl ⟨by kernel_rfl, ?_⟩) (by assumption) ?_
    rotate_left
    · (intro wS hSw; (try dsimp only at hSw); obtain ⟨x0, x1, x2, x3, x4, x5, x6⟩ := (hm0.below hSw).blk.sevC; clear hSw; go_simp; (try with_reducible rfl))
    (try simp only [Act.put, List.setIfInBounds_toArray, List.set_cons_zero, List.set_cons_succ])
    refine wpAnyH_take (i := 12) (oi := ⟨some 28, _, _, _, _, _⟩) (v := ?_) rfl (by kernel_rfl) (by kernel_rfl) (by kernel_rfl) (fun _ _ _ h => h) (Or.inl ⟨by kernel_rfl, ?_⟩) (by assumption) ?_
    rotate_left
    · (intro wS hSw; (try dsimp only at hSw); obtain ⟨x0, x1, x2, x3, x4, x5, x6⟩ := (hm0.below hSw).blk.sevC; clear hSw; go_simp; (try with_reducible rfl))
    (try simp only [Act.put, List.setIfInBounds_toArray, List.set_cons_zero, List.set_cons_succ])
    refine wpAnyH_take (i := 13) (oi := ⟨some 29, _, _, _, _, _⟩) (v := ?_) rfl (by kernel_rfl) (by kernel_rfl) (by kernel_rfl) (fun _ _ _ h => h) (Or.inl ⟨by kernel_rfl, ?_⟩) (by assumption) ?_
    rotate_left
    · (intro wS hSw; (try dsimp only at hSw); obtain ⟨x0, x1, x2, x3, x4, x5, x6⟩ := (hm0.below hSw).blk.sevC; clear hSw; go_simp; (try with_reducible rfl))
    (try simp only [Act.put, List.setIfInBounds_toArray, List.set_cons_zero, List.set_cons_succ])
    refine wpAnyH_ready (rs := [14, 18]) (by kernel_rfl) (by simp) ?_
    refine AllReadyH.cons (o := ⟨some 30, _, _, _, _, _⟩) rfl (fun K hK => ?_) ?_
    · go_simp
      (refine (HGr.out _).mono ?_; rintro e w9 ⟨rfl, hb9⟩)
      go_wp2_with fail
      refine hK.out _ _ ?_ (fun _ => ?_)
      · ((try dsimp only); (first | with_reducible exact hst | with_reducible exact hHeld | exact bel_call hHeld hb9 | exact bel_alloc hHeld _ | exact bel_set (bel_set (bel_set hHeld (by assumption) _) (by assumption) _) (by assumption) _))
      clear hK K
      (try simp only [Act.put, List.setIfInBounds_toArray, List.set_cons_zero, List.set_cons_succ])
      refine gen0 (T := fun W => ((fun W => Below w0.heap.size w0 W)) W ∧ True) ?_ (fun wq2 hT => ?_)
      · exact ⟨by (first | with_reducible exact hst | with_reducible exact hHeld | exact bel_call hHeld hb9 | exact bel_alloc hHeld _ | exact bel_set (bel_set (bel_set hHeld (by assumption) _) (by assumption) _) (by assumption) _), trivial⟩
      (try clear f0 f1 f2 f3 f4 f5 f6 f7 f8 f9 f10 f11)
      obtain ⟨hHeld, -⟩ := hT
      refine wpAnyH_take (i := 15) (oi := ⟨some 15, _, _, _, _, _⟩) (v := ?_) rfl (by kernel_rfl) (by kernel_rfl) (by kernel_rfl) (fun _ _ _ h => h) (Or.inl ⟨by kernel_rfl, ?_⟩) (by assumption) ?_
      rotate_left
      · (intro wS hSw; (try dsimp only at hSw); obtain ⟨x0, x1, x2, x3, x4, x5, x6⟩ := (hm0.below hSw).blk.sevC; clear hSw; go_simp; (try with_reducible rfl))
      (try simp only [Act.put, List.setIfInBounds_toArray, List.set_cons_zero, List.set_cons_succ])
      refine wpAnyH_take (i := 16) (oi := ⟨some 31, _, _, _, _, _⟩) (v := ?_) rfl (by kernel_rfl) (by kernel_rfl) (by kernel_rfl) (fun _ _ _ h => h) (Or.inl ⟨by kernel_rfl, ?_⟩) (by assumption) ?_
      rotate_left
      · (intro wS hSw; (try dsimp only at hSw); obtain ⟨x0, x1, x2, x3, x4, x5, x6⟩ := (hm0.below hSw).blk.sevC; clear hSw; go_simp; (try with_reducible rfl))
      (try simp only [Act.put, List.setIfInBounds_toArray, List.set_cons_zero, List.set_cons_succ])
      refine wpAnyH_take (i := 17) (oi := ⟨some 32, _, _, _, _, _⟩) (v := ?_) rfl (by kernel_rfl) (by kernel_rfl) (by kernel_rfl) (fun _ _ _ h => h) (Or.inl ⟨by kernel_rfl, ?_⟩) (by assumption) ?_
      rotate_left
      · (intro wS hSw; (try dsimp only at hSw); obtain ⟨x0, x1, x2, x3, x4, x5, x6⟩ := (hm0.below hSw).blk.sevC; clear hSw; go_simp; (try with_reducible rfl))
      (try simp only [Act.put, List.setIfInBounds_toArray, List.set_cons_zero, List.set_cons_succ])
      refine wpAnyH_ready (rs := [18]) (by kernel_rfl) (by simp) ?_
      refine AllReadyH.cons (o := ⟨some 8, _, _, _, _, _⟩) rfl (fun K hK => ?_) AllReadyH.nil
      go_simp
      refine hK.out _ _ ?_ (fun _ => ?_)
      · ((try dsimp only); (first | with_reducible exact hst | with_reducible exact hHeld | exact bel_call hHeld hb9 | exact bel_alloc hHeld _ | exact bel_set (bel_set (bel_set hHeld (by assumption) _) (by assumption) _) (by assumption) _))
      clear hK K
      (try simp only [Act.put, List.setIfInBounds_toArray, List.set_cons_zero, List.set_cons_succ])
      refine gen0 (T := fun W => ((fun W => Below w0.heap.size w0 W)) W ∧ Blk W wq2.heap.size 43 #[.int .i64 0, .int .i64 0, .int .i64 0] ∧ w0.heap.size ≤ wq2.heap.size ∧ True) ?_ (fun wq3 hT => ?_)
      · exact ⟨by (first | with_reducible exact hst | with_reducible exact hHeld | exact bel_call hHeld hb9 | exact bel_alloc hHeld _ | exact bel_set (bel_set (bel_set hHeld (by assumption) _) (by assumption) _) (by assumption) _), by (first | with_reducible assumption | with_reducible exact Blk.new _ _ _ | exact ((f0.set_ 0 _).set_ 1 _).set_ 2 _ | exact f0.below hb9 | exact hHeld.size), by (first | with_reducible assumption | with_reducible exact Blk.new _ _ _ | exact ((f0.set_ 0 _).set_ 1 _).set_ 2 _ | exact f0.below hb9 | exact hHeld.size), trivial⟩
      (try clear f0 f1 f2 f3 f4 f5 f6 f7 f8 f9 f10 f11)
      obtain ⟨hHeld, f0, f1, -⟩ := hT
      refine wpAnyH_ready (rs := [19]) (by kernel_rfl) (by simp) ?_
      refine AllReadyH.cons (o := ⟨none, _, _, _, _, _⟩) rfl (fun K hK => ?_) AllReadyH.nil
      obtain ⟨s0, s1, s2, s3, s4, s5⟩ := f0.three
      go_simp
      refine hK.out _ _ ?_ (fun _ => ?_)
      · ((try dsimp only); (first | with_reducible exact hst | with_reducible exact hHeld | exact bel_call hHeld hb9 | exact bel_alloc hHeld _ | exact bel_set (bel_set (bel_set hHeld (by assumption) _) (by assumption) _) (by assumption) _))
      clear hK K
      (try simp only [Act.put, List.setIfInBounds_toArray, List.set_cons_zero, List.set_cons_succ])
      refine gen0 (T := fun W => ((fun W => Below w0.heap.size w0 W)) W ∧ w0.heap.size ≤ wq2.heap.size ∧ Blk W wq2.heap.size 43 #[.int .i64 t1, .int .i64 t2, .int .i64 t3] ∧ True) ?_ (fun wq4 hT => ?_)
      · exact ⟨by (first | with_reducible exact hst | with_reducible exact hHeld | exact bel_call hHeld hb9 | exact bel_alloc hHeld _ | exact bel_set (bel_set (bel_set hHeld (by assumption) _) (by assumption) _) (by assumption) _), by (first | with_reducible assumption | with_reducible exact Blk.new _ _ _ | exact ((f0.set_ 0 _).set_ 1 _).set_ 2 _ | exact f0.below hb9 | exact hHeld.size), by (first | with_reducible assumption | with_reducible exact Blk.new _ _ _ | exact ((f0.set_ 0 _).set_ 1 _).set_ 2 _ | exact f0.below hb9 | exact hHeld.size), trivial⟩
      (try clear f0 f1 f2 f3 f4 f5 f6 f7 f8 f9 f10 f11)
      obtain ⟨hHeld, f0, f1, -⟩ := hT
      refine wpAnyH_take (i := 20) (oi := ⟨some 9, _, _, _, _, _⟩) (v := ?_) rfl (by kernel_rfl) (by kernel_rfl) (by kernel_rfl) (fun _ _ _ h => h) (Or.inl ⟨by kernel_rfl, ?_⟩) (by assumption) ?_
      rotate_left
      · (intro wS hSw; (try dsimp only at hSw); obtain ⟨x0, x1, x2, x3, x4, x5, x6⟩ := (hm0.below hSw).blk.sevC; clear hSw; go_simp; (try with_reducible rfl))
      (try simp only [Act.put, List.setIfInBounds_toArray, List.set_cons_zero, List.set_cons_succ])
      refine wpAnyH_done (by kernel_rfl) ?_ _
      (go_wp2_with fail; go_meet; exact ⟨_, rfl, rfl, f0, f1, hHeld⟩)
    refine AllReadyH.cons (o := ⟨some 8, _, _, _, _, _⟩) rfl (fun K hK => ?_) ?_
    · go_simp
      refine hK.out _ _ ?_ (fun _ => ?_)
      · ((try dsimp only); (first | with_reducible exact hst | with_reducible exact hHeld | exact bel_call hHeld hb9 | exact bel_alloc hHeld _ | exact bel_set (bel_set (bel_set hHeld (by assumption) _) (by assumption) _) (by assumption) _))
      clear hK K
      (try simp only [Act.put, List.setIfInBounds_toArray, List.set_cons_zero, List.set_cons_succ])
      refine gen0 (T := fun W => ((fun W => Below w0.heap.size w0 W)) W ∧ Blk W wq1.heap.size 43 #[.int .i64 0, .int .i64 0, .int .i64 0] ∧ w0.heap.size ≤ wq1.heap.size ∧ True) ?_ (fun wq5 hT => ?_)
      · exact ⟨by (first | with_reducible exact hst | with_reducible exact hHeld | exact bel_call hHeld hb9 | exact bel_alloc hHeld _ | exact bel_set (bel_set (bel_set hHeld (by assumption) _) (by assumption) _) (by assumption) _), by (first | with_reducible assumption | with_reducible exact Blk.new _ _ _ | exact ((f0.set_ 0 _).set_ 1 _).set_ 2 _ | exact f0.below hb9 | exact hHeld.size), by (first | with_reducible assumption | with_reducible exact Blk.new _ _ _ | exact ((f0.set_ 0 _).set_ 1 _).set_ 2 _ | exact f0.below hb9 | exact hHeld.size), trivial⟩
      (try clear f0 f1 f2 f3 f4 f5 f6 f7 f8 f9 f10 f11)
      obtain ⟨hHeld, f0, f1, -⟩ := hT
      refine wpAnyH_ready (rs := [14]) (by kernel_rfl) (by simp) ?_
      refine AllReadyH.cons (o := ⟨some 30, _, _, _, _, _⟩) rfl (fun K hK => ?_) AllReadyH.nil
      go_simp
      (refine (HGr.out _).mono ?_; rintro e w9 ⟨rfl, hb9⟩)
      go_wp2_with fail
      refine hK.out _ _ ?_ (fun _ => ?_)
      · ((try dsimp only); (first | with_reducible exact hst | with_reducible exact hHeld | exact bel_call hHeld hb9 | exact bel_alloc hHeld _ | exact bel_set (bel_set (bel_set hHeld (by assumption) _) (by assumption) _) (by assumption) _))
      clear hK K
      (try simp only [Act.put, List.setIfInBounds_toArray, List.set_cons_zero, List.set_cons_succ])
      refine gen0 (T := fun W => ((fun W => Below w0.heap.size w0 W)) W ∧ Blk W wq1.heap.size 43 #[.int .i64 0, .int .i64 0, .int .i64 0] ∧ w0.heap.size ≤ wq1.heap.size ∧ True) ?_ (fun wq6 hT => ?_)
      · exact ⟨by (first | with_reducible exact hst | with_reducible exact hHeld | exact bel_call hHeld hb9 | exact bel_alloc hHeld _ | exact bel_set (bel_set (bel_set hHeld (by assumption) _) (by assumption) _) (by assumption) _), by (first | with_reducible assumption | with_reducible exact Blk.new _ _ _ | exact ((f0.set_ 0 _).set_ 1 _).set_ 2 _ | exact f0.below hb9 | exact hHeld.size), by (first | with_reducible assumption | with_reducible exact Blk.new _ _ _ | exact ((f0.set_ 0 _).set_ 1 _).set_ 2 _ | exact f0.below hb9 | exact hHeld.size), trivial⟩
      (try clear f0 f1 f2 f3 f4 f5 f6 f7 f8 f9 f10 f11)
      obtain ⟨hHeld, f0, f1, -⟩ := hT
      refine wpAnyH_take (i := 15) (oi := ⟨some 15, _, _, _, _, _⟩) (v := ?_) rfl (by kernel_rfl) (by kernel_rfl) (by kernel_rfl) (fun _ _ _ h => h) (Or.inl ⟨by kernel_rfl, ?_⟩) (by assumption) ?_
      rotate_left
      · (intro wS hSw; (try dsimp only at hSw); obtain ⟨x0, x1, x2, x3, x4, x5, x6⟩ := (hm0.below hSw).blk.sevC; clear hSw; go_simp; (try with_reducible rfl))
      (try simp only [Act.put, List.setIfInBounds_toArray, List.set_cons_zero, List.set_cons_succ])
      refine wpAnyH_take (i := 16) (oi := ⟨some 31, _, _, _, _, _⟩) (v := ?_) rfl (by kernel_rfl) (by kernel_rfl) (by kernel_rfl) (fun _ _ _ h => h) (Or.inl ⟨by kernel_rfl, ?_⟩) (by assumption) ?_
      rotate_left
      · (intro wS hSw; (try dsimp only at hSw); obtain ⟨x0, x1, x2, x3, x4, x5, x6⟩ := (hm0.below hSw).blk.sevC; clear hSw; go_simp; (try with_reducible rfl))
      (try simp only [Act.put, List.setIfInBounds_toArray, List.set_cons_zero, List.set_cons_succ])
      refine wpAnyH_take (i := 17) (oi := ⟨some 32, _, _, _, _, _⟩) (v := ?_) rfl (by kernel_rfl) (by kernel_rfl) (by kernel_rfl) (fun _ _ _ h => h) (Or.inl ⟨by kernel_rfl, ?_⟩) (by assumption) ?_
      rotate_left
      · (intro wS hSw; (try dsimp only at hSw); obtain ⟨x0, x1, x2, x3, x4, x5, x6⟩ := (hm0.below hSw).blk.sevC; clear hSw; go_simp; (try with_reducible rfl))
      (try simp only [Act.put, List.setIfInBounds_toArray, List.set_cons_zero, List.set_cons_succ])
      refine wpAnyH_ready (rs := [19]) (by kernel_rfl) (by simp) ?_
      refine AllReadyH.cons (o := ⟨none, _, _, _, _, _⟩) rfl (fun K hK => ?_) AllReadyH.nil
      obtain ⟨s0, s1, s2, s3, s4, s5⟩ := f0.three
      go_simp
      refine hK.out _ _ ?_ (fun _ => ?_)
      · ((try dsimp only); (first | with_reducible exact hst | with_reducible exact hHeld | exact bel_call hHeld hb9 | exact bel_alloc hHeld _ | exact bel_set (bel_set (bel_set hHeld (by assumption) _) (by assumption) _) (by assumption) _))
      clear hK K
      (try simp only [Act.put, List.setIfInBounds_toArray, List.set_cons_zero, List.set_cons_succ])
      refine gen0 (T := fun W => ((fun W => Below w0.heap.size w0 W)) W ∧ w0.heap.size ≤ wq1.heap.size ∧ Blk W wq1.heap.size 43 #[.int .i64 t1, .int .i64 t2, .int .i64 t3] ∧ True) ?_ (fun wq7 hT => ?_)
      · exact ⟨by (first | with_reducible exact hst | with_reducible exact hHeld | exact bel_call hHeld hb9 | exact bel_alloc hHeld _ | exact bel_set (bel_set (bel_set hHeld (by assumption) _) (by assumption) _) (by assumption) _), by (first | with_reducible assumption | with_reducible exact Blk.new _ _ _ | exact ((f0.set_ 0 _).set_ 1 _).set_ 2 _ | exact f0.below hb9 | exact hHeld.size), by (first | with_reducible assumption | with_reducible exact Blk.new _ _ _ | exact ((f0.set_ 0 _).set_ 1 _).set_ 2 _ | exact f0.below hb9 | exact hHeld.size), trivial⟩
      (try clear f0 f1 f2 f3 f4 f5 f6 f7 f8 f9 f10 f11)
      obtain ⟨hHeld, f0, f1, -⟩ := hT
      refine wpAnyH_take (i := 20) (oi := ⟨some 9, _, _, _, _, _⟩) (v := ?_) rfl (by kernel_rfl) (by kernel_rfl) (by kernel_rfl) (fun _ _ _ h => h) (Or.inl ⟨by kernel_rfl, ?_⟩) (by assumption) ?_
      rotate_left
      · (intro wS hSw; (try dsimp only at hSw); obtain ⟨x0, x1, x2, x3, x4, x5, x6⟩ := (hm0.below hSw).blk.sevC; clear hSw; go_simp; (try with_reducible rfl))
      (try simp only [Act.put, List.setIfInBounds_toArray, List.set_cons_zero, List.set_cons_succ])
      refine wpAnyH_done (by kernel_rfl) ?_ _
      (go_wp2_with fail; go_meet; exact ⟨_, rfl, rfl, f0, f1, hHeld⟩)
    exact AllReadyH.nil
  case rest =>
    obtain ⟨g, rfl, rfl, hlo, hBl, hHeld⟩ := hcut
    have hm1 := hm0.below hHeld
    have hB1 := hB0.below hHeld
    have hb1 := hb0.trans (hHeld.mono hb0.size)
    have hgne : w.heap.size ≠ g := by omega
    have hgne2 : gr ≠ g := by have := Hgr.out; omega
    clear hm0 hB0 hb0 hHeld
    rcases Decidable.em (t4 = 0) with h0 | h0
    rotate_left
    · obtain ⟨ev, hev⟩ := errv_ifc h0
      obtain ⟨b0, b1, b2, bf0, bf1, bf2⟩ := hB1.three
      have hB2 := ((hB1.set_ 0 (.int .i64 0)).set_ 1 (.int .i64 0)).set_ 2 (.int .i64 0)
      have hb2 := bel_set (bel_set (bel_set hb1 (p := ⟨w.heap.size, 0, none⟩) (Nat.le_refl _) (.int .i64 0)) (p := ⟨w.heap.size, 1, none⟩) (Nat.le_refl _) (.int .i64 0)) (p := ⟨w.heap.size, 2, none⟩) (Nat.le_refl _) (.int .i64 0)
      have HE := Lib.hid hev
      have HA := Lib.hid (HNo.out h0)
      have HB2 := Lib.hid hB2
      have HRR := Lib.hid (RgG.still H.out hb2)
      rw [hev]
      clear hev h0 hB1 hB2 hb1 hb2 hm1 hBl
      go_wp2_with fail
      exact bodyPost_ret (res_lease rfl rfl (g := w.heap.size) HB2.out) rfl ⟨(0, 0, 0), t4, d, L, n, HA.out, by rw [HE.out]; rfl, HRR.out⟩
    subst h0
    have HK := Lib.hid (RKeep_any hm1 hf hl (t1, t2, t3))
    obtain ⟨c0, c1, c2, -, -, -⟩ := hBl.three
    rw [show errv 0 = Value.nilIface from rfl]
    have Hb1 := Lib.hid hb1
    have HB1 := Lib.hid hB1
    have HBl := Lib.hid hBl
    have HM1 := Lib.hid hm1
    have hqn : ∀ i, w.heap.size ≤ i → ¬ q.M i := fun i hi hq => by have := H.out.st.dsk.ltM hq; omega
    have Hqn := Lib.hid hqn
    clear hb1 hB1 hBl hm1 hqn
    go_wp2_with fail
    refine HK.out.mono ?_
    clear HK
    rintro e w3 ⟨A, c, rfl, q3, hg3, hR3, hF3, hM3⟩
    have hB3 : Blk w3 w.heap.size 43 #[.int .i64 0, .int .i64 0, .int .i64 0] := (hF3.block _ HB1.out.lt (Hqn.out _ (Nat.le_refl _)) (by have := Hgr.out; omega)).trans HB1.out
    have hBl3 : Blk w3 g 43 #[.int .i64 t1, .int .i64 t2, .int .i64 t3] := (hF3.block _ HBl.out.lt (Hqn.out _ (by omega)) (fun e => hgne2 e.symm)).trans HBl.out
    have HF3 := Lib.hid ((Frg.of_below (q := q) gr Hb1.out).trans hF3 (fun i hi => .inl hi))
    have HM3 := Lib.hid (show ∀ i, q3.M i → q.M i ∨ w.heap.size ≤ i from fun i hi => by
      rcases hM3 i hi with h1 | h1
      · exact .inl h1
      · have := Hb1.out.size; exact .inr (by omega))
    have Hg3 := Lib.hid hg3
    have hbad := HBad.out A c (by first | rfl | trivial)
    have hok := HOk.out A c (by first | rfl | trivial)
    have Hq3 := Lib.hid (show ¬ q3.M w.heap.size from fun hq => by
      rcases hM3 _ hq with h1 | h1
      · exact Hqn.out _ (Nat.le_refl _) h1
      · have := HB1.out.lt; omega)
    have Hgs := Lib.hid H.out.st.blk.lt
    clear hF3 hM3 hg3 HB1 HBl Hb1 HM1 c0 c1 c2 HBad HOk HNo
    generalize rgKeep d (t1, t2, t3) A c = r at *
    obtain ⟨d3, k3⟩ := r
    dsimp only at hR3 hbad hok ⊢
    rcases Decidable.em (k3 = 0) with h0 | h0
    rotate_left
    · obtain ⟨ev, hev⟩ := errv_ifc h0
      rw [if_neg h0] at hR3
      obtain ⟨b0, b1, b2, bf0, bf1, bf2⟩ := hB3.three
      have hB4 := ((hB3.set_ 0 (.int .i64 0)).set_ 1 (.int .i64 0)).set_ 2 (.int .i64 0)
      have hw : Wr w3 (((w3.setCell ⟨w.heap.size, 0, none⟩ (.int .i64 0)).setCell ⟨w.heap.size, 1, none⟩ (.int .i64 0)).setCell ⟨w.heap.size, 2, none⟩ (.int .i64 0)) w.heap.size := (((Wr.refl _ _).set_ 0 _).set_ 1 _).set_ 2 _
      have HR4 := Lib.hid (hR3.other hB3 lease_nob Hq3.out (by have := Hgr.out; omega) (by have := Hgs.out; omega) hw)
      have HF4 := Lib.hid (HF3.out.more hw (Nat.le_refl _))
      have HE := Lib.hid hev
      have HA := Lib.hid (hbad h0)
      have HB4 := Lib.hid hB4
      rw [hev]
      clear hev h0 hbad hok hB4 hw hB3 hBl3 hR3
      go_wp2_with fail
      exact bodyPost_ret (res_lease rfl rfl (g := w.heap.size) HB4.out) rfl ⟨(0, 0, 0), k3, d3, L, n, HA.out, by rw [HE.out]; rfl, q3, Hg3.out, HR4.out, HF4.out, HM3.out⟩
    · subst h0
      rw [if_pos rfl] at hR3
      have HA := Lib.hid (hok (by first | rfl | trivial))
      have hc6 := hR3.blk.cell 6
      have hz6 := hR3.blk.frozen 6
      have HAdd := Lib.hid (RgAdd_any w3 hc6 hz6)
      have hw4 : Wr w3 (w3.setCell ⟨gr, 6, none⟩ (.int .i64 (wrap64 (n + 1)))) gr := (Wr.refl _ _).set_ 6 _
      have hR4 := hR3.set (L' := (t1, t2, t3)) (m := wrap64 (n + 1)) hw4 (hR3.blk.set_ 6 (.int .i64 (wrap64 (n + 1))))
      have hB4 := hB3.wr hw4 (by have := Hgr.out; omega)
      have hBl4 := hBl3.wr hw4 (fun e => hgne2 e.symm)
      have HF4 := Lib.hid (HF3.out.wr hw4)
      rw [show errv 0 = Value.nilIface from rfl]
      have HR4 := Lib.hid hR4
      have HB4 := Lib.hid hB4
      have HBl4 := Lib.hid hBl4
      clear hbad hok hw4 hR4 hB4 hBl4 hB3 hBl3 hR3 hc6 hz6
      go_wp2_with fail
      refine HAdd.out.mono ?_
      rintro e w4 ⟨rfl, rfl⟩
      go_upto_region 10 with (fail)
      refine gen1 (T := fun W => RgM W gr gs q3 d3 sp bo (t1, t2, t3) (wrap64 (n + 1)) ∧ Blk W w.heap.size 43 #[.int .i64 0, .int .i64 0, .int .i64 0] ∧ Blk W g 43 #[.int .i64 t1, .int .i64 t2, .int .i64 t3] ∧ Frg q gr w W) ⟨HR4.out, HB4.out, HBl4.out, HF4.out⟩ (fun w5 hT => ?_)
      obtain ⟨hR5, hB5, hBl5, hF5⟩ := hT
      obtain ⟨b0, b1, b2, bf0, bf1, bf2⟩ := hB5.three
      obtain ⟨c0, c1, c2, -, -, -⟩ := hBl5.three
      have hw : Wr w5 (((w5.setCell ⟨w.heap.size, 0, none⟩ (.int .i64 t1)).setCell ⟨w.heap.size, 1, none⟩ (.int .i64 t2)).setCell ⟨w.heap.size, 2, none⟩ (.int .i64 t3)) w.heap.size := (((Wr.refl _ _).set_ 0 _).set_ 1 _).set_ 2 _
      have HB6 := Lib.hid (((hB5.set_ 0 (.int .i64 t1)).set_ 1 (.int .i64 t2)).set_ 2 (.int .i64 t3))
      have HR6 := Lib.hid (hR5.other hB5 lease_nob Hq3.out (by have := Hgr.out; omega) (by have := Hgs.out; omega) hw)
      have HF6 := Lib.hid (hF5.more hw (Nat.le_refl _))
      clear hR5 hB5 hBl5 hF5 hw HR4 HB4 HBl4 HF4 HAdd
      go_wp2_with fail
      exact bodyPost_ret (res_lease rfl rfl (g := w.heap.size) HB6.out) rfl ⟨(t1, t2, t3), 0, d3, (t1, t2, t3), wrap64 (n + 1), HA.out, rfl, q3, Hg3.out, HR6.out, HF6.out, HM3.out⟩
end Go.Proofs.YtlpniegemklfeaaGreatDoor

namespace Go.Proofs.YtlpniegemklfeaaGreatDoor
open Go.RowKit Go.Maps Go.Sort
attribute [local go_sem ↓] Go.wp_at_zero Go.wp_at_succ

/-- opened without an error -/
theorem RgO.ok {w w' : World} {q : Fp} {sp bo : Int} {d' : Dk Sv} {L : L3r} {e : Ending} (h : RgO w q sp bo (d', L, 0) e w') : ∃ q' gr gs, e = .returned (.tuple #[.pointer (some ⟨gr, 0, none⟩), .nilIface]) ∧ q'.g = q.g ∧ RgM w' gr gs q' d' sp bo L 0 ∧ Frd q w w' ∧ (∀ i, q'.M i → q.M i ∨ w.heap.size ≤ i) ∧ w.heap.size ≤ gr := by
  obtain ⟨q', hg, hD, hF, hM, h0⟩ := h
  rcases h0 with ⟨-, gr, gs, he, hR, h1, -⟩ | ⟨h0, -⟩
  · exact ⟨q', gr, gs, he, hg, hR, hF, hM, h1⟩
  · exact absurd rfl h0
theorem keep_alive (A : Option Addr) (c : Nat) : (rgKeep (dk0 1000) (1, 1, 5) A c).2 = 0 := by kernel_rfl
theorem grant_alive : grantL (0, 0, 0) 1 0 5 0 = ((1, 1, 5), 0) := by kernel_rfl
theorem acq_alive {ret : L3r} {k : Nat} {d' : Dk Sv} {L' : L3r} {n' : Int} (h : AcqO (dk0 1000) (0, 0, 0) 0 5 0 1 0 ret k d' L' n') : ret = (1, 1, 5) ∧ k = 0 := by
  have hg := grant_alive
  have hk := keep_alive
  cases h with
  | no h => rw [hg] at h; exact absurd rfl h
  | bad A c h h2 => rw [hg] at h2; exact absurd (hk A c) h2
  | ok A c h h2 => rw [hg]; exact ⟨rfl, rfl⟩
set_option maxRecDepth 100000 in
set_option maxHeartbeats 1000000 in
theorem AliveR_any (w : World) : Calls Tryz.prog 6 #[] w fun e w' => e = .returned (.bool true) ∧ Below w.heap.size w w' := by
  go_enter Tryz.func6, Tryz.ntmps6
  go_wp2_with fail
  refine (New_any 1000 w).mono ?_
  rintro e w1 (⟨h, -⟩ | ⟨-, q, rfl, hD, hM, hb⟩)
  · omega
  rw [show errv 0 = Value.nilIface from rfl]
  have HF1 := Lib.hid (show Fro w w1 q from ⟨hb, hM⟩)
  have hO := RgOpen_any hD (Fok.dk0 1000) (by decide) 5 0
  rw [show rgOpen (dk0 1000) 5 0 = (dk0 1000, (0, 0, 0), 0) from by kernel_rfl] at hO
  have HO := Lib.hid hO
  clear hD hM hb hO
  go_wp2_with fail
  refine HO.out.mono ?_
  rintro e w2 hOO
  obtain ⟨q2, gr, gs, rfl, hg2, hR2, hF2, hM2, hgr⟩ := hOO.ok
  have HA := Lib.hid (RAcquire_any hR2 (Fok.dk0 1000) (by decide) 1 0)
  have HF2 := Lib.hid (HF1.out.frd hF2 hM2)
  have Hgr := Lib.hid (Nat.le_trans HF1.out.1.size hgr)
  clear HO hOO hF2 hM2 hR2 hg2 hgr HF1
  go_wp2_with fail
  refine HA.out.mono ?_
  rintro e w3 ⟨ret, k, d', L', n', hA, rfl, q3, hg3, hR3, hF3, hM3⟩
  obtain ⟨rfl, rfl⟩ := acq_alive hA
  rw [show errv 0 = Value.nilIface from rfl]
  have HB := Lib.hid (bel_alloc (HF2.out.frg hF3 hM3 Hgr.out).1 (.cells #[.int .i64 1, .int .i64 1, .int .i64 5] 43))
  clear HA hA hg3 hR3 hF3 hM3
  go_wp2_with fail
  go_ret
  exact ⟨rfl, HB.out⟩
end Go.Proofs.YtlpniegemklfeaaGreatDoor
