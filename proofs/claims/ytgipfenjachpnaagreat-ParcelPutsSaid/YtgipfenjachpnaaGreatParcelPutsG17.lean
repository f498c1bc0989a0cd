/- WHAT IT HOLDS: the law ParcelPuts, walked. | WHAT IT HOLDS: arguments that are segments, arrays, opened to the words of Kit. | WHAT IT HOLDS: arguments that are parcels, receipts, opened to the words of Kit. -/
import Derived.Test.YtgipfenjachpnaaGreatParcelPutsG16
import Derived.Test.YtgipfenjachpnaaGreatParcelPutsG04
import Derived.Test.YtgipfenjachpnaaGreatParcelPutsG06
import Derived.Test.YtgipfenjachpnaaGreatParcelPutsG14
namespace Go.Proofs.YtgipfenjachpnaaGreat
open Go.RowKit
attribute [local go_sem ↓] Go.wp_at_zero Go.wp_at_succ

theorem pput_two (p : Pc) : (pput p).2 = pchk p := by
  by_cases h : pchk p = 0
  · rw [pput_ok h, h]
  · unfold pput; rw [if_pos h]
theorem pcKind_one {p : Pc} (h : pchk p = 0) : pcKind (frm (ptxt p)) = 1 := by
  unfold pcKind
  rw [pcTake_put h, if_pos rfl]
theorem psame_self (p : Pc) : psame p p = true := by unfold psame; simp
set_option maxRecDepth 100000 in
set_option maxHeartbeats 1000000 in
theorem pputs_early1 {E G : Option Addr} {cap cap2 : Nat} {x t f x2 t2 f2 q1 q2 : Int} {cs ds : List CeV} (w : World) (h : SlC w E cap cs) (hlong : longb (cs.map ceOf) 80 = true) :
    Calls Tryz.prog 4 #[pcv x t f E cs.length cap, pcv x2 t2 f2 G ds.length cap2, .agg #[.int .i64 q1, .int .i64 q2]] w fun e w' => e = .returned (.bool true) ∧ Below w.heap.size w w' := by
  have hP0 := ((Blk.new w 28 #[.int .i64 x, .int .i64 t, .int .i64 f, .slice E cs.length cap]).alloc (.cells #[.int .i64 x2, .int .i64 t2, .int .i64 f2, .slice G ds.length cap2] 28)).alloc (.cells #[.int .i64 q1, .int .i64 q2] 41)
  have hQ0 := (Blk.newAt (w := w.alloc (.cells #[.int .i64 x, .int .i64 t, .int .i64 f, .slice E cs.length cap] 28)) (g := w.heap.size + 1) (by simp) 28 #[.int .i64 x2, .int .i64 t2, .int .i64 f2, .slice G ds.length cap2]).alloc (.cells #[.int .i64 q1, .int .i64 q2] 41)
  have hR0 := Blk.newAt (w := (w.alloc (.cells #[.int .i64 x, .int .i64 t, .int .i64 f, .slice E cs.length cap] 28)).alloc (.cells #[.int .i64 x2, .int .i64 t2, .int .i64 f2, .slice G ds.length cap2] 28)) (g := w.heap.size + 1 + 1) (by simp) 41 #[.int .i64 q1, .int .i64 q2]
  have hbw := bel_alloc (bel_alloc (below_new w (.cells #[.int .i64 x, .int .i64 t, .int .i64 f, .slice E cs.length cap] 28)) (.cells #[.int .i64 x2, .int .i64 t2, .int .i64 f2, .slice G ds.length cap2] 28)) (.cells #[.int .i64 q1, .int .i64 q2] 41)
  go_enter Tryz.func4, Tryz.ntmps4
  go_wp2_with fail
  refine (alive23_any _).mono ?_
  rintro e w1 ⟨rfl, hb1⟩
  have hP := hP0.below hb1
  have hQ := hQ0.below hb1
  have hR := hR0.below hb1
  have hw := bel_call hbw hb1
  clear hP0 hQ0 hR0 hbw hb1
  obtain ⟨a0, a1, a2, a3, _⟩ := hP.four
  go_wp2_with fail
  refine (Long_any cs 80 _ (h.below hw)).mono ?_
  rintro e w2 ⟨rfl, hb2⟩
  rw [hlong]
  replace hP := hP.below hb2
  replace hQ := hQ.below hb2
  replace hR := hR.below hb2
  replace hw := bel_call hw hb2
  clear hb2 a0 a1 a2 a3
  go_wp2_with fail
  go_ret
  exact ⟨rfl, hw⟩
set_option maxRecDepth 100000 in
set_option maxHeartbeats 1000000 in
theorem pputs_early2 {E G : Option Addr} {cap cap2 : Nat} {x t f x2 t2 f2 q1 q2 : Int} {cs ds : List CeV} (w : World) (h : SlC w E cap cs) (h2 : SlC w G cap2 ds) (hlong : longb (cs.map ceOf) 80 = false) (hlong2 : longb (ds.map ceOf) 80 = true) :
    Calls Tryz.prog 4 #[pcv x t f E cs.length cap, pcv x2 t2 f2 G ds.length cap2, .agg #[.int .i64 q1, .int .i64 q2]] w fun e w' => e = .returned (.bool true) ∧ Below w.heap.size w w' := by
  have hP0 := ((Blk.new w 28 #[.int .i64 x, .int .i64 t, .int .i64 f, .slice E cs.length cap]).alloc (.cells #[.int .i64 x2, .int .i64 t2, .int .i64 f2, .slice G ds.length cap2] 28)).alloc (.cells #[.int .i64 q1, .int .i64 q2] 41)
  have hQ0 := (Blk.newAt (w := w.alloc (.cells #[.int .i64 x, .int .i64 t, .int .i64 f, .slice E cs.length cap] 28)) (g := w.heap.size + 1) (by simp) 28 #[.int .i64 x2, .int .i64 t2, .int .i64 f2, .slice G ds.length cap2]).alloc (.cells #[.int .i64 q1, .int .i64 q2] 41)
  have hR0 := Blk.newAt (w := (w.alloc (.cells #[.int .i64 x, .int .i64 t, .int .i64 f, .slice E cs.length cap] 28)).alloc (.cells #[.int .i64 x2, .int .i64 t2, .int .i64 f2, .slice G ds.length cap2] 28)) (g := w.heap.size + 1 + 1) (by simp) 41 #[.int .i64 q1, .int .i64 q2]
  have hbw := bel_alloc (bel_alloc (below_new w (.cells #[.int .i64 x, .int .i64 t, .int .i64 f, .slice E cs.length cap] 28)) (.cells #[.int .i64 x2, .int .i64 t2, .int .i64 f2, .slice G ds.length cap2] 28)) (.cells #[.int .i64 q1, .int .i64 q2] 41)
  go_enter Tryz.func4, Tryz.ntmps4
  go_wp2_with fail
  refine (alive23_any _).mono ?_
  rintro e w1 ⟨rfl, hb1⟩
  have hP := hP0.below hb1
  have hQ := hQ0.below hb1
  have hR := hR0.below hb1
  have hw := bel_call hbw hb1
  clear hP0 hQ0 hR0 hbw hb1
  obtain ⟨a0, a1, a2, a3, _⟩ := hP.four
  go_wp2_with fail
  refine (Long_any cs 80 _ (h.below hw)).mono ?_
  rintro e w2 ⟨rfl, hb2⟩
  rw [hlong]
  replace hP := hP.below hb2
  replace hQ := hQ.below hb2
  replace hR := hR.below hb2
  replace hw := bel_call hw hb2
  clear hb2 a0 a1 a2 a3
  obtain ⟨b0, b1, b2, b3, _⟩ := hQ.four
  go_wp2_with fail
  refine (Long_any ds 80 _ (h2.below hw)).mono ?_
  rintro e w3 ⟨rfl, hb3⟩
  rw [hlong2]
  replace hP := hP.below hb3
  replace hQ := hQ.below hb3
  replace hR := hR.below hb3
  replace hw := bel_call hw hb3
  clear hb3 b0 b1 b2 b3
  go_wp2_with fail
  go_ret
  exact ⟨rfl, hw⟩
set_option maxRecDepth 100000 in
set_option maxHeartbeats 4000000 in
theorem pputs_walk {E G : Option Addr} {cap cap2 : Nat} {x t f x2 t2 f2 q1 q2 : Int} {cs ds : List CeV} (w : World) (h : SlC w E cap cs) (h2 : SlC w G cap2 ds) (hlong : longb (cs.map ceOf) 80 = false) (hlong2 : longb (ds.map ceOf) 80 = false) :
    Calls Tryz.prog 4 #[pcv x t f E cs.length cap, pcv x2 t2 f2 G ds.length cap2, .agg #[.int .i64 q1, .int .i64 q2]] w fun e w' => e = .returned (.bool true) ∧ Below w.heap.size w w' := by
  obtain ⟨_, hl1⟩ := longb_all hlong (by decide)
  obtain ⟨_, hl2⟩ := longb_all hlong2 (by decide)
  have hP0 := ((Blk.new w 28 #[.int .i64 x, .int .i64 t, .int .i64 f, .slice E cs.length cap]).alloc (.cells #[.int .i64 x2, .int .i64 t2, .int .i64 f2, .slice G ds.length cap2] 28)).alloc (.cells #[.int .i64 q1, .int .i64 q2] 41)
  have hQ0 := (Blk.newAt (w := w.alloc (.cells #[.int .i64 x, .int .i64 t, .int .i64 f, .slice E cs.length cap] 28)) (g := w.heap.size + 1) (by simp) 28 #[.int .i64 x2, .int .i64 t2, .int .i64 f2, .slice G ds.length cap2]).alloc (.cells #[.int .i64 q1, .int .i64 q2] 41)
  have hR0 := Blk.newAt (w := (w.alloc (.cells #[.int .i64 x, .int .i64 t, .int .i64 f, .slice E cs.length cap] 28)).alloc (.cells #[.int .i64 x2, .int .i64 t2, .int .i64 f2, .slice G ds.length cap2] 28)) (g := w.heap.size + 1 + 1) (by simp) 41 #[.int .i64 q1, .int .i64 q2]
  have hbw := bel_alloc (bel_alloc (below_new w (.cells #[.int .i64 x, .int .i64 t, .int .i64 f, .slice E cs.length cap] 28)) (.cells #[.int .i64 x2, .int .i64 t2, .int .i64 f2, .slice G ds.length cap2] 28)) (.cells #[.int .i64 q1, .int .i64 q2] 41)
  go_enter Tryz.func4, Tryz.ntmps4
  go_wp2_with fail
  refine (alive23_any _).mono ?_
  rintro e w1 ⟨rfl, hb1⟩
  have hP := hP0.below hb1
  have hQ := hQ0.below hb1
  have hR := hR0.below hb1
  have hw := bel_call hbw hb1
  clear hP0 hQ0 hR0 hbw hb1
  obtain ⟨a0, a1, a2, a3, _⟩ := hP.four
  go_wp2_with fail
  refine (Long_any cs 80 _ (h.below hw)).mono ?_
  rintro e w2 ⟨rfl, hb2⟩
  rw [hlong]
  replace hP := hP.below hb2
  replace hQ := hQ.below hb2
  replace hR := hR.below hb2
  replace hw := bel_call hw hb2
  clear hb2 a0 a1 a2 a3
  obtain ⟨b0, b1, b2, b3, _⟩ := hQ.four
  go_wp2_with fail
  refine (Long_any ds 80 _ (h2.below hw)).mono ?_
  rintro e w3 ⟨rfl, hb3⟩
  rw [hlong2]
  replace hP := hP.below hb3
  replace hQ := hQ.below hb3
  replace hR := hR.below hb3
  replace hw := bel_call hw hb3
  clear hb3 b0 b1 b2 b3
  clear hlong hlong2
  obtain ⟨a0, a1, a2, a3, _⟩ := hP.four
  go_wp2_with fail
  refine (Doc23_any x t f cs _ (h.below hw) (by omega)).mono ?_
  rintro e w4 ⟨A4, c4, m4, rfl, hm4, hs4, hb4⟩
  replace hP := hP.below hb4
  replace hQ := hQ.below hb4
  replace hR := hR.below hb4
  replace hw := bel_call hw hb4
  clear hb4 a0 a1 a2 a3
  go_upto_region 6 with (fail)
  have hD := Blk.new w4 37 #[.int .i64 x, .int .i64 t, .int .i64 f, .slice A4 m4.length c4]
  have hbx := below_new w4 (.cells #[.int .i64 x, .int .i64 t, .int .i64 f, .slice A4 m4.length c4] 37)
  have hs5 : SlD _ A4 c4 m4 := Sl.below hs4 hbx
  replace hP := hP.below hbx
  replace hQ := hQ.below hbx
  replace hR := hR.below hbx
  replace hw := bel_call hw hbx
  clear hbx hs4
  generalize hWe : w4.alloc (.cells #[.int .i64 x, .int .i64 t, .int .i64 f, .slice A4 m4.length c4] 37) = w5 at *
  clear hWe
  generalize hge : w4.heap.size = gd at *
  clear hge
  obtain ⟨d0, d1, d2, d3, _⟩ := hD.four
  go_wp2_with fail
  refine (rPCheck_any x t f m4 _ hs5).mono ?_
  rintro e w6 ⟨rfl, hb6⟩
  rw [hm4.out]
  replace hP := hP.below hb6
  replace hQ := hQ.below hb6
  replace hR := hR.below hb6
  replace hD := hD.below hb6
  replace hs5 : SlD _ A4 c4 m4 := Sl.below hs5 hb6
  replace hw := bel_call hw hb6
  clear hb6 d0 d1 d2 d3
  obtain ⟨a0, a1, a2, a3, _⟩ := hP.four
  have hPP := fun W hh => PPut_any (E := E) (cap := cap) x t f cs W hh
  unfold PutsB at hPP
  rw [pput_two] at hPP
  have hPC := fun W hh => PCheck_any (E := E) (cap := cap) x t f cs W hh
  have HOK := Lib.hid (fun h => pput_ok (p := (x, t, f, cs.map ceOf)) h)
  have HBD := Lib.hid (show pchk (x, t, f, cs.map ceOf) ≠ 0 → (pput (x, t, f, cs.map ceOf)).1 = [] from fun h => by unfold pput; rw [if_pos h])
  obtain ⟨bad, hbad⟩ : ∃ n, pchk (x, t, f, cs.map ceOf) = n := ⟨_, rfl⟩
  have HBAD := Lib.hid hbad
  rw [hbad] at hPP hPC ⊢
  have HPP := Lib.hid hPP
  have HPC := Lib.hid hPC
  clear hPP hPC hbad
  go_wp2_with fail
  refine (HPP.out _ (h.below hw)).mono ?_
  rintro e w7 ⟨A7, c7, m7, rfl, hm7, ho7, hb7⟩
  replace hP := hP.below hb7
  replace hQ := hQ.below hb7
  replace hR := hR.below hb7
  replace hD := hD.below hb7
  replace hs5 : SlD _ A4 c4 m4 := Sl.below hs5 hb7
  have ho8 : SlB w7 A7 c7 m7 := ho7.sl
  replace hw := bel_call hw hb7
  clear hb7 a0 a1 a2 a3 HPP ho7
  go_upto_region 8 with (fail)
  have hst : Below w7.heap.size w7 w7.drew := (Below.refl _ _).drew
  obtain ⟨sb, hsb⟩ : ∃ b, psame (x, t, f, cs.map ceOf) (x2, t2, f2, ds.map ceOf) = b := ⟨_, rfl⟩
  have HSB := Lib.hid hsb
  clear hsb
  refine wp_region_held_drew (S := (fun W => Below w7.heap.size w7 W)) (by kernel_rfl) ?_ (fun hHeld => ?_)
  · exact hst
  refine gen0 (T := fun W => ((fun W => Below w7.heap.size w7 W)) W ∧ True) ?_ (fun wq1 hT => ?_)
  · exact ⟨by (first | exact hst | exact hHeld | exact bel_call hHeld hb9 | exact bel_call hHeld hb10 | exact bel_call hHeld hb11), trivial⟩
  (try clear f0 f1 f2 f3 f4 f5 f6 f7 f8 f9 f10 f11)
  obtain ⟨hHeld, -⟩ := hT
  refine wpAnyH_take (i := 0) (oi := ⟨some 35, _, _, _, _, _⟩) (v := ?_) rfl (by kernel_rfl) (by kernel_rfl) (by kernel_rfl) (fun _ _ _ h => h) (Or.inl ⟨by kernel_rfl, ?_⟩) (by assumption) ?_
  rotate_left
  · (intro wS hSw; (try dsimp only at hSw); obtain ⟨q0, q1', q2', q3, _⟩ := (hP.below hSw).four; obtain ⟨p0, p1', p2', p3', _⟩ := (hQ.below hSw).four; obtain ⟨z0, z1, z2, z3, _⟩ := (hD.below hSw).four; clear hSw; go_simp; (try with_reducible rfl))
  (try simp only [Act.put, List.setIfInBounds_toArray, List.set_cons_zero, List.set_cons_succ])
  refine wpAnyH_take (i := 3) (oi := ⟨some 38, _, _, _, _, _⟩) (v := ?_) rfl (by kernel_rfl) (by kernel_rfl) (by kernel_rfl) (fun _ _ _ h => h) (Or.inl ⟨by kernel_rfl, ?_⟩) (by assumption) ?_
  rotate_left
  · (intro wS hSw; (try dsimp only at hSw); obtain ⟨q0, q1', q2', q3, _⟩ := (hP.below hSw).four; obtain ⟨p0, p1', p2', p3', _⟩ := (hQ.below hSw).four; obtain ⟨z0, z1, z2, z3, _⟩ := (hD.below hSw).four; clear hSw; go_simp; (try with_reducible rfl))
  (try simp only [Act.put, List.setIfInBounds_toArray, List.set_cons_zero, List.set_cons_succ])
  refine wpAnyH_ready (rs := [1]) (by kernel_rfl) (by simp) ?_
  refine AllReadyH.cons (o := ⟨some 36, _, _, _, _, _⟩) rfl (fun K hK => ?_) AllReadyH.nil
  go_simp
  (refine (HPC.out _ (h.below (bel_call hw hHeld))).mono ?_; rintro e w9 ⟨rfl, hb9⟩)
  go_wp2_with fail
  refine hK.out _ _ ?_ (fun _ => ?_)
  · ((try dsimp only); (first | exact hst | exact hHeld | exact bel_call hHeld hb9 | exact bel_call hHeld hb10 | exact bel_call hHeld hb11))
  clear hK K
  (try simp only [Act.put, List.setIfInBounds_toArray, List.set_cons_zero, List.set_cons_succ])
  refine gen0 (T := fun W => ((fun W => Below w7.heap.size w7 W)) W ∧ True) ?_ (fun wq2 hT => ?_)
  · exact ⟨by (first | exact hst | exact hHeld | exact bel_call hHeld hb9 | exact bel_call hHeld hb10 | exact bel_call hHeld hb11), trivial⟩
  (try clear f0 f1 f2 f3 f4 f5 f6 f7 f8 f9 f10 f11)
  obtain ⟨hHeld, -⟩ := hT
  refine wpAnyH_ready (rs := [2]) (by kernel_rfl) (by simp) ?_
  refine AllReadyH.cons (o := ⟨some 37, _, _, _, _, _⟩) rfl (fun K hK => ?_) AllReadyH.nil
  go_simp
  (refine (num_any bad _).mono ?_; rintro e w11 ⟨rfl, rfl⟩)
  go_wp2_with fail
  refine hK.out _ _ ?_ (fun _ => ?_)
  · ((try dsimp only); (first | exact hst | exact hHeld | exact bel_call hHeld hb9 | exact bel_call hHeld hb10 | exact bel_call hHeld hb11))
  clear hK K
  (try simp only [Act.put, List.setIfInBounds_toArray, List.set_cons_zero, List.set_cons_succ])
  refine gen0 (T := fun W => ((fun W => Below w7.heap.size w7 W)) W ∧ True) ?_ (fun wq3 hT => ?_)
  · exact ⟨by (first | exact hst | exact hHeld | exact bel_call hHeld hb9 | exact bel_call hHeld hb10 | exact bel_call hHeld hb11), trivial⟩
  (try clear f0 f1 f2 f3 f4 f5 f6 f7 f8 f9 f10 f11)
  obtain ⟨hHeld, -⟩ := hT
  refine wpAnyH_take (i := 4) (oi := ⟨some 39, _, _, _, _, _⟩) (v := ?_) rfl (by kernel_rfl) (by kernel_rfl) (by kernel_rfl) (fun _ _ _ h => h) (Or.inl ⟨by kernel_rfl, ?_⟩) (by assumption) ?_
  rotate_left
  · (intro wS hSw; (try dsimp only at hSw); obtain ⟨q0, q1', q2', q3, _⟩ := (hP.below hSw).four; obtain ⟨p0, p1', p2', p3', _⟩ := (hQ.below hSw).four; obtain ⟨z0, z1, z2, z3, _⟩ := (hD.below hSw).four; clear hSw; go_simp; (try with_reducible rfl))
  (try simp only [Act.put, List.setIfInBounds_toArray, List.set_cons_zero, List.set_cons_succ])
  refine wpAnyH_take (i := 5) (oi := ⟨some 40, _, _, _, _, _⟩) (v := ?_) rfl (by kernel_rfl) (by kernel_rfl) (by kernel_rfl) (fun _ _ _ h => h) (Or.inl ⟨by kernel_rfl, ?_⟩) (by assumption) ?_
  rotate_left
  · (intro wS hSw; (try dsimp only at hSw); obtain ⟨q0, q1', q2', q3, _⟩ := (hP.below hSw).four; obtain ⟨p0, p1', p2', p3', _⟩ := (hQ.below hSw).four; obtain ⟨z0, z1, z2, z3, _⟩ := (hD.below hSw).four; clear hSw; go_simp; (try with_reducible rfl))
  (try simp only [Act.put, List.setIfInBounds_toArray, List.set_cons_zero, List.set_cons_succ])
  refine wpAnyH_take (i := 6) (oi := ⟨some 41, _, _, _, _, _⟩) (v := ?_) rfl (by kernel_rfl) (by kernel_rfl) (by kernel_rfl) (fun _ _ _ h => h) (Or.inl ⟨by kernel_rfl, ?_⟩) (by assumption) ?_
  rotate_left
  · (intro wS hSw; (try dsimp only at hSw); obtain ⟨q0, q1', q2', q3, _⟩ := (hP.below hSw).four; obtain ⟨p0, p1', p2', p3', _⟩ := (hQ.below hSw).four; obtain ⟨z0, z1, z2, z3, _⟩ := (hD.below hSw).four; clear hSw; go_simp; (try with_reducible rfl))
  (try simp only [Act.put, List.setIfInBounds_toArray, List.set_cons_zero, List.set_cons_succ])
  refine wpAnyH_take (i := 8) (oi := ⟨some 43, _, _, _, _, _⟩) (v := ?_) rfl (by kernel_rfl) (by kernel_rfl) (by kernel_rfl) (fun _ _ _ h => h) (Or.inl ⟨by kernel_rfl, ?_⟩) (by assumption) ?_
  rotate_left
  · (intro wS hSw; (try dsimp only at hSw); obtain ⟨q0, q1', q2', q3, _⟩ := (hP.below hSw).four; obtain ⟨p0, p1', p2', p3', _⟩ := (hQ.below hSw).four; obtain ⟨z0, z1, z2, z3, _⟩ := (hD.below hSw).four; clear hSw; go_simp; (try with_reducible rfl))
  (try simp only [Act.put, List.setIfInBounds_toArray, List.set_cons_zero, List.set_cons_succ])
  refine wpAnyH_ready (rs := [7]) (by kernel_rfl) (by simp) ?_
  refine AllReadyH.cons (o := ⟨some 42, _, _, _, _, _⟩) rfl (fun K hK => ?_) AllReadyH.nil
  go_simp
  (refine (num_any bad _).mono ?_; rintro e w11 ⟨rfl, rfl⟩)
  go_wp2_with fail
  refine hK.out _ _ ?_ (fun _ => ?_)
  · ((try dsimp only); (first | exact hst | exact hHeld | exact bel_call hHeld hb9 | exact bel_call hHeld hb10 | exact bel_call hHeld hb11))
  clear hK K
  (try simp only [Act.put, List.setIfInBounds_toArray, List.set_cons_zero, List.set_cons_succ])
  refine gen0 (T := fun W => ((fun W => Below w7.heap.size w7 W)) W ∧ True) ?_ (fun wq4 hT => ?_)
  · exact ⟨by (first | exact hst | exact hHeld | exact bel_call hHeld hb9 | exact bel_call hHeld hb10 | exact bel_call hHeld hb11), trivial⟩
  (try clear f0 f1 f2 f3 f4 f5 f6 f7 f8 f9 f10 f11)
  obtain ⟨hHeld, -⟩ := hT
  refine wpAnyH_take (i := 9) (oi := ⟨some 44, _, _, _, _, _⟩) (v := ?_) rfl (by kernel_rfl) (by kernel_rfl) (by kernel_rfl) (fun _ _ _ h => h) (Or.inl ⟨by kernel_rfl, ?_⟩) (by assumption) ?_
  rotate_left
  · (intro wS hSw; (try dsimp only at hSw); obtain ⟨q0, q1', q2', q3, _⟩ := (hP.below hSw).four; obtain ⟨p0, p1', p2', p3', _⟩ := (hQ.below hSw).four; obtain ⟨z0, z1, z2, z3, _⟩ := (hD.below hSw).four; clear hSw; go_simp; (try with_reducible rfl))
  (try simp only [Act.put, List.setIfInBounds_toArray, List.set_cons_zero, List.set_cons_succ])
  refine wpAnyH_take (i := 10) (oi := ⟨some 45, _, _, _, _, _⟩) (v := ?_) rfl (by kernel_rfl) (by kernel_rfl) (by kernel_rfl) (fun _ _ _ h => h) (Or.inl ⟨by kernel_rfl, ?_⟩) (by assumption) ?_
  rotate_left
  · (intro wS hSw; (try dsimp only at hSw); obtain ⟨q0, q1', q2', q3, _⟩ := (hP.below hSw).four; obtain ⟨p0, p1', p2', p3', _⟩ := (hQ.below hSw).four; obtain ⟨z0, z1, z2, z3, _⟩ := (hD.below hSw).four; clear hSw; go_simp; (try with_reducible rfl))
  (try simp only [Act.put, List.setIfInBounds_toArray, List.set_cons_zero, List.set_cons_succ])
  refine wpAnyH_take (i := 11) (oi := ⟨some 46, _, _, _, _, _⟩) (v := ?_) rfl (by kernel_rfl) (by kernel_rfl) (by kernel_rfl) (fun _ _ _ h => h) (Or.inl ⟨by kernel_rfl, ?_⟩) (by assumption) ?_
  rotate_left
  · (intro wS hSw; (try dsimp only at hSw); obtain ⟨q0, q1', q2', q3, _⟩ := (hP.below hSw).four; obtain ⟨p0, p1', p2', p3', _⟩ := (hQ.below hSw).four; obtain ⟨z0, z1, z2, z3, _⟩ := (hD.below hSw).four; clear hSw; go_simp; (try with_reducible rfl))
  (try simp only [Act.put, List.setIfInBounds_toArray, List.set_cons_zero, List.set_cons_succ])
  refine wpAnyH_take (i := 12) (oi := ⟨some 47, _, _, _, _, _⟩) (v := ?_) rfl (by kernel_rfl) (by kernel_rfl) (by kernel_rfl) (fun _ _ _ h => h) (Or.inl ⟨by kernel_rfl, ?_⟩) (by assumption) ?_
  rotate_left
  · (intro wS hSw; (try dsimp only at hSw); obtain ⟨q0, q1', q2', q3, _⟩ := (hP.below hSw).four; obtain ⟨p0, p1', p2', p3', _⟩ := (hQ.below hSw).four; obtain ⟨z0, z1, z2, z3, _⟩ := (hD.below hSw).four; clear hSw; go_simp; (try with_reducible rfl))
  (try simp only [Act.put, List.setIfInBounds_toArray, List.set_cons_zero, List.set_cons_succ])
  refine wpAnyH_take (i := 13) (oi := ⟨some 48, _, _, _, _, _⟩) (v := ?_) rfl (by kernel_rfl) (by kernel_rfl) (by kernel_rfl) (fun _ _ _ h => h) (Or.inl ⟨by kernel_rfl, ?_⟩) (by assumption) ?_
  rotate_left
  · (intro wS hSw; (try dsimp only at hSw); obtain ⟨q0, q1', q2', q3, _⟩ := (hP.below hSw).four; obtain ⟨p0, p1', p2', p3', _⟩ := (hQ.below hSw).four; obtain ⟨z0, z1, z2, z3, _⟩ := (hD.below hSw).four; clear hSw; go_simp; (try with_reducible rfl))
  (try simp only [Act.put, List.setIfInBounds_toArray, List.set_cons_zero, List.set_cons_succ])
  refine wpAnyH_take (i := 15) (oi := ⟨some 50, _, _, _, _, _⟩) (v := ?_) rfl (by kernel_rfl) (by kernel_rfl) (by kernel_rfl) (fun _ _ _ h => h) (Or.inl ⟨by kernel_rfl, ?_⟩) (by assumption) ?_
  rotate_left
  · (intro wS hSw; (try dsimp only at hSw); obtain ⟨q0, q1', q2', q3, _⟩ := (hP.below hSw).four; obtain ⟨p0, p1', p2', p3', _⟩ := (hQ.below hSw).four; obtain ⟨z0, z1, z2, z3, _⟩ := (hD.below hSw).four; clear hSw; go_simp; (try with_reducible rfl))
  (try simp only [Act.put, List.setIfInBounds_toArray, List.set_cons_zero, List.set_cons_succ])
  refine wpAnyH_take (i := 16) (oi := ⟨some 51, _, _, _, _, _⟩) (v := ?_) rfl (by kernel_rfl) (by kernel_rfl) (by kernel_rfl) (fun _ _ _ h => h) (Or.inl ⟨by kernel_rfl, ?_⟩) (by assumption) ?_
  rotate_left
  · (intro wS hSw; (try dsimp only at hSw); obtain ⟨q0, q1', q2', q3, _⟩ := (hP.below hSw).four; obtain ⟨p0, p1', p2', p3', _⟩ := (hQ.below hSw).four; obtain ⟨z0, z1, z2, z3, _⟩ := (hD.below hSw).four; clear hSw; go_simp; (try with_reducible rfl))
  (try simp only [Act.put, List.setIfInBounds_toArray, List.set_cons_zero, List.set_cons_succ])
  refine wpAnyH_ready (rs := [14]) (by kernel_rfl) (by simp) ?_
  refine AllReadyH.cons (o := ⟨some 49, _, _, _, _, _⟩) rfl (fun K hK => ?_) AllReadyH.nil
  go_simp
  (refine (PSame_any _ _ _ _ _ _ _ _ _ ?_ ?_).mono ?_; (exact h.below (bel_call hw hHeld)); (first | exact h2.below (bel_call hw hHeld) | exact h.below (bel_call hw hHeld)); rintro e w10 ⟨rfl, hb10⟩; (first | rw [HSB.out] | rw [psame_self]))
  go_wp2_with fail
  refine hK.out _ _ ?_ (fun _ => ?_)
  · ((try dsimp only); (first | exact hst | exact hHeld | exact bel_call hHeld hb9 | exact bel_call hHeld hb10 | exact bel_call hHeld hb11))
  clear hK K
  (try simp only [Act.put, List.setIfInBounds_toArray, List.set_cons_zero, List.set_cons_succ])
  refine gen0 (T := fun W => ((fun W => Below w7.heap.size w7 W)) W ∧ True) ?_ (fun wq5 hT => ?_)
  · exact ⟨by (first | exact hst | exact hHeld | exact bel_call hHeld hb9 | exact bel_call hHeld hb10 | exact bel_call hHeld hb11), trivial⟩
  (try clear f0 f1 f2 f3 f4 f5 f6 f7 f8 f9 f10 f11)
  obtain ⟨hHeld, -⟩ := hT
  refine wpAnyH_ready (rs := [17]) (by kernel_rfl) (by simp) ?_
  refine AllReadyH.cons (o := ⟨some 52, _, _, _, _, _⟩) rfl (fun K hK => ?_) AllReadyH.nil
  go_simp
  (refine (Doc23_any x2 t2 f2 ds _ (h2.below (bel_call hw hHeld)) (by omega)).mono ?_; rintro e w9 ⟨A9, c9, m9, rfl, hm9, hs9, hb9⟩)
  go_wp2_with fail
  refine hK.out _ _ ?_ (fun _ => ?_)
  · ((try dsimp only); (first | exact hst | exact hHeld | exact bel_call hHeld hb9 | exact bel_call hHeld hb10 | exact bel_call hHeld hb11))
  clear hK K
  (try simp only [Act.put, List.setIfInBounds_toArray, List.set_cons_zero, List.set_cons_succ])
  refine gen0 (T := fun W => ((fun W => Below w7.heap.size w7 W)) W ∧ SlD W A9 c9 m9 ∧ True) ?_ (fun wq6 hT => ?_)
  · exact ⟨by (first | exact hst | exact hHeld | exact bel_call hHeld hb9 | exact bel_call hHeld hb10 | exact bel_call hHeld hb11), by (first | assumption | exact hs9), trivial⟩
  (try clear f0 f1 f2 f3 f4 f5 f6 f7 f8 f9 f10 f11)
  obtain ⟨hHeld, f0, -⟩ := hT
  refine wpAnyH_ready (rs := [18]) (by kernel_rfl) (by simp) ?_
  refine AllReadyH.cons (o := ⟨some 53, _, _, _, _, _⟩) rfl (fun K hK => ?_) AllReadyH.nil
  go_simp
  (refine (rPSame_any x t f x2 t2 f2 m4 m9 _ (Sl.below hs5 hHeld) f0).mono ?_; rintro e w10 ⟨rfl, hb10⟩; rw [hm4.out, hm9.out, HSB.out])
  go_wp2_with fail
  refine hK.out _ _ ?_ (fun _ => ?_)
  · ((try dsimp only); (first | exact hst | exact hHeld | exact bel_call hHeld hb9 | exact bel_call hHeld hb10 | exact bel_call hHeld hb11))
  clear hK K
  (try simp only [Act.put, List.setIfInBounds_toArray, List.set_cons_zero, List.set_cons_succ])
  refine gen0 (T := fun W => ((fun W => Below w7.heap.size w7 W)) W ∧ True) ?_ (fun wq7 hT => ?_)
  · exact ⟨by (first | exact hst | exact hHeld | exact bel_call hHeld hb9 | exact bel_call hHeld hb10 | exact bel_call hHeld hb11), trivial⟩
  (try clear f0 f1 f2 f3 f4 f5 f6 f7 f8 f9 f10 f11)
  obtain ⟨hHeld, -⟩ := hT
  refine wpAnyH_take (i := 19) (oi := ⟨some 54, _, _, _, _, _⟩) (v := ?_) rfl (by kernel_rfl) (by kernel_rfl) (by kernel_rfl) (fun _ _ _ h => h) (Or.inl ⟨by kernel_rfl, ?_⟩) (by assumption) ?_
  rotate_left
  · (intro wS hSw; (try dsimp only at hSw); obtain ⟨q0, q1', q2', q3, _⟩ := (hP.below hSw).four; obtain ⟨p0, p1', p2', p3', _⟩ := (hQ.below hSw).four; obtain ⟨z0, z1, z2, z3, _⟩ := (hD.below hSw).four; clear hSw; go_simp; (try with_reducible rfl))
  (try simp only [Act.put, List.setIfInBounds_toArray, List.set_cons_zero, List.set_cons_succ])
  refine wpAnyH_take (i := 20) (oi := ⟨some 55, _, _, _, _, _⟩) (v := ?_) rfl (by kernel_rfl) (by kernel_rfl) (by kernel_rfl) (fun _ _ _ h => h) (Or.inl ⟨by kernel_rfl, ?_⟩) (by assumption) ?_
  rotate_left
  · (intro wS hSw; (try dsimp only at hSw); obtain ⟨q0, q1', q2', q3, _⟩ := (hP.below hSw).four; obtain ⟨p0, p1', p2', p3', _⟩ := (hQ.below hSw).four; obtain ⟨z0, z1, z2, z3, _⟩ := (hD.below hSw).four; clear hSw; go_simp; (try with_reducible rfl))
  (try simp only [Act.put, List.setIfInBounds_toArray, List.set_cons_zero, List.set_cons_succ])
  refine wpAnyH_take (i := 21) (oi := ⟨some 56, _, _, _, _, _⟩) (v := ?_) rfl (by kernel_rfl) (by kernel_rfl) (by kernel_rfl) (fun _ _ _ h => h) (Or.inl ⟨by kernel_rfl, ?_⟩) (by assumption) ?_
  rotate_left
  · (intro wS hSw; (try dsimp only at hSw); obtain ⟨q0, q1', q2', q3, _⟩ := (hP.below hSw).four; obtain ⟨p0, p1', p2', p3', _⟩ := (hQ.below hSw).four; obtain ⟨z0, z1, z2, z3, _⟩ := (hD.below hSw).four; clear hSw; go_simp; (try with_reducible rfl))
  (try simp only [Act.put, List.setIfInBounds_toArray, List.set_cons_zero, List.set_cons_succ])
  refine wpAnyH_take (i := 22) (oi := ⟨some 57, _, _, _, _, _⟩) (v := ?_) rfl (by kernel_rfl) (by kernel_rfl) (by kernel_rfl) (fun _ _ _ h => h) (Or.inl ⟨by kernel_rfl, ?_⟩) (by assumption) ?_
  rotate_left
  · (intro wS hSw; (try dsimp only at hSw); obtain ⟨q0, q1', q2', q3, _⟩ := (hP.below hSw).four; obtain ⟨p0, p1', p2', p3', _⟩ := (hQ.below hSw).four; obtain ⟨z0, z1, z2, z3, _⟩ := (hD.below hSw).four; clear hSw; go_simp; (try with_reducible rfl))
  (try simp only [Act.put, List.setIfInBounds_toArray, List.set_cons_zero, List.set_cons_succ])
  refine wpAnyH_take (i := 23) (oi := ⟨some 58, _, _, _, _, _⟩) (v := ?_) rfl (by kernel_rfl) (by kernel_rfl) (by kernel_rfl) (fun _ _ _ h => h) (Or.inl ⟨by kernel_rfl, ?_⟩) (by assumption) ?_
  rotate_left
  · (intro wS hSw; (try dsimp only at hSw); obtain ⟨q0, q1', q2', q3, _⟩ := (hP.below hSw).four; obtain ⟨p0, p1', p2', p3', _⟩ := (hQ.below hSw).four; obtain ⟨z0, z1, z2, z3, _⟩ := (hD.below hSw).four; clear hSw; go_simp; (try with_reducible rfl))
  (try simp only [Act.put, List.setIfInBounds_toArray, List.set_cons_zero, List.set_cons_succ])
  refine wpAnyH_ready (rs := [24]) (by kernel_rfl) (by simp) ?_
  refine AllReadyH.cons (o := ⟨some 59, _, _, _, _, _⟩) rfl (fun K hK => ?_) AllReadyH.nil
  go_simp
  (refine (PSame_any _ _ _ _ _ _ _ _ _ ?_ ?_).mono ?_; (exact h.below (bel_call hw hHeld)); (first | exact h2.below (bel_call hw hHeld) | exact h.below (bel_call hw hHeld)); rintro e w10 ⟨rfl, hb10⟩; (first | rw [HSB.out] | rw [psame_self]))
  go_wp2_with fail
  refine hK.out _ _ ?_ (fun _ => ?_)
  · ((try dsimp only); (first | exact hst | exact hHeld | exact bel_call hHeld hb9 | exact bel_call hHeld hb10 | exact bel_call hHeld hb11))
  clear hK K
  (try simp only [Act.put, List.setIfInBounds_toArray, List.set_cons_zero, List.set_cons_succ])
  refine gen0 (T := fun W => ((fun W => Below w7.heap.size w7 W)) W ∧ True) ?_ (fun wq8 hT => ?_)
  · exact ⟨by (first | exact hst | exact hHeld | exact bel_call hHeld hb9 | exact bel_call hHeld hb10 | exact bel_call hHeld hb11), trivial⟩
  (try clear f0 f1 f2 f3 f4 f5 f6 f7 f8 f9 f10 f11)
  obtain ⟨hHeld, -⟩ := hT
  refine wpAnyH_take (i := 25) (oi := ⟨some 60, _, _, _, _, _⟩) (v := ?_) rfl (by kernel_rfl) (by kernel_rfl) (by kernel_rfl) (fun _ _ _ h => h) (Or.inl ⟨by kernel_rfl, ?_⟩) (by assumption) ?_
  rotate_left
  · (intro wS hSw; (try dsimp only at hSw); obtain ⟨q0, q1', q2', q3, _⟩ := (hP.below hSw).four; obtain ⟨p0, p1', p2', p3', _⟩ := (hQ.below hSw).four; obtain ⟨z0, z1, z2, z3, _⟩ := (hD.below hSw).four; clear hSw; go_simp; (try with_reducible rfl))
  (try simp only [Act.put, List.setIfInBounds_toArray, List.set_cons_zero, List.set_cons_succ])
  refine wpAnyH_take (i := 26) (oi := ⟨some 61, _, _, _, _, _⟩) (v := ?_) rfl (by kernel_rfl) (by kernel_rfl) (by kernel_rfl) (fun _ _ _ h => h) (Or.inl ⟨by kernel_rfl, ?_⟩) (by assumption) ?_
  rotate_left
  · (intro wS hSw; (try dsimp only at hSw); obtain ⟨q0, q1', q2', q3, _⟩ := (hP.below hSw).four; obtain ⟨p0, p1', p2', p3', _⟩ := (hQ.below hSw).four; obtain ⟨z0, z1, z2, z3, _⟩ := (hD.below hSw).four; clear hSw; go_simp; (try with_reducible rfl))
  (try simp only [Act.put, List.setIfInBounds_toArray, List.set_cons_zero, List.set_cons_succ])
  refine wpAnyH_done (by kernel_rfl) ?_ _
  replace hP := hP.below hHeld
  replace hR := hR.below hHeld
  replace hD := hD.below hHeld
  replace hs5 : SlD _ A4 c4 m4 := Sl.below hs5 hHeld
  replace ho8 := Sl.below ho8 hHeld
  replace hw := bel_call hw hHeld
  clear hQ hst HSB HPC hHeld
  try clear hb9 hb10
  generalize hWe : wq5 = w9 at *
  clear hWe
  have hRQ := fun W => rQPut_any q1 q2 W
  have hQP := fun W => QPut_any q1 q2 W
  generalize qput (q1, q2) = qp at *
  obtain ⟨ql, qn⟩ := qp
  unfold RPutsQ at hRQ
  unfold PutsB at hQP
  dsimp only at hRQ hQP
  have HRQ := Lib.hid hRQ
  have HQP := Lib.hid hQP
  clear hRQ hQP
  obtain ⟨r0, r1, _, _⟩ := hR.two
  go_wp2_with fail
  refine (HQP.out _).mono ?_
  rintro e w10 ⟨A10, c10, m10, rfl, hm10, ho10, hb10⟩
  have hs10 : SlB w10 A10 c10 m10 := ho10.sl
  replace hP := hP.below hb10
  replace hR := hR.below hb10
  replace hD := hD.below hb10
  replace hs5 : SlD _ A4 c4 m4 := Sl.below hs5 hb10
  replace ho8 := Sl.below ho8 hb10
  replace hw := bel_call hw hb10
  clear hb10 r0 r1 HQP ho10
  obtain ⟨r0, r1, _, _⟩ := hR.two
  go_wp2_with fail
  refine (HRQ.out _).mono ?_
  rintro e w11 ⟨A11, c11, m11, rfl, hm11, hs11, hb11⟩
  replace hs10 := Sl.below hs10 hb11
  replace hP := hP.below hb11
  replace hD := hD.below hb11
  replace hs5 : SlD _ A4 c4 m4 := Sl.below hs5 hb11
  replace ho8 := Sl.below ho8 hb11
  replace hw := bel_call hw hb11
  clear hb11 r0 r1 HRQ hR
  have HEQ := Lib.hid (show (m10 == m11) = true from by rw [hm10.out, hm11.out]; simp)
  go_wp2_with fail
  refine (nBytes_any A10 A11 c10 c11 m10 m11 _ hs10 hs11).mono ?_
  rintro e w12 ⟨rfl, rfl⟩
  rw [HEQ.out]
  go_wp2_with fail
  refine (num_any qn _).mono ?_
  rintro e w12 ⟨rfl, rfl⟩
  clear hm10 hm11 HEQ hs10 hs11
  by_cases hb0 : bad = 0
  · have hbz : ((bad : Int) != 0) = false := by rw [hb0]; rfl
    have hpc : pchk (x, t, f, cs.map ceOf) = 0 := HBAD.out.trans hb0
    have hrp := rPPut_any (E := A4) (cap := c4) x t f m4 w11 hs5 (by rw [hm4.out]; exact hpc)
    have hml : m7.length ≤ 1000000 := by rw [hm7.out, HOK.out hpc]; exact Nat.le_trans (pput_len hpc) (by decide)
    have HM7 := Lib.hid (show m7 = frm (ptxt (x, t, f, cs.map ceOf)) from by rw [hm7.out, HOK.out hpc])
    have HK1 := Lib.hid (show pcKind m7 = 1 from by rw [HM7.out]; exact pcKind_one hpc)
    have HRP := Lib.hid hrp
    clear hb0 hpc hrp HBAD HOK HBD
    obtain ⟨d0, d1, d2, d3, _⟩ := hD.four
    go_wp2_with fail
    refine HRP.out.mono ?_
    rintro e w13 ⟨A13, c13, m13, rfl, hm13, ho13, hb13⟩
    replace ho8 := Sl.below ho8 hb13
    replace hw := bel_call hw hb13
    clear hb13 d0 d1 d2 d3
    have HEQ := Lib.hid (show (m7 == m13) = true from by rw [HM7.out, hm13.out, hm4.out]; simp)
    go_wp2_with fail
    refine (nBytes_any A7 A13 c7 c13 m7 m13 _ ho8 ho13.sl).mono ?_
    rintro e w14 ⟨rfl, rfl⟩
    rw [HEQ.out]
    have hpk := PKind_any A7 c7 m7 w13 ho8 hml
    rw [HK1.out] at hpk
    have HPK := Lib.hid hpk
    clear hpk
    go_wp2_with fail
    refine HPK.out.mono ?_
    rintro e w15 ⟨rfl, hb15⟩
    go_wp2_with fail
    go_ret
    exact ⟨rfl, bel_call hw hb15⟩
  · have hbz : ((bad : Int) != 0) = true := by simpa using hb0
    have hm0 : m7 = [] := by rw [hm7.out]; exact HBD.out (by rw [HBAD.out]; exact hb0)
    have hml : ((m7.length : Int) == 0) = true := by rw [hm0]; rfl
    clear hb0 hm0 HBAD HOK HBD
    go_wp2_with fail
    go_ret
    exact ⟨rfl, hw⟩
theorem pputs_all {E G : Option Addr} {cap cap2 : Nat} {x t f x2 t2 f2 q1 q2 : Int} {cs ds : List CeV} (w : World) (h : SlC w E cap cs) (h2 : SlC w G cap2 ds) :
    Calls Tryz.prog 4 #[pcv x t f E cs.length cap, pcv x2 t2 f2 G ds.length cap2, .agg #[.int .i64 q1, .int .i64 q2]] w fun e w' => e = .returned (.bool true) ∧ Below w.heap.size w w' := by
  cases hl : longb (cs.map ceOf) 80
  · cases hl2 : longb (ds.map ceOf) 80
    · exact pputs_walk w h h2 hl hl2
    · exact pputs_early2 w h h2 hl hl2
  · exact pputs_early1 w h hl
end Go.Proofs.YtgipfenjachpnaaGreat

namespace Go.Proofs.YtgipfenjachpnaaGreat
open Go.ChangeShapes Go.WideShapes Go.ChangeAt Go.RowKit Go.Deep

/-- a slice of structs of one-cell fields, as a struct's field -/
theorem open_structsF {H : Type} {enc : TypeId × Value → H} {P : Program} {w : World} {base : Nat} {held : Bool} {t e : TypeId} {v : Value} {fs : Array Field}
    {T : Type} (f : T → List Value) (Q : T → Prop) (hfl : ∀ x, (f x).length = fs.size)
    (ht : P.underlying t = some (.slice e)) (he : P.underlying e = some (.struct fs)) (hone : oneCellFields P fs = true) (hC : P.cellsOf e = fs.size)
    (hel : ∀ vs : List Value, vs.length = fs.size → (∀ (j : Nat) (fd : Field), fs[j]? = some fd → ∃ (u : Value) (n : Nat) (y : DataW H × List MemPlace), vs[j]? = some u ∧ DataW.trod enc P w base (fun _ => true) held n fd.type [u] = some y) → ∃ x : T, f x = vs ∧ Q x)
    {fuel : Nat} {yy : DataW H × List MemPlace} (hf : DataW.trod enc P w base (fun _ => true) held fuel t [v] = some yy) :
    ∃ (A : Option Addr) (c : Nat) (l : List T), v = .slice A l.length c ∧ Sl w fs.size A l.length c (l.flatMap f) ∧ ∀ x ∈ l, Q x := by
  rcases open_slice_fields ht he hone hC hf with ⟨hcs, _⟩ | ⟨a, n, c, m, D, Pl, hcs, _, hl, hm, hmm, _, hi⟩
  · simp at hcs
    subst hcs
    exact ⟨none, 0, [], rfl, by simpa using Sl.none_ w fs.size, fun x hx => by simp at hx⟩
  · simp at hcs
    subst hcs
    simp only [if_true] at hmm
    subst hmm
    have hx : ∀ i, i < n → ∃ x : T, Q x ∧ ∀ j u, (f x)[j]? = some u → w.cell? (a.add (i * fs.size + j)) = some u := by
      intro i hin
      obtain ⟨ys, nn, _, _, _, hfd⟩ := hi i (by omega)
      have hc : ∀ j, j < fs.size → ∃ u : Value, w.cell? (a.add (i * fs.size + j)) = some u ∧ ∃ y : DataW H × List MemPlace, DataW.trod enc P w base (fun _ => true) held nn (fs[j]!).type [u] = some y := by
        intro j hj
        obtain ⟨u, y, h1, _, h3⟩ := hfd j fs[j] (by simp [hj])
        exact ⟨u, h1, y, by simpa [hj] using h3⟩
      obtain ⟨vs, hvl, hvr⟩ := list_choice (fun j u => w.cell? (a.add (i * fs.size + j)) = some u ∧ ∃ y : DataW H × List MemPlace, DataW.trod enc P w base (fun _ => true) held nn (fs[j]!).type [u] = some y) fs.size hc
      obtain ⟨x, hxe, hxq⟩ := hel vs hvl fun j fd hj => by
        have hjl : j < fs.size := (Array.getElem?_eq_some_iff.1 hj).1
        obtain ⟨_, y, hy⟩ := hvr j (by omega)
        have hfe : fs[j]! = fd := by
          have := (Array.getElem?_eq_some_iff.1 hj).2
          simp [hjl, this]
        rw [hfe] at hy
        exact ⟨vs[j], nn, y, List.getElem?_eq_getElem (by omega), hy⟩
      refine ⟨x, hxq, fun j u hj => ?_⟩
      rw [hxe] at hj
      obtain ⟨hjl, hju⟩ := List.getElem?_eq_some_iff.1 hj
      rw [← hju]
      exact (hvr j hjl).1
    obtain ⟨l, hll, hlr⟩ := list_choice _ n hx
    refine ⟨some a, _, l, by rw [hll], ⟨flat_len hfl l, by omega, hm, (fun h => by cases h), fun j u hj => ⟨a, rfl, ?_⟩⟩, fun x hx => ?_⟩
    · rcases Nat.eq_zero_or_pos fs.size with h0 | h0
      · have := (List.getElem?_eq_some_iff.1 hj).1
        rw [flat_len hfl, h0] at this
        omega
      · have hjl := (List.getElem?_eq_some_iff.1 hj).1
        rw [flat_len hfl] at hjl
        have hk : j / fs.size < l.length := by rw [Nat.div_lt_iff_lt_mul h0]; exact hjl
        have hr : j % fs.size < fs.size := Nat.mod_lt _ h0
        have he := flat_get hfl l (j / fs.size) (j % fs.size) hk hr
        have hj2 : j / fs.size * fs.size + j % fs.size = j := by rw [Nat.mul_comm]; exact Nat.div_add_mod _ _
        rw [hj2, hj] at he
        have := (hlr _ hk).2 _ _ he.symm
        rwa [hj2] at this
    · obtain ⟨i, hi, rfl⟩ := List.getElem_of_mem hx
      exact (hlr i hi).1

section
variable {H : Type} {enc : TypeId × Value → H} {P : Program} {w : World} {base b0 : Nat} {held : Bool} {r : Reach} {t e b u : TypeId} {v : Value} {d : DataW H} {p : List MemPlace}
theorem open_seg {g0 g1 f0 f1 : Field} (hs : P.underlying t = some (.struct #[g0, g1])) (hg0 : P.underlying g0.type = some (.int .i64)) (hg1 : P.underlying g1.type = some (.slice b)) (hb : P.underlying b = some (.struct #[f0, f1])) (h0 : P.underlying f0.type = some (.int .i64)) (h1 : P.underlying f1.type = some (.slice e)) (he : P.underlying e = some (.int .u8))
    (hCe : P.cellsOf e = 1) (hone : oneCellFields P #[f0, f1] = true) (hC : P.cellsOf b = 2) (hone2 : oneCellFields P #[g0, g1] = true) (hC2 : P.cellsOf t = 2) (hv : Value.okWide P w r b0 t v) (h : DataW.Trod enc P w base (fun _ => true) held t v d p) :
    ∃ (k : Int) (A : Option Addr) (c : Nat) (l : List CeV), v = cv k A l.length c ∧ SlC w A c l := by
  obtain ⟨v0, v1, y0, y1, n, rfl, _, _, q0, q1⟩ := Go.Joins.open_agg2 hs hone2 hC2 hv h
  obtain ⟨k, rfl, hk⟩ := int_cell hg0 q0
  obtain ⟨A, c, l, rfl, hl, hq⟩ := open_structsF cf (fun x => I64 x.1 ∧ SlB w x.2.1 x.2.2.1 x.2.2.2) (fun _ => rfl) hg1 hb hone hC (by
    intro vs hl hf
    obtain ⟨u0, n0, y0, e0, t0⟩ := hf 0 f0 rfl
    obtain ⟨u1, n1, y1, e1, t1⟩ := hf 1 f1 rfl
    obtain ⟨k, rfl, hk⟩ := int_cell h0 t0
    obtain ⟨A, c, l, rfl, hb⟩ := bytes_cell h1 he hCe t1
    match vs, hl with
    | [x0, x1], _ =>
      simp at e0 e1
      exact ⟨(k, A, c, l), by simp [cf, e0, e1], hk, hb⟩) q1
  exact ⟨k, A, c, l, rfl, ⟨hl, fun x hx => (hq x hx).2⟩⟩
theorem open_segI {g0 g1 f0 f1 : Field} (hs : P.underlying t = some (.struct #[g0, g1])) (hg0 : P.underlying g0.type = some (.int .i64)) (hg1 : P.underlying g1.type = some (.slice b)) (hb : P.underlying b = some (.struct #[f0, f1])) (h0 : P.underlying f0.type = some (.int .i64)) (h1 : P.underlying f1.type = some (.slice e)) (he : P.underlying e = some (.int .u8))
    (hCe : P.cellsOf e = 1) (hone : oneCellFields P #[f0, f1] = true) (hC : P.cellsOf b = 2) (hone2 : oneCellFields P #[g0, g1] = true) (hC2 : P.cellsOf t = 2) (hv : Value.okWide P w r b0 t v) (h : DataW.Trod enc P w base (fun _ => true) held t v d p) :
    ∃ (k : Int) (A : Option Addr) (c : Nat) (l : List CeV), v = cv k A l.length c ∧ SlC w A c l ∧ I64 k := by
  obtain ⟨v0, v1, y0, y1, n, rfl, _, _, q0, q1⟩ := Go.Joins.open_agg2 hs hone2 hC2 hv h
  obtain ⟨k, rfl, hk⟩ := int_cell hg0 q0
  obtain ⟨A, c, l, rfl, hl, hq⟩ := open_structsF cf (fun x => I64 x.1 ∧ SlB w x.2.1 x.2.2.1 x.2.2.2) (fun _ => rfl) hg1 hb hone hC (by
    intro vs hl hf
    obtain ⟨u0, n0, y0, e0, t0⟩ := hf 0 f0 rfl
    obtain ⟨u1, n1, y1, e1, t1⟩ := hf 1 f1 rfl
    obtain ⟨k, rfl, hk⟩ := int_cell h0 t0
    obtain ⟨A, c, l, rfl, hb⟩ := bytes_cell h1 he hCe t1
    match vs, hl with
    | [x0, x1], _ =>
      simp at e0 e1
      exact ⟨(k, A, c, l), by simp [cf, e0, e1], hk, hb⟩) q1
  exact ⟨k, A, c, l, rfl, ⟨hl, fun x hx => (hq x hx).2⟩, hk⟩
theorem open_arr2 (hs : P.underlying t = some (.array 2 e)) (he : P.underlying e = some (.int .i64)) (hC : P.cellsOf t = 2) (hE : P.cellsOf e = 1) (hv : Value.okWide P w r b0 t v) (h : DataW.Trod enc P w base (fun _ => true) held t v d p) :
    ∃ a b : Int, v = .agg #[.int .i64 a, .int .i64 b] := by
  simp only [Value.okWide, hs] at hv
  obtain ⟨cs, rfl, hsz, _⟩ := hv
  obtain ⟨c0, c1, rfl⟩ : ∃ c0 c1, cs = #[c0, c1] := by
    have h2 := hsz.trans hC
    match cs, h2 with
    | ⟨[x, y]⟩, _ => exact ⟨x, y, rfl⟩
  obtain ⟨fuel, hf⟩ := h
  obtain ⟨xs, m, _, _, _, hlen, hg⟩ := DataW.trod_array hs hf
  have k0 := hg 0 (by omega)
  have k1 := hg 1 (by omega)
  rw [hE, List.getElem?_eq_getElem (by omega)] at k0 k1
  simp [Value.cells] at k0 k1
  obtain ⟨a, rfl, ha⟩ := int_cell he k0
  obtain ⟨b, rfl, hb⟩ := int_cell he k1
  exact ⟨a, b, rfl⟩
end
end Go.Proofs.YtgipfenjachpnaaGreat

namespace Go.Proofs.YtgipfenjachpnaaGreat
open Go.ChangeShapes Go.WideShapes Go.ChangeAt Go.RowKit Go.Deep

section
variable {H : Type} {enc : TypeId × Value → H} {P : Program} {w : World} {base b0 : Nat} {held : Bool} {r : Reach} {t e b u : TypeId} {v : Value} {d : DataW H} {p : List MemPlace}
theorem open_pc {g0 g1 g2 s0 s1 f0 f1 : Field} (hs : P.underlying t = some (.struct #[g0, g1, g2])) (hg0 : P.underlying g0.type = some (.int .i64)) (hg1 : P.underlying g1.type = some (.int .i64)) (hg2 : P.underlying g2.type = some (.struct #[s0, s1]))
    (hs0 : P.underlying s0.type = some (.int .i64)) (hs1 : P.underlying s1.type = some (.slice b)) (hb : P.underlying b = some (.struct #[f0, f1])) (h0 : P.underlying f0.type = some (.int .i64)) (h1 : P.underlying f1.type = some (.slice e)) (he : P.underlying e = some (.int .u8))
    (hCe : P.cellsOf e = 1) (hone : oneCellFields P #[f0, f1] = true) (hC : P.cellsOf b = 2) (hone2 : oneCellFields P #[s0, s1] = true) (hC2 : P.cellsOf g2.type = 2) (hC4 : P.cellsOf t = 4) (o0 : g0.offset = 0) (o1 : g1.offset = 1) (o2 : g2.offset = 2) (k0 : P.cellsOf g0.type = 1) (k1 : P.cellsOf g1.type = 1)
    (hv : Value.okWide P w r b0 t v) (h : DataW.Trod enc P w base (fun _ => true) held t v d p) :
    ∃ (x y f : Int) (A : Option Addr) (c : Nat) (l : List CeV), v = pcv x y f A l.length c ∧ SlC w A c l := by
  obtain ⟨cs, rfl, hsz⟩ := okWide_struct hs hv
  obtain ⟨c0, c1, c2, c3, rfl⟩ : ∃ c0 c1 c2 c3, cs = #[c0, c1, c2, c3] := by
    have h2 := hsz.trans hC4
    match cs, h2 with
    | ⟨[x, y, z, u]⟩, _ => exact ⟨x, y, z, u, rfl⟩
  obtain ⟨fuel, hf⟩ := h
  obtain ⟨y0, y1, y2, n, hx, _, q0, q1, q2⟩ := trod_struct3 hs hf
  rw [o0, k0] at q0
  rw [o1, k1] at q1
  rw [o2, hC2] at q2
  simp [Value.cells] at q0 q1 q2
  obtain ⟨x, rfl, _⟩ := int_cell hg0 q0
  obtain ⟨y, rfl, _⟩ := int_cell hg1 q1
  obtain ⟨z0, z1, m, hz, _, r0, r1⟩ := trod_struct2 hg2 q2
  obtain ⟨p0, j0⟩ := hone_of hone2 0 s0 rfl
  obtain ⟨p1, j1⟩ := hone_of hone2 1 s1 rfl
  rw [p0, j0] at r0
  rw [p1, j1] at r1
  simp at r0 r1
  obtain ⟨k, rfl, _⟩ := int_cell hs0 r0
  obtain ⟨A, c, l, rfl, hl, hq⟩ := open_structsF cf (fun x => I64 x.1 ∧ SlB w x.2.1 x.2.2.1 x.2.2.2) (fun _ => rfl) hs1 hb hone hC (by
    intro vs hl hf
    obtain ⟨u0, n0, y0, e0, t0⟩ := hf 0 f0 rfl
    obtain ⟨u1, n1, y1, e1, t1⟩ := hf 1 f1 rfl
    obtain ⟨k, rfl, hk⟩ := int_cell h0 t0
    obtain ⟨A, c, l, rfl, hb⟩ := bytes_cell h1 he hCe t1
    match vs, hl with
    | [x0, x1], _ =>
      simp at e0 e1
      exact ⟨(k, A, c, l), by simp [cf, e0, e1], hk, hb⟩) r1
  exact ⟨x, y, k, A, c, l, rfl, ⟨hl, fun x hx => (hq x hx).2⟩⟩
theorem open_ints2 {f0 f1 : Field} (hs : P.underlying t = some (.struct #[f0, f1])) (h0 : P.underlying f0.type = some (.int .i64)) (h1 : P.underlying f1.type = some (.int .i64)) (hone : oneCellFields P #[f0, f1] = true) (hC : P.cellsOf t = 2)
    (hv : Value.okWide P w r b0 t v) (h : DataW.Trod enc P w base (fun _ => true) held t v d p) :
    ∃ a b : Int, v = .agg #[.int .i64 a, .int .i64 b] := by
  obtain ⟨v0, v1, y0, y1, n, rfl, _, _, q0, q1⟩ := Go.Joins.open_agg2 hs hone hC hv h
  obtain ⟨a, rfl, _⟩ := int_cell h0 q0
  obtain ⟨b, rfl, _⟩ := int_cell h1 q1
  exact ⟨a, b, rfl⟩
end
end Go.Proofs.YtgipfenjachpnaaGreat
