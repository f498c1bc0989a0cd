/- WHAT IT HOLDS: the law ManifestTakes, walked. | WHAT IT HOLDS: arguments that are segments, arrays, opened to the words of Kit. | WHAT IT HOLDS: arguments that are parts, manifests, opened to the words of ManK. -/
import Derived.Test.YtgfigkenpmmdeaaManifestTakesG19
import Derived.Test.YtgfigkenpmmdeaaManifestTakesG07
import Derived.Test.YtgfigkenpmmdeaaManifestTakesG04
import Derived.Test.YtgfigkenpmmdeaaManifestTakesG05
namespace Go.Proofs.Ytgfigkenpmmdeaa
open Go.RowKit
attribute [local go_sem ↓] Go.wp_at_zero Go.wp_at_succ

theorem mfEnd_len (x : Mf × (List UInt8 × Nat)) : (mfEnd x).1.2.2.2.2.2.length ≤ 1024 := by
  rcases Decidable.em (rEnd x.2 = 0) with h | h
  · rcases Decidable.em (mchk x.1 = 0) with h1 | h1
    · rw [mfEnd_3 h h1]
      obtain ⟨_, _, _, _, _, _, h7, _⟩ := mchk_ok h1
      exact h7
    · rw [mfEnd_2 h h1]; exact Nat.zero_le _
  · rw [mfEnd_1 h]; exact Nat.zero_le _
theorem mfTake_len (b : List UInt8) : (mfTake b).1.2.2.2.2.2.length ≤ 1024 := by
  unfold mfTake
  split
  · exact Nat.zero_le _
  · exact mfEnd_len _
set_option maxRecDepth 100000 in
set_option maxHeartbeats 1000000 in
theorem mtakes_all {A E G : Option Addr} {c cap cap2 : Nat} {b : List UInt8} {n f t r n2 f2 t2 r2 : Int} {d d2 : Dg} {ps qs : List Pt5} (w : World) (h : SlB w A c b) (hp : SlP w E cap ps) (hpI : PtsI ps) (hq : SlP w G cap2 qs) (hqI : PtsI qs) :
    Calls Try.prog 3 #[.slice A b.length c, .agg (mfa n f t r d E ps.length cap), .agg (mfa n2 f2 t2 r2 d2 G qs.length cap2)] w fun e w' => e = .returned (.bool true) ∧ Below w.heap.size w w' := by
  have hM := ((Mm.start w).alloc (mfa n f t r d E ps.length cap) 27).alloc (mfa n2 f2 t2 r2 d2 G qs.length cap2) 27
  rw [show (w.alloc (.cells (mfa n f t r d E ps.length cap) 27)).heap.size = w.heap.size + 1 from by simp] at hM
  have hm1 := h.len_le
  have hm2 := hp.len_le
  have hm3 := hq.len_le
  unfold maxLen at hm1 hm2 hm3
  go_enter Try.func3, Try.ntmps3
  go_upto_region 1 with (fail)
  refine gen1 (T := fun W => Mm w W [(w.heap.size + 1, 27, mfa n2 f2 t2 r2 d2 G qs.length cap2), (w.heap.size, 27, mfa n f t r d E ps.length cap)] []) hM (fun w1 hM => ?_)
  rcases Nat.lt_or_ge 4000 b.length with hl | hl
  · have hlI : (4000 : Int) < (b.length : Int) := by omega
    go_wp2_with fail
    refine (alive15_any _).mono ?_
    rintro e w1 ⟨rfl, hb1⟩
    replace hM := hM.call hb1
    clear hb1
    obtain ⟨a0, a1, a2, a3, a4⟩ := Blm.five hM.b1
    obtain ⟨c0, c1, c2, c3, c4⟩ := Blm.five hM.b0
    go_wp2_with fail
    go_ret
    exact ⟨rfl, hM.bel⟩
  have hlI : (b.length : Int) ≤ 4000 := by omega
  rcases Nat.lt_or_ge 60 ps.length with hl2 | hl2
  · have hlI2 : (60 : Int) < (ps.length : Int) := by omega
    go_wp2_with fail
    refine (alive15_any _).mono ?_
    rintro e w1 ⟨rfl, hb1⟩
    replace hM := hM.call hb1
    clear hb1
    obtain ⟨a0, a1, a2, a3, a4⟩ := Blm.five hM.b1
    obtain ⟨c0, c1, c2, c3, c4⟩ := Blm.five hM.b0
    go_wp2_with fail
    go_ret
    exact ⟨rfl, hM.bel⟩
  have hlI2 : (ps.length : Int) ≤ 60 := by omega
  rcases Nat.lt_or_ge 60 qs.length with hl3 | hl3
  · have hlI3 : (60 : Int) < (qs.length : Int) := by omega
    go_wp2_with fail
    refine (alive15_any _).mono ?_
    rintro e w1 ⟨rfl, hb1⟩
    replace hM := hM.call hb1
    clear hb1
    obtain ⟨a0, a1, a2, a3, a4⟩ := Blm.five hM.b1
    obtain ⟨c0, c1, c2, c3, c4⟩ := Blm.five hM.b0
    go_wp2_with fail
    go_ret
    exact ⟨rfl, hM.bel⟩
  have hlI3 : (qs.length : Int) ≤ 60 := by omega
  go_wp2_with fail
  refine (alive15_any _).mono ?_
  rintro e w1 ⟨rfl, hb1⟩
  replace hM := hM.call hb1
  clear hb1
  obtain ⟨a0, a1, a2, a3, a4⟩ := Blm.five hM.b1
  obtain ⟨c0, c1, c2, c3, c4⟩ := Blm.five hM.b0
  go_wp2_with (at_builtin; go_must (refine wpl_fresh 22 5 Try.underlying22 u8_info rfl _ _ rfl rfl A c b rfl (h.below hM.bel) (by omega) ?_; intro A2 cy2 m2 w2 hm2 ho2 hb2))
  obtain rfl : m2 = b := hm2.out
  replace hM := hM.call hb2
  have hT := fun W (hh : SlB W A2 cy2 m2) => MTake_any A2 cy2 m2 W hh (by omega)
  have hR := fun W (hh : SlB W A c m2) => rMTake_any A c m2 W hh (by omega)
  have hTl := mfTake_len m2
  generalize mfTake m2 = x at *
  obtain ⟨⟨nu, fx, tx, rx, dx, xs⟩, bad⟩ := x
  dsimp only at hTl
  have HT := Lib.hid hT
  have HR := Lib.hid hR
  have HL := Lib.hid hTl
  have ho2' := ho2.sl
  clear hT hR hTl hb2 hm2 ho2 a0 a1 a2 a3 a4 c0 c1 c2 c3 c4
  refine (HT.out _ ho2').mono ?_
  rintro e w3 ⟨E3, cE3, m3, rfl, hm3', hO3, hb3⟩
  dsimp only at hm3'
  obtain rfl : m3 = xs := hm3'.out
  replace hM := hM.call hb3
  have ho3 := Sl.below ho2' hb3
  have hO3' : SlP w3 E3 cE3 m3 := Own.sl hO3
  clear hb3 hm3' hO3 ho2'
  have hmz := Lib.hid (mfa_size nu fx tx rx dx E3 m3.length cE3)
  have hmb := Lib.hid (mfa_all nu fx tx rx dx E3 m3.length cE3)
  go_upto_region 7 with (refine wpl_storeN rfl 27 _ _ rfl _ (mfa nu fx tx rx dx E3 m3.length cE3) 27 rfl rfl (by rw [hmz.out]; kernel_rfl) (by rw [hmz.out]; rfl) hmb.out ?_)
  have hMx := hM.alloc (mfa nu fx tx rx dx E3 m3.length cE3) 27
  have hOx := SlP.below hO3' (below_new w3 (.cells (mfa nu fx tx rx dx E3 m3.length cE3) 27))
  have hox := Sl.below ho3 (below_new w3 (.cells (mfa nu fx tx rx dx E3 m3.length cE3) 27))
  generalize w3.heap.size = g8 at *
  refine gen1 (T := fun W => (Mm w W [(g8, 27, mfa nu fx tx rx dx E3 m3.length cE3), (w.heap.size + 1, 27, mfa n2 f2 t2 r2 d2 G qs.length cap2), (w.heap.size, 27, mfa n f t r d E ps.length cap)] [] ∧ SlP W E3 cE3 m3) ∧ SlB W A2 cy2 m2) ⟨⟨hMx, hOx⟩, hox⟩ (fun w4 hT => ?_)
  clear hMx hOx hox hM hO3' ho3
  obtain ⟨⟨hM, hO⟩, ho⟩ := hT
  go_wp2_with fail
  refine (HR.out _ (h.below hM.bel)).mono ?_
  rintro e w5 ⟨E5, cE5, m5, rfl, hm5, hO5, hb5⟩
  dsimp only at hm5
  obtain rfl : m5 = m3 := hm5.out
  replace hM := hM.call hb5
  replace hO := SlP.below hO hb5
  replace ho := Sl.below ho hb5
  have hO5' : SlP w5 E5 cE5 m5 := Own.sl hO5
  clear hb5 hm5 hO5
  have hmz5 := Lib.hid (mfa_size nu fx tx rx dx E5 m5.length cE5)
  have hmb5 := Lib.hid (mfa_all nu fx tx rx dx E5 m5.length cE5)
  go_upto_region 8 with (refine wpl_storeN rfl 36 _ _ rfl _ (mfa nu fx tx rx dx E5 m5.length cE5) 36 rfl rfl (by rw [hmz5.out]; kernel_rfl) (by rw [hmz5.out]; rfl) hmb5.out ?_)
  have hMx := hM.alloc (mfa nu fx tx rx dx E5 m5.length cE5) 36
  have hOx := SlP.below hO (below_new w5 (.cells (mfa nu fx tx rx dx E5 m5.length cE5) 36))
  have hOy := SlP.below hO5' (below_new w5 (.cells (mfa nu fx tx rx dx E5 m5.length cE5) 36))
  have hox := Sl.below ho (below_new w5 (.cells (mfa nu fx tx rx dx E5 m5.length cE5) 36))
  generalize w5.heap.size = g10 at *
  refine gen1 (T := fun W => ((Mm w W [(g10, 36, mfa nu fx tx rx dx E5 m5.length cE5), (g8, 27, mfa nu fx tx rx dx E3 m5.length cE3), (w.heap.size + 1, 27, mfa n2 f2 t2 r2 d2 G qs.length cap2), (w.heap.size, 27, mfa n f t r d E ps.length cap)] [] ∧ SlP W E3 cE3 m5) ∧ SlP W E5 cE5 m5) ∧ SlB W A2 cy2 m2) ⟨⟨⟨hMx, hOx⟩, hOy⟩, hox⟩ (fun w6 hT => ?_)
  clear hMx hOx hOy hox hM hO hO5' ho
  obtain ⟨⟨⟨hM, hO⟩, hO5⟩, ho⟩ := hT
  have hst : Mm w w6.drew [(g10, 36, mfa nu fx tx rx dx E5 m5.length cE5), (g8, 27, mfa nu fx tx rx dx E3 m5.length cE3), (w.heap.size + 1, 27, mfa n2 f2 t2 r2 d2 G qs.length cap2), (w.heap.size, 27, mfa n f t r d E ps.length cap)] [] ∧ Below w6.heap.size w6 w6.drew := ⟨hM.drew, (Below.refl _ _).drew⟩
  have hmzp := Lib.hid (mfa_size n f t r d E ps.length cap)
  have hmzq := Lib.hid (mfa_size n2 f2 t2 r2 d2 G qs.length cap2)
  have hqq := Lib.hid (show (m2 == m2) = true from by simp)
  clear hM
  refine wp_region_held_drew (S := (fun W => Mm w W [(g10, 36, mfa nu fx tx rx dx E5 m5.length cE5), (g8, 27, mfa nu fx tx rx dx E3 m5.length cE3), (w.heap.size + 1, 27, mfa n2 f2 t2 r2 d2 G qs.length cap2), (w.heap.size, 27, mfa n f t r d E ps.length cap)] [] ∧ Below w6.heap.size w6 W)) (by kernel_rfl) ?_ (fun hHeld => ?_)
  · exact hst
  refine gen0 (T := fun W => ((fun W => Mm w W [(g10, 36, mfa nu fx tx rx dx E5 m5.length cE5), (g8, 27, mfa nu fx tx rx dx E3 m5.length cE3), (w.heap.size + 1, 27, mfa n2 f2 t2 r2 d2 G qs.length cap2), (w.heap.size, 27, mfa n f t r d E ps.length cap)] [] ∧ Below w6.heap.size w6 W)) W ∧ True) ?_ (fun wq1 hT => ?_)
  · exact ⟨by (first | with_reducible exact hst | with_reducible exact hHeld | with_reducible exact ⟨hHeld.1.call hb9, bel_call hHeld.2 hb9⟩), trivial⟩
  (try clear f0 f1 f2 f3 f4 f5 f6 f7 f8 f9 f10 f11)
  obtain ⟨hHeld, -⟩ := hT
  refine wpAnyH_take (i := 0) (oi := ⟨some 42, _, _, _, _, _⟩) (v := ?_) rfl (by kernel_rfl) (by kernel_rfl) (by kernel_rfl) (fun _ _ _ h => h) (Or.inl ⟨by kernel_rfl, ?_⟩) (by assumption) ?_
  rotate_left
  · (intro wS hSw; (try dsimp only at hSw); (refine yld_load 27 (.tmp 8) ?_ ⟨g8, 0, none⟩ (mfa nu fx tx rx dx E3 m5.length cE3) ?_ hSw.1.b1.cells _ Try.underlying27 rfl (by rw [hmz.out]; kernel_rfl) <;> rfl))
  (try simp only [Act.put, List.setIfInBounds_toArray, List.set_cons_zero, List.set_cons_succ])
  refine wpAnyH_take (i := 2) (oi := ⟨some 44, _, _, _, _, _⟩) (v := ?_) rfl (by kernel_rfl) (by kernel_rfl) (by kernel_rfl) (fun _ _ _ h => h) (Or.inl ⟨by kernel_rfl, ?_⟩) (by assumption) ?_
  rotate_left
  · (intro wS hSw; (try dsimp only at hSw); (refine yld_load 36 (.tmp 10) ?_ ⟨g10, 0, none⟩ (mfa nu fx tx rx dx E5 m5.length cE5) ?_ hSw.1.b0.cells _ Try.underlying36 rfl (by rw [hmz5.out]; kernel_rfl) <;> rfl))
  (try simp only [Act.put, List.setIfInBounds_toArray, List.set_cons_zero, List.set_cons_succ])
  refine wpAnyH_ready (rs := [1]) (by kernel_rfl) (by simp) ?_
  refine AllReadyH.cons (o := ⟨some 43, _, _, _, _, _⟩) rfl (fun K hK => ?_) AllReadyH.nil
  go_simp
  (first | ((with_reducible refine (Doc15_any nu fx tx rx dx m5 _ (SlP.below hO hHeld.2) (by have := HL.out; omega)).mono ?_); rintro e w9 ⟨A9, c9, m9, rfl, hm9, ho9, hb9⟩) | ((with_reducible refine (Doc15_any n f t r d ps _ (hp.below hHeld.1.bel) (by omega)).mono ?_); rintro e w9 ⟨A20, c20, m20, rfl, hm20, ho9, hb9⟩) | ((with_reducible refine (Doc15_any n2 f2 t2 r2 d2 qs _ (hq.below hHeld.1.bel) (by omega)).mono ?_); rintro e w9 ⟨A22, c22, m22, rfl, hm22, ho9, hb9⟩))
  go_wp2_with fail
  refine hK.out _ _ ?_ (fun _ => ?_)
  · ((try dsimp only); (first | with_reducible exact hst | with_reducible exact hHeld | with_reducible exact ⟨hHeld.1.call hb9, bel_call hHeld.2 hb9⟩))
  clear hK K
  (try simp only [Act.put, List.setIfInBounds_toArray, List.set_cons_zero, List.set_cons_succ])
  refine gen0 (T := fun W => ((fun W => Mm w W [(g10, 36, mfa nu fx tx rx dx E5 m5.length cE5), (g8, 27, mfa nu fx tx rx dx E3 m5.length cE3), (w.heap.size + 1, 27, mfa n2 f2 t2 r2 d2 G qs.length cap2), (w.heap.size, 27, mfa n f t r d E ps.length cap)] [] ∧ Below w6.heap.size w6 W)) W ∧ SlP W A9 c9 m9 ∧ True) ?_ (fun wq2 hT => ?_)
  · exact ⟨by (first | with_reducible exact hst | with_reducible exact hHeld | with_reducible exact ⟨hHeld.1.call hb9, bel_call hHeld.2 hb9⟩), by (first | with_reducible assumption | with_reducible exact SlP.below (by with_reducible assumption) hb9 | exact Own.sl ho9), trivial⟩
  (try clear f0 f1 f2 f3 f4 f5 f6 f7 f8 f9 f10 f11)
  obtain ⟨hHeld, f0, -⟩ := hT
  refine wpAnyH_ready (rs := [3]) (by kernel_rfl) (by simp) ?_
  refine AllReadyH.cons (o := ⟨some 45, _, _, _, _, _⟩) rfl (fun K hK => ?_) AllReadyH.nil
  go_simp
  (first | ((with_reducible refine (rMSame_any nu fx tx rx nu fx tx rx dx dx m9 m5 _ (by with_reducible assumption) (SlP.below hO5 hHeld.2)).mono ?_); rintro e w10 ⟨rfl, hb9⟩; rw [eq_mf (by rw [hm9.out])]) | ((with_reducible refine (rMSame_any n f t r n2 f2 t2 r2 d d2 m20 m22 _ (by with_reducible assumption) (by with_reducible assumption)).mono ?_); rintro e w10 ⟨rfl, hb9⟩; rw [hm20.out, hm22.out]))
  go_wp2_with fail
  refine hK.out _ _ ?_ (fun _ => ?_)
  · ((try dsimp only); (first | with_reducible exact hst | with_reducible exact hHeld | with_reducible exact ⟨hHeld.1.call hb9, bel_call hHeld.2 hb9⟩))
  clear hK K
  (try simp only [Act.put, List.setIfInBounds_toArray, List.set_cons_zero, List.set_cons_succ])
  refine gen0 (T := fun W => ((fun W => Mm w W [(g10, 36, mfa nu fx tx rx dx E5 m5.length cE5), (g8, 27, mfa nu fx tx rx dx E3 m5.length cE3), (w.heap.size + 1, 27, mfa n2 f2 t2 r2 d2 G qs.length cap2), (w.heap.size, 27, mfa n f t r d E ps.length cap)] [] ∧ Below w6.heap.size w6 W)) W ∧ True) ?_ (fun wq3 hT => ?_)
  · exact ⟨by (first | with_reducible exact hst | with_reducible exact hHeld | with_reducible exact ⟨hHeld.1.call hb9, bel_call hHeld.2 hb9⟩), trivial⟩
  (try clear f0 f1 f2 f3 f4 f5 f6 f7 f8 f9 f10 f11)
  obtain ⟨hHeld, -⟩ := hT
  refine wpAnyH_take (i := 4) (oi := ⟨some 46, _, _, _, _, _⟩) (v := ?_) rfl (by kernel_rfl) (by kernel_rfl) (by kernel_rfl) (fun _ _ _ h => h) (Or.inl ⟨by kernel_rfl, ?_⟩) (by assumption) ?_
  rotate_left
  · (intro wS hSw; (try dsimp only at hSw); clear hSw; go_simp; (try with_reducible rfl))
  (try simp only [Act.put, List.setIfInBounds_toArray, List.set_cons_zero, List.set_cons_succ])
  refine wpAnyH_take (i := 5) (oi := ⟨some 47, _, _, _, _, _⟩) (v := ?_) rfl (by kernel_rfl) (by kernel_rfl) (by kernel_rfl) (fun _ _ _ h => h) (Or.inl ⟨by kernel_rfl, ?_⟩) (by assumption) ?_
  rotate_left
  · (intro wS hSw; (try dsimp only at hSw); clear hSw; go_simp; (try with_reducible rfl))
  (try simp only [Act.put, List.setIfInBounds_toArray, List.set_cons_zero, List.set_cons_succ])
  refine wpAnyH_take (i := 7) (oi := ⟨some 49, _, _, _, _, _⟩) (v := ?_) rfl (by kernel_rfl) (by kernel_rfl) (by kernel_rfl) (fun _ _ _ h => h) (Or.inl ⟨by kernel_rfl, ?_⟩) (by assumption) ?_
  rotate_left
  · (intro wS hSw; (try dsimp only at hSw); clear hSw; go_simp; (try with_reducible rfl))
  (try simp only [Act.put, List.setIfInBounds_toArray, List.set_cons_zero, List.set_cons_succ])
  refine wpAnyH_ready (rs := [6]) (by kernel_rfl) (by simp) ?_
  refine AllReadyH.cons (o := ⟨some 48, _, _, _, _, _⟩) rfl (fun K hK => ?_) AllReadyH.nil
  go_simp
  (refine (num_any bad _).mono ?_; rintro e w11 ⟨rfl, rfl⟩)
  go_wp2_with fail
  refine hK.out _ _ ?_ (fun _ => ?_)
  · ((try dsimp only); (first | with_reducible exact hst | with_reducible exact hHeld | with_reducible exact ⟨hHeld.1.call hb9, bel_call hHeld.2 hb9⟩))
  clear hK K
  (try simp only [Act.put, List.setIfInBounds_toArray, List.set_cons_zero, List.set_cons_succ])
  refine gen0 (T := fun W => ((fun W => Mm w W [(g10, 36, mfa nu fx tx rx dx E5 m5.length cE5), (g8, 27, mfa nu fx tx rx dx E3 m5.length cE3), (w.heap.size + 1, 27, mfa n2 f2 t2 r2 d2 G qs.length cap2), (w.heap.size, 27, mfa n f t r d E ps.length cap)] [] ∧ Below w6.heap.size w6 W)) W ∧ True) ?_ (fun wq4 hT => ?_)
  · exact ⟨by (first | with_reducible exact hst | with_reducible exact hHeld | with_reducible exact ⟨hHeld.1.call hb9, bel_call hHeld.2 hb9⟩), trivial⟩
  (try clear f0 f1 f2 f3 f4 f5 f6 f7 f8 f9 f10 f11)
  obtain ⟨hHeld, -⟩ := hT
  refine wpAnyH_take (i := 8) (oi := ⟨some 50, _, _, _, _, _⟩) (v := ?_) rfl (by kernel_rfl) (by kernel_rfl) (by kernel_rfl) (fun _ _ _ h => h) (Or.inl ⟨by kernel_rfl, ?_⟩) (by assumption) ?_
  rotate_left
  · (intro wS hSw; (try dsimp only at hSw); clear hSw; go_simp; (try with_reducible rfl))
  (try simp only [Act.put, List.setIfInBounds_toArray, List.set_cons_zero, List.set_cons_succ])
  refine wpAnyH_take (i := 9) (oi := ⟨some 51, _, _, _, _, _⟩) (v := ?_) rfl (by kernel_rfl) (by kernel_rfl) (by kernel_rfl) (fun _ _ _ h => h) (Or.inl ⟨by kernel_rfl, ?_⟩) (by assumption) ?_
  rotate_left
  · (intro wS hSw; (try dsimp only at hSw); clear hSw; go_simp; (try with_reducible rfl))
  (try simp only [Act.put, List.setIfInBounds_toArray, List.set_cons_zero, List.set_cons_succ])
  refine wpAnyH_take (i := 10) (oi := ⟨some 52, _, _, _, _, _⟩) (v := ?_) rfl (by kernel_rfl) (by kernel_rfl) (by kernel_rfl) (fun _ _ _ h => h) (Or.inl ⟨by kernel_rfl, ?_⟩) (by assumption) ?_
  rotate_left
  · (intro wS hSw; (try dsimp only at hSw); clear hSw; go_simp; (try with_reducible rfl))
  (try simp only [Act.put, List.setIfInBounds_toArray, List.set_cons_zero, List.set_cons_succ])
  refine wpAnyH_take (i := 11) (oi := ⟨some 53, _, _, _, _, _⟩) (v := ?_) rfl (by kernel_rfl) (by kernel_rfl) (by kernel_rfl) (fun _ _ _ h => h) (Or.inl ⟨by kernel_rfl, ?_⟩) (by assumption) ?_
  rotate_left
  · (intro wS hSw; (try dsimp only at hSw); clear hSw; go_simp; (try with_reducible rfl))
  (try simp only [Act.put, List.setIfInBounds_toArray, List.set_cons_zero, List.set_cons_succ])
  refine wpAnyH_take (i := 12) (oi := ⟨some 54, _, _, _, _, _⟩) (v := ?_) rfl (by kernel_rfl) (by kernel_rfl) (by kernel_rfl) (fun _ _ _ h => h) (Or.inl ⟨by kernel_rfl, ?_⟩) (by assumption) ?_
  rotate_left
  · (intro wS hSw; (try dsimp only at hSw); clear hSw; go_simp; (try with_reducible rfl))
  (try simp only [Act.put, List.setIfInBounds_toArray, List.set_cons_zero, List.set_cons_succ])
  refine wpAnyH_ready (rs := [13]) (by kernel_rfl) (by simp) ?_
  refine AllReadyH.cons (o := ⟨some 55, _, _, _, _, _⟩) rfl (fun K hK => ?_) AllReadyH.nil
  go_simp
  (refine (nBytes_any A2 A cy2 c m2 m2 _ (Sl.below ho hHeld.2) (h.below hHeld.1.bel)).mono ?_; rintro e w12 ⟨rfl, rfl⟩; rw [hqq.out])
  go_wp2_with fail
  refine hK.out _ _ ?_ (fun _ => ?_)
  · ((try dsimp only); (first | with_reducible exact hst | with_reducible exact hHeld | with_reducible exact ⟨hHeld.1.call hb9, bel_call hHeld.2 hb9⟩))
  clear hK K
  (try simp only [Act.put, List.setIfInBounds_toArray, List.set_cons_zero, List.set_cons_succ])
  refine gen0 (T := fun W => ((fun W => Mm w W [(g10, 36, mfa nu fx tx rx dx E5 m5.length cE5), (g8, 27, mfa nu fx tx rx dx E3 m5.length cE3), (w.heap.size + 1, 27, mfa n2 f2 t2 r2 d2 G qs.length cap2), (w.heap.size, 27, mfa n f t r d E ps.length cap)] [] ∧ Below w6.heap.size w6 W)) W ∧ True) ?_ (fun wq5 hT => ?_)
  · exact ⟨by (first | with_reducible exact hst | with_reducible exact hHeld | with_reducible exact ⟨hHeld.1.call hb9, bel_call hHeld.2 hb9⟩), trivial⟩
  (try clear f0 f1 f2 f3 f4 f5 f6 f7 f8 f9 f10 f11)
  obtain ⟨hHeld, -⟩ := hT
  refine wpAnyH_take (i := 14) (oi := ⟨some 56, _, _, _, _, _⟩) (v := ?_) rfl (by kernel_rfl) (by kernel_rfl) (by kernel_rfl) (fun _ _ _ h => h) (Or.inl ⟨by kernel_rfl, ?_⟩) (by assumption) ?_
  rotate_left
  · (intro wS hSw; (try dsimp only at hSw); clear hSw; go_simp; (try with_reducible rfl))
  (try simp only [Act.put, List.setIfInBounds_toArray, List.set_cons_zero, List.set_cons_succ])
  refine wpAnyH_take (i := 15) (oi := ⟨some 57, _, _, _, _, _⟩) (v := ?_) rfl (by kernel_rfl) (by kernel_rfl) (by kernel_rfl) (fun _ _ _ h => h) (Or.inl ⟨by kernel_rfl, ?_⟩) (by assumption) ?_
  rotate_left
  · (intro wS hSw; (try dsimp only at hSw); clear hSw; go_simp; (try with_reducible rfl))
  (try simp only [Act.put, List.setIfInBounds_toArray, List.set_cons_zero, List.set_cons_succ])
  refine wpAnyH_take (i := 16) (oi := ⟨some 58, _, _, _, _, _⟩) (v := ?_) rfl (by kernel_rfl) (by kernel_rfl) (by kernel_rfl) (fun _ _ _ h => h) (Or.inl ⟨by kernel_rfl, ?_⟩) (by assumption) ?_
  rotate_left
  · (intro wS hSw; (try dsimp only at hSw); (refine yld_load 27 (.tmp 4) ?_ ⟨w.heap.size, 0, none⟩ (mfa n f t r d E ps.length cap) ?_ hSw.1.b3.cells _ Try.underlying27 rfl (by rw [hmzp.out]; kernel_rfl) <;> rfl))
  (try simp only [Act.put, List.setIfInBounds_toArray, List.set_cons_zero, List.set_cons_succ])
  refine wpAnyH_take (i := 17) (oi := ⟨some 59, _, _, _, _, _⟩) (v := ?_) rfl (by kernel_rfl) (by kernel_rfl) (by kernel_rfl) (fun _ _ _ h => h) (Or.inl ⟨by kernel_rfl, ?_⟩) (by assumption) ?_
  rotate_left
  · (intro wS hSw; (try dsimp only at hSw); (refine yld_load 27 (.tmp 5) ?_ ⟨w.heap.size + 1, 0, none⟩ (mfa n2 f2 t2 r2 d2 G qs.length cap2) ?_ hSw.1.b2.cells _ Try.underlying27 rfl (by rw [hmzq.out]; kernel_rfl) <;> rfl))
  (try simp only [Act.put, List.setIfInBounds_toArray, List.set_cons_zero, List.set_cons_succ])
  refine wpAnyH_take (i := 19) (oi := ⟨some 61, _, _, _, _, _⟩) (v := ?_) rfl (by kernel_rfl) (by kernel_rfl) (by kernel_rfl) (fun _ _ _ h => h) (Or.inl ⟨by kernel_rfl, ?_⟩) (by assumption) ?_
  rotate_left
  · (intro wS hSw; (try dsimp only at hSw); (refine yld_load 27 (.tmp 4) ?_ ⟨w.heap.size, 0, none⟩ (mfa n f t r d E ps.length cap) ?_ hSw.1.b3.cells _ Try.underlying27 rfl (by rw [hmzp.out]; kernel_rfl) <;> rfl))
  (try simp only [Act.put, List.setIfInBounds_toArray, List.set_cons_zero, List.set_cons_succ])
  refine wpAnyH_take (i := 21) (oi := ⟨some 63, _, _, _, _, _⟩) (v := ?_) rfl (by kernel_rfl) (by kernel_rfl) (by kernel_rfl) (fun _ _ _ h => h) (Or.inl ⟨by kernel_rfl, ?_⟩) (by assumption) ?_
  rotate_left
  · (intro wS hSw; (try dsimp only at hSw); (refine yld_load 27 (.tmp 5) ?_ ⟨w.heap.size + 1, 0, none⟩ (mfa n2 f2 t2 r2 d2 G qs.length cap2) ?_ hSw.1.b2.cells _ Try.underlying27 rfl (by rw [hmzq.out]; kernel_rfl) <;> rfl))
  (try simp only [Act.put, List.setIfInBounds_toArray, List.set_cons_zero, List.set_cons_succ])
  refine wpAnyH_ready (rs := [18]) (by kernel_rfl) (by simp) ?_
  refine AllReadyH.cons (o := ⟨some 60, _, _, _, _, _⟩) rfl (fun K hK => ?_) AllReadyH.nil
  go_simp
  ((with_reducible refine (MSame_any n f t r n2 f2 t2 r2 d d2 ps qs _ (hp.below hHeld.1.bel) (hq.below hHeld.1.bel)).mono ?_); rintro e w11 ⟨rfl, hb9⟩)
  go_wp2_with fail
  refine hK.out _ _ ?_ (fun _ => ?_)
  · ((try dsimp only); (first | with_reducible exact hst | with_reducible exact hHeld | with_reducible exact ⟨hHeld.1.call hb9, bel_call hHeld.2 hb9⟩))
  clear hK K
  (try simp only [Act.put, List.setIfInBounds_toArray, List.set_cons_zero, List.set_cons_succ])
  refine gen0 (T := fun W => ((fun W => Mm w W [(g10, 36, mfa nu fx tx rx dx E5 m5.length cE5), (g8, 27, mfa nu fx tx rx dx E3 m5.length cE3), (w.heap.size + 1, 27, mfa n2 f2 t2 r2 d2 G qs.length cap2), (w.heap.size, 27, mfa n f t r d E ps.length cap)] [] ∧ Below w6.heap.size w6 W)) W ∧ True) ?_ (fun wq6 hT => ?_)
  · exact ⟨by (first | with_reducible exact hst | with_reducible exact hHeld | with_reducible exact ⟨hHeld.1.call hb9, bel_call hHeld.2 hb9⟩), trivial⟩
  (try clear f0 f1 f2 f3 f4 f5 f6 f7 f8 f9 f10 f11)
  obtain ⟨hHeld, -⟩ := hT
  refine wpAnyH_ready (rs := [20]) (by kernel_rfl) (by simp) ?_
  refine AllReadyH.cons (o := ⟨some 62, _, _, _, _, _⟩) rfl (fun K hK => ?_) AllReadyH.nil
  go_simp
  (first | ((with_reducible refine (Doc15_any nu fx tx rx dx m5 _ (SlP.below hO hHeld.2) (by have := HL.out; omega)).mono ?_); rintro e w9 ⟨A9, c9, m9, rfl, hm9, ho9, hb9⟩) | ((with_reducible refine (Doc15_any n f t r d ps _ (hp.below hHeld.1.bel) (by omega)).mono ?_); rintro e w9 ⟨A20, c20, m20, rfl, hm20, ho9, hb9⟩) | ((with_reducible refine (Doc15_any n2 f2 t2 r2 d2 qs _ (hq.below hHeld.1.bel) (by omega)).mono ?_); rintro e w9 ⟨A22, c22, m22, rfl, hm22, ho9, hb9⟩))
  go_wp2_with fail
  refine hK.out _ _ ?_ (fun _ => ?_)
  · ((try dsimp only); (first | with_reducible exact hst | with_reducible exact hHeld | with_reducible exact ⟨hHeld.1.call hb9, bel_call hHeld.2 hb9⟩))
  clear hK K
  (try simp only [Act.put, List.setIfInBounds_toArray, List.set_cons_zero, List.set_cons_succ])
  refine gen0 (T := fun W => ((fun W => Mm w W [(g10, 36, mfa nu fx tx rx dx E5 m5.length cE5), (g8, 27, mfa nu fx tx rx dx E3 m5.length cE3), (w.heap.size + 1, 27, mfa n2 f2 t2 r2 d2 G qs.length cap2), (w.heap.size, 27, mfa n f t r d E ps.length cap)] [] ∧ Below w6.heap.size w6 W)) W ∧ SlP W A20 c20 m20 ∧ True) ?_ (fun wq7 hT => ?_)
  · exact ⟨by (first | with_reducible exact hst | with_reducible exact hHeld | with_reducible exact ⟨hHeld.1.call hb9, bel_call hHeld.2 hb9⟩), by (first | with_reducible assumption | with_reducible exact SlP.below (by with_reducible assumption) hb9 | exact Own.sl ho9), trivial⟩
  (try clear f0 f1 f2 f3 f4 f5 f6 f7 f8 f9 f10 f11)
  obtain ⟨hHeld, f0, -⟩ := hT
  refine wpAnyH_ready (rs := [22]) (by kernel_rfl) (by simp) ?_
  refine AllReadyH.cons (o := ⟨some 64, _, _, _, _, _⟩) rfl (fun K hK => ?_) AllReadyH.nil
  go_simp
  (first | ((with_reducible refine (Doc15_any nu fx tx rx dx m5 _ (SlP.below hO hHeld.2) (by have := HL.out; omega)).mono ?_); rintro e w9 ⟨A9, c9, m9, rfl, hm9, ho9, hb9⟩) | ((with_reducible refine (Doc15_any n f t r d ps _ (hp.below hHeld.1.bel) (by omega)).mono ?_); rintro e w9 ⟨A20, c20, m20, rfl, hm20, ho9, hb9⟩) | ((with_reducible refine (Doc15_any n2 f2 t2 r2 d2 qs _ (hq.below hHeld.1.bel) (by omega)).mono ?_); rintro e w9 ⟨A22, c22, m22, rfl, hm22, ho9, hb9⟩))
  go_wp2_with fail
  refine hK.out _ _ ?_ (fun _ => ?_)
  · ((try dsimp only); (first | with_reducible exact hst | with_reducible exact hHeld | with_reducible exact ⟨hHeld.1.call hb9, bel_call hHeld.2 hb9⟩))
  clear hK K
  (try simp only [Act.put, List.setIfInBounds_toArray, List.set_cons_zero, List.set_cons_succ])
  refine gen0 (T := fun W => ((fun W => Mm w W [(g10, 36, mfa nu fx tx rx dx E5 m5.length cE5), (g8, 27, mfa nu fx tx rx dx E3 m5.length cE3), (w.heap.size + 1, 27, mfa n2 f2 t2 r2 d2 G qs.length cap2), (w.heap.size, 27, mfa n f t r d E ps.length cap)] [] ∧ Below w6.heap.size w6 W)) W ∧ SlP W A20 c20 m20 ∧ SlP W A22 c22 m22 ∧ True) ?_ (fun wq8 hT => ?_)
  · exact ⟨by (first | with_reducible exact hst | with_reducible exact hHeld | with_reducible exact ⟨hHeld.1.call hb9, bel_call hHeld.2 hb9⟩), by (first | with_reducible assumption | with_reducible exact SlP.below (by with_reducible assumption) hb9 | exact Own.sl ho9), by (first | with_reducible assumption | with_reducible exact SlP.below (by with_reducible assumption) hb9 | exact Own.sl ho9), trivial⟩
  (try clear f0 f1 f2 f3 f4 f5 f6 f7 f8 f9 f10 f11)
  obtain ⟨hHeld, f0, f1, -⟩ := hT
  refine wpAnyH_ready (rs := [23]) (by kernel_rfl) (by simp) ?_
  refine AllReadyH.cons (o := ⟨some 65, _, _, _, _, _⟩) rfl (fun K hK => ?_) AllReadyH.nil
  go_simp
  (first | ((with_reducible refine (rMSame_any nu fx tx rx nu fx tx rx dx dx m9 m5 _ (by with_reducible assumption) (SlP.below hO5 hHeld.2)).mono ?_); rintro e w10 ⟨rfl, hb9⟩; rw [eq_mf (by rw [hm9.out])]) | ((with_reducible refine (rMSame_any n f t r n2 f2 t2 r2 d d2 m20 m22 _ (by with_reducible assumption) (by with_reducible assumption)).mono ?_); rintro e w10 ⟨rfl, hb9⟩; rw [hm20.out, hm22.out]))
  go_wp2_with fail
  refine hK.out _ _ ?_ (fun _ => ?_)
  · ((try dsimp only); (first | with_reducible exact hst | with_reducible exact hHeld | with_reducible exact ⟨hHeld.1.call hb9, bel_call hHeld.2 hb9⟩))
  clear hK K
  (try simp only [Act.put, List.setIfInBounds_toArray, List.set_cons_zero, List.set_cons_succ])
  refine gen0 (T := fun W => ((fun W => Mm w W [(g10, 36, mfa nu fx tx rx dx E5 m5.length cE5), (g8, 27, mfa nu fx tx rx dx E3 m5.length cE3), (w.heap.size + 1, 27, mfa n2 f2 t2 r2 d2 G qs.length cap2), (w.heap.size, 27, mfa n f t r d E ps.length cap)] [] ∧ Below w6.heap.size w6 W)) W ∧ True) ?_ (fun wq9 hT => ?_)
  · exact ⟨by (first | with_reducible exact hst | with_reducible exact hHeld | with_reducible exact ⟨hHeld.1.call hb9, bel_call hHeld.2 hb9⟩), trivial⟩
  (try clear f0 f1 f2 f3 f4 f5 f6 f7 f8 f9 f10 f11)
  obtain ⟨hHeld, -⟩ := hT
  refine wpAnyH_take (i := 24) (oi := ⟨some 66, _, _, _, _, _⟩) (v := ?_) rfl (by kernel_rfl) (by kernel_rfl) (by kernel_rfl) (fun _ _ _ h => h) (Or.inl ⟨by kernel_rfl, ?_⟩) (by assumption) ?_
  rotate_left
  · (intro wS hSw; (try dsimp only at hSw); clear hSw; go_simp; (try with_reducible rfl))
  (try simp only [Act.put, List.setIfInBounds_toArray, List.set_cons_zero, List.set_cons_succ])
  refine wpAnyH_take (i := 25) (oi := ⟨some 67, _, _, _, _, _⟩) (v := ?_) rfl (by kernel_rfl) (by kernel_rfl) (by kernel_rfl) (fun _ _ _ h => h) (Or.inl ⟨by kernel_rfl, ?_⟩) (by assumption) ?_
  rotate_left
  · (intro wS hSw; (try dsimp only at hSw); clear hSw; go_simp; (try with_reducible rfl))
  (try simp only [Act.put, List.setIfInBounds_toArray, List.set_cons_zero, List.set_cons_succ])
  refine wpAnyH_take (i := 26) (oi := ⟨some 6, _, _, _, _, _⟩) (v := ?_) rfl (by kernel_rfl) (by kernel_rfl) (by kernel_rfl) (fun _ _ _ h => h) (Or.inl ⟨by kernel_rfl, ?_⟩) (by assumption) ?_
  rotate_left
  · (intro wS hSw; (try dsimp only at hSw); clear hSw; go_simp; (try with_reducible rfl))
  (try simp only [Act.put, List.setIfInBounds_toArray, List.set_cons_zero, List.set_cons_succ])
  refine wpAnyH_done (by kernel_rfl) ?_ _
  go_wp2_with fail
  go_ret
  exact ⟨by simp, hHeld.1.bel⟩
end Go.Proofs.Ytgfigkenpmmdeaa

namespace Go.Proofs.Ytgfigkenpmmdeaa
open Go.ChangeShapes Go.WideShapes Go.ChangeAt Go.RowKit Go.Deep

/-- a slice of structs of one-cell fields, as a struct's field -/
theorem open_structsF {H : Type} {enc : TypeId × Value → H} {P : Program} {w : World} {base : Nat} {held : Bool} {t e : TypeId} {v : Value} {fs : Array Field}
    {T : Type} (f : T → List Value) (Q : T → Prop) (hfl : ∀ x, (f x).length = fs.size)
    (ht : P.underlying t = some (.slice e)) (he : P.underlying e = some (.struct fs)) (hone : oneCellFields P fs = true) (hC : P.cellsOf e = fs.size)
    (hel : ∀ vs : List Value, vs.length = fs.size → (∀ (j : Nat) (fd : Field), fs[j]? = some fd → ∃ (u : Value) (n : Nat) (y : DataW H × List MemPlace), vs[j]? = some u ∧ DataW.trod enc P w base (fun _ => true) held n fd.type [u] = some y) → ∃ x : T, f x = vs ∧ Q x)
    {fuel : Nat} {yy : DataW H × List MemPlace} (hf : DataW.trod enc P w base (fun _ => true) held fuel t [v] = some yy) :
    ∃ (A : Option Addr) (c : Nat) (l : List T), v = .slice A l.length c ∧ Sl w fs.size A l.length c (l.flatMap f) ∧ ∀ x ∈ l, Q x := by
  rcases open_slice_fields ht he hone hC hf with ⟨hcs, _⟩ | ⟨a, n, c, m, D, Pl, hcs, _, hl, hm, hmm, _, hi⟩
  · simp at hcs
    subst hcs
    exact ⟨none, 0, [], rfl, by simpa using Sl.none_ w fs.size, fun x hx => by simp at hx⟩
  · simp at hcs
    subst hcs
    simp only [if_true] at hmm
    subst hmm
    have hx : ∀ i, i < n → ∃ x : T, Q x ∧ ∀ j u, (f x)[j]? = some u → w.cell? (a.add (i * fs.size + j)) = some u := by
      intro i hin
      obtain ⟨ys, nn, _, _, _, hfd⟩ := hi i (by omega)
      have hc : ∀ j, j < fs.size → ∃ u : Value, w.cell? (a.add (i * fs.size + j)) = some u ∧ ∃ y : DataW H × List MemPlace, DataW.trod enc P w base (fun _ => true) held nn (fs[j]!).type [u] = some y := by
        intro j hj
        obtain ⟨u, y, h1, _, h3⟩ := hfd j fs[j] (by simp [hj])
        exact ⟨u, h1, y, by simpa [hj] using h3⟩
      obtain ⟨vs, hvl, hvr⟩ := list_choice (fun j u => w.cell? (a.add (i * fs.size + j)) = some u ∧ ∃ y : DataW H × List MemPlace, DataW.trod enc P w base (fun _ => true) held nn (fs[j]!).type [u] = some y) fs.size hc
      obtain ⟨x, hxe, hxq⟩ := hel vs hvl fun j fd hj => by
        have hjl : j < fs.size := (Array.getElem?_eq_some_iff.1 hj).1
        obtain ⟨_, y, hy⟩ := hvr j (by omega)
        have hfe : fs[j]! = fd := by
          have := (Array.getElem?_eq_some_iff.1 hj).2
          simp [hjl, this]
        rw [hfe] at hy
        exact ⟨vs[j], nn, y, List.getElem?_eq_getElem (by omega), hy⟩
      refine ⟨x, hxq, fun j u hj => ?_⟩
      rw [hxe] at hj
      obtain ⟨hjl, hju⟩ := List.getElem?_eq_some_iff.1 hj
      rw [← hju]
      exact (hvr j hjl).1
    obtain ⟨l, hll, hlr⟩ := list_choice _ n hx
    refine ⟨some a, _, l, by rw [hll], ⟨flat_len hfl l, by omega, hm, (fun h => by cases h), fun j u hj => ⟨a, rfl, ?_⟩⟩, fun x hx => ?_⟩
    · rcases Nat.eq_zero_or_pos fs.size with h0 | h0
      · have := (List.getElem?_eq_some_iff.1 hj).1
        rw [flat_len hfl, h0] at this
        omega
      · have hjl := (List.getElem?_eq_some_iff.1 hj).1
        rw [flat_len hfl] at hjl
        have hk : j / fs.size < l.length := by rw [Nat.div_lt_iff_lt_mul h0]; exact hjl
        have hr : j % fs.size < fs.size := Nat.mod_lt _ h0
        have he := flat_get hfl l (j / fs.size) (j % fs.size) hk hr
        have hj2 : j / fs.size * fs.size + j % fs.size = j := by rw [Nat.mul_comm]; exact Nat.div_add_mod _ _
        rw [hj2, hj] at he
        have := (hlr _ hk).2 _ _ he.symm
        rwa [hj2] at this
    · obtain ⟨i, hi, rfl⟩ := List.getElem_of_mem hx
      exact (hlr i hi).1

section
variable {H : Type} {enc : TypeId × Value → H} {P : Program} {w : World} {base b0 : Nat} {held : Bool} {r : Reach} {t e b u : TypeId} {v : Value} {d : DataW H} {p : List MemPlace}
theorem open_seg {g0 g1 f0 f1 : Field} (hs : P.underlying t = some (.struct #[g0, g1])) (hg0 : P.underlying g0.type = some (.int .i64)) (hg1 : P.underlying g1.type = some (.slice b)) (hb : P.underlying b = some (.struct #[f0, f1])) (h0 : P.underlying f0.type = some (.int .i64)) (h1 : P.underlying f1.type = some (.slice e)) (he : P.underlying e = some (.int .u8))
    (hCe : P.cellsOf e = 1) (hone : oneCellFields P #[f0, f1] = true) (hC : P.cellsOf b = 2) (hone2 : oneCellFields P #[g0, g1] = true) (hC2 : P.cellsOf t = 2) (hv : Value.okWide P w r b0 t v) (h : DataW.Trod enc P w base (fun _ => true) held t v d p) :
    ∃ (k : Int) (A : Option Addr) (c : Nat) (l : List CeV), v = cv k A l.length c ∧ SlC w A c l := by
  obtain ⟨v0, v1, y0, y1, n, rfl, _, _, q0, q1⟩ := Go.Joins.open_agg2 hs hone2 hC2 hv h
  obtain ⟨k, rfl, hk⟩ := int_cell hg0 q0
  obtain ⟨A, c, l, rfl, hl, hq⟩ := open_structsF cf (fun x => I64 x.1 ∧ SlB w x.2.1 x.2.2.1 x.2.2.2) (fun _ => rfl) hg1 hb hone hC (by
    intro vs hl hf
    obtain ⟨u0, n0, y0, e0, t0⟩ := hf 0 f0 rfl
    obtain ⟨u1, n1, y1, e1, t1⟩ := hf 1 f1 rfl
    obtain ⟨k, rfl, hk⟩ := int_cell h0 t0
    obtain ⟨A, c, l, rfl, hb⟩ := bytes_cell h1 he hCe t1
    match vs, hl with
    | [x0, x1], _ =>
      simp at e0 e1
      exact ⟨(k, A, c, l), by simp [cf, e0, e1], hk, hb⟩) q1
  exact ⟨k, A, c, l, rfl, ⟨hl, fun x hx => (hq x hx).2⟩⟩
theorem open_segI {g0 g1 f0 f1 : Field} (hs : P.underlying t = some (.struct #[g0, g1])) (hg0 : P.underlying g0.type = some (.int .i64)) (hg1 : P.underlying g1.type = some (.slice b)) (hb : P.underlying b = some (.struct #[f0, f1])) (h0 : P.underlying f0.type = some (.int .i64)) (h1 : P.underlying f1.type = some (.slice e)) (he : P.underlying e = some (.int .u8))
    (hCe : P.cellsOf e = 1) (hone : oneCellFields P #[f0, f1] = true) (hC : P.cellsOf b = 2) (hone2 : oneCellFields P #[g0, g1] = true) (hC2 : P.cellsOf t = 2) (hv : Value.okWide P w r b0 t v) (h : DataW.Trod enc P w base (fun _ => true) held t v d p) :
    ∃ (k : Int) (A : Option Addr) (c : Nat) (l : List CeV), v = cv k A l.length c ∧ SlC w A c l ∧ I64 k := by
  obtain ⟨v0, v1, y0, y1, n, rfl, _, _, q0, q1⟩ := Go.Joins.open_agg2 hs hone2 hC2 hv h
  obtain ⟨k, rfl, hk⟩ := int_cell hg0 q0
  obtain ⟨A, c, l, rfl, hl, hq⟩ := open_structsF cf (fun x => I64 x.1 ∧ SlB w x.2.1 x.2.2.1 x.2.2.2) (fun _ => rfl) hg1 hb hone hC (by
    intro vs hl hf
    obtain ⟨u0, n0, y0, e0, t0⟩ := hf 0 f0 rfl
    obtain ⟨u1, n1, y1, e1, t1⟩ := hf 1 f1 rfl
    obtain ⟨k, rfl, hk⟩ := int_cell h0 t0
    obtain ⟨A, c, l, rfl, hb⟩ := bytes_cell h1 he hCe t1
    match vs, hl with
    | [x0, x1], _ =>
      simp at e0 e1
      exact ⟨(k, A, c, l), by simp [cf, e0, e1], hk, hb⟩) q1
  exact ⟨k, A, c, l, rfl, ⟨hl, fun x hx => (hq x hx).2⟩, hk⟩
theorem open_arr2 (hs : P.underlying t = some (.array 2 e)) (he : P.underlying e = some (.int .i64)) (hC : P.cellsOf t = 2) (hE : P.cellsOf e = 1) (hv : Value.okWide P w r b0 t v) (h : DataW.Trod enc P w base (fun _ => true) held t v d p) :
    ∃ a b : Int, v = .agg #[.int .i64 a, .int .i64 b] := by
  simp only [Value.okWide, hs] at hv
  obtain ⟨cs, rfl, hsz, _⟩ := hv
  obtain ⟨c0, c1, rfl⟩ : ∃ c0 c1, cs = #[c0, c1] := by
    have h2 := hsz.trans hC
    match cs, h2 with
    | ⟨[x, y]⟩, _ => exact ⟨x, y, rfl⟩
  obtain ⟨fuel, hf⟩ := h
  obtain ⟨xs, m, _, _, _, hlen, hg⟩ := DataW.trod_array hs hf
  have k0 := hg 0 (by omega)
  have k1 := hg 1 (by omega)
  rw [hE, List.getElem?_eq_getElem (by omega)] at k0 k1
  simp [Value.cells] at k0 k1
  obtain ⟨a, rfl, ha⟩ := int_cell he k0
  obtain ⟨b, rfl, hb⟩ := int_cell he k1
  exact ⟨a, b, rfl⟩
end
end Go.Proofs.Ytgfigkenpmmdeaa

namespace Go.Proofs.Ytgfigkenpmmdeaa
open Go.ChangeShapes Go.WideShapes Go.ChangeAt Go.RowKit Go.Deep

section
variable {H : Type} {enc : TypeId × Value → H} {P : Program} {w : World} {base b0 : Nat} {held : Bool} {r : Reach} {t e b u : TypeId} {v : Value} {d : DataW H} {p : List MemPlace}
/-- a slice of elements of so many cells -/
theorem open_sliceG {T : Type} (f : T → List Value) (Q : T → Prop) {k : Nat} (hfl : ∀ x, (f x).length = k) (hk : 0 < k) (ht : P.underlying t = some (.slice e)) (hC : P.cellsOf e = k)
    (hel : ∀ (cs' : List Value) (n : Nat) (y : DataW H × List MemPlace), DataW.trod enc P w base (fun _ => true) held n e cs' = some y → ∃ x : T, f x = cs' ∧ Q x)
    {fuel : Nat} {yy : DataW H × List MemPlace} (hf : DataW.trod enc P w base (fun _ => true) held fuel t [v] = some yy) :
    ∃ (A : Option Addr) (c : Nat) (l : List T), v = .slice A l.length c ∧ Sl w k A l.length c (l.flatMap f) ∧ ∀ x ∈ l, Q x := by
  rcases open_slice ht hf with ⟨hcs, _⟩ | ⟨a, n, c, m, nn, D, Pl, hcs, _, hl, hm, hmm, _, hi⟩
  · simp at hcs
    subst hcs
    exact ⟨none, 0, [], rfl, by simpa using Sl.none_ w k, fun x hx => by simp at hx⟩
  · simp at hcs
    subst hcs
    simp only [if_true] at hmm
    subst hmm
    have hx : ∀ i, i < n → ∃ x : T, Q x ∧ ∀ j u, (f x)[j]? = some u → w.cell? (a.add (i * k + j)) = some u := by
      intro i hin
      obtain ⟨cs', hc, ht'⟩ := hi i (by omega)
      rw [hC] at hc
      obtain ⟨_, hcl, hat⟩ := World.cells?_some hc
      obtain ⟨x, hxe, hxq⟩ := hel cs' nn _ ht'
      refine ⟨x, hxq, fun j u hj => ?_⟩
      have hjk : j < k := by rw [← hfl x]; exact (List.getElem?_eq_some_iff.1 hj).1
      rw [hxe] at hj
      rw [← Go.Deep.add_add, hat j hjk, hj]
    obtain ⟨l, hll, hlr⟩ := list_choice _ n hx
    refine ⟨some a, _, l, by rw [hll], ⟨flat_len hfl l, by omega, hm, (fun h => by cases h), fun j u hj => ⟨a, rfl, ?_⟩⟩, fun x hx => ?_⟩
    · have hjl := (List.getElem?_eq_some_iff.1 hj).1
      rw [flat_len hfl] at hjl
      have hkk : j / k < l.length := by rw [Nat.div_lt_iff_lt_mul hk]; exact hjl
      have hr : j % k < k := Nat.mod_lt _ hk
      have he := flat_get hfl l (j / k) (j % k) hkk hr
      have hj2 : j / k * k + j % k = j := by rw [Nat.mul_comm]; exact Nat.div_add_mod _ _
      rw [hj2, hj] at he
      have := (hlr _ hkk).2 _ _ he.symm
      rwa [hj2] at this
    · obtain ⟨i, hi, rfl⟩ := List.getElem_of_mem hx
      exact (hlr i hi).1
/-- a digest -/
theorem open_dg {cs : List Value} {fuel : Nat} {y : DataW H × List MemPlace} (ht : P.underlying t = some (.array 32 e)) (he : P.underlying e = some (.int .u8)) (hE : P.cellsOf e = 1) (hC : P.cellsOf t = 32)
    (h : DataW.trod enc P w base (fun _ => true) held fuel t cs = some y) : ∃ d : Dg, cs = bvs d.1 := by
  obtain ⟨xs, m, _, _, hl, hlen, hg⟩ := DataW.trod_array ht h
  rw [hC] at hl
  have hx : ∀ i, i < 32 → ∃ b : UInt8, cs[i]? = some (bv b) := by
    intro i hi
    have hi2 := hg i hi
    rw [hE, List.getElem?_eq_getElem (by omega)] at hi2
    have hone : (cs.drop (i * 1)).take 1 = [cs[i]'(by omega)] := by
      rw [Nat.mul_one, List.drop_eq_getElem_cons (by omega)]
      rfl
    rw [hone] at hi2
    obtain ⟨a, hv, _, hw⟩ := DataW.trod_int he hi2
    simp at hv
    have hb := bounds_u8 hw
    refine ⟨UInt8.ofNat a.toNat, ?_⟩
    rw [List.getElem?_eq_getElem (by omega), hv]
    simp only [bv, UInt8.toNat_ofNat', Option.some.injEq, Value.int.injEq, true_and]
    omega
  obtain ⟨l, hll, hlr⟩ := list_choice _ 32 hx
  refine ⟨⟨l, hll⟩, ?_⟩
  apply List.ext_getElem?
  intro i
  rcases Nat.lt_or_ge i 32 with h1 | h1
  · rw [hlr i (by omega)]
    simp [List.getElem?_eq_getElem (show i < l.length from by omega)]
  · rw [List.getElem?_eq_none (by omega), List.getElem?_eq_none (by simp; omega)]
/-- a part -/
theorem open_pt {g0 g1 g2 g3 : Field} (hs : P.underlying t = some (.struct #[g0, g1, g2, g3])) (h0 : P.underlying g0.type = some (.int .i64)) (h1 : P.underlying g1.type = some (.int .i64)) (h2 : P.underlying g2.type = some (.int .i64)) (h3 : P.underlying g3.type = some (.array 32 e)) (he : P.underlying e = some (.int .u8))
    (hE : P.cellsOf e = 1) (hC3 : P.cellsOf g3.type = 32) (hC : P.cellsOf t = 35) (o0 : g0.offset = 0) (o1 : g1.offset = 1) (o2 : g2.offset = 2) (o3 : g3.offset = 3) (k0 : P.cellsOf g0.type = 1) (k1 : P.cellsOf g1.type = 1) (k2 : P.cellsOf g2.type = 1)
    (cs : List Value) (fuel : Nat) (y : DataW H × List MemPlace) (h : DataW.trod enc P w base (fun _ => true) held fuel t cs = some y) : ∃ x : Pt5, ptl x = cs ∧ (I64 x.1 ∧ I64 x.2.1 ∧ I64 x.2.2.1) := by
  obtain ⟨xs, n, _, _, hl, hxl, hf⟩ := DataW.trod_struct hs h
  rw [hC] at hl
  have q0 := hf 0 g0 rfl
  have q1 := hf 1 g1 rfl
  have q2 := hf 2 g2 rfl
  have q3 := hf 3 g3 rfl
  have hxl4 : xs.length = 4 := hxl
  rw [List.getElem?_eq_getElem (by omega)] at q0 q1 q2 q3
  match cs, hl with
  | c0 :: c1 :: c2 :: rest, hl =>
    simp only [o0, k0, List.drop_zero, List.take_succ_cons, List.take_zero] at q0
    simp only [o1, k1, List.drop_succ_cons, List.drop_zero, List.take_succ_cons, List.take_zero] at q1
    simp only [o2, k2, List.drop_succ_cons, List.drop_zero, List.take_succ_cons, List.take_zero] at q2
    simp only [o3, hC3, List.drop_succ_cons, List.drop_zero] at q3
    simp only [List.length_cons] at hl
    rw [List.take_of_length_le (by omega)] at q3
    obtain ⟨a0, rfl, i0⟩ := int_cell h0 q0
    obtain ⟨a1, rfl, i1⟩ := int_cell h1 q1
    obtain ⟨a2, rfl, i2⟩ := int_cell h2 q2
    obtain ⟨dd, rfl⟩ := open_dg h3 he hE hC3 q3
    exact ⟨(a0, a1, a2, dd), rfl, i0, i1, i2⟩
/-- a manifest -/
theorem open_mf {f0 f1 f2 f3 f4 f5 g0 g1 g2 g3 : Field} (hs : P.underlying t = some (.struct #[f0, f1, f2, f3, f4, f5])) (k0 : P.underlying f0.type = some (.int .i64)) (k1 : P.underlying f1.type = some (.int .i64)) (k2 : P.underlying f2.type = some (.int .i64)) (k3 : P.underlying f3.type = some (.int .i64)) (k4 : P.underlying f4.type = some (.array 32 e)) (k5 : P.underlying f5.type = some (.slice b))
    (hb : P.underlying b = some (.struct #[g0, g1, g2, g3])) (h0 : P.underlying g0.type = some (.int .i64)) (h1 : P.underlying g1.type = some (.int .i64)) (h2 : P.underlying g2.type = some (.int .i64)) (h3 : P.underlying g3.type = some (.array 32 e)) (he : P.underlying e = some (.int .u8))
    (hE : P.cellsOf e = 1) (hC3 : P.cellsOf g3.type = 32) (hC : P.cellsOf b = 35) (o0 : g0.offset = 0) (o1 : g1.offset = 1) (o2 : g2.offset = 2) (o3 : g3.offset = 3) (c0 : P.cellsOf g0.type = 1) (c1 : P.cellsOf g1.type = 1) (c2 : P.cellsOf g2.type = 1)
    (hCt : P.cellsOf t = 37) (p0 : f0.offset = 0) (p1 : f1.offset = 1) (p2 : f2.offset = 2) (p3 : f3.offset = 3) (p4 : f4.offset = 4) (p5 : f5.offset = 36) (n0 : P.cellsOf f0.type = 1) (n1 : P.cellsOf f1.type = 1) (n2 : P.cellsOf f2.type = 1) (n3 : P.cellsOf f3.type = 1) (n4 : P.cellsOf f4.type = 32) (n5 : P.cellsOf f5.type = 1)
    (hv : Value.okWide P w r b0 t v) (h : DataW.Trod enc P w base (fun _ => true) held t v d p) :
    ∃ (n f z q : Int) (dd : Dg) (A : Option Addr) (c : Nat) (ps : List Pt5), v = .agg (mfa n f z q dd A ps.length c) ∧ SlP w A c ps ∧ PtsI ps := by
  obtain ⟨cs, rfl, hsz⟩ := okWide_struct hs hv
  obtain ⟨fuel, hf⟩ := h
  obtain ⟨xs, n, _, _, hl, hxl, hff⟩ := DataW.trod_struct hs hf
  have hxl6 : xs.length = 6 := hxl
  rw [hCt] at hl
  have q0 := hff 0 f0 rfl
  have q1 := hff 1 f1 rfl
  have q2 := hff 2 f2 rfl
  have q3 := hff 3 f3 rfl
  have q4 := hff 4 f4 rfl
  have q5 := hff 5 f5 rfl
  rw [List.getElem?_eq_getElem (by omega)] at q0 q1 q2 q3 q4 q5
  clear hff hf hv hsz
  obtain ⟨lcs⟩ := cs
  simp only [Value.cells] at hl q0 q1 q2 q3 q4 q5
  match lcs, hl with
  | v0 :: v1 :: v2 :: v3 :: rest, hl =>
    simp only [List.length_cons] at hl
    simp only [p0, n0, List.drop_zero, List.take_succ_cons, List.take_zero] at q0
    simp only [p1, n1, List.drop_succ_cons, List.drop_zero, List.take_succ_cons, List.take_zero] at q1
    simp only [p2, n2, List.drop_succ_cons, List.drop_zero, List.take_succ_cons, List.take_zero] at q2
    simp only [p3, n3, List.drop_succ_cons, List.drop_zero, List.take_succ_cons, List.take_zero] at q3
    simp only [p4, n4, List.drop_succ_cons, List.drop_zero] at q4
    simp only [p5, n5, List.drop_succ_cons] at q5
    obtain ⟨a0, rfl, _⟩ := int_cell k0 q0
    obtain ⟨a1, rfl, _⟩ := int_cell k1 q1
    obtain ⟨a2, rfl, _⟩ := int_cell k2 q2
    obtain ⟨a3, rfl, _⟩ := int_cell k3 q3
    obtain ⟨dd, hdd⟩ := open_dg k4 he hE n4 q4
    have hone : (rest.drop 32).take 1 = [rest[32]'(by omega)] := by
      rw [List.drop_eq_getElem_cons (by omega)]
      rfl
    rw [hone] at q5
    obtain ⟨A, c, ps, hA, hS, hQ⟩ := open_sliceG ptl (fun x => I64 x.1 ∧ I64 x.2.1 ∧ I64 x.2.2.1) ptl_len (by decide) k5 hC (fun cs' nn y hy => open_pt hb h0 h1 h2 h3 he hE hC3 hC o0 o1 o2 o3 c0 c1 c2 cs' nn y hy) q5
    have hrest : rest = bvs dd.1 ++ [.slice A ps.length c] := by
      rw [← List.take_append_drop 32 rest, hdd, List.drop_eq_getElem_cons (by omega), hA, List.drop_eq_nil_of_le (by omega)]
    exact ⟨a0, a1, a2, a3, dd, A, c, ps, by rw [hrest]; rfl, hS, hQ⟩
end
end Go.Proofs.Ytgfigkenpmmdeaa
