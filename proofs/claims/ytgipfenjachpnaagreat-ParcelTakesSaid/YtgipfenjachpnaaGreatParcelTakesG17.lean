/- WHAT IT HOLDS: a parcel as the document's, Same of parcels, the law ParcelTakes, walked. | WHAT IT HOLDS: arguments that are segments, arrays, opened to the words of Kit. -/
import Derived.Test.YtgipfenjachpnaaGreatParcelTakesG16
import Derived.Test.YtgipfenjachpnaaGreatParcelTakesG04
import Derived.Test.YtgipfenjachpnaaGreatParcelTakesG06
namespace Go.Proofs.YtgipfenjachpnaaGreat
open Go.RowKit
attribute [local go_sem ↓] Go.wp_at_zero Go.wp_at_succ

set_option maxRecDepth 100000 in
set_option maxHeartbeats 1000000 in
theorem Doc14_own {E : Option Addr} {cap : Nat} (f : Int) (cs : List CeV) (w : World) (h : SlC w E cap cs) (hl : cs.length ≤ 1000000) :
    Calls Tryz.prog 32 #[cv f E cs.length cap] w fun e w' => ∃ A c m, e = .returned (cv f A (List.length m) c) ∧ Hid (m = cs.map ceOf) ∧ Own w' w.heap.size 112 2 A m.length c (m.flatMap df) ∧ Below w.heap.size w w' := by
  have hB0 := (Blk.new w 26 #[.int .i64 f, .slice E cs.length cap]).alloc (.cells #[.int .i64 0, .slice none 0 0] 35)
  have hB1 := Blk.newAt (w := w.alloc (.cells #[.int .i64 f, .slice E cs.length cap] 26)) (g := w.heap.size + 1) (by simp) 35 #[.int .i64 0, .slice none 0 0]
  have hbw := bel_alloc (below_new w (.cells #[.int .i64 f, .slice E cs.length cap] 26)) (.cells #[.int .i64 0, .slice none 0 0] 35)
  go_enter Tryz.func32, Tryz.ntmps32
  go_upto_region 1 with (fail)
  have hst : Blk ((w.alloc (.cells #[.int .i64 f, .slice E cs.length cap] 26)).alloc (.cells #[.int .i64 0, .slice none 0 0] 35)).drew w.heap.size 26 #[.int .i64 f, .slice E cs.length cap] ∧ Below w.heap.size w ((w.alloc (.cells #[.int .i64 f, .slice E cs.length cap] 26)).alloc (.cells #[.int .i64 0, .slice none 0 0] 35)).drew := ⟨hB0, hbw.drew⟩
  have hst1 : Blk ((w.alloc (.cells #[.int .i64 f, .slice E cs.length cap] 26)).alloc (.cells #[.int .i64 0, .slice none 0 0] 35)).drew (w.heap.size + 1) 35 #[.int .i64 0, .slice none 0 0] := hB1
  clear hB0 hB1 hbw
  refine wp_region_held_drew (S := (fun W => Blk W w.heap.size 26 #[.int .i64 f, .slice E cs.length cap] ∧ Below w.heap.size w W)) (by kernel_rfl) ?_ (fun hHeld => ?_)
  · exact hst
  refine gen0 (T := fun W => ((fun W => Blk W w.heap.size 26 #[.int .i64 f, .slice E cs.length cap] ∧ Below w.heap.size w W)) W ∧ Blk W (w.heap.size + 1) 35 #[.int .i64 0, .slice none 0 0] ∧ True) ?_ (fun wq1 hT => ?_)
  · exact ⟨by (first | exact hst | exact ⟨hHeld.1.below hb9, bel_call hHeld.2 hb9⟩ | exact ⟨Blk.far2 hHeld.1 (by omega) _ _, bel_set (bel_set hHeld.2 (by dsimp only; omega) _) (by dsimp only; omega) _⟩), by (first | assumption | exact f0.below hb9 | exact ho9.more f0.lt | exact Blk.set2 f0 _ _ | exact Own.set2 f1 (by omega) _ _), trivial⟩
  (try clear f0 f1 f2 f3 f4 f5 f6 f7 f8 f9 f10 f11)
  obtain ⟨hHeld, f0, -⟩ := hT
  refine wpAnyH_take (i := 0) (oi := ⟨some 3, _, _, _, _, _⟩) (v := ?_) rfl (by kernel_rfl) (by kernel_rfl) (by kernel_rfl) (fun _ _ _ h => h) (Or.inl ⟨by kernel_rfl, ?_⟩) (by assumption) ?_
  rotate_left
  · (intro wS hSw; (try dsimp only at hSw); obtain ⟨q0, q1, _, _⟩ := hSw.1.two; clear hSw; go_simp; (try with_reducible rfl))
  (try simp only [Act.put, List.setIfInBounds_toArray, List.set_cons_zero, List.set_cons_succ])
  refine wpAnyH_take (i := 1) (oi := ⟨some 4, _, _, _, _, _⟩) (v := ?_) rfl (by kernel_rfl) (by kernel_rfl) (by kernel_rfl) (fun _ _ _ h => h) (Or.inl ⟨by kernel_rfl, ?_⟩) (by assumption) ?_
  rotate_left
  · (intro wS hSw; (try dsimp only at hSw); obtain ⟨q0, q1, _, _⟩ := hSw.1.two; clear hSw; go_simp; (try with_reducible rfl))
  (try simp only [Act.put, List.setIfInBounds_toArray, List.set_cons_zero, List.set_cons_succ])
  refine wpAnyH_take (i := 2) (oi := ⟨some 5, _, _, _, _, _⟩) (v := ?_) rfl (by kernel_rfl) (by kernel_rfl) (by kernel_rfl) (fun _ _ _ h => h) (Or.inl ⟨by kernel_rfl, ?_⟩) (by assumption) ?_
  rotate_left
  · (intro wS hSw; (try dsimp only at hSw); obtain ⟨q0, q1, _, _⟩ := hSw.1.two; clear hSw; go_simp; (try with_reducible rfl))
  (try simp only [Act.put, List.setIfInBounds_toArray, List.set_cons_zero, List.set_cons_succ])
  refine wpAnyH_take (i := 3) (oi := ⟨some 6, _, _, _, _, _⟩) (v := ?_) rfl (by kernel_rfl) (by kernel_rfl) (by kernel_rfl) (fun _ _ _ h => h) (Or.inl ⟨by kernel_rfl, ?_⟩) (by assumption) ?_
  rotate_left
  · (intro wS hSw; (try dsimp only at hSw); obtain ⟨q0, q1, _, _⟩ := hSw.1.two; clear hSw; go_simp; (try with_reducible rfl))
  (try simp only [Act.put, List.setIfInBounds_toArray, List.set_cons_zero, List.set_cons_succ])
  refine wpAnyH_ready (rs := [4]) (by kernel_rfl) (by simp) ?_
  refine AllReadyH.cons (o := ⟨some 7, _, _, _, _, _⟩) rfl (fun K hK => ?_) AllReadyH.nil
  go_simp
  (refine (Documents_own cs _ (h.below hHeld.2) hl).mono ?_; rintro e w9 ⟨A9, c9, m9, rfl, hm9, ho9, hb9⟩)
  go_wp2_with fail
  refine hK.out _ _ ?_ (fun _ => ?_)
  · ((try dsimp only); (first | exact hst | exact ⟨hHeld.1.below hb9, bel_call hHeld.2 hb9⟩ | exact ⟨Blk.far2 hHeld.1 (by omega) _ _, bel_set (bel_set hHeld.2 (by dsimp only; omega) _) (by dsimp only; omega) _⟩))
  clear hK K
  (try simp only [Act.put, List.setIfInBounds_toArray, List.set_cons_zero, List.set_cons_succ])
  refine gen0 (T := fun W => ((fun W => Blk W w.heap.size 26 #[.int .i64 f, .slice E cs.length cap] ∧ Below w.heap.size w W)) W ∧ Blk W (w.heap.size + 1) 35 #[.int .i64 0, .slice none 0 0] ∧ Own W (w.heap.size + 2) 112 2 A9 m9.length c9 (m9.flatMap df) ∧ True) ?_ (fun wq2 hT => ?_)
  · exact ⟨by (first | exact hst | exact ⟨hHeld.1.below hb9, bel_call hHeld.2 hb9⟩ | exact ⟨Blk.far2 hHeld.1 (by omega) _ _, bel_set (bel_set hHeld.2 (by dsimp only; omega) _) (by dsimp only; omega) _⟩), by (first | assumption | exact f0.below hb9 | exact ho9.more f0.lt | exact Blk.set2 f0 _ _ | exact Own.set2 f1 (by omega) _ _), by (first | assumption | exact f0.below hb9 | exact ho9.more f0.lt | exact Blk.set2 f0 _ _ | exact Own.set2 f1 (by omega) _ _), trivial⟩
  (try clear f0 f1 f2 f3 f4 f5 f6 f7 f8 f9 f10 f11)
  obtain ⟨hHeld, f0, f1, -⟩ := hT
  refine wpAnyH_take (i := 5) (oi := ⟨some 8, _, _, _, _, _⟩) (v := ?_) rfl (by kernel_rfl) (by kernel_rfl) (by kernel_rfl) (fun _ _ _ h => h) (Or.inl ⟨by kernel_rfl, ?_⟩) (by assumption) ?_
  rotate_left
  · (intro wS hSw; (try dsimp only at hSw); obtain ⟨q0, q1, _, _⟩ := hSw.1.two; clear hSw; go_simp; (try with_reducible rfl))
  (try simp only [Act.put, List.setIfInBounds_toArray, List.set_cons_zero, List.set_cons_succ])
  refine wpAnyH_ready (rs := [6]) (by kernel_rfl) (by simp) ?_
  refine AllReadyH.cons (o := ⟨none, _, _, _, _, _⟩) rfl (fun K hK => ?_) AllReadyH.nil
  obtain ⟨s0, s1, sf0, sf1⟩ := f0.two
  go_simp
  refine hK.out _ _ ?_ (fun _ => ?_)
  · ((try dsimp only); (first | exact hst | exact ⟨hHeld.1.below hb9, bel_call hHeld.2 hb9⟩ | exact ⟨Blk.far2 hHeld.1 (by omega) _ _, bel_set (bel_set hHeld.2 (by dsimp only; omega) _) (by dsimp only; omega) _⟩))
  clear hK K
  (try simp only [Act.put, List.setIfInBounds_toArray, List.set_cons_zero, List.set_cons_succ])
  refine gen0 (T := fun W => ((fun W => Blk W w.heap.size 26 #[.int .i64 f, .slice E cs.length cap] ∧ Below w.heap.size w W)) W ∧ Own W (w.heap.size + 2) 112 2 A9 m9.length c9 (m9.flatMap df) ∧ Blk W (w.heap.size + 1) 35 #[.int .i64 f, .slice A9 m9.length c9] ∧ True) ?_ (fun wq3 hT => ?_)
  · exact ⟨by (first | exact hst | exact ⟨hHeld.1.below hb9, bel_call hHeld.2 hb9⟩ | exact ⟨Blk.far2 hHeld.1 (by omega) _ _, bel_set (bel_set hHeld.2 (by dsimp only; omega) _) (by dsimp only; omega) _⟩), by (first | assumption | exact f0.below hb9 | exact ho9.more f0.lt | exact Blk.set2 f0 _ _ | exact Own.set2 f1 (by omega) _ _), by (first | assumption | exact f0.below hb9 | exact ho9.more f0.lt | exact Blk.set2 f0 _ _ | exact Own.set2 f1 (by omega) _ _), trivial⟩
  (try clear f0 f1 f2 f3 f4 f5 f6 f7 f8 f9 f10 f11)
  obtain ⟨hHeld, f0, f1, -⟩ := hT
  refine wpAnyH_done (by kernel_rfl) ?_ _
  go_wp2_with fail
  exact bodyPost_ret (res_rg1 rfl rfl (g := w.heap.size + 1) f1) rfl ⟨A9, c9, m9, rfl, hm9, Own.more f0 (by omega), hHeld.2⟩

theorem Blk.far4 {w : World} {g g' : Nat} {t : TypeId} {cs : Array Value} (h : Blk w g t cs) (hne : g ≠ g') (x y z u : Value) : Blk ((((w.setCell ⟨g', 0, none⟩ x).setCell ⟨g', 1, none⟩ y).setCell ⟨g', 2, none⟩ z).setCell ⟨g', 3, none⟩ u) g t cs := (((h.far hne x).far hne y).far hne z).far hne u
theorem st4 {w W : World} {t : TypeId} {cs : Array Value} (h : Blk W w.heap.size t cs ∧ Below w.heap.size w W) (x y z u : Value) : Blk ((((W.setCell ⟨w.heap.size + 1, 0, none⟩ x).setCell ⟨w.heap.size + 1, 1, none⟩ y).setCell ⟨w.heap.size + 1, 2, none⟩ z).setCell ⟨w.heap.size + 1, 3, none⟩ u) w.heap.size t cs ∧ Below w.heap.size w ((((W.setCell ⟨w.heap.size + 1, 0, none⟩ x).setCell ⟨w.heap.size + 1, 1, none⟩ y).setCell ⟨w.heap.size + 1, 2, none⟩ z).setCell ⟨w.heap.size + 1, 3, none⟩ u) :=
  ⟨Blk.far4 h.1 (by omega) _ _ _ _, bel_set4 h.2 (by omega) _ _ _ _⟩
theorem own4 {w : World} {n : Nat} {e : TypeId} {size k c : Nat} {A : Option Addr} {xs : List Value} (h : Own w (n + 2) e size A k c xs) (x y z u : Value) : Own ((((w.setCell ⟨n + 1, 0, none⟩ x).setCell ⟨n + 1, 1, none⟩ y).setCell ⟨n + 1, 2, none⟩ z).setCell ⟨n + 1, 3, none⟩ u) (n + 2) e size A k c xs := Own.set4 h (by omega) x y z u
set_option maxRecDepth 100000 in
set_option maxHeartbeats 1000000 in
theorem Doc23_any {E : Option Addr} {cap : Nat} (x t f : Int) (cs : List CeV) (w : World) (h : SlC w E cap cs) (hl : cs.length ≤ 1000000) :
    Calls Tryz.prog 11 #[pcv x t f E cs.length cap] w fun e w' => ∃ A c m, e = .returned (pcv x t f A (List.length m) c) ∧ Hid (m = cs.map ceOf) ∧ SlD w' A c m ∧ Below w.heap.size w w' := by
  have hB0 := (Blk.new w 28 #[.int .i64 x, .int .i64 t, .int .i64 f, .slice E cs.length cap]).alloc (.cells #[.int .i64 0, .int .i64 0, .int .i64 0, .slice none 0 0] 37)
  have hB1 := Blk.newAt (w := w.alloc (.cells #[.int .i64 x, .int .i64 t, .int .i64 f, .slice E cs.length cap] 28)) (g := w.heap.size + 1) (by simp) 37 #[.int .i64 0, .int .i64 0, .int .i64 0, .slice none 0 0]
  have hbw := bel_alloc (below_new w (.cells #[.int .i64 x, .int .i64 t, .int .i64 f, .slice E cs.length cap] 28)) (.cells #[.int .i64 0, .int .i64 0, .int .i64 0, .slice none 0 0] 37)
  go_enter Tryz.func11, Tryz.ntmps11
  go_upto_region 1 with (fail)
  generalize hWe : (w.alloc (.cells #[.int .i64 x, .int .i64 t, .int .i64 f, .slice E cs.length cap] 28)).alloc (.cells #[.int .i64 0, .int .i64 0, .int .i64 0, .slice none 0 0] 37) = w0 at *
  clear hWe
  have hst : Blk w0.drew w.heap.size 28 #[.int .i64 x, .int .i64 t, .int .i64 f, .slice E cs.length cap] ∧ Below w.heap.size w w0.drew := ⟨hB0, hbw.drew⟩
  have hst1 : Blk w0.drew (w.heap.size + 1) 37 #[.int .i64 0, .int .i64 0, .int .i64 0, .slice none 0 0] := hB1
  clear hB0 hB1 hbw
  refine wp_region_held_drew (S := (fun W => Blk W w.heap.size 28 #[.int .i64 x, .int .i64 t, .int .i64 f, .slice E cs.length cap] ∧ Below w.heap.size w W)) (by kernel_rfl) ?_ (fun hHeld => ?_)
  · exact hst
  refine gen0 (T := fun W => ((fun W => Blk W w.heap.size 28 #[.int .i64 x, .int .i64 t, .int .i64 f, .slice E cs.length cap] ∧ Below w.heap.size w W)) W ∧ Blk W (w.heap.size + 1) 37 #[.int .i64 0, .int .i64 0, .int .i64 0, .slice none 0 0] ∧ True) ?_ (fun wq1 hT => ?_)
  · exact ⟨by (first | with_reducible exact hst | with_reducible exact ⟨hHeld.1.below hb9, bel_call hHeld.2 hb9⟩ | with_reducible exact st4 hHeld _ _ _ _), by (first | with_reducible assumption | with_reducible exact f0.below hb9 | with_reducible exact Blk.set4 f0 _ _ _ _ | with_reducible exact own4 f1 _ _ _ _ | exact ho9.more f0.lt), trivial⟩
  (try clear f0 f1 f2 f3 f4 f5 f6 f7 f8 f9 f10 f11)
  obtain ⟨hHeld, f0, -⟩ := hT
  refine wpAnyH_take (i := 0) (oi := ⟨some 3, _, _, _, _, _⟩) (v := ?_) rfl (by kernel_rfl) (by kernel_rfl) (by kernel_rfl) (fun _ _ _ h => h) (Or.inl ⟨by kernel_rfl, ?_⟩) (by assumption) ?_
  rotate_left
  · (intro wS hSw; (try dsimp only at hSw); obtain ⟨q0, q1, q2, q3, _⟩ := hSw.1.four; clear hSw; go_simp; (try with_reducible rfl))
  (try simp only [Act.put, List.setIfInBounds_toArray, List.set_cons_zero, List.set_cons_succ])
  refine wpAnyH_take (i := 1) (oi := ⟨some 4, _, _, _, _, _⟩) (v := ?_) rfl (by kernel_rfl) (by kernel_rfl) (by kernel_rfl) (fun _ _ _ h => h) (Or.inl ⟨by kernel_rfl, ?_⟩) (by assumption) ?_
  rotate_left
  · (intro wS hSw; (try dsimp only at hSw); obtain ⟨q0, q1, q2, q3, _⟩ := hSw.1.four; clear hSw; go_simp; (try with_reducible rfl))
  (try simp only [Act.put, List.setIfInBounds_toArray, List.set_cons_zero, List.set_cons_succ])
  refine wpAnyH_take (i := 2) (oi := ⟨some 5, _, _, _, _, _⟩) (v := ?_) rfl (by kernel_rfl) (by kernel_rfl) (by kernel_rfl) (fun _ _ _ h => h) (Or.inl ⟨by kernel_rfl, ?_⟩) (by assumption) ?_
  rotate_left
  · (intro wS hSw; (try dsimp only at hSw); obtain ⟨q0, q1, q2, q3, _⟩ := hSw.1.four; clear hSw; go_simp; (try with_reducible rfl))
  (try simp only [Act.put, List.setIfInBounds_toArray, List.set_cons_zero, List.set_cons_succ])
  refine wpAnyH_take (i := 3) (oi := ⟨some 6, _, _, _, _, _⟩) (v := ?_) rfl (by kernel_rfl) (by kernel_rfl) (by kernel_rfl) (fun _ _ _ h => h) (Or.inl ⟨by kernel_rfl, ?_⟩) (by assumption) ?_
  rotate_left
  · (intro wS hSw; (try dsimp only at hSw); obtain ⟨q0, q1, q2, q3, _⟩ := hSw.1.four; clear hSw; go_simp; (try with_reducible rfl))
  (try simp only [Act.put, List.setIfInBounds_toArray, List.set_cons_zero, List.set_cons_succ])
  refine wpAnyH_take (i := 4) (oi := ⟨some 7, _, _, _, _, _⟩) (v := ?_) rfl (by kernel_rfl) (by kernel_rfl) (by kernel_rfl) (fun _ _ _ h => h) (Or.inl ⟨by kernel_rfl, ?_⟩) (by assumption) ?_
  rotate_left
  · (intro wS hSw; (try dsimp only at hSw); obtain ⟨q0, q1, q2, q3, _⟩ := hSw.1.four; clear hSw; go_simp; (try with_reducible rfl))
  (try simp only [Act.put, List.setIfInBounds_toArray, List.set_cons_zero, List.set_cons_succ])
  refine wpAnyH_take (i := 5) (oi := ⟨some 8, _, _, _, _, _⟩) (v := ?_) rfl (by kernel_rfl) (by kernel_rfl) (by kernel_rfl) (fun _ _ _ h => h) (Or.inl ⟨by kernel_rfl, ?_⟩) (by assumption) ?_
  rotate_left
  · (intro wS hSw; (try dsimp only at hSw); obtain ⟨q0, q1, q2, q3, _⟩ := hSw.1.four; clear hSw; go_simp; (try with_reducible rfl))
  (try simp only [Act.put, List.setIfInBounds_toArray, List.set_cons_zero, List.set_cons_succ])
  refine wpAnyH_ready (rs := [6]) (by kernel_rfl) (by simp) ?_
  refine AllReadyH.cons (o := ⟨some 9, _, _, _, _, _⟩) rfl (fun K hK => ?_) AllReadyH.nil
  go_simp
  (refine (Doc14_own f cs _ (h.below hHeld.2) hl).mono ?_; rintro e w9 ⟨A9, c9, m9, rfl, hm9, ho9, hb9⟩)
  go_wp2_with fail
  refine hK.out _ _ ?_ (fun _ => ?_)
  · ((try dsimp only); (first | with_reducible exact hst | with_reducible exact ⟨hHeld.1.below hb9, bel_call hHeld.2 hb9⟩ | with_reducible exact st4 hHeld _ _ _ _))
  clear hK K
  (try simp only [Act.put, List.setIfInBounds_toArray, List.set_cons_zero, List.set_cons_succ])
  refine gen0 (T := fun W => ((fun W => Blk W w.heap.size 28 #[.int .i64 x, .int .i64 t, .int .i64 f, .slice E cs.length cap] ∧ Below w.heap.size w W)) W ∧ Blk W (w.heap.size + 1) 37 #[.int .i64 0, .int .i64 0, .int .i64 0, .slice none 0 0] ∧ Own W (w.heap.size + 2) 112 2 A9 m9.length c9 (m9.flatMap df) ∧ True) ?_ (fun wq2 hT => ?_)
  · exact ⟨by (first | with_reducible exact hst | with_reducible exact ⟨hHeld.1.below hb9, bel_call hHeld.2 hb9⟩ | with_reducible exact st4 hHeld _ _ _ _), by (first | with_reducible assumption | with_reducible exact f0.below hb9 | with_reducible exact Blk.set4 f0 _ _ _ _ | with_reducible exact own4 f1 _ _ _ _ | exact ho9.more f0.lt), by (first | with_reducible assumption | with_reducible exact f0.below hb9 | with_reducible exact Blk.set4 f0 _ _ _ _ | with_reducible exact own4 f1 _ _ _ _ | exact ho9.more f0.lt), trivial⟩
  (try clear f0 f1 f2 f3 f4 f5 f6 f7 f8 f9 f10 f11)
  obtain ⟨hHeld, f0, f1, -⟩ := hT
  refine wpAnyH_take (i := 7) (oi := ⟨some 10, _, _, _, _, _⟩) (v := ?_) rfl (by kernel_rfl) (by kernel_rfl) (by kernel_rfl) (fun _ _ _ h => h) (Or.inl ⟨by kernel_rfl, ?_⟩) (by assumption) ?_
  rotate_left
  · (intro wS hSw; (try dsimp only at hSw); obtain ⟨q0, q1, q2, q3, _⟩ := hSw.1.four; clear hSw; go_simp; (try with_reducible rfl))
  (try simp only [Act.put, List.setIfInBounds_toArray, List.set_cons_zero, List.set_cons_succ])
  refine wpAnyH_ready (rs := [8]) (by kernel_rfl) (by simp) ?_
  refine AllReadyH.cons (o := ⟨none, _, _, _, _, _⟩) rfl (fun K hK => ?_) AllReadyH.nil
  obtain ⟨s0, s1, s2, s3, sf0, sf1, sf2, sf3⟩ := f0.four
  go_simp
  refine hK.out _ _ ?_ (fun _ => ?_)
  · ((try dsimp only); (first | with_reducible exact hst | with_reducible exact ⟨hHeld.1.below hb9, bel_call hHeld.2 hb9⟩ | with_reducible exact st4 hHeld _ _ _ _))
  clear hK K
  (try simp only [Act.put, List.setIfInBounds_toArray, List.set_cons_zero, List.set_cons_succ])
  refine gen0 (T := fun W => ((fun W => Blk W w.heap.size 28 #[.int .i64 x, .int .i64 t, .int .i64 f, .slice E cs.length cap] ∧ Below w.heap.size w W)) W ∧ Own W (w.heap.size + 2) 112 2 A9 m9.length c9 (m9.flatMap df) ∧ Blk W (w.heap.size + 1) 37 #[.int .i64 x, .int .i64 t, .int .i64 f, .slice A9 m9.length c9] ∧ True) ?_ (fun wq3 hT => ?_)
  · exact ⟨by (first | with_reducible exact hst | with_reducible exact ⟨hHeld.1.below hb9, bel_call hHeld.2 hb9⟩ | with_reducible exact st4 hHeld _ _ _ _), by (first | with_reducible assumption | with_reducible exact f0.below hb9 | with_reducible exact Blk.set4 f0 _ _ _ _ | with_reducible exact own4 f1 _ _ _ _ | exact ho9.more f0.lt), by (first | with_reducible assumption | with_reducible exact f0.below hb9 | with_reducible exact Blk.set4 f0 _ _ _ _ | with_reducible exact own4 f1 _ _ _ _ | exact ho9.more f0.lt), trivial⟩
  (try clear f0 f1 f2 f3 f4 f5 f6 f7 f8 f9 f10 f11)
  obtain ⟨hHeld, f0, f1, -⟩ := hT
  refine wpAnyH_done (by kernel_rfl) ?_ _
  go_wp2_with fail
  exact bodyPost_ret (res_rpc1 rfl rfl (g := w.heap.size + 1) f1) rfl ⟨A9, c9, m9, rfl, hm9, f0.sl, hHeld.2⟩
set_option maxRecDepth 100000 in
set_option maxHeartbeats 1000000 in
theorem rPSame_any {E G : Option Addr} {cap cap2 : Nat} (x t f x2 t2 f2 : Int) (cs ds : List Ce) (w : World) (h : SlD w E cap cs) (h2 : SlD w G cap2 ds) :
    Calls Tryz.prog 10 #[pcv x t f E cs.length cap, pcv x2 t2 f2 G ds.length cap2] w fun e w' => e = .returned (.bool (psame (x, t, f, cs) (x2, t2, f2, ds))) ∧ Below w.heap.size w w' := by
  have hbb := bel_alloc (below_new w (.cells #[.int .i64 x, .int .i64 t, .int .i64 f, .slice E cs.length cap] 37)) (.cells #[.int .i64 x2, .int .i64 t2, .int .i64 f2, .slice G ds.length cap2] 37)
  have hne := fun h => Lib.hid (psame_ne (p := (x, t, f, cs)) (q := (x2, t2, f2, ds)) h)
  dsimp only at hne
  cases h1 : x == x2 with
  | false =>
    have hr := hne (.inl h1)
    clear hne
    go_enter Tryz.func10, Tryz.ntmps10
    go_wp2_with fail
    go_ret
    exact ⟨by rw [hr.out]; rfl, hbb⟩
  | true =>
    cases h3 : t == t2 with
    | false =>
      have hr := hne (.inr h3)
      clear hne
      go_enter Tryz.func10, Tryz.ntmps10
      go_wp2_with fail
      go_ret
      exact ⟨by rw [hr.out]; rfl, hbb⟩
    | true =>
      obtain rfl : x = x2 := by simpa using h1
      obtain rfl : t = t2 := by simpa using h3
      have hr := Lib.hid (psame_eq (x := x) (t := t) (f := f) (f2 := f2) (l := cs) (m := ds))
      clear hne
      go_enter Tryz.func10, Tryz.ntmps10
      go_wp2_with fail
      refine (rSSame_any f f2 cs ds _ (Sl.below h hbb) (Sl.below h2 hbb)).mono ?_
      rintro e w2 ⟨rfl, hb2⟩
      go_wp2_with fail
      go_ret
      exact ⟨by rw [hr.out]; rfl, bel_call hbb hb2⟩
theorem eq_rcq (a b : Int) (w : World) : (binOp .eql 44 (.agg #[.int .i64 a, .int .i64 b]) (.agg #[.int .i64 a, .int .i64 b])).run Tryz.prog w = .ok (.bool true) w := by
  simp only [binOp]
  simp [go_sem, Op.equal, Op.maxDepth, Tryz.underlying44, Tryz.underlying3]
theorem pcTake_len (b : List UInt8) : (pcTake b).1.2.2.2.length ≤ 64 := by
  unfold pcTake
  split
  · simp
  · unfold pcEnd
    split
    · simp
    · split
      · simp
      · rename_i h
        obtain ⟨_, _, _, _, h5⟩ := pchk_ok (Decidable.byContradiction h)
        obtain ⟨_, _, h3, _⟩ := schk_ok h5
        exact h3
set_option maxRecDepth 100000 in
set_option maxHeartbeats 1000000 in
theorem ptakes_early {A : Option Addr} {c : Nat} {b : List UInt8} (w : World) (h : SlB w A c b) (hl : 6000 < b.length) :
    Calls Tryz.prog 3 #[.slice A b.length c] w fun e w' => e = .returned (.bool true) ∧ Below w.heap.size w w' := by
  have hm := h.len_le
  unfold maxLen at hm
  have hlI : (6000 : Int) < (b.length : Int) := by omega
  go_enter Tryz.func3, Tryz.ntmps3
  go_wp2_with fail
  refine (alive23_any _).mono ?_
  rintro e w1 ⟨rfl, hb1⟩
  go_wp2_with fail
  go_ret
  exact ⟨rfl, hb1⟩
set_option maxRecDepth 100000 in
set_option maxHeartbeats 4000000 in
theorem ptakes_walk {A : Option Addr} {c : Nat} {b : List UInt8} (w : World) (h : SlB w A c b) (hl : b.length ≤ 6000) :
    Calls Tryz.prog 3 #[.slice A b.length c] w fun e w' => e = .returned (.bool true) ∧ Below w.heap.size w w' := by
  have hlI : (b.length : Int) ≤ 6000 := by omega
  have hlM : b.length ≤ 1000000 := by omega
  go_enter Tryz.func3, Tryz.ntmps3
  go_wp2_with fail
  refine (alive23_any _).mono ?_
  rintro e w1 ⟨rfl, hw⟩
  have hT := fun W hh => PTake_any A c b W hh hlM
  have hRT := fun W hh => rPTake_any A c b W hh hlM
  have hQ := fun W hh => QTake_any A c b W hh hlM
  have hRQ := fun W hh => rQTake_any A c b W hh hlM
  have hPK := fun W hh => PKind_any A c b W hh hlM
  have hpl := pcTake_len b
  have HKD : Hid (pcKind b = if (pcTake b).2 = 0 then 1 else if (qcTake b).2 = 0 then 2 else 0) := (rfl : _ = _)
  generalize pcTake b = P at *
  generalize qcTake b = Q at *
  generalize pcKind b = kd at *
  obtain ⟨⟨p1, p2, p3, p4⟩, pe⟩ := P
  obtain ⟨⟨r1, r2⟩, qe⟩ := Q
  unfold GivesPcN at hT
  unfold RGivesPc at hRT
  unfold GivesRc at hQ
  unfold RGivesRc at hRQ
  dsimp only at hT hRT hQ hRQ HKD hpl
  have HT := Lib.hid hT
  have HRT := Lib.hid hRT
  have HQ := Lib.hid hQ
  have HRQ := Lib.hid hRQ
  have HPK := Lib.hid hPK
  clear hT hRT hQ hRQ hPK
  go_wp2_with fail
  refine (HT.out _ (h.below hw)).mono ?_
  rintro e w2 ⟨A2, c2, m2, rfl, hm2, hN2, hb2⟩
  replace hw := bel_call hw hb2
  clear hb2
  go_wp2_with fail
  have hX := Blk.new w2 28 #[.int .i64 p1, .int .i64 p2, .int .i64 p3, .slice A2 m2.length c2]
  have hbx := below_new w2 (.cells #[.int .i64 p1, .int .i64 p2, .int .i64 p3, .slice A2 m2.length c2] 28)
  have hS2 := hN2.slc.below hbx
  replace hw := bel_call hw hbx
  clear hbx hN2
  generalize hWe : w2.alloc (.cells #[.int .i64 p1, .int .i64 p2, .int .i64 p3, .slice A2 m2.length c2] 28) = w3 at *
  clear hWe
  generalize hge : w2.heap.size = gx at *
  clear hge
  refine (HRT.out _ (h.below hw)).mono ?_
  rintro e w4 ⟨A4, c4, m4, rfl, hm4, hO4, hb4⟩
  replace hw := bel_call hw hb4
  replace hX := hX.below hb4
  replace hS2 := SlC.below hS2 hb4
  clear hb4
  go_wp2_with fail
  have hY := Blk.new w4 37 #[.int .i64 p1, .int .i64 p2, .int .i64 p3, .slice A4 m4.length c4]
  have hbx := below_new w4 (.cells #[.int .i64 p1, .int .i64 p2, .int .i64 p3, .slice A4 m4.length c4] 37)
  replace hX := hX.below hbx
  replace hS2 := SlC.below hS2 hbx
  have hD4 : SlD _ A4 c4 m4 := Sl.below hO4.sl hbx
  replace hw := bel_call hw hbx
  clear hbx hO4
  generalize hWe : w4.alloc (.cells #[.int .i64 p1, .int .i64 p2, .int .i64 p3, .slice A4 m4.length c4] 37) = w5 at *
  clear hWe
  generalize hge : w4.heap.size = gy at *
  clear hge
  refine (HQ.out _ (h.below hw)).mono ?_
  rintro e w6 ⟨rfl, hb6⟩
  replace hw := bel_call hw hb6
  replace hX := hX.below hb6
  replace hY := hY.below hb6
  replace hS2 := SlC.below hS2 hb6
  replace hD4 : SlD _ A4 c4 m4 := Sl.below hD4 hb6
  clear hb6
  go_wp2_with fail
  have hZ := Blk.new w6 41 #[.int .i64 r1, .int .i64 r2]
  have hbx := below_new w6 (.cells #[.int .i64 r1, .int .i64 r2] 41)
  replace hX := hX.below hbx
  replace hY := hY.below hbx
  replace hS2 := SlC.below hS2 hbx
  replace hD4 : SlD _ A4 c4 m4 := Sl.below hD4 hbx
  replace hw := bel_call hw hbx
  clear hbx
  generalize hWe : w6.alloc (.cells #[.int .i64 r1, .int .i64 r2] 41) = w7 at *
  clear hWe
  generalize hge : w6.heap.size = gz at *
  clear hge
  refine (HRQ.out _ (h.below hw)).mono ?_
  rintro e w8 ⟨rfl, hb8⟩
  replace hw := bel_call hw hb8
  replace hX := hX.below hb8
  replace hY := hY.below hb8
  replace hZ := hZ.below hb8
  replace hS2 := SlC.below hS2 hb8
  replace hD4 : SlD _ A4 c4 m4 := Sl.below hD4 hb8
  clear hb8 HT HRT HQ HRQ
  go_upto_region 9 with (fail)
  have hV := Blk.new w8 44 #[.int .i64 r1, .int .i64 r2]
  have hbx := below_new w8 (.cells #[.int .i64 r1, .int .i64 r2] 44)
  replace hX := hX.below hbx
  replace hY := hY.below hbx
  replace hZ := hZ.below hbx
  replace hS2 := SlC.below hS2 hbx
  replace hD4 : SlD _ A4 c4 m4 := Sl.below hD4 hbx
  replace hw := bel_call hw hbx
  clear hbx
  generalize hWe : w8.alloc (.cells #[.int .i64 r1, .int .i64 r2] 44) = w9 at *
  clear hWe
  generalize hge : w8.heap.size = gv at *
  clear hge
  go_upto_if 38 with (fail)
  go_cut [11] (fun s11 wz => s11 = .int .i64 (kd : Nat) ∧ wz = w9)
  case first =>
    have hk := HKD.out
    rcases Decidable.em (pe = 0) with h0 | h0
    · have hb1 : ((pe : Int) == 0) = true := by rw [h0]; rfl
      rw [if_pos h0] at hk
      subst hk
      clear h0 HKD
      go_wp2_with fail
      go_meet
      exact ⟨rfl, rfl⟩
    · have hb1 : ((pe : Int) == 0) = false := by rw [beq_eq_false_iff_ne]; omega
      rw [if_neg h0] at hk
      rcases Decidable.em (qe = 0) with h1 | h1
      · have hb2 : ((qe : Int) == 0) = true := by rw [h1]; rfl
        rw [if_pos h1] at hk
        subst hk
        clear h0 h1 HKD
        go_wp2_with fail
        go_meet
        exact ⟨rfl, rfl⟩
      · have hb2 : ((qe : Int) == 0) = false := by rw [beq_eq_false_iff_ne]; omega
        rw [if_neg h1] at hk
        subst hk
        clear h0 h1 HKD
        go_wp2_with fail
        go_meet
        exact ⟨rfl, rfl⟩
  case rest =>
    obtain ⟨rfl, rfl⟩ := hcut
    clear HKD
    go_upto_region 14 with (fail)
    have hst : Below wc.heap.size wc wc.drew := (Below.refl _ _).drew
    have heq := eq_rcq r1 r2
    have hml : m2.length ≤ 1000000 := by
      have := congrArg List.length hm2.out
      simp only [List.length_map] at this
      omega
    refine wp_region_held_drew (S := (fun W => Below wc.heap.size wc W)) (by kernel_rfl) ?_ (fun hHeld => ?_)
    · exact hst
    refine gen0 (T := fun W => ((fun W => Below wc.heap.size wc W)) W ∧ True) ?_ (fun wq1 hT => ?_)
    · exact ⟨by (first | exact hst | exact hHeld | exact bel_call hHeld hb9 | exact bel_call hHeld hb10 | exact bel_call hHeld hb12), trivial⟩
    (try clear f0 f1 f2 f3 f4 f5 f6 f7 f8 f9 f10 f11)
    obtain ⟨hHeld, -⟩ := hT
    refine wpAnyH_take (i := 0) (oi := ⟨some 41, _, _, _, _, _⟩) (v := ?_) rfl (by kernel_rfl) (by kernel_rfl) (by kernel_rfl) (fun _ _ _ h => h) (Or.inl ⟨by kernel_rfl, ?_⟩) (by assumption) ?_
    rotate_left
    · (intro wS hSw; (try dsimp only at hSw); obtain ⟨q0, q1, q2, q3, _⟩ := (hX.below hSw).four; obtain ⟨p0, p1', p2', p3', _⟩ := (hY.below hSw).four; obtain ⟨z0, z1, _, _⟩ := (hZ.below hSw).two; obtain ⟨v0, v1, _, _⟩ := (hV.below hSw).two; clear hSw; go_simp; (try with_reducible rfl))
    (try simp only [Act.put, List.setIfInBounds_toArray, List.set_cons_zero, List.set_cons_succ])
    refine wpAnyH_take (i := 2) (oi := ⟨some 43, _, _, _, _, _⟩) (v := ?_) rfl (by kernel_rfl) (by kernel_rfl) (by kernel_rfl) (fun _ _ _ h => h) (Or.inl ⟨by kernel_rfl, ?_⟩) (by assumption) ?_
    rotate_left
    · (intro wS hSw; (try dsimp only at hSw); obtain ⟨q0, q1, q2, q3, _⟩ := (hX.below hSw).four; obtain ⟨p0, p1', p2', p3', _⟩ := (hY.below hSw).four; obtain ⟨z0, z1, _, _⟩ := (hZ.below hSw).two; obtain ⟨v0, v1, _, _⟩ := (hV.below hSw).two; clear hSw; go_simp; (try with_reducible rfl))
    (try simp only [Act.put, List.setIfInBounds_toArray, List.set_cons_zero, List.set_cons_succ])
    refine wpAnyH_ready (rs := [1]) (by kernel_rfl) (by simp) ?_
    refine AllReadyH.cons (o := ⟨some 42, _, _, _, _, _⟩) rfl (fun K hK => ?_) AllReadyH.nil
    go_simp
    (refine (Doc23_any p1 p2 p3 m2 _ (SlC.below hS2 hHeld) hml).mono ?_; rintro e w9 ⟨A9, c9, m9, rfl, hm9, hs9, hb9⟩)
    go_wp2_with fail
    refine hK.out _ _ ?_ (fun _ => ?_)
    · ((try dsimp only); (first | exact hst | exact hHeld | exact bel_call hHeld hb9 | exact bel_call hHeld hb10 | exact bel_call hHeld hb12))
    clear hK K
    (try simp only [Act.put, List.setIfInBounds_toArray, List.set_cons_zero, List.set_cons_succ])
    refine gen0 (T := fun W => ((fun W => Below wc.heap.size wc W)) W ∧ SlD W A9 c9 m9 ∧ True) ?_ (fun wq2 hT => ?_)
    · exact ⟨by (first | exact hst | exact hHeld | exact bel_call hHeld hb9 | exact bel_call hHeld hb10 | exact bel_call hHeld hb12), by (first | assumption | exact hs9), trivial⟩
    (try clear f0 f1 f2 f3 f4 f5 f6 f7 f8 f9 f10 f11)
    obtain ⟨hHeld, f0, -⟩ := hT
    refine wpAnyH_ready (rs := [3]) (by kernel_rfl) (by simp) ?_
    refine AllReadyH.cons (o := ⟨some 44, _, _, _, _, _⟩) rfl (fun K hK => ?_) AllReadyH.nil
    go_simp
    (refine (rPSame_any p1 p2 p3 p1 p2 p3 m9 m4 _ f0 (Sl.below hD4 hHeld)).mono ?_; rintro e w10 ⟨rfl, hb10⟩; rw [show psame (p1, p2, p3, m9) (p1, p2, p3, m4) = true from by unfold psame; rw [hm9.out, hm2.out, hm4.out]; simp])
    go_wp2_with fail
    refine hK.out _ _ ?_ (fun _ => ?_)
    · ((try dsimp only); (first | exact hst | exact hHeld | exact bel_call hHeld hb9 | exact bel_call hHeld hb10 | exact bel_call hHeld hb12))
    clear hK K
    (try simp only [Act.put, List.setIfInBounds_toArray, List.set_cons_zero, List.set_cons_succ])
    refine gen0 (T := fun W => ((fun W => Below wc.heap.size wc W)) W ∧ True) ?_ (fun wq3 hT => ?_)
    · exact ⟨by (first | exact hst | exact hHeld | exact bel_call hHeld hb9 | exact bel_call hHeld hb10 | exact bel_call hHeld hb12), trivial⟩
    (try clear f0 f1 f2 f3 f4 f5 f6 f7 f8 f9 f10 f11)
    obtain ⟨hHeld, -⟩ := hT
    refine wpAnyH_take (i := 4) (oi := ⟨some 45, _, _, _, _, _⟩) (v := ?_) rfl (by kernel_rfl) (by kernel_rfl) (by kernel_rfl) (fun _ _ _ h => h) (Or.inl ⟨by kernel_rfl, ?_⟩) (by assumption) ?_
    rotate_left
    · (intro wS hSw; (try dsimp only at hSw); obtain ⟨q0, q1, q2, q3, _⟩ := (hX.below hSw).four; obtain ⟨p0, p1', p2', p3', _⟩ := (hY.below hSw).four; obtain ⟨z0, z1, _, _⟩ := (hZ.below hSw).two; obtain ⟨v0, v1, _, _⟩ := (hV.below hSw).two; clear hSw; go_simp; (try with_reducible rfl))
    (try simp only [Act.put, List.setIfInBounds_toArray, List.set_cons_zero, List.set_cons_succ])
    refine wpAnyH_take (i := 5) (oi := ⟨some 46, _, _, _, _, _⟩) (v := ?_) rfl (by kernel_rfl) (by kernel_rfl) (by kernel_rfl) (fun _ _ _ h => h) (Or.inl ⟨by kernel_rfl, ?_⟩) (by assumption) ?_
    rotate_left
    · (intro wS hSw; (try dsimp only at hSw); obtain ⟨q0, q1, q2, q3, _⟩ := (hX.below hSw).four; obtain ⟨p0, p1', p2', p3', _⟩ := (hY.below hSw).four; obtain ⟨z0, z1, _, _⟩ := (hZ.below hSw).two; obtain ⟨v0, v1, _, _⟩ := (hV.below hSw).two; clear hSw; go_simp; (try with_reducible rfl))
    (try simp only [Act.put, List.setIfInBounds_toArray, List.set_cons_zero, List.set_cons_succ])
    refine wpAnyH_take (i := 7) (oi := ⟨some 48, _, _, _, _, _⟩) (v := ?_) rfl (by kernel_rfl) (by kernel_rfl) (by kernel_rfl) (fun _ _ _ h => h) (Or.inl ⟨by kernel_rfl, ?_⟩) (by assumption) ?_
    rotate_left
    · (intro wS hSw; (try dsimp only at hSw); obtain ⟨q0, q1, q2, q3, _⟩ := (hX.below hSw).four; obtain ⟨p0, p1', p2', p3', _⟩ := (hY.below hSw).four; obtain ⟨z0, z1, _, _⟩ := (hZ.below hSw).two; obtain ⟨v0, v1, _, _⟩ := (hV.below hSw).two; clear hSw; go_simp; (try with_reducible rfl))
    (try simp only [Act.put, List.setIfInBounds_toArray, List.set_cons_zero, List.set_cons_succ])
    refine wpAnyH_ready (rs := [6]) (by kernel_rfl) (by simp) ?_
    refine AllReadyH.cons (o := ⟨some 47, _, _, _, _, _⟩) rfl (fun K hK => ?_) AllReadyH.nil
    go_simp
    (refine (num_any _ _).mono ?_; rintro e w11 ⟨rfl, rfl⟩)
    go_wp2_with fail
    refine hK.out _ _ ?_ (fun _ => ?_)
    · ((try dsimp only); (first | exact hst | exact hHeld | exact bel_call hHeld hb9 | exact bel_call hHeld hb10 | exact bel_call hHeld hb12))
    clear hK K
    (try simp only [Act.put, List.setIfInBounds_toArray, List.set_cons_zero, List.set_cons_succ])
    refine gen0 (T := fun W => ((fun W => Below wc.heap.size wc W)) W ∧ True) ?_ (fun wq4 hT => ?_)
    · exact ⟨by (first | exact hst | exact hHeld | exact bel_call hHeld hb9 | exact bel_call hHeld hb10 | exact bel_call hHeld hb12), trivial⟩
    (try clear f0 f1 f2 f3 f4 f5 f6 f7 f8 f9 f10 f11)
    obtain ⟨hHeld, -⟩ := hT
    refine wpAnyH_take (i := 8) (oi := ⟨some 49, _, _, _, _, _⟩) (v := ?_) rfl (by kernel_rfl) (by kernel_rfl) (by kernel_rfl) (fun _ _ _ h => h) (Or.inl ⟨by kernel_rfl, ?_⟩) (by assumption) ?_
    rotate_left
    · (intro wS hSw; (try dsimp only at hSw); obtain ⟨q0, q1, q2, q3, _⟩ := (hX.below hSw).four; obtain ⟨p0, p1', p2', p3', _⟩ := (hY.below hSw).four; obtain ⟨z0, z1, _, _⟩ := (hZ.below hSw).two; obtain ⟨v0, v1, _, _⟩ := (hV.below hSw).two; clear hSw; go_simp; (try with_reducible rfl))
    (try simp only [Act.put, List.setIfInBounds_toArray, List.set_cons_zero, List.set_cons_succ])
    refine wpAnyH_take (i := 9) (oi := ⟨some 50, _, _, _, _, _⟩) (v := ?_) rfl (by kernel_rfl) (by kernel_rfl) (by kernel_rfl) (fun _ _ _ h => h) (Or.inl ⟨by kernel_rfl, ?_⟩) (by assumption) ?_
    rotate_left
    · (intro wS hSw; (try dsimp only at hSw); obtain ⟨q0, q1, q2, q3, _⟩ := (hX.below hSw).four; obtain ⟨p0, p1', p2', p3', _⟩ := (hY.below hSw).four; obtain ⟨z0, z1, _, _⟩ := (hZ.below hSw).two; obtain ⟨v0, v1, _, _⟩ := (hV.below hSw).two; clear hSw; go_simp; (try with_reducible rfl))
    (try simp only [Act.put, List.setIfInBounds_toArray, List.set_cons_zero, List.set_cons_succ])
    refine wpAnyH_take (i := 10) (oi := ⟨some 51, _, _, _, _, _⟩) (v := ?_) rfl (by kernel_rfl) (by kernel_rfl) (by kernel_rfl) (fun _ _ _ h => h) (Or.inl ⟨by kernel_rfl, ?_⟩) (by assumption) ?_
    rotate_left
    · (intro wS hSw; (try dsimp only at hSw); obtain ⟨q0, q1, q2, q3, _⟩ := (hX.below hSw).four; obtain ⟨p0, p1', p2', p3', _⟩ := (hY.below hSw).four; obtain ⟨z0, z1, _, _⟩ := (hZ.below hSw).two; obtain ⟨v0, v1, _, _⟩ := (hV.below hSw).two; clear hSw; go_simp; (try with_reducible rfl))
    (try simp only [Act.put, List.setIfInBounds_toArray, List.set_cons_zero, List.set_cons_succ])
    refine wpAnyH_take (i := 11) (oi := ⟨some 52, _, _, _, _, _⟩) (v := ?_) rfl (by kernel_rfl) (by kernel_rfl) (by kernel_rfl) (fun _ _ _ h => h) (Or.inl ⟨by kernel_rfl, ?_⟩) (by assumption) ?_
    rotate_left
    · (intro wS hSw; (try dsimp only at hSw); obtain ⟨q0, q1, q2, q3, _⟩ := (hX.below hSw).four; obtain ⟨p0, p1', p2', p3', _⟩ := (hY.below hSw).four; obtain ⟨z0, z1, _, _⟩ := (hZ.below hSw).two; obtain ⟨v0, v1, _, _⟩ := (hV.below hSw).two; clear hSw; go_simp; (try with_reducible rfl))
    (try simp only [Act.put, List.setIfInBounds_toArray, List.set_cons_zero, List.set_cons_succ])
    refine wpAnyH_take (i := 12) (oi := ⟨some 53, _, _, _, _, _⟩) (v := ?_) rfl (by kernel_rfl) (by kernel_rfl) (by kernel_rfl) (fun _ _ _ h => h) (Or.inl ⟨by kernel_rfl, ?_⟩) (by assumption) ?_
    rotate_left
    · (intro wS hSw; (try dsimp only at hSw); obtain ⟨q0, q1, q2, q3, _⟩ := (hX.below hSw).four; obtain ⟨p0, p1', p2', p3', _⟩ := (hY.below hSw).four; obtain ⟨z0, z1, _, _⟩ := (hZ.below hSw).two; obtain ⟨v0, v1, _, _⟩ := (hV.below hSw).two; clear hSw; go_simp; (try with_reducible rfl))
    (try simp only [Act.put, List.setIfInBounds_toArray, List.set_cons_zero, List.set_cons_succ])
    refine wpAnyH_take (i := 13) (oi := ⟨some 54, _, _, _, _, _⟩) (v := ?_) rfl (by kernel_rfl) (by kernel_rfl) (by kernel_rfl) (fun _ _ _ h => h) (Or.inl ⟨by kernel_rfl, ?_⟩) (by assumption) ?_
    rotate_left
    · (intro wS hSw; (try dsimp only at hSw); obtain ⟨q0, q1, q2, q3, _⟩ := (hX.below hSw).four; obtain ⟨p0, p1', p2', p3', _⟩ := (hY.below hSw).four; obtain ⟨z0, z1, _, _⟩ := (hZ.below hSw).two; obtain ⟨v0, v1, _, _⟩ := (hV.below hSw).two; clear hSw; go_simp; (try with_reducible rfl))
    (try simp only [Act.put, List.setIfInBounds_toArray, List.set_cons_zero, List.set_cons_succ])
    refine wpAnyH_take (i := 14) (oi := ⟨some 55, _, _, _, _, _⟩) (v := ?_) rfl (by kernel_rfl) (by kernel_rfl) (by kernel_rfl) (fun _ _ _ h => h) (Or.inl ⟨by kernel_rfl, ?_⟩) (by assumption) ?_
    rotate_left
    · (intro wS hSw; (try dsimp only at hSw); obtain ⟨q0, q1, q2, q3, _⟩ := (hX.below hSw).four; obtain ⟨p0, p1', p2', p3', _⟩ := (hY.below hSw).four; obtain ⟨z0, z1, _, _⟩ := (hZ.below hSw).two; obtain ⟨v0, v1, _, _⟩ := (hV.below hSw).two; clear hSw; go_simp; (try with_reducible rfl))
    (try simp only [Act.put, List.setIfInBounds_toArray, List.set_cons_zero, List.set_cons_succ])
    refine wpAnyH_take (i := 15) (oi := ⟨some 56, _, _, _, _, _⟩) (v := ?_) rfl (by kernel_rfl) (by kernel_rfl) (by kernel_rfl) (fun _ _ _ h => h) (Or.inl ⟨by kernel_rfl, ?_⟩) (by assumption) ?_
    rotate_left
    · (intro wS hSw; (try dsimp only at hSw); obtain ⟨q0, q1, q2, q3, _⟩ := (hX.below hSw).four; obtain ⟨p0, p1', p2', p3', _⟩ := (hY.below hSw).four; obtain ⟨z0, z1, _, _⟩ := (hZ.below hSw).two; obtain ⟨v0, v1, _, _⟩ := (hV.below hSw).two; clear hSw; go_simp; (try with_reducible rfl))
    (try simp only [Act.put, List.setIfInBounds_toArray, List.set_cons_zero, List.set_cons_succ])
    refine wpAnyH_take (i := 16) (oi := ⟨some 57, _, _, _, _, _⟩) (v := ?_) rfl (by kernel_rfl) (by kernel_rfl) (by kernel_rfl) (fun _ _ _ h => h) (Or.inl ⟨by kernel_rfl, ?_⟩) (by assumption) ?_
    rotate_left
    · (intro wS hSw; (try dsimp only at hSw); obtain ⟨q0, q1, q2, q3, _⟩ := (hX.below hSw).four; obtain ⟨p0, p1', p2', p3', _⟩ := (hY.below hSw).four; obtain ⟨z0, z1, _, _⟩ := (hZ.below hSw).two; obtain ⟨v0, v1, _, _⟩ := (hV.below hSw).two; clear hSw; go_simp; (try with_reducible rfl))
    (try simp only [Act.put, List.setIfInBounds_toArray, List.set_cons_zero, List.set_cons_succ])
    refine wpAnyH_take (i := 18) (oi := ⟨some 59, _, _, _, _, _⟩) (v := ?_) rfl (by kernel_rfl) (by kernel_rfl) (by kernel_rfl) (fun _ _ _ h => h) (Or.inl ⟨by kernel_rfl, ?_⟩) (by assumption) ?_
    rotate_left
    · (intro wS hSw; (try dsimp only at hSw); obtain ⟨q0, q1, q2, q3, _⟩ := (hX.below hSw).four; obtain ⟨p0, p1', p2', p3', _⟩ := (hY.below hSw).four; obtain ⟨z0, z1, _, _⟩ := (hZ.below hSw).two; obtain ⟨v0, v1, _, _⟩ := (hV.below hSw).two; clear hSw; go_simp; (try with_reducible rfl))
    (try simp only [Act.put, List.setIfInBounds_toArray, List.set_cons_zero, List.set_cons_succ])
    refine wpAnyH_ready (rs := [17]) (by kernel_rfl) (by simp) ?_
    refine AllReadyH.cons (o := ⟨some 58, _, _, _, _, _⟩) rfl (fun K hK => ?_) AllReadyH.nil
    go_simp
    (refine (num_any _ _).mono ?_; rintro e w11 ⟨rfl, rfl⟩)
    go_wp2_with fail
    refine hK.out _ _ ?_ (fun _ => ?_)
    · ((try dsimp only); (first | exact hst | exact hHeld | exact bel_call hHeld hb9 | exact bel_call hHeld hb10 | exact bel_call hHeld hb12))
    clear hK K
    (try simp only [Act.put, List.setIfInBounds_toArray, List.set_cons_zero, List.set_cons_succ])
    refine gen0 (T := fun W => ((fun W => Below wc.heap.size wc W)) W ∧ True) ?_ (fun wq5 hT => ?_)
    · exact ⟨by (first | exact hst | exact hHeld | exact bel_call hHeld hb9 | exact bel_call hHeld hb10 | exact bel_call hHeld hb12), trivial⟩
    (try clear f0 f1 f2 f3 f4 f5 f6 f7 f8 f9 f10 f11)
    obtain ⟨hHeld, -⟩ := hT
    refine wpAnyH_take (i := 19) (oi := ⟨some 60, _, _, _, _, _⟩) (v := ?_) rfl (by kernel_rfl) (by kernel_rfl) (by kernel_rfl) (fun _ _ _ h => h) (Or.inl ⟨by kernel_rfl, ?_⟩) (by assumption) ?_
    rotate_left
    · (intro wS hSw; (try dsimp only at hSw); obtain ⟨q0, q1, q2, q3, _⟩ := (hX.below hSw).four; obtain ⟨p0, p1', p2', p3', _⟩ := (hY.below hSw).four; obtain ⟨z0, z1, _, _⟩ := (hZ.below hSw).two; obtain ⟨v0, v1, _, _⟩ := (hV.below hSw).two; clear hSw; go_simp; (try with_reducible rfl))
    (try simp only [Act.put, List.setIfInBounds_toArray, List.set_cons_zero, List.set_cons_succ])
    refine wpAnyH_take (i := 20) (oi := ⟨some 61, _, _, _, _, _⟩) (v := ?_) rfl (by kernel_rfl) (by kernel_rfl) (by kernel_rfl) (fun _ _ _ h => h) (Or.inl ⟨by kernel_rfl, ?_⟩) (by assumption) ?_
    rotate_left
    · (intro wS hSw; (try dsimp only at hSw); obtain ⟨q0, q1, q2, q3, _⟩ := (hX.below hSw).four; obtain ⟨p0, p1', p2', p3', _⟩ := (hY.below hSw).four; obtain ⟨z0, z1, _, _⟩ := (hZ.below hSw).two; obtain ⟨v0, v1, _, _⟩ := (hV.below hSw).two; clear hSw; go_simp; (try with_reducible rfl))
    (try simp only [Act.put, List.setIfInBounds_toArray, List.set_cons_zero, List.set_cons_succ])
    refine wpAnyH_take (i := 21) (oi := ⟨some 62, _, _, _, _, _⟩) (v := ?_) rfl (by kernel_rfl) (by kernel_rfl) (by kernel_rfl) (fun _ _ _ h => h) (Or.inl ⟨by kernel_rfl, ?_⟩) (by assumption) ?_
    rotate_left
    · (intro wS hSw; (try dsimp only at hSw); obtain ⟨q0, q1, q2, q3, _⟩ := (hX.below hSw).four; obtain ⟨p0, p1', p2', p3', _⟩ := (hY.below hSw).four; obtain ⟨z0, z1, _, _⟩ := (hZ.below hSw).two; obtain ⟨v0, v1, _, _⟩ := (hV.below hSw).two; clear hSw; go_simp; (try with_reducible rfl))
    (try simp only [Act.put, List.setIfInBounds_toArray, List.set_cons_zero, List.set_cons_succ])
    refine wpAnyH_take (i := 22) (oi := ⟨some 63, _, _, _, _, _⟩) (v := ?_) rfl (by kernel_rfl) (by kernel_rfl) (by kernel_rfl) (fun _ _ _ h => h) (Or.inl ⟨by kernel_rfl, ?_⟩) (by assumption) ?_
    rotate_left
    · (intro wS hSw; (try dsimp only at hSw); obtain ⟨q0, q1, q2, q3, _⟩ := (hX.below hSw).four; obtain ⟨p0, p1', p2', p3', _⟩ := (hY.below hSw).four; obtain ⟨z0, z1, _, _⟩ := (hZ.below hSw).two; obtain ⟨v0, v1, _, _⟩ := (hV.below hSw).two; clear hSw; go_simp; (try with_reducible rfl))
    (try simp only [Act.put, List.setIfInBounds_toArray, List.set_cons_zero, List.set_cons_succ])
    refine wpAnyH_take (i := 24) (oi := ⟨some 65, _, _, _, _, _⟩) (v := ?_) rfl (by kernel_rfl) (by kernel_rfl) (by kernel_rfl) (fun _ _ _ h => h) (Or.inl ⟨by kernel_rfl, ?_⟩) (by assumption) ?_
    rotate_left
    · (intro wS hSw; (try dsimp only at hSw); obtain ⟨q0, q1, q2, q3, _⟩ := (hX.below hSw).four; obtain ⟨p0, p1', p2', p3', _⟩ := (hY.below hSw).four; obtain ⟨z0, z1, _, _⟩ := (hZ.below hSw).two; obtain ⟨v0, v1, _, _⟩ := (hV.below hSw).two; clear hSw; go_simp; (try with_reducible rfl))
    (try simp only [Act.put, List.setIfInBounds_toArray, List.set_cons_zero, List.set_cons_succ])
    refine wpAnyH_ready (rs := [23]) (by kernel_rfl) (by simp) ?_
    refine AllReadyH.cons (o := ⟨some 64, _, _, _, _, _⟩) rfl (fun K hK => ?_) AllReadyH.nil
    go_simp
    (refine (HPK.out _ (h.below (bel_call hw hHeld))).mono ?_; rintro e w12 ⟨rfl, hb12⟩)
    go_wp2_with fail
    refine hK.out _ _ ?_ (fun _ => ?_)
    · ((try dsimp only); (first | exact hst | exact hHeld | exact bel_call hHeld hb9 | exact bel_call hHeld hb10 | exact bel_call hHeld hb12))
    clear hK K
    (try simp only [Act.put, List.setIfInBounds_toArray, List.set_cons_zero, List.set_cons_succ])
    refine gen0 (T := fun W => ((fun W => Below wc.heap.size wc W)) W ∧ True) ?_ (fun wq6 hT => ?_)
    · exact ⟨by (first | exact hst | exact hHeld | exact bel_call hHeld hb9 | exact bel_call hHeld hb10 | exact bel_call hHeld hb12), trivial⟩
    (try clear f0 f1 f2 f3 f4 f5 f6 f7 f8 f9 f10 f11)
    obtain ⟨hHeld, -⟩ := hT
    refine wpAnyH_take (i := 25) (oi := ⟨some 66, _, _, _, _, _⟩) (v := ?_) rfl (by kernel_rfl) (by kernel_rfl) (by kernel_rfl) (fun _ _ _ h => h) (Or.inl ⟨by kernel_rfl, ?_⟩) (by assumption) ?_
    rotate_left
    · (intro wS hSw; (try dsimp only at hSw); obtain ⟨q0, q1, q2, q3, _⟩ := (hX.below hSw).four; obtain ⟨p0, p1', p2', p3', _⟩ := (hY.below hSw).four; obtain ⟨z0, z1, _, _⟩ := (hZ.below hSw).two; obtain ⟨v0, v1, _, _⟩ := (hV.below hSw).two; clear hSw; go_simp; (try with_reducible rfl))
    (try simp only [Act.put, List.setIfInBounds_toArray, List.set_cons_zero, List.set_cons_succ])
    refine wpAnyH_take (i := 26) (oi := ⟨some 67, _, _, _, _, _⟩) (v := ?_) rfl (by kernel_rfl) (by kernel_rfl) (by kernel_rfl) (fun _ _ _ h => h) (Or.inl ⟨by kernel_rfl, ?_⟩) (by assumption) ?_
    rotate_left
    · (intro wS hSw; (try dsimp only at hSw); obtain ⟨q0, q1, q2, q3, _⟩ := (hX.below hSw).four; obtain ⟨p0, p1', p2', p3', _⟩ := (hY.below hSw).four; obtain ⟨z0, z1, _, _⟩ := (hZ.below hSw).two; obtain ⟨v0, v1, _, _⟩ := (hV.below hSw).two; clear hSw; go_simp; (try with_reducible rfl))
    (try simp only [Act.put, List.setIfInBounds_toArray, List.set_cons_zero, List.set_cons_succ])
    refine wpAnyH_take (i := 27) (oi := ⟨some 2, _, _, _, _, _⟩) (v := ?_) rfl (by kernel_rfl) (by kernel_rfl) (by kernel_rfl) (fun _ _ _ h => h) (Or.inl ⟨by kernel_rfl, ?_⟩) (by assumption) ?_
    rotate_left
    · (intro wS hSw; (try dsimp only at hSw); obtain ⟨q0, q1, q2, q3, _⟩ := (hX.below hSw).four; obtain ⟨p0, p1', p2', p3', _⟩ := (hY.below hSw).four; obtain ⟨z0, z1, _, _⟩ := (hZ.below hSw).two; obtain ⟨v0, v1, _, _⟩ := (hV.below hSw).two; clear hSw; go_simp; (try with_reducible rfl))
    (try simp only [Act.put, List.setIfInBounds_toArray, List.set_cons_zero, List.set_cons_succ])
    refine wpAnyH_done (by kernel_rfl) ?_ _
    go_wp2_with fail
    go_ret
    exact ⟨rfl, bel_call hw hHeld⟩
theorem ptakes_all {A : Option Addr} {c : Nat} {b : List UInt8} (w : World) (h : SlB w A c b) :
    Calls Tryz.prog 3 #[.slice A b.length c] w fun e w' => e = .returned (.bool true) ∧ Below w.heap.size w w' := by
  rcases Nat.lt_or_ge 6000 b.length with hl | hl
  · exact ptakes_early w h hl
  · exact ptakes_walk w h hl
end Go.Proofs.YtgipfenjachpnaaGreat

namespace Go.Proofs.YtgipfenjachpnaaGreat
open Go.ChangeShapes Go.WideShapes Go.ChangeAt Go.RowKit Go.Deep

/-- a slice of structs of one-cell fields, as a struct's field -/
theorem open_structsF {H : Type} {enc : TypeId × Value → H} {P : Program} {w : World} {base : Nat} {held : Bool} {t e : TypeId} {v : Value} {fs : Array Field}
    {T : Type} (f : T → List Value) (Q : T → Prop) (hfl : ∀ x, (f x).length = fs.size)
    (ht : P.underlying t = some (.slice e)) (he : P.underlying e = some (.struct fs)) (hone : oneCellFields P fs = true) (hC : P.cellsOf e = fs.size)
    (hel : ∀ vs : List Value, vs.length = fs.size → (∀ (j : Nat) (fd : Field), fs[j]? = some fd → ∃ (u : Value) (n : Nat) (y : DataW H × List MemPlace), vs[j]? = some u ∧ DataW.trod enc P w base (fun _ => true) held n fd.type [u] = some y) → ∃ x : T, f x = vs ∧ Q x)
    {fuel : Nat} {yy : DataW H × List MemPlace} (hf : DataW.trod enc P w base (fun _ => true) held fuel t [v] = some yy) :
    ∃ (A : Option Addr) (c : Nat) (l : List T), v = .slice A l.length c ∧ Sl w fs.size A l.length c (l.flatMap f) ∧ ∀ x ∈ l, Q x := by
  rcases open_slice_fields ht he hone hC hf with ⟨hcs, _⟩ | ⟨a, n, c, m, D, Pl, hcs, _, hl, hm, hmm, _, hi⟩
  · simp at hcs
    subst hcs
    exact ⟨none, 0, [], rfl, by simpa using Sl.none_ w fs.size, fun x hx => by simp at hx⟩
  · simp at hcs
    subst hcs
    simp only [if_true] at hmm
    subst hmm
    have hx : ∀ i, i < n → ∃ x : T, Q x ∧ ∀ j u, (f x)[j]? = some u → w.cell? (a.add (i * fs.size + j)) = some u := by
      intro i hin
      obtain ⟨ys, nn, _, _, _, hfd⟩ := hi i (by omega)
      have hc : ∀ j, j < fs.size → ∃ u : Value, w.cell? (a.add (i * fs.size + j)) = some u ∧ ∃ y : DataW H × List MemPlace, DataW.trod enc P w base (fun _ => true) held nn (fs[j]!).type [u] = some y := by
        intro j hj
        obtain ⟨u, y, h1, _, h3⟩ := hfd j fs[j] (by simp [hj])
        exact ⟨u, h1, y, by simpa [hj] using h3⟩
      obtain ⟨vs, hvl, hvr⟩ := list_choice (fun j u => w.cell? (a.add (i * fs.size + j)) = some u ∧ ∃ y : DataW H × List MemPlace, DataW.trod enc P w base (fun _ => true) held nn (fs[j]!).type [u] = some y) fs.size hc
      obtain ⟨x, hxe, hxq⟩ := hel vs hvl fun j fd hj => by
        have hjl : j < fs.size := (Array.getElem?_eq_some_iff.1 hj).1
        obtain ⟨_, y, hy⟩ := hvr j (by omega)
        have hfe : fs[j]! = fd := by
          have := (Array.getElem?_eq_some_iff.1 hj).2
          simp [hjl, this]
        rw [hfe] at hy
        exact ⟨vs[j], nn, y, List.getElem?_eq_getElem (by omega), hy⟩
      refine ⟨x, hxq, fun j u hj => ?_⟩
      rw [hxe] at hj
      obtain ⟨hjl, hju⟩ := List.getElem?_eq_some_iff.1 hj
      rw [← hju]
      exact (hvr j hjl).1
    obtain ⟨l, hll, hlr⟩ := list_choice _ n hx
    refine ⟨some a, _, l, by rw [hll], ⟨flat_len hfl l, by omega, hm, (fun h => by cases h), fun j u hj => ⟨a, rfl, ?_⟩⟩, fun x hx => ?_⟩
    · rcases Nat.eq_zero_or_pos fs.size with h0 | h0
      · have := (List.getElem?_eq_some_iff.1 hj).1
        rw [flat_len hfl, h0] at this
        omega
      · have hjl := (List.getElem?_eq_some_iff.1 hj).1
        rw [flat_len hfl] at hjl
        have hk : j / fs.size < l.length := by rw [Nat.div_lt_iff_lt_mul h0]; exact hjl
        have hr : j % fs.size < fs.size := Nat.mod_lt _ h0
        have he := flat_get hfl l (j / fs.size) (j % fs.size) hk hr
        have hj2 : j / fs.size * fs.size + j % fs.size = j := by rw [Nat.mul_comm]; exact Nat.div_add_mod _ _
        rw [hj2, hj] at he
        have := (hlr _ hk).2 _ _ he.symm
        rwa [hj2] at this
    · obtain ⟨i, hi, rfl⟩ := List.getElem_of_mem hx
      exact (hlr i hi).1

section
variable {H : Type} {enc : TypeId × Value → H} {P : Program} {w : World} {base b0 : Nat} {held : Bool} {r : Reach} {t e b u : TypeId} {v : Value} {d : DataW H} {p : List MemPlace}
theorem open_seg {g0 g1 f0 f1 : Field} (hs : P.underlying t = some (.struct #[g0, g1])) (hg0 : P.underlying g0.type = some (.int .i64)) (hg1 : P.underlying g1.type = some (.slice b)) (hb : P.underlying b = some (.struct #[f0, f1])) (h0 : P.underlying f0.type = some (.int .i64)) (h1 : P.underlying f1.type = some (.slice e)) (he : P.underlying e = some (.int .u8))
    (hCe : P.cellsOf e = 1) (hone : oneCellFields P #[f0, f1] = true) (hC : P.cellsOf b = 2) (hone2 : oneCellFields P #[g0, g1] = true) (hC2 : P.cellsOf t = 2) (hv : Value.okWide P w r b0 t v) (h : DataW.Trod enc P w base (fun _ => true) held t v d p) :
    ∃ (k : Int) (A : Option Addr) (c : Nat) (l : List CeV), v = cv k A l.length c ∧ SlC w A c l := by
  obtain ⟨v0, v1, y0, y1, n, rfl, _, _, q0, q1⟩ := Go.Joins.open_agg2 hs hone2 hC2 hv h
  obtain ⟨k, rfl, hk⟩ := int_cell hg0 q0
  obtain ⟨A, c, l, rfl, hl, hq⟩ := open_structsF cf (fun x => I64 x.1 ∧ SlB w x.2.1 x.2.2.1 x.2.2.2) (fun _ => rfl) hg1 hb hone hC (by
    intro vs hl hf
    obtain ⟨u0, n0, y0, e0, t0⟩ := hf 0 f0 rfl
    obtain ⟨u1, n1, y1, e1, t1⟩ := hf 1 f1 rfl
    obtain ⟨k, rfl, hk⟩ := int_cell h0 t0
    obtain ⟨A, c, l, rfl, hb⟩ := bytes_cell h1 he hCe t1
    match vs, hl with
    | [x0, x1], _ =>
      simp at e0 e1
      exact ⟨(k, A, c, l), by simp [cf, e0, e1], hk, hb⟩) q1
  exact ⟨k, A, c, l, rfl, ⟨hl, fun x hx => (hq x hx).2⟩⟩
theorem open_segI {g0 g1 f0 f1 : Field} (hs : P.underlying t = some (.struct #[g0, g1])) (hg0 : P.underlying g0.type = some (.int .i64)) (hg1 : P.underlying g1.type = some (.slice b)) (hb : P.underlying b = some (.struct #[f0, f1])) (h0 : P.underlying f0.type = some (.int .i64)) (h1 : P.underlying f1.type = some (.slice e)) (he : P.underlying e = some (.int .u8))
    (hCe : P.cellsOf e = 1) (hone : oneCellFields P #[f0, f1] = true) (hC : P.cellsOf b = 2) (hone2 : oneCellFields P #[g0, g1] = true) (hC2 : P.cellsOf t = 2) (hv : Value.okWide P w r b0 t v) (h : DataW.Trod enc P w base (fun _ => true) held t v d p) :
    ∃ (k : Int) (A : Option Addr) (c : Nat) (l : List CeV), v = cv k A l.length c ∧ SlC w A c l ∧ I64 k := by
  obtain ⟨v0, v1, y0, y1, n, rfl, _, _, q0, q1⟩ := Go.Joins.open_agg2 hs hone2 hC2 hv h
  obtain ⟨k, rfl, hk⟩ := int_cell hg0 q0
  obtain ⟨A, c, l, rfl, hl, hq⟩ := open_structsF cf (fun x => I64 x.1 ∧ SlB w x.2.1 x.2.2.1 x.2.2.2) (fun _ => rfl) hg1 hb hone hC (by
    intro vs hl hf
    obtain ⟨u0, n0, y0, e0, t0⟩ := hf 0 f0 rfl
    obtain ⟨u1, n1, y1, e1, t1⟩ := hf 1 f1 rfl
    obtain ⟨k, rfl, hk⟩ := int_cell h0 t0
    obtain ⟨A, c, l, rfl, hb⟩ := bytes_cell h1 he hCe t1
    match vs, hl with
    | [x0, x1], _ =>
      simp at e0 e1
      exact ⟨(k, A, c, l), by simp [cf, e0, e1], hk, hb⟩) q1
  exact ⟨k, A, c, l, rfl, ⟨hl, fun x hx => (hq x hx).2⟩, hk⟩
theorem open_arr2 (hs : P.underlying t = some (.array 2 e)) (he : P.underlying e = some (.int .i64)) (hC : P.cellsOf t = 2) (hE : P.cellsOf e = 1) (hv : Value.okWide P w r b0 t v) (h : DataW.Trod enc P w base (fun _ => true) held t v d p) :
    ∃ a b : Int, v = .agg #[.int .i64 a, .int .i64 b] := by
  simp only [Value.okWide, hs] at hv
  obtain ⟨cs, rfl, hsz, _⟩ := hv
  obtain ⟨c0, c1, rfl⟩ : ∃ c0 c1, cs = #[c0, c1] := by
    have h2 := hsz.trans hC
    match cs, h2 with
    | ⟨[x, y]⟩, _ => exact ⟨x, y, rfl⟩
  obtain ⟨fuel, hf⟩ := h
  obtain ⟨xs, m, _, _, _, hlen, hg⟩ := DataW.trod_array hs hf
  have k0 := hg 0 (by omega)
  have k1 := hg 1 (by omega)
  rw [hE, List.getElem?_eq_getElem (by omega)] at k0 k1
  simp [Value.cells] at k0 k1
  obtain ⟨a, rfl, ha⟩ := int_cell he k0
  obtain ⟨b, rfl, hb⟩ := int_cell he k1
  exact ⟨a, b, rfl⟩
end
end Go.Proofs.YtgipfenjachpnaaGreat
