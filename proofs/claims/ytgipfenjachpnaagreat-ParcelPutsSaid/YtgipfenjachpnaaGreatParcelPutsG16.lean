/- WHAT IT HOLDS: a parcel as the document's, Same of parcels, the law ParcelTakes, walked. | WHAT IT HOLDS: the law SegmentBack, walked. | WHAT IT HOLDS: the law ParcelBack, walked. | WHAT IT HOLDS: the document's bytes of parcels and receipts, walked. -/
import Derived.Test.YtgipfenjachpnaaGreatParcelPutsG15
import Derived.Test.YtgipfenjachpnaaGreatParcelPutsG14
namespace Go.Proofs.YtgipfenjachpnaaGreat
open Go.RowKit
attribute [local go_sem ↓] Go.wp_at_zero Go.wp_at_succ

set_option maxRecDepth 100000 in
set_option maxHeartbeats 1000000 in
theorem Doc14_own {E : Option Addr} {cap : Nat} (f : Int) (cs : List CeV) (w : World) (h : SlC w E cap cs) (hl : cs.length ≤ 1000000) :
    Calls Tryz.prog 32 #[cv f E cs.length cap] w fun e w' => ∃ A c m, e = .returned (cv f A (List.length m) c) ∧ Hid (m = cs.map ceOf) ∧ Own w' w.heap.size 112 2 A m.length c (m.flatMap df) ∧ Below w.heap.size w w' := by
  have hB0 := (Blk.new w 26 #[.int .i64 f, .slice E cs.length cap]).alloc (.cells #[.int .i64 0, .slice none 0 0] 35)
  have hB1 := Blk.newAt (w := w.alloc (.cells #[.int .i64 f, .slice E cs.length cap] 26)) (g := w.heap.size + 1) (by simp) 35 #[.int .i64 0, .slice none 0 0]
  have hbw := bel_alloc (below_new w (.cells #[.int .i64 f, .slice E cs.length cap] 26)) (.cells #[.int .i64 0, .slice none 0 0] 35)
  go_enter Tryz.func32, Tryz.ntmps32
  go_upto_region 1 with (fail)
  have hst : Blk ((w.alloc (.cells #[.int .i64 f, .slice E cs.length cap] 26)).alloc (.cells #[.int .i64 0, .slice none 0 0] 35)).drew w.heap.size 26 #[.int .i64 f, .slice E cs.length cap] ∧ Below w.heap.size w ((w.alloc (.cells #[.int .i64 f, .slice E cs.length cap] 26)).alloc (.cells #[.int .i64 0, .slice none 0 0] 35)).drew := ⟨hB0, hbw.drew⟩
  have hst1 : Blk ((w.alloc (.cells #[.int .i64 f, .slice E cs.length cap] 26)).alloc (.cells #[.int .i64 0, .slice none 0 0] 35)).drew (w.heap.size + 1) 35 #[.int .i64 0, .slice none 0 0] := hB1
  clear hB0 hB1 hbw
  refine wp_region_held_drew (S := (fun W => Blk W w.heap.size 26 #[.int .i64 f, .slice E cs.length cap] ∧ Below w.heap.size w W)) (by kernel_rfl) ?_ (fun hHeld => ?_)
  · exact hst
  refine gen0 (T := fun W => ((fun W => Blk W w.heap.size 26 #[.int .i64 f, .slice E cs.length cap] ∧ Below w.heap.size w W)) W ∧ Blk W (w.heap.size + 1) 35 #[.int .i64 0, .slice none 0 0] ∧ True) ?_ (fun wq1 hT => ?_)
  · exact ⟨by (first | exact hst | exact ⟨hHeld.1.below hb9, bel_call hHeld.2 hb9⟩ | exact ⟨Blk.far2 hHeld.1 (by omega) _ _, bel_set (bel_set hHeld.2 (by dsimp only; omega) _) (by dsimp only; omega) _⟩), by (first | assumption | exact f0.below hb9 | exact ho9.more f0.lt | exact Blk.set2 f0 _ _ | exact Own.set2 f1 (by omega) _ _), trivial⟩
  (try clear f0 f1 f2 f3 f4 f5 f6 f7 f8 f9 f10 f11)
  obtain ⟨hHeld, f0, -⟩ := hT
  refine wpAnyH_take (i := 0) (oi := ⟨some 3, _, _, _, _, _⟩) (v := ?_) rfl (by kernel_rfl) (by kernel_rfl) (by kernel_rfl) (fun _ _ _ h => h) (Or.inl ⟨by kernel_rfl, ?_⟩) (by assumption) ?_
  rotate_left
  · (intro wS hSw; (try dsimp only at hSw); obtain ⟨q0, q1, _, _⟩ := hSw.1.two; clear hSw; go_simp; (try with_reducible rfl))
  (try simp only [Act.put, List.setIfInBounds_toArray, List.set_cons_zero, List.set_cons_succ])
  refine wpAnyH_take (i := 1) (oi := ⟨some 4, _, _, _, _, _⟩) (v := ?_) rfl (by kernel_rfl) (by kernel_rfl) (by kernel_rfl) (fun _ _ _ h => h) (Or.inl ⟨by kernel_rfl, ?_⟩) (by assumption) ?_
  rotate_left
  · (intro wS hSw; (try dsimp only at hSw); obtain ⟨q0, q1, _, _⟩ := hSw.1.two; clear hSw; go_simp; (try with_reducible rfl))
  (try simp only [Act.put, List.setIfInBounds_toArray, List.set_cons_zero, List.set_cons_succ])
  refine wpAnyH_take (i := 2) (oi := ⟨some 5, _, _, _, _, _⟩) (v := ?_) rfl (by kernel_rfl) (by kernel_rfl) (by kernel_rfl) (fun _ _ _ h => h) (Or.inl ⟨by kernel_rfl, ?_⟩) (by assumption) ?_
  rotate_left
  · (intro wS hSw; (try dsimp only at hSw); obtain ⟨q0, q1, _, _⟩ := hSw.1.two; clear hSw; go_simp; (try with_reducible rfl))
  (try simp only [Act.put, List.setIfInBounds_toArray, List.set_cons_zero, List.set_cons_succ])
  refine wpAnyH_take (i := 3) (oi := ⟨some 6, _, _, _, _, _⟩) (v := ?_) rfl (by kernel_rfl) (by kernel_rfl) (by kernel_rfl) (fun _ _ _ h => h) (Or.inl ⟨by kernel_rfl, ?_⟩) (by assumption) ?_
  rotate_left
  · (intro wS hSw; (try dsimp only at hSw); obtain ⟨q0, q1, _, _⟩ := hSw.1.two; clear hSw; go_simp; (try with_reducible rfl))
  (try simp only [Act.put, List.setIfInBounds_toArray, List.set_cons_zero, List.set_cons_succ])
  refine wpAnyH_ready (rs := [4]) (by kernel_rfl) (by simp) ?_
  refine AllReadyH.cons (o := ⟨some 7, _, _, _, _, _⟩) rfl (fun K hK => ?_) AllReadyH.nil
  go_simp
  (refine (Documents_own cs _ (h.below hHeld.2) hl).mono ?_; rintro e w9 ⟨A9, c9, m9, rfl, hm9, ho9, hb9⟩)
  go_wp2_with fail
  refine hK.out _ _ ?_ (fun _ => ?_)
  · ((try dsimp only); (first | exact hst | exact ⟨hHeld.1.below hb9, bel_call hHeld.2 hb9⟩ | exact ⟨Blk.far2 hHeld.1 (by omega) _ _, bel_set (bel_set hHeld.2 (by dsimp only; omega) _) (by dsimp only; omega) _⟩))
  clear hK K
  (try simp only [Act.put, List.setIfInBounds_toArray, List.set_cons_zero, List.set_cons_succ])
  refine gen0 (T := fun W => ((fun W => Blk W w.heap.size 26 #[.int .i64 f, .slice E cs.length cap] ∧ Below w.heap.size w W)) W ∧ Blk W (w.heap.size + 1) 35 #[.int .i64 0, .slice none 0 0] ∧ Own W (w.heap.size + 2) 112 2 A9 m9.length c9 (m9.flatMap df) ∧ True) ?_ (fun wq2 hT => ?_)
  · exact ⟨by (first | exact hst | exact ⟨hHeld.1.below hb9, bel_call hHeld.2 hb9⟩ | exact ⟨Blk.far2 hHeld.1 (by omega) _ _, bel_set (bel_set hHeld.2 (by dsimp only; omega) _) (by dsimp only; omega) _⟩), by (first | assumption | exact f0.below hb9 | exact ho9.more f0.lt | exact Blk.set2 f0 _ _ | exact Own.set2 f1 (by omega) _ _), by (first | assumption | exact f0.below hb9 | exact ho9.more f0.lt | exact Blk.set2 f0 _ _ | exact Own.set2 f1 (by omega) _ _), trivial⟩
  (try clear f0 f1 f2 f3 f4 f5 f6 f7 f8 f9 f10 f11)
  obtain ⟨hHeld, f0, f1, -⟩ := hT
  refine wpAnyH_take (i := 5) (oi := ⟨some 8, _, _, _, _, _⟩) (v := ?_) rfl (by kernel_rfl) (by kernel_rfl) (by kernel_rfl) (fun _ _ _ h => h) (Or.inl ⟨by kernel_rfl, ?_⟩) (by assumption) ?_
  rotate_left
  · (intro wS hSw; (try dsimp only at hSw); obtain ⟨q0, q1, _, _⟩ := hSw.1.two; clear hSw; go_simp; (try with_reducible rfl))
  (try simp only [Act.put, List.setIfInBounds_toArray, List.set_cons_zero, List.set_cons_succ])
  refine wpAnyH_ready (rs := [6]) (by kernel_rfl) (by simp) ?_
  refine AllReadyH.cons (o := ⟨none, _, _, _, _, _⟩) rfl (fun K hK => ?_) AllReadyH.nil
  obtain ⟨s0, s1, sf0, sf1⟩ := f0.two
  go_simp
  refine hK.out _ _ ?_ (fun _ => ?_)
  · ((try dsimp only); (first | exact hst | exact ⟨hHeld.1.below hb9, bel_call hHeld.2 hb9⟩ | exact ⟨Blk.far2 hHeld.1 (by omega) _ _, bel_set (bel_set hHeld.2 (by dsimp only; omega) _) (by dsimp only; omega) _⟩))
  clear hK K
  (try simp only [Act.put, List.setIfInBounds_toArray, List.set_cons_zero, List.set_cons_succ])
  refine gen0 (T := fun W => ((fun W => Blk W w.heap.size 26 #[.int .i64 f, .slice E cs.length cap] ∧ Below w.heap.size w W)) W ∧ Own W (w.heap.size + 2) 112 2 A9 m9.length c9 (m9.flatMap df) ∧ Blk W (w.heap.size + 1) 35 #[.int .i64 f, .slice A9 m9.length c9] ∧ True) ?_ (fun wq3 hT => ?_)
  · exact ⟨by (first | exact hst | exact ⟨hHeld.1.below hb9, bel_call hHeld.2 hb9⟩ | exact ⟨Blk.far2 hHeld.1 (by omega) _ _, bel_set (bel_set hHeld.2 (by dsimp only; omega) _) (by dsimp only; omega) _⟩), by (first | assumption | exact f0.below hb9 | exact ho9.more f0.lt | exact Blk.set2 f0 _ _ | exact Own.set2 f1 (by omega) _ _), by (first | assumption | exact f0.below hb9 | exact ho9.more f0.lt | exact Blk.set2 f0 _ _ | exact Own.set2 f1 (by omega) _ _), trivial⟩
  (try clear f0 f1 f2 f3 f4 f5 f6 f7 f8 f9 f10 f11)
  obtain ⟨hHeld, f0, f1, -⟩ := hT
  refine wpAnyH_done (by kernel_rfl) ?_ _
  go_wp2_with fail
  exact bodyPost_ret (res_rg1 rfl rfl (g := w.heap.size + 1) f1) rfl ⟨A9, c9, m9, rfl, hm9, Own.more f0 (by omega), hHeld.2⟩

theorem Blk.far4 {w : World} {g g' : Nat} {t : TypeId} {cs : Array Value} (h : Blk w g t cs) (hne : g ≠ g') (x y z u : Value) : Blk ((((w.setCell ⟨g', 0, none⟩ x).setCell ⟨g', 1, none⟩ y).setCell ⟨g', 2, none⟩ z).setCell ⟨g', 3, none⟩ u) g t cs := (((h.far hne x).far hne y).far hne z).far hne u
theorem st4 {w W : World} {t : TypeId} {cs : Array Value} (h : Blk W w.heap.size t cs ∧ Below w.heap.size w W) (x y z u : Value) : Blk ((((W.setCell ⟨w.heap.size + 1, 0, none⟩ x).setCell ⟨w.heap.size + 1, 1, none⟩ y).setCell ⟨w.heap.size + 1, 2, none⟩ z).setCell ⟨w.heap.size + 1, 3, none⟩ u) w.heap.size t cs ∧ Below w.heap.size w ((((W.setCell ⟨w.heap.size + 1, 0, none⟩ x).setCell ⟨w.heap.size + 1, 1, none⟩ y).setCell ⟨w.heap.size + 1, 2, none⟩ z).setCell ⟨w.heap.size + 1, 3, none⟩ u) :=
  ⟨Blk.far4 h.1 (by omega) _ _ _ _, bel_set4 h.2 (by omega) _ _ _ _⟩
theorem own4 {w : World} {n : Nat} {e : TypeId} {size k c : Nat} {A : Option Addr} {xs : List Value} (h : Own w (n + 2) e size A k c xs) (x y z u : Value) : Own ((((w.setCell ⟨n + 1, 0, none⟩ x).setCell ⟨n + 1, 1, none⟩ y).setCell ⟨n + 1, 2, none⟩ z).setCell ⟨n + 1, 3, none⟩ u) (n + 2) e size A k c xs := Own.set4 h (by omega) x y z u
set_option maxRecDepth 100000 in
set_option maxHeartbeats 1000000 in
theorem Doc23_any {E : Option Addr} {cap : Nat} (x t f : Int) (cs : List CeV) (w : World) (h : SlC w E cap cs) (hl : cs.length ≤ 1000000) :
    Calls Tryz.prog 11 #[pcv x t f E cs.length cap] w fun e w' => ∃ A c m, e = .returned (pcv x t f A (List.length m) c) ∧ Hid (m = cs.map ceOf) ∧ SlD w' A c m ∧ Below w.heap.size w w' := by
  have hB0 := (Blk.new w 28 #[.int .i64 x, .int .i64 t, .int .i64 f, .slice E cs.length cap]).alloc (.cells #[.int .i64 0, .int .i64 0, .int .i64 0, .slice none 0 0] 37)
  have hB1 := Blk.newAt (w := w.alloc (.cells #[.int .i64 x, .int .i64 t, .int .i64 f, .slice E cs.length cap] 28)) (g := w.heap.size + 1) (by simp) 37 #[.int .i64 0, .int .i64 0, .int .i64 0, .slice none 0 0]
  have hbw := bel_alloc (below_new w (.cells #[.int .i64 x, .int .i64 t, .int .i64 f, .slice E cs.length cap] 28)) (.cells #[.int .i64 0, .int .i64 0, .int .i64 0, .slice none 0 0] 37)
  go_enter Tryz.func11, Tryz.ntmps11
  go_upto_region 1 with (fail)
  generalize hWe : (w.alloc (.cells #[.int .i64 x, .int .i64 t, .int .i64 f, .slice E cs.length cap] 28)).alloc (.cells #[.int .i64 0, .int .i64 0, .int .i64 0, .slice none 0 0] 37) = w0 at *
  clear hWe
  have hst : Blk w0.drew w.heap.size 28 #[.int .i64 x, .int .i64 t, .int .i64 f, .slice E cs.length cap] ∧ Below w.heap.size w w0.drew := ⟨hB0, hbw.drew⟩
  have hst1 : Blk w0.drew (w.heap.size + 1) 37 #[.int .i64 0, .int .i64 0, .int .i64 0, .slice none 0 0] := hB1
  clear hB0 hB1 hbw
  refine wp_region_held_drew (S := (fun W => Blk W w.heap.size 28 #[.int .i64 x, .int .i64 t, .int .i64 f, .slice E cs.length cap] ∧ Below w.heap.size w W)) (by kernel_rfl) ?_ (fun hHeld => ?_)
  · exact hst
  refine gen0 (T := fun W => ((fun W => Blk W w.heap.size 28 #[.int .i64 x, .int .i64 t, .int .i64 f, .slice E cs.length cap] ∧ Below w.heap.size w W)) W ∧ Blk W (w.heap.size + 1) 37 #[.int .i64 0, .int .i64 0, .int .i64 0, .slice none 0 0] ∧ True) ?_ (fun wq1 hT => ?_)
  · exact ⟨by (first | with_reducible exact hst | with_reducible exact ⟨hHeld.1.below hb9, bel_call hHeld.2 hb9⟩ | with_reducible exact st4 hHeld _ _ _ _), by (first | with_reducible assumption | with_reducible exact f0.below hb9 | with_reducible exact Blk.set4 f0 _ _ _ _ | with_reducible exact own4 f1 _ _ _ _ | exact ho9.more f0.lt), trivial⟩
  (try clear f0 f1 f2 f3 f4 f5 f6 f7 f8 f9 f10 f11)
  obtain ⟨hHeld, f0, -⟩ := hT
  refine wpAnyH_take (i := 0) (oi := ⟨some 3, _, _, _, _, _⟩) (v := ?_) rfl (by kernel_rfl) (by kernel_rfl) (by kernel_rfl) (fun _ _ _ h => h) (Or.inl ⟨by kernel_rfl, ?_⟩) (by assumption) ?_
  rotate_left
  · (intro wS hSw; (try dsimp only at hSw); obtain ⟨q0, q1, q2, q3, _⟩ := hSw.1.four; clear hSw; go_simp; (try with_reducible rfl))
  (try simp only [Act.put, List.setIfInBounds_toArray, List.set_cons_zero, List.set_cons_succ])
  refine wpAnyH_take (i := 1) (oi := ⟨some 4, _, _, _, _, _⟩) (v := ?_) rfl (by kernel_rfl) (by kernel_rfl) (by kernel_rfl) (fun _ _ _ h => h) (Or.inl ⟨by kernel_rfl, ?_⟩) (by assumption) ?_
  rotate_left
  · (intro wS hSw; (try dsimp only at hSw); obtain ⟨q0, q1, q2, q3, _⟩ := hSw.1.four; clear hSw; go_simp; (try with_reducible rfl))
  (try simp only [Act.put, List.setIfInBounds_toArray, List.set_cons_zero, List.set_cons_succ])
  refine wpAnyH_take (i := 2) (oi := ⟨some 5, _, _, _, _, _⟩) (v := ?_) rfl (by kernel_rfl) (by kernel_rfl) (by kernel_rfl) (fun _ _ _ h => h) (Or.inl ⟨by kernel_rfl, ?_⟩) (by assumption) ?_
  rotate_left
  · (intro wS hSw; (try dsimp only at hSw); obtain ⟨q0, q1, q2, q3, _⟩ := hSw.1.four; clear hSw; go_simp; (try with_reducible rfl))
  (try simp only [Act.put, List.setIfInBounds_toArray, List.set_cons_zero, List.set_cons_succ])
  refine wpAnyH_take (i := 3) (oi := ⟨some 6, _, _, _, _, _⟩) (v := ?_) rfl (by kernel_rfl) (by kernel_rfl) (by kernel_rfl) (fun _ _ _ h => h) (Or.inl ⟨by kernel_rfl, ?_⟩) (by assumption) ?_
  rotate_left
  · (intro wS hSw; (try dsimp only at hSw); obtain ⟨q0, q1, q2, q3, _⟩ := hSw.1.four; clear hSw; go_simp; (try with_reducible rfl))
  (try simp only [Act.put, List.setIfInBounds_toArray, List.set_cons_zero, List.set_cons_succ])
  refine wpAnyH_take (i := 4) (oi := ⟨some 7, _, _, _, _, _⟩) (v := ?_) rfl (by kernel_rfl) (by kernel_rfl) (by kernel_rfl) (fun _ _ _ h => h) (Or.inl ⟨by kernel_rfl, ?_⟩) (by assumption) ?_
  rotate_left
  · (intro wS hSw; (try dsimp only at hSw); obtain ⟨q0, q1, q2, q3, _⟩ := hSw.1.four; clear hSw; go_simp; (try with_reducible rfl))
  (try simp only [Act.put, List.setIfInBounds_toArray, List.set_cons_zero, List.set_cons_succ])
  refine wpAnyH_take (i := 5) (oi := ⟨some 8, _, _, _, _, _⟩) (v := ?_) rfl (by kernel_rfl) (by kernel_rfl) (by kernel_rfl) (fun _ _ _ h => h) (Or.inl ⟨by kernel_rfl, ?_⟩) (by assumption) ?_
  rotate_left
  · (intro wS hSw; (try dsimp only at hSw); obtain ⟨q0, q1, q2, q3, _⟩ := hSw.1.four; clear hSw; go_simp; (try with_reducible rfl))
  (try simp only [Act.put, List.setIfInBounds_toArray, List.set_cons_zero, List.set_cons_succ])
  refine wpAnyH_ready (rs := [6]) (by kernel_rfl) (by simp) ?_
  refine AllReadyH.cons (o := ⟨some 9, _, _, _, _, _⟩) rfl (fun K hK => ?_) AllReadyH.nil
  go_simp
  (refine (Doc14_own f cs _ (h.below hHeld.2) hl).mono ?_; rintro e w9 ⟨A9, c9, m9, rfl, hm9, ho9, hb9⟩)
  go_wp2_with fail
  refine hK.out _ _ ?_ (fun _ => ?_)
  · ((try dsimp only); (first | with_reducible exact hst | with_reducible exact ⟨hHeld.1.below hb9, bel_call hHeld.2 hb9⟩ | with_reducible exact st4 hHeld _ _ _ _))
  clear hK K
  (try simp only [Act.put, List.setIfInBounds_toArray, List.set_cons_zero, List.set_cons_succ])
  refine gen0 (T := fun W => ((fun W => Blk W w.heap.size 28 #[.int .i64 x, .int .i64 t, .int .i64 f, .slice E cs.length cap] ∧ Below w.heap.size w W)) W ∧ Blk W (w.heap.size + 1) 37 #[.int .i64 0, .int .i64 0, .int .i64 0, .slice none 0 0] ∧ Own W (w.heap.size + 2) 112 2 A9 m9.length c9 (m9.flatMap df) ∧ True) ?_ (fun wq2 hT => ?_)
  · exact ⟨by (first | with_reducible exact hst | with_reducible exact ⟨hHeld.1.below hb9, bel_call hHeld.2 hb9⟩ | with_reducible exact st4 hHeld _ _ _ _), by (first | with_reducible assumption | with_reducible exact f0.below hb9 | with_reducible exact Blk.set4 f0 _ _ _ _ | with_reducible exact own4 f1 _ _ _ _ | exact ho9.more f0.lt), by (first | with_reducible assumption | with_reducible exact f0.below hb9 | with_reducible exact Blk.set4 f0 _ _ _ _ | with_reducible exact own4 f1 _ _ _ _ | exact ho9.more f0.lt), trivial⟩
  (try clear f0 f1 f2 f3 f4 f5 f6 f7 f8 f9 f10 f11)
  obtain ⟨hHeld, f0, f1, -⟩ := hT
  refine wpAnyH_take (i := 7) (oi := ⟨some 10, _, _, _, _, _⟩) (v := ?_) rfl (by kernel_rfl) (by kernel_rfl) (by kernel_rfl) (fun _ _ _ h => h) (Or.inl ⟨by kernel_rfl, ?_⟩) (by assumption) ?_
  rotate_left
  · (intro wS hSw; (try dsimp only at hSw); obtain ⟨q0, q1, q2, q3, _⟩ := hSw.1.four; clear hSw; go_simp; (try with_reducible rfl))
  (try simp only [Act.put, List.setIfInBounds_toArray, List.set_cons_zero, List.set_cons_succ])
  refine wpAnyH_ready (rs := [8]) (by kernel_rfl) (by simp) ?_
  refine AllReadyH.cons (o := ⟨none, _, _, _, _, _⟩) rfl (fun K hK => ?_) AllReadyH.nil
  obtain ⟨s0, s1, s2, s3, sf0, sf1, sf2, sf3⟩ := f0.four
  go_simp
  refine hK.out _ _ ?_ (fun _ => ?_)
  · ((try dsimp only); (first | with_reducible exact hst | with_reducible exact ⟨hHeld.1.below hb9, bel_call hHeld.2 hb9⟩ | with_reducible exact st4 hHeld _ _ _ _))
  clear hK K
  (try simp only [Act.put, List.setIfInBounds_toArray, List.set_cons_zero, List.set_cons_succ])
  refine gen0 (T := fun W => ((fun W => Blk W w.heap.size 28 #[.int .i64 x, .int .i64 t, .int .i64 f, .slice E cs.length cap] ∧ Below w.heap.size w W)) W ∧ Own W (w.heap.size + 2) 112 2 A9 m9.length c9 (m9.flatMap df) ∧ Blk W (w.heap.size + 1) 37 #[.int .i64 x, .int .i64 t, .int .i64 f, .slice A9 m9.length c9] ∧ True) ?_ (fun wq3 hT => ?_)
  · exact ⟨by (first | with_reducible exact hst | with_reducible exact ⟨hHeld.1.below hb9, bel_call hHeld.2 hb9⟩ | with_reducible exact st4 hHeld _ _ _ _), by (first | with_reducible assumption | with_reducible exact f0.below hb9 | with_reducible exact Blk.set4 f0 _ _ _ _ | with_reducible exact own4 f1 _ _ _ _ | exact ho9.more f0.lt), by (first | with_reducible assumption | with_reducible exact f0.below hb9 | with_reducible exact Blk.set4 f0 _ _ _ _ | with_reducible exact own4 f1 _ _ _ _ | exact ho9.more f0.lt), trivial⟩
  (try clear f0 f1 f2 f3 f4 f5 f6 f7 f8 f9 f10 f11)
  obtain ⟨hHeld, f0, f1, -⟩ := hT
  refine wpAnyH_done (by kernel_rfl) ?_ _
  go_wp2_with fail
  exact bodyPost_ret (res_rpc1 rfl rfl (g := w.heap.size + 1) f1) rfl ⟨A9, c9, m9, rfl, hm9, f0.sl, hHeld.2⟩
set_option maxRecDepth 100000 in
set_option maxHeartbeats 1000000 in
theorem rPSame_any {E G : Option Addr} {cap cap2 : Nat} (x t f x2 t2 f2 : Int) (cs ds : List Ce) (w : World) (h : SlD w E cap cs) (h2 : SlD w G cap2 ds) :
    Calls Tryz.prog 10 #[pcv x t f E cs.length cap, pcv x2 t2 f2 G ds.length cap2] w fun e w' => e = .returned (.bool (psame (x, t, f, cs) (x2, t2, f2, ds))) ∧ Below w.heap.size w w' := by
  have hbb := bel_alloc (below_new w (.cells #[.int .i64 x, .int .i64 t, .int .i64 f, .slice E cs.length cap] 37)) (.cells #[.int .i64 x2, .int .i64 t2, .int .i64 f2, .slice G ds.length cap2] 37)
  have hne := fun h => Lib.hid (psame_ne (p := (x, t, f, cs)) (q := (x2, t2, f2, ds)) h)
  dsimp only at hne
  cases h1 : x == x2 with
  | false =>
    have hr := hne (.inl h1)
    clear hne
    go_enter Tryz.func10, Tryz.ntmps10
    go_wp2_with fail
    go_ret
    exact ⟨by rw [hr.out]; rfl, hbb⟩
  | true =>
    cases h3 : t == t2 with
    | false =>
      have hr := hne (.inr h3)
      clear hne
      go_enter Tryz.func10, Tryz.ntmps10
      go_wp2_with fail
      go_ret
      exact ⟨by rw [hr.out]; rfl, hbb⟩
    | true =>
      obtain rfl : x = x2 := by simpa using h1
      obtain rfl : t = t2 := by simpa using h3
      have hr := Lib.hid (psame_eq (x := x) (t := t) (f := f) (f2 := f2) (l := cs) (m := ds))
      clear hne
      go_enter Tryz.func10, Tryz.ntmps10
      go_wp2_with fail
      refine (rSSame_any f f2 cs ds _ (Sl.below h hbb) (Sl.below h2 hbb)).mono ?_
      rintro e w2 ⟨rfl, hb2⟩
      go_wp2_with fail
      go_ret
      exact ⟨by rw [hr.out]; rfl, bel_call hbb hb2⟩
theorem eq_rcq (a b : Int) (w : World) : (binOp .eql 44 (.agg #[.int .i64 a, .int .i64 b]) (.agg #[.int .i64 a, .int .i64 b])).run Tryz.prog w = .ok (.bool true) w := by
  simp only [binOp]
  simp [go_sem, Op.equal, Op.maxDepth, Tryz.underlying44, Tryz.underlying3]
theorem pcTake_len (b : List UInt8) : (pcTake b).1.2.2.2.length ≤ 64 := by
  unfold pcTake
  split
  · simp
  · unfold pcEnd
    split
    · simp
    · split
      · simp
      · rename_i h
        obtain ⟨_, _, _, _, h5⟩ := pchk_ok (Decidable.byContradiction h)
        obtain ⟨_, _, h3, _⟩ := schk_ok h5
        exact h3
set_option maxRecDepth 100000 in
set_option maxHeartbeats 1000000 in
theorem ptakes_early {A : Option Addr} {c : Nat} {b : List UInt8} (w : World) (h : SlB w A c b) (hl : 6000 < b.length) :
    Calls Tryz.prog 3 #[.slice A b.length c] w fun e w' => e = .returned (.bool true) ∧ Below w.heap.size w w' := by
  have hm := h.len_le
  unfold maxLen at hm
  have hlI : (6000 : Int) < (b.length : Int) := by omega
  go_enter Tryz.func3, Tryz.ntmps3
  go_wp2_with fail
  refine (alive23_any _).mono ?_
  rintro e w1 ⟨rfl, hb1⟩
  go_wp2_with fail
  go_ret
  exact ⟨rfl, hb1⟩
set_option maxRecDepth 100000 in
set_option maxHeartbeats 4000000 in
theorem ptakes_walk {A : Option Addr} {c : Nat} {b : List UInt8} (w : World) (h : SlB w A c b) (hl : b.length ≤ 6000) :
    Calls Tryz.prog 3 #[.slice A b.length c] w fun e w' => e = .returned (.bool true) ∧ Below w.heap.size w w' := by
  have hlI : (b.length : Int) ≤ 6000 := by omega
  have hlM : b.length ≤ 1000000 := by omega
  go_enter Tryz.func3, Tryz.ntmps3
  go_wp2_with fail
  refine (alive23_any _).mono ?_
  rintro e w1 ⟨rfl, hw⟩
  have hT := fun W hh => PTake_any A c b W hh hlM
  have hRT := fun W hh => rPTake_any A c b W hh hlM
  have hQ := fun W hh => QTake_any A c b W hh hlM
  have hRQ := fun W hh => rQTake_any A c b W hh hlM
  have hPK := fun W hh => PKind_any A c b W hh hlM
  have hpl := pcTake_len b
  have HKD : Hid (pcKind b = if (pcTake b).2 = 0 then 1 else if (qcTake b).2 = 0 then 2 else 0) := (rfl : _ = _)
  generalize pcTake b = P at *
  generalize qcTake b = Q at *
  generalize pcKind b = kd at *
  obtain ⟨⟨p1, p2, p3, p4⟩, pe⟩ := P
  obtain ⟨⟨r1, r2⟩, qe⟩ := Q
  unfold GivesPcN at hT
  unfold RGivesPc at hRT
  unfold GivesRc at hQ
  unfold RGivesRc at hRQ
  dsimp only at hT hRT hQ hRQ HKD hpl
  have HT := Lib.hid hT
  have HRT := Lib.hid hRT
  have HQ := Lib.hid hQ
  have HRQ := Lib.hid hRQ
  have HPK := Lib.hid hPK
  clear hT hRT hQ hRQ hPK
  go_wp2_with fail
  refine (HT.out _ (h.below hw)).mono ?_
  rintro e w2 ⟨A2, c2, m2, rfl, hm2, hN2, hb2⟩
  replace hw := bel_call hw hb2
  clear hb2
  go_wp2_with fail
  have hX := Blk.new w2 28 #[.int .i64 p1, .int .i64 p2, .int .i64 p3, .slice A2 m2.length c2]
  have hbx := below_new w2 (.cells #[.int .i64 p1, .int .i64 p2, .int .i64 p3, .slice A2 m2.length c2] 28)
  have hS2 := hN2.slc.below hbx
  replace hw := bel_call hw hbx
  clear hbx hN2
  generalize hWe : w2.alloc (.cells #[.int .i64 p1, .int .i64 p2, .int .i64 p3, .slice A2 m2.length c2] 28) = w3 at *
  clear hWe
  generalize hge : w2.heap.size = gx at *
  clear hge
  refine (HRT.out _ (h.below hw)).mono ?_
  rintro e w4 ⟨A4, c4, m4, rfl, hm4, hO4, hb4⟩
  replace hw := bel_call hw hb4
  replace hX := hX.below hb4
  replace hS2 := SlC.below hS2 hb4
  clear hb4
  go_wp2_with fail
  have hY := Blk.new w4 37 #[.int .i64 p1, .int .i64 p2, .int .i64 p3, .slice A4 m4.length c4]
  have hbx := below_new w4 (.cells #[.int .i64 p1, .int .i64 p2, .int .i64 p3, .slice A4 m4.length c4] 37)
  replace hX := hX.below hbx
  replace hS2 := SlC.below hS2 hbx
  have hD4 : SlD _ A4 c4 m4 := Sl.below hO4.sl hbx
  replace hw := bel_call hw hbx
  clear hbx hO4
  generalize hWe : w4.alloc (.cells #[.int .i64 p1, .int .i64 p2, .int .i64 p3, .slice A4 m4.length c4] 37) = w5 at *
  clear hWe
  generalize hge : w4.heap.size = gy at *
  clear hge
  refine (HQ.out _ (h.below hw)).mono ?_
  rintro e w6 ⟨rfl, hb6⟩
  replace hw := bel_call hw hb6
  replace hX := hX.below hb6
  replace hY := hY.below hb6
  replace hS2 := SlC.below hS2 hb6
  replace hD4 : SlD _ A4 c4 m4 := Sl.below hD4 hb6
  clear hb6
  go_wp2_with fail
  have hZ := Blk.new w6 41 #[.int .i64 r1, .int .i64 r2]
  have hbx := below_new w6 (.cells #[.int .i64 r1, .int .i64 r2] 41)
  replace hX := hX.below hbx
  replace hY := hY.below hbx
  replace hS2 := SlC.below hS2 hbx
  replace hD4 : SlD _ A4 c4 m4 := Sl.below hD4 hbx
  replace hw := bel_call hw hbx
  clear hbx
  generalize hWe : w6.alloc (.cells #[.int .i64 r1, .int .i64 r2] 41) = w7 at *
  clear hWe
  generalize hge : w6.heap.size = gz at *
  clear hge
  refine (HRQ.out _ (h.below hw)).mono ?_
  rintro e w8 ⟨rfl, hb8⟩
  replace hw := bel_call hw hb8
  replace hX := hX.below hb8
  replace hY := hY.below hb8
  replace hZ := hZ.below hb8
  replace hS2 := SlC.below hS2 hb8
  replace hD4 : SlD _ A4 c4 m4 := Sl.below hD4 hb8
  clear hb8 HT HRT HQ HRQ
  go_upto_region 9 with (fail)
  have hV := Blk.new w8 44 #[.int .i64 r1, .int .i64 r2]
  have hbx := below_new w8 (.cells #[.int .i64 r1, .int .i64 r2] 44)
  replace hX := hX.below hbx
  replace hY := hY.below hbx
  replace hZ := hZ.below hbx
  replace hS2 := SlC.below hS2 hbx
  replace hD4 : SlD _ A4 c4 m4 := Sl.below hD4 hbx
  replace hw := bel_call hw hbx
  clear hbx
  generalize hWe : w8.alloc (.cells #[.int .i64 r1, .int .i64 r2] 44) = w9 at *
  clear hWe
  generalize hge : w8.heap.size = gv at *
  clear hge
  go_upto_if 38 with (fail)
  go_cut [11] (fun s11 wz => s11 = .int .i64 (kd : Nat) ∧ wz = w9)
  case first =>
    have hk := HKD.out
    rcases Decidable.em (pe = 0) with h0 | h0
    · have hb1 : ((pe : Int) == 0) = true := by rw [h0]; rfl
      rw [if_pos h0] at hk
      subst hk
      clear h0 HKD
      go_wp2_with fail
      go_meet
      exact ⟨rfl, rfl⟩
    · have hb1 : ((pe : Int) == 0) = false := by rw [beq_eq_false_iff_ne]; omega
      rw [if_neg h0] at hk
      rcases Decidable.em (qe = 0) with h1 | h1
      · have hb2 : ((qe : Int) == 0) = true := by rw [h1]; rfl
        rw [if_pos h1] at hk
        subst hk
        clear h0 h1 HKD
        go_wp2_with fail
        go_meet
        exact ⟨rfl, rfl⟩
      · have hb2 : ((qe : Int) == 0) = false := by rw [beq_eq_false_iff_ne]; omega
        rw [if_neg h1] at hk
        subst hk
        clear h0 h1 HKD
        go_wp2_with fail
        go_meet
        exact ⟨rfl, rfl⟩
  case rest =>
    obtain ⟨rfl, rfl⟩ := hcut
    clear HKD
    go_upto_region 14 with (fail)
    have hst : Below wc.heap.size wc wc.drew := (Below.refl _ _).drew
    have heq := eq_rcq r1 r2
    have hml : m2.length ≤ 1000000 := by
      have := congrArg List.length hm2.out
      simp only [List.length_map] at this
      omega
    refine wp_region_held_drew (S := (fun W => Below wc.heap.size wc W)) (by kernel_rfl) ?_ (fun hHeld => ?_)
    · exact hst
    refine gen0 (T := fun W => ((fun W => Below wc.heap.size wc W)) W ∧ True) ?_ (fun wq1 hT => ?_)
    · exact ⟨by (first | exact hst | exact hHeld | exact bel_call hHeld hb9 | exact bel_call hHeld hb10 | exact bel_call hHeld hb12), trivial⟩
    (try clear f0 f1 f2 f3 f4 f5 f6 f7 f8 f9 f10 f11)
    obtain ⟨hHeld, -⟩ := hT
    refine wpAnyH_take (i := 0) (oi := ⟨some 41, _, _, _, _, _⟩) (v := ?_) rfl (by kernel_rfl) (by kernel_rfl) (by kernel_rfl) (fun _ _ _ h => h) (Or.inl ⟨by kernel_rfl, ?_⟩) (by assumption) ?_
    rotate_left
    · (intro wS hSw; (try dsimp only at hSw); obtain ⟨q0, q1, q2, q3, _⟩ := (hX.below hSw).four; obtain ⟨p0, p1', p2', p3', _⟩ := (hY.below hSw).four; obtain ⟨z0, z1, _, _⟩ := (hZ.below hSw).two; obtain ⟨v0, v1, _, _⟩ := (hV.below hSw).two; clear hSw; go_simp; (try with_reducible rfl))
    (try simp only [Act.put, List.setIfInBounds_toArray, List.set_cons_zero, List.set_cons_succ])
    refine wpAnyH_take (i := 2) (oi := ⟨some 43, _, _, _, _, _⟩) (v := ?_) rfl (by kernel_rfl) (by kernel_rfl) (by kernel_rfl) (fun _ _ _ h => h) (Or.inl ⟨by kernel_rfl, ?_⟩) (by assumption) ?_
    rotate_left
    · (intro wS hSw; (try dsimp only at hSw); obtain ⟨q0, q1, q2, q3, _⟩ := (hX.below hSw).four; obtain ⟨p0, p1', p2', p3', _⟩ := (hY.below hSw).four; obtain ⟨z0, z1, _, _⟩ := (hZ.below hSw).two; obtain ⟨v0, v1, _, _⟩ := (hV.below hSw).two; clear hSw; go_simp; (try with_reducible rfl))
    (try simp only [Act.put, List.setIfInBounds_toArray, List.set_cons_zero, List.set_cons_succ])
    refine wpAnyH_ready (rs := [1]) (by kernel_rfl) (by simp) ?_
    refine AllReadyH.cons (o := ⟨some 42, _, _, _, _, _⟩) rfl (fun K hK => ?_) AllReadyH.nil
    go_simp
    (refine (Doc23_any p1 p2 p3 m2 _ (SlC.below hS2 hHeld) hml).mono ?_; rintro e w9 ⟨A9, c9, m9, rfl, hm9, hs9, hb9⟩)
    go_wp2_with fail
    refine hK.out _ _ ?_ (fun _ => ?_)
    · ((try dsimp only); (first | exact hst | exact hHeld | exact bel_call hHeld hb9 | exact bel_call hHeld hb10 | exact bel_call hHeld hb12))
    clear hK K
    (try simp only [Act.put, List.setIfInBounds_toArray, List.set_cons_zero, List.set_cons_succ])
    refine gen0 (T := fun W => ((fun W => Below wc.heap.size wc W)) W ∧ SlD W A9 c9 m9 ∧ True) ?_ (fun wq2 hT => ?_)
    · exact ⟨by (first | exact hst | exact hHeld | exact bel_call hHeld hb9 | exact bel_call hHeld hb10 | exact bel_call hHeld hb12), by (first | assumption | exact hs9), trivial⟩
    (try clear f0 f1 f2 f3 f4 f5 f6 f7 f8 f9 f10 f11)
    obtain ⟨hHeld, f0, -⟩ := hT
    refine wpAnyH_ready (rs := [3]) (by kernel_rfl) (by simp) ?_
    refine AllReadyH.cons (o := ⟨some 44, _, _, _, _, _⟩) rfl (fun K hK => ?_) AllReadyH.nil
    go_simp
    (refine (rPSame_any p1 p2 p3 p1 p2 p3 m9 m4 _ f0 (Sl.below hD4 hHeld)).mono ?_; rintro e w10 ⟨rfl, hb10⟩; rw [show psame (p1, p2, p3, m9) (p1, p2, p3, m4) = true from by unfold psame; rw [hm9.out, hm2.out, hm4.out]; simp])
    go_wp2_with fail
    refine hK.out _ _ ?_ (fun _ => ?_)
    · ((try dsimp only); (first | exact hst | exact hHeld | exact bel_call hHeld hb9 | exact bel_call hHeld hb10 | exact bel_call hHeld hb12))
    clear hK K
    (try simp only [Act.put, List.setIfInBounds_toArray, List.set_cons_zero, List.set_cons_succ])
    refine gen0 (T := fun W => ((fun W => Below wc.heap.size wc W)) W ∧ True) ?_ (fun wq3 hT => ?_)
    · exact ⟨by (first | exact hst | exact hHeld | exact bel_call hHeld hb9 | exact bel_call hHeld hb10 | exact bel_call hHeld hb12), trivial⟩
    (try clear f0 f1 f2 f3 f4 f5 f6 f7 f8 f9 f10 f11)
    obtain ⟨hHeld, -⟩ := hT
    refine wpAnyH_take (i := 4) (oi := ⟨some 45, _, _, _, _, _⟩) (v := ?_) rfl (by kernel_rfl) (by kernel_rfl) (by kernel_rfl) (fun _ _ _ h => h) (Or.inl ⟨by kernel_rfl, ?_⟩) (by assumption) ?_
    rotate_left
    · (intro wS hSw; (try dsimp only at hSw); obtain ⟨q0, q1, q2, q3, _⟩ := (hX.below hSw).four; obtain ⟨p0, p1', p2', p3', _⟩ := (hY.below hSw).four; obtain ⟨z0, z1, _, _⟩ := (hZ.below hSw).two; obtain ⟨v0, v1, _, _⟩ := (hV.below hSw).two; clear hSw; go_simp; (try with_reducible rfl))
    (try simp only [Act.put, List.setIfInBounds_toArray, List.set_cons_zero, List.set_cons_succ])
    refine wpAnyH_take (i := 5) (oi := ⟨some 46, _, _, _, _, _⟩) (v := ?_) rfl (by kernel_rfl) (by kernel_rfl) (by kernel_rfl) (fun _ _ _ h => h) (Or.inl ⟨by kernel_rfl, ?_⟩) (by assumption) ?_
    rotate_left
    · (intro wS hSw; (try dsimp only at hSw); obtain ⟨q0, q1, q2, q3, _⟩ := (hX.below hSw).four; obtain ⟨p0, p1', p2', p3', _⟩ := (hY.below hSw).four; obtain ⟨z0, z1, _, _⟩ := (hZ.below hSw).two; obtain ⟨v0, v1, _, _⟩ := (hV.below hSw).two; clear hSw; go_simp; (try with_reducible rfl))
    (try simp only [Act.put, List.setIfInBounds_toArray, List.set_cons_zero, List.set_cons_succ])
    refine wpAnyH_take (i := 7) (oi := ⟨some 48, _, _, _, _, _⟩) (v := ?_) rfl (by kernel_rfl) (by kernel_rfl) (by kernel_rfl) (fun _ _ _ h => h) (Or.inl ⟨by kernel_rfl, ?_⟩) (by assumption) ?_
    rotate_left
    · (intro wS hSw; (try dsimp only at hSw); obtain ⟨q0, q1, q2, q3, _⟩ := (hX.below hSw).four; obtain ⟨p0, p1', p2', p3', _⟩ := (hY.below hSw).four; obtain ⟨z0, z1, _, _⟩ := (hZ.below hSw).two; obtain ⟨v0, v1, _, _⟩ := (hV.below hSw).two; clear hSw; go_simp; (try with_reducible rfl))
    (try simp only [Act.put, List.setIfInBounds_toArray, List.set_cons_zero, List.set_cons_succ])
    refine wpAnyH_ready (rs := [6]) (by kernel_rfl) (by simp) ?_
    refine AllReadyH.cons (o := ⟨some 47, _, _, _, _, _⟩) rfl (fun K hK => ?_) AllReadyH.nil
    go_simp
    (refine (num_any _ _).mono ?_; rintro e w11 ⟨rfl, rfl⟩)
    go_wp2_with fail
    refine hK.out _ _ ?_ (fun _ => ?_)
    · ((try dsimp only); (first | exact hst | exact hHeld | exact bel_call hHeld hb9 | exact bel_call hHeld hb10 | exact bel_call hHeld hb12))
    clear hK K
    (try simp only [Act.put, List.setIfInBounds_toArray, List.set_cons_zero, List.set_cons_succ])
    refine gen0 (T := fun W => ((fun W => Below wc.heap.size wc W)) W ∧ True) ?_ (fun wq4 hT => ?_)
    · exact ⟨by (first | exact hst | exact hHeld | exact bel_call hHeld hb9 | exact bel_call hHeld hb10 | exact bel_call hHeld hb12), trivial⟩
    (try clear f0 f1 f2 f3 f4 f5 f6 f7 f8 f9 f10 f11)
    obtain ⟨hHeld, -⟩ := hT
    refine wpAnyH_take (i := 8) (oi := ⟨some 49, _, _, _, _, _⟩) (v := ?_) rfl (by kernel_rfl) (by kernel_rfl) (by kernel_rfl) (fun _ _ _ h => h) (Or.inl ⟨by kernel_rfl, ?_⟩) (by assumption) ?_
    rotate_left
    · (intro wS hSw; (try dsimp only at hSw); obtain ⟨q0, q1, q2, q3, _⟩ := (hX.below hSw).four; obtain ⟨p0, p1', p2', p3', _⟩ := (hY.below hSw).four; obtain ⟨z0, z1, _, _⟩ := (hZ.below hSw).two; obtain ⟨v0, v1, _, _⟩ := (hV.below hSw).two; clear hSw; go_simp; (try with_reducible rfl))
    (try simp only [Act.put, List.setIfInBounds_toArray, List.set_cons_zero, List.set_cons_succ])
    refine wpAnyH_take (i := 9) (oi := ⟨some 50, _, _, _, _, _⟩) (v := ?_) rfl (by kernel_rfl) (by kernel_rfl) (by kernel_rfl) (fun _ _ _ h => h) (Or.inl ⟨by kernel_rfl, ?_⟩) (by assumption) ?_
    rotate_left
    · (intro wS hSw; (try dsimp only at hSw); obtain ⟨q0, q1, q2, q3, _⟩ := (hX.below hSw).four; obtain ⟨p0, p1', p2', p3', _⟩ := (hY.below hSw).four; obtain ⟨z0, z1, _, _⟩ := (hZ.below hSw).two; obtain ⟨v0, v1, _, _⟩ := (hV.below hSw).two; clear hSw; go_simp; (try with_reducible rfl))
    (try simp only [Act.put, List.setIfInBounds_toArray, List.set_cons_zero, List.set_cons_succ])
    refine wpAnyH_take (i := 10) (oi := ⟨some 51, _, _, _, _, _⟩) (v := ?_) rfl (by kernel_rfl) (by kernel_rfl) (by kernel_rfl) (fun _ _ _ h => h) (Or.inl ⟨by kernel_rfl, ?_⟩) (by assumption) ?_
    rotate_left
    · (intro wS hSw; (try dsimp only at hSw); obtain ⟨q0, q1, q2, q3, _⟩ := (hX.below hSw).four; obtain ⟨p0, p1', p2', p3', _⟩ := (hY.below hSw).four; obtain ⟨z0, z1, _, _⟩ := (hZ.below hSw).two; obtain ⟨v0, v1, _, _⟩ := (hV.below hSw).two; clear hSw; go_simp; (try with_reducible rfl))
    (try simp only [Act.put, List.setIfInBounds_toArray, List.set_cons_zero, List.set_cons_succ])
    refine wpAnyH_take (i := 11) (oi := ⟨some 52, _, _, _, _, _⟩) (v := ?_) rfl (by kernel_rfl) (by kernel_rfl) (by kernel_rfl) (fun _ _ _ h => h) (Or.inl ⟨by kernel_rfl, ?_⟩) (by assumption) ?_
    rotate_left
    · (intro wS hSw; (try dsimp only at hSw); obtain ⟨q0, q1, q2, q3, _⟩ := (hX.below hSw).four; obtain ⟨p0, p1', p2', p3', _⟩ := (hY.below hSw).four; obtain ⟨z0, z1, _, _⟩ := (hZ.below hSw).two; obtain ⟨v0, v1, _, _⟩ := (hV.below hSw).two; clear hSw; go_simp; (try with_reducible rfl))
    (try simp only [Act.put, List.setIfInBounds_toArray, List.set_cons_zero, List.set_cons_succ])
    refine wpAnyH_take (i := 12) (oi := ⟨some 53, _, _, _, _, _⟩) (v := ?_) rfl (by kernel_rfl) (by kernel_rfl) (by kernel_rfl) (fun _ _ _ h => h) (Or.inl ⟨by kernel_rfl, ?_⟩) (by assumption) ?_
    rotate_left
    · (intro wS hSw; (try dsimp only at hSw); obtain ⟨q0, q1, q2, q3, _⟩ := (hX.below hSw).four; obtain ⟨p0, p1', p2', p3', _⟩ := (hY.below hSw).four; obtain ⟨z0, z1, _, _⟩ := (hZ.below hSw).two; obtain ⟨v0, v1, _, _⟩ := (hV.below hSw).two; clear hSw; go_simp; (try with_reducible rfl))
    (try simp only [Act.put, List.setIfInBounds_toArray, List.set_cons_zero, List.set_cons_succ])
    refine wpAnyH_take (i := 13) (oi := ⟨some 54, _, _, _, _, _⟩) (v := ?_) rfl (by kernel_rfl) (by kernel_rfl) (by kernel_rfl) (fun _ _ _ h => h) (Or.inl ⟨by kernel_rfl, ?_⟩) (by assumption) ?_
    rotate_left
    · (intro wS hSw; (try dsimp only at hSw); obtain ⟨q0, q1, q2, q3, _⟩ := (hX.below hSw).four; obtain ⟨p0, p1', p2', p3', _⟩ := (hY.below hSw).four; obtain ⟨z0, z1, _, _⟩ := (hZ.below hSw).two; obtain ⟨v0, v1, _, _⟩ := (hV.below hSw).two; clear hSw; go_simp; (try with_reducible rfl))
    (try simp only [Act.put, List.setIfInBounds_toArray, List.set_cons_zero, List.set_cons_succ])
    refine wpAnyH_take (i := 14) (oi := ⟨some 55, _, _, _, _, _⟩) (v := ?_) rfl (by kernel_rfl) (by kernel_rfl) (by kernel_rfl) (fun _ _ _ h => h) (Or.inl ⟨by kernel_rfl, ?_⟩) (by assumption) ?_
    rotate_left
    · (intro wS hSw; (try dsimp only at hSw); obtain ⟨q0, q1, q2, q3, _⟩ := (hX.below hSw).four; obtain ⟨p0, p1', p2', p3', _⟩ := (hY.below hSw).four; obtain ⟨z0, z1, _, _⟩ := (hZ.below hSw).two; obtain ⟨v0, v1, _, _⟩ := (hV.below hSw).two; clear hSw; go_simp; (try with_reducible rfl))
    (try simp only [Act.put, List.setIfInBounds_toArray, List.set_cons_zero, List.set_cons_succ])
    refine wpAnyH_take (i := 15) (oi := ⟨some 56, _, _, _, _, _⟩) (v := ?_) rfl (by kernel_rfl) (by kernel_rfl) (by kernel_rfl) (fun _ _ _ h => h) (Or.inl ⟨by kernel_rfl, ?_⟩) (by assumption) ?_
    rotate_left
    · (intro wS hSw; (try dsimp only at hSw); obtain ⟨q0, q1, q2, q3, _⟩ := (hX.below hSw).four; obtain ⟨p0, p1', p2', p3', _⟩ := (hY.below hSw).four; obtain ⟨z0, z1, _, _⟩ := (hZ.below hSw).two; obtain ⟨v0, v1, _, _⟩ := (hV.below hSw).two; clear hSw; go_simp; (try with_reducible rfl))
    (try simp only [Act.put, List.setIfInBounds_toArray, List.set_cons_zero, List.set_cons_succ])
    refine wpAnyH_take (i := 16) (oi := ⟨some 57, _, _, _, _, _⟩) (v := ?_) rfl (by kernel_rfl) (by kernel_rfl) (by kernel_rfl) (fun _ _ _ h => h) (Or.inl ⟨by kernel_rfl, ?_⟩) (by assumption) ?_
    rotate_left
    · (intro wS hSw; (try dsimp only at hSw); obtain ⟨q0, q1, q2, q3, _⟩ := (hX.below hSw).four; obtain ⟨p0, p1', p2', p3', _⟩ := (hY.below hSw).four; obtain ⟨z0, z1, _, _⟩ := (hZ.below hSw).two; obtain ⟨v0, v1, _, _⟩ := (hV.below hSw).two; clear hSw; go_simp; (try with_reducible rfl))
    (try simp only [Act.put, List.setIfInBounds_toArray, List.set_cons_zero, List.set_cons_succ])
    refine wpAnyH_take (i := 18) (oi := ⟨some 59, _, _, _, _, _⟩) (v := ?_) rfl (by kernel_rfl) (by kernel_rfl) (by kernel_rfl) (fun _ _ _ h => h) (Or.inl ⟨by kernel_rfl, ?_⟩) (by assumption) ?_
    rotate_left
    · (intro wS hSw; (try dsimp only at hSw); obtain ⟨q0, q1, q2, q3, _⟩ := (hX.below hSw).four; obtain ⟨p0, p1', p2', p3', _⟩ := (hY.below hSw).four; obtain ⟨z0, z1, _, _⟩ := (hZ.below hSw).two; obtain ⟨v0, v1, _, _⟩ := (hV.below hSw).two; clear hSw; go_simp; (try with_reducible rfl))
    (try simp only [Act.put, List.setIfInBounds_toArray, List.set_cons_zero, List.set_cons_succ])
    refine wpAnyH_ready (rs := [17]) (by kernel_rfl) (by simp) ?_
    refine AllReadyH.cons (o := ⟨some 58, _, _, _, _, _⟩) rfl (fun K hK => ?_) AllReadyH.nil
    go_simp
    (refine (num_any _ _).mono ?_; rintro e w11 ⟨rfl, rfl⟩)
    go_wp2_with fail
    refine hK.out _ _ ?_ (fun _ => ?_)
    · ((try dsimp only); (first | exact hst | exact hHeld | exact bel_call hHeld hb9 | exact bel_call hHeld hb10 | exact bel_call hHeld hb12))
    clear hK K
    (try simp only [Act.put, List.setIfInBounds_toArray, List.set_cons_zero, List.set_cons_succ])
    refine gen0 (T := fun W => ((fun W => Below wc.heap.size wc W)) W ∧ True) ?_ (fun wq5 hT => ?_)
    · exact ⟨by (first | exact hst | exact hHeld | exact bel_call hHeld hb9 | exact bel_call hHeld hb10 | exact bel_call hHeld hb12), trivial⟩
    (try clear f0 f1 f2 f3 f4 f5 f6 f7 f8 f9 f10 f11)
    obtain ⟨hHeld, -⟩ := hT
    refine wpAnyH_take (i := 19) (oi := ⟨some 60, _, _, _, _, _⟩) (v := ?_) rfl (by kernel_rfl) (by kernel_rfl) (by kernel_rfl) (fun _ _ _ h => h) (Or.inl ⟨by kernel_rfl, ?_⟩) (by assumption) ?_
    rotate_left
    · (intro wS hSw; (try dsimp only at hSw); obtain ⟨q0, q1, q2, q3, _⟩ := (hX.below hSw).four; obtain ⟨p0, p1', p2', p3', _⟩ := (hY.below hSw).four; obtain ⟨z0, z1, _, _⟩ := (hZ.below hSw).two; obtain ⟨v0, v1, _, _⟩ := (hV.below hSw).two; clear hSw; go_simp; (try with_reducible rfl))
    (try simp only [Act.put, List.setIfInBounds_toArray, List.set_cons_zero, List.set_cons_succ])
    refine wpAnyH_take (i := 20) (oi := ⟨some 61, _, _, _, _, _⟩) (v := ?_) rfl (by kernel_rfl) (by kernel_rfl) (by kernel_rfl) (fun _ _ _ h => h) (Or.inl ⟨by kernel_rfl, ?_⟩) (by assumption) ?_
    rotate_left
    · (intro wS hSw; (try dsimp only at hSw); obtain ⟨q0, q1, q2, q3, _⟩ := (hX.below hSw).four; obtain ⟨p0, p1', p2', p3', _⟩ := (hY.below hSw).four; obtain ⟨z0, z1, _, _⟩ := (hZ.below hSw).two; obtain ⟨v0, v1, _, _⟩ := (hV.below hSw).two; clear hSw; go_simp; (try with_reducible rfl))
    (try simp only [Act.put, List.setIfInBounds_toArray, List.set_cons_zero, List.set_cons_succ])
    refine wpAnyH_take (i := 21) (oi := ⟨some 62, _, _, _, _, _⟩) (v := ?_) rfl (by kernel_rfl) (by kernel_rfl) (by kernel_rfl) (fun _ _ _ h => h) (Or.inl ⟨by kernel_rfl, ?_⟩) (by assumption) ?_
    rotate_left
    · (intro wS hSw; (try dsimp only at hSw); obtain ⟨q0, q1, q2, q3, _⟩ := (hX.below hSw).four; obtain ⟨p0, p1', p2', p3', _⟩ := (hY.below hSw).four; obtain ⟨z0, z1, _, _⟩ := (hZ.below hSw).two; obtain ⟨v0, v1, _, _⟩ := (hV.below hSw).two; clear hSw; go_simp; (try with_reducible rfl))
    (try simp only [Act.put, List.setIfInBounds_toArray, List.set_cons_zero, List.set_cons_succ])
    refine wpAnyH_take (i := 22) (oi := ⟨some 63, _, _, _, _, _⟩) (v := ?_) rfl (by kernel_rfl) (by kernel_rfl) (by kernel_rfl) (fun _ _ _ h => h) (Or.inl ⟨by kernel_rfl, ?_⟩) (by assumption) ?_
    rotate_left
    · (intro wS hSw; (try dsimp only at hSw); obtain ⟨q0, q1, q2, q3, _⟩ := (hX.below hSw).four; obtain ⟨p0, p1', p2', p3', _⟩ := (hY.below hSw).four; obtain ⟨z0, z1, _, _⟩ := (hZ.below hSw).two; obtain ⟨v0, v1, _, _⟩ := (hV.below hSw).two; clear hSw; go_simp; (try with_reducible rfl))
    (try simp only [Act.put, List.setIfInBounds_toArray, List.set_cons_zero, List.set_cons_succ])
    refine wpAnyH_take (i := 24) (oi := ⟨some 65, _, _, _, _, _⟩) (v := ?_) rfl (by kernel_rfl) (by kernel_rfl) (by kernel_rfl) (fun _ _ _ h => h) (Or.inl ⟨by kernel_rfl, ?_⟩) (by assumption) ?_
    rotate_left
    · (intro wS hSw; (try dsimp only at hSw); obtain ⟨q0, q1, q2, q3, _⟩ := (hX.below hSw).four; obtain ⟨p0, p1', p2', p3', _⟩ := (hY.below hSw).four; obtain ⟨z0, z1, _, _⟩ := (hZ.below hSw).two; obtain ⟨v0, v1, _, _⟩ := (hV.below hSw).two; clear hSw; go_simp; (try with_reducible rfl))
    (try simp only [Act.put, List.setIfInBounds_toArray, List.set_cons_zero, List.set_cons_succ])
    refine wpAnyH_ready (rs := [23]) (by kernel_rfl) (by simp) ?_
    refine AllReadyH.cons (o := ⟨some 64, _, _, _, _, _⟩) rfl (fun K hK => ?_) AllReadyH.nil
    go_simp
    (refine (HPK.out _ (h.below (bel_call hw hHeld))).mono ?_; rintro e w12 ⟨rfl, hb12⟩)
    go_wp2_with fail
    refine hK.out _ _ ?_ (fun _ => ?_)
    · ((try dsimp only); (first | exact hst | exact hHeld | exact bel_call hHeld hb9 | exact bel_call hHeld hb10 | exact bel_call hHeld hb12))
    clear hK K
    (try simp only [Act.put, List.setIfInBounds_toArray, List.set_cons_zero, List.set_cons_succ])
    refine gen0 (T := fun W => ((fun W => Below wc.heap.size wc W)) W ∧ True) ?_ (fun wq6 hT => ?_)
    · exact ⟨by (first | exact hst | exact hHeld | exact bel_call hHeld hb9 | exact bel_call hHeld hb10 | exact bel_call hHeld hb12), trivial⟩
    (try clear f0 f1 f2 f3 f4 f5 f6 f7 f8 f9 f10 f11)
    obtain ⟨hHeld, -⟩ := hT
    refine wpAnyH_take (i := 25) (oi := ⟨some 66, _, _, _, _, _⟩) (v := ?_) rfl (by kernel_rfl) (by kernel_rfl) (by kernel_rfl) (fun _ _ _ h => h) (Or.inl ⟨by kernel_rfl, ?_⟩) (by assumption) ?_
    rotate_left
    · (intro wS hSw; (try dsimp only at hSw); obtain ⟨q0, q1, q2, q3, _⟩ := (hX.below hSw).four; obtain ⟨p0, p1', p2', p3', _⟩ := (hY.below hSw).four; obtain ⟨z0, z1, _, _⟩ := (hZ.below hSw).two; obtain ⟨v0, v1, _, _⟩ := (hV.below hSw).two; clear hSw; go_simp; (try with_reducible rfl))
    (try simp only [Act.put, List.setIfInBounds_toArray, List.set_cons_zero, List.set_cons_succ])
    refine wpAnyH_take (i := 26) (oi := ⟨some 67, _, _, _, _, _⟩) (v := ?_) rfl (by kernel_rfl) (by kernel_rfl) (by kernel_rfl) (fun _ _ _ h => h) (Or.inl ⟨by kernel_rfl, ?_⟩) (by assumption) ?_
    rotate_left
    · (intro wS hSw; (try dsimp only at hSw); obtain ⟨q0, q1, q2, q3, _⟩ := (hX.below hSw).four; obtain ⟨p0, p1', p2', p3', _⟩ := (hY.below hSw).four; obtain ⟨z0, z1, _, _⟩ := (hZ.below hSw).two; obtain ⟨v0, v1, _, _⟩ := (hV.below hSw).two; clear hSw; go_simp; (try with_reducible rfl))
    (try simp only [Act.put, List.setIfInBounds_toArray, List.set_cons_zero, List.set_cons_succ])
    refine wpAnyH_take (i := 27) (oi := ⟨some 2, _, _, _, _, _⟩) (v := ?_) rfl (by kernel_rfl) (by kernel_rfl) (by kernel_rfl) (fun _ _ _ h => h) (Or.inl ⟨by kernel_rfl, ?_⟩) (by assumption) ?_
    rotate_left
    · (intro wS hSw; (try dsimp only at hSw); obtain ⟨q0, q1, q2, q3, _⟩ := (hX.below hSw).four; obtain ⟨p0, p1', p2', p3', _⟩ := (hY.below hSw).four; obtain ⟨z0, z1, _, _⟩ := (hZ.below hSw).two; obtain ⟨v0, v1, _, _⟩ := (hV.below hSw).two; clear hSw; go_simp; (try with_reducible rfl))
    (try simp only [Act.put, List.setIfInBounds_toArray, List.set_cons_zero, List.set_cons_succ])
    refine wpAnyH_done (by kernel_rfl) ?_ _
    go_wp2_with fail
    go_ret
    exact ⟨rfl, bel_call hw hHeld⟩
theorem ptakes_all {A : Option Addr} {c : Nat} {b : List UInt8} (w : World) (h : SlB w A c b) :
    Calls Tryz.prog 3 #[.slice A b.length c] w fun e w' => e = .returned (.bool true) ∧ Below w.heap.size w w' := by
  rcases Nat.lt_or_ge 6000 b.length with hl | hl
  · exact ptakes_early w h hl
  · exact ptakes_walk w h hl
end Go.Proofs.YtgipfenjachpnaaGreat

namespace Go.Proofs.YtgipfenjachpnaaGreat
open Go.RowKit
attribute [local go_sem ↓] Go.wp_at_zero Go.wp_at_succ

theorem u64q (a : Int) (n : Nat) (hn : n ≤ 1000) : ∃ q : Nat, q ≤ n ∧ (IntKind.u64.wrap a).tmod ((n : Int) + 1) = (q : Int) := by
  rw [IntKind.wrap_u64]
  have h : (0 : Int) ≤ a % 18446744073709551616 := Int.emod_nonneg _ (by decide)
  rw [Int.tmod_eq_emod_of_nonneg h]
  have h1 := Int.emod_nonneg (a % 18446744073709551616) (b := (n : Int) + 1) (by omega)
  have h2 := Int.emod_lt_of_pos (a % 18446744073709551616) (b := (n : Int) + 1) (by omega)
  exact ⟨((a % 18446744073709551616) % ((n : Int) + 1)).toNat, by omega, by omega⟩
theorem data_le {ms : List CeV} {l : List Ce} (h : ms.map ceOf = l) (hl : ∀ c ∈ l, c.2.length ≤ 1000000000) : ∀ x ∈ ms, x.2.2.2.length ≤ 1000000000 := fun x hx => hl (ceOf x) (by rw [← h]; exact List.mem_map_of_mem hx)
theorem sgTake_nil (b : List UInt8) : (sgTake b).2 ≠ 0 → (sgTake b).1 = (0, []) := by
  unfold sgTake
  split
  · intro _; rfl
  · unfold sgEnd
    split
    · intro _; rfl
    · split
      · intro _; rfl
      · intro h; exact absurd rfl h
end Go.Proofs.YtgipfenjachpnaaGreat

namespace Go.Proofs.YtgipfenjachpnaaGreat
open Go.RowKit
attribute [local go_sem ↓] Go.wp_at_zero Go.wp_at_succ

theorem pput_zero {p : Pc} (h : (pput p).2 = 0) : pchk p = 0 := by
  unfold pput at h
  by_cases h0 : pchk p = 0
  · exact h0
  · rw [if_pos h0] at h
    exact absurd h h0
theorem qput_zero {p : Rc} (h : (qput p).2 = 0) : qchk p = 0 := by
  unfold qput at h
  by_cases h0 : qchk p = 0
  · exact h0
  · rw [if_pos h0] at h
    exact absurd h h0
theorem pput_len {p : Pc} (h : pchk p = 0) : (frm (ptxt p)).length ≤ 100000 := by
  obtain ⟨h1, h2, h3, h4, h5⟩ := pchk_ok h
  have l1 := vb_le10 (n := 1) (by omega)
  have l2 := vb_le10 (n := p.1.toNat) (by omega)
  have l3 := vb_le10 (n := p.2.1.toNat) (by omega)
  have l4 := stxt_len h5
  have hl : (ptxt p).length ≤ 65536 := by unfold ptxt; simp only [List.length_append]; omega
  have l5 := vb_le10 (n := (ptxt p).length) (by omega)
  rw [frm_len]; omega
theorem qput_len {p : Rc} (h : qchk p = 0) : (frm (qtxt p)).length ≤ 100000 := by
  obtain ⟨h1, h2, h3, h4⟩ := qchk_ok h
  have l1 := vb_le10 (n := 2) (by omega)
  have l2 := vb_le10 (n := p.1.toNat) (by omega)
  have l3 := vb_le10 (n := p.2.toNat) (by omega)
  have hl : (qtxt p).length ≤ 65536 := by unfold qtxt; simp only [List.length_append]; omega
  have l5 := vb_le10 (n := (qtxt p).length) (by omega)
  rw [frm_len]; omega
theorem pcKind_two {r : Rc} (h : qchk r = 0) : pcKind (frm (qtxt r)) = 2 := by
  have h1 := qcTake_put h
  have h2 : (pcTake (frm (qtxt r))).2 ≠ 0 := fun h3 => pc_not_qc (Nat.le_trans (qput_len h) (by decide)) (p := (pcTake (frm (qtxt r))).1) (r := r) (by rw [← h3]) h1
  unfold pcKind
  rw [if_neg h2, h1, if_pos rfl]
end Go.Proofs.YtgipfenjachpnaaGreat

namespace Go.Proofs.YtgipfenjachpnaaGreat
open Go.RowKit
attribute [local go_sem ↓] Go.wp_at_zero Go.wp_at_succ

theorem vb_1 : vb 1 = [1] := by rw [vb]; rfl
theorem vb_2 : vb 2 = [2] := by rw [vb]; rfl
set_option maxRecDepth 100000 in
set_option maxHeartbeats 2000000 in
theorem rPPut_any {E : Option Addr} {cap : Nat} (x t f : Int) (ds : List Ce) (w : World) (h : SlD w E cap ds) (h0 : pchk (x, t, f, ds) = 0) :
    Calls Tryz.prog 22 #[pcv x t f E ds.length cap] w (GivesB w (frm (ptxt (x, t, f, ds)))) := by
  obtain ⟨g1, g2, g3, g4, g5⟩ := pchk_ok h0
  dsimp only at g1 g2 g3 g4 g5
  obtain ⟨hf0, hf1, hn64, hne, hr0⟩ := schk_ok g5
  dsimp only at hf0 hf1 hn64 hne hr0
  obtain ⟨n, rfl⟩ : ∃ n : Nat, x = n := ⟨x.toNat, by omega⟩
  obtain ⟨m, rfl⟩ : ∃ n : Nat, t = n := ⟨t.toNat, by omega⟩
  obtain ⟨j, rfl⟩ : ∃ n : Nat, f = n := ⟨f.toNat, by omega⟩
  have hun : U64 n := by unfold U64; omega
  have hum : U64 m := by unfold U64; omega
  have huj : U64 j := by unfold U64; omega
  have hwn := wrap_u64_of hun
  have hwm := wrap_u64_of hum
  have hwj := wrap_u64_of huj
  have hok : Hid (∀ c ∈ ds, cchk c = 0) := (show ∀ c ∈ ds, _ from rchk_zero hr0)
  have htx : Hid (ptxt ((n : Int), (m : Int), (j : Int), ds) = [1] ++ (vb n ++ (vb m ++ (vb j ++ (vb ds.length ++ rgo none [] ds))))) := (show _ = _ from by
    unfold ptxt stxt
    rw [rgo_prun 64 ds [] hn64 hn64 hok.out (by simp), vb_1]
    rfl)
  have HLEN := Lib.hid (pput_len h0)
  have hlx := stxt_len g5
  have HSL : Hid ((vb j ++ (vb ds.length ++ rgo none [] ds)).length ≤ 7000) := (show _ ≤ _ from by
    have h9 := hlx
    unfold stxt at h9
    dsimp only at h9
    rw [Int.toNat_natCast] at h9
    rw [rgo_prun 64 ds [] hn64 hn64 hok.out (by simp)]
    exact h9)
  have hv1 := vb_le10 hun
  have hv2 := vb_le10 hum
  have hv3 := vb_le10 huj
  have hB0 := Blk.new w 37 #[.int .i64 (n : Int), .int .i64 (m : Int), .int .i64 (j : Int), .slice E ds.length cap]
  have hbw := below_new w (.cells #[.int .i64 (n : Int), .int .i64 (m : Int), .int .i64 (j : Int), .slice E ds.length cap] 37)
  have hL1 : OwnB ((w.alloc (.cells #[.int .i64 (n : Int), .int .i64 (m : Int), .int .i64 (j : Int), .slice E ds.length cap] 37)).alloc (.cells #[.int .u8 1] 5)) (w.heap.size + 1) 5 (some ⟨w.heap.size + 1, 0, none⟩) 1 [1] := (Own.lits1 (w := w.alloc (.cells #[.int .i64 (n : Int), .int .i64 (m : Int), .int .i64 (j : Int), .slice E ds.length cap] 37)) (g := w.heap.size + 1) (by simp) 5 1).more (by simp)
  have hB1 := hB0.alloc (.cells #[.int .u8 1] 5)
  have hw1 := bel_alloc hbw (.cells #[.int .u8 1] 5)
  clear g1 g2 g3 g4 g5 hr0 hne hf0 hf1 h0 hlx hB0 hbw
  go_enter Tryz.func22, Tryz.ntmps22
  go_wp2_with fail
  refine (rBytes_any n hun _).mono ?_
  rintro e w2 ⟨A2, c2, m2, rfl, hm2, ho2, hb2⟩
  have hL2 := Own.below hL1 hb2
  have hB := hB1.below hb2
  have hw := bel_call hw1 hb2
  have hml2 : m2.length ≤ 10 := by rw [hm2.out]; exact hv1
  clear hL1 hB1 hw1 hb2
  go_wp2_with (at_builtin; go_must (refine wpl_bytes 22 5 Tryz.underlying22 u8_info rfl (.tmp 4) (.tmp 8) rfl (w.heap.size + 1) (some ⟨w.heap.size + 1, 0, none⟩) 1 [1] rfl hL2 A2 c2 m2 rfl ho2.sl (by (try simp only [List.length_cons, List.length_nil]); omega) (by have := hB.lt; omega) ?_; intro A3 c3 m3 w3 hm3 ho3 _ _ hb3; replace hw := hw.trans (hb3.mono (Nat.le_succ _)); replace hB : Blk w3 w.heap.size _ _ := (hb3.block w.heap.size (Nat.lt_succ_self _)).trans hB; obtain ⟨a0, a1, a2, a3, _⟩ := hB.four))
  have hl3 : m3.length ≤ 11 := by rw [hm3.out]; simp only [List.length_append, List.length_cons, List.length_nil]; omega
  refine (rBytes_any m hum _).mono ?_
  rintro e w4 ⟨A4, c4, m4, rfl, hm4, ho4, hb4⟩
  replace ho3 := Own.below ho3 hb4
  replace hB := hB.below hb4
  replace hw := bel_call hw hb4
  have hl4 : m4.length ≤ 10 := by rw [hm4.out]; exact hv2
  clear hb4 a0 a1 a2 a3 hL2 hb3
  go_wp2_with (at_builtin; go_must (refine wpl_bytes 22 5 Tryz.underlying22 u8_info rfl (.tmp 10) (.tmp 14) rfl (w.heap.size + 1) A3 c3 m3 rfl ho3 A4 c4 m4 rfl ho4.sl (by (try simp only [List.length_cons, List.length_nil]); omega) (by have := hB.lt; omega) ?_; intro A5 c5 m5 w5 hm5 ho5 _ _ hb5; replace hw := hw.trans (hb5.mono (Nat.le_succ _)); replace hB : Blk w5 w.heap.size _ _ := (hb5.block w.heap.size (Nat.lt_succ_self _)).trans hB; obtain ⟨a0, a1, a2, a3, _⟩ := hB.four))
  have hl5 : m5.length ≤ 21 := by rw [hm5.out]; simp only [List.length_append]; omega
  refine (rBytes_any j huj _).mono ?_
  rintro e w6 ⟨A6, c6, m6, rfl, hm6, ho6, hb6⟩
  replace ho5 := Own.below ho5 hb6
  replace hB := hB.below hb6
  replace hw := bel_call hw hb6
  have hl6 : m6.length ≤ 10 := by rw [hm6.out]; exact hv3
  clear hb6 a0 a1 a2 a3 ho3 hb5
  go_wp2_with (at_builtin; go_must (refine wpl_bytes 22 5 Tryz.underlying22 u8_info rfl (.tmp 16) (.tmp 21) rfl (w.heap.size + 1) A5 c5 m5 rfl ho5 A6 c6 m6 rfl ho6.sl (by (try simp only [List.length_cons, List.length_nil]); omega) (by have := hB.lt; omega) ?_; intro A7 c7 m7 w7 hm7 ho7 _ _ hb7; replace hw := hw.trans (hb7.mono (Nat.le_succ _)); replace hB : Blk w7 w.heap.size _ _ := (hb7.block w.heap.size (Nat.lt_succ_self _)).trans hB; obtain ⟨a0, a1, a2, a3, _⟩ := hB.four))
  have hl7 : m7.length ≤ 31 := by rw [hm7.out]; simp only [List.length_append]; omega
  refine (rRun_any ds _ (Sl.below h hw) (by omega) hok).mono ?_
  rintro e w8 ⟨A8, c8, m8, rfl, hm8, ho8, hb8⟩
  replace ho7 := Own.below ho7 hb8
  replace hB := hB.below hb8
  replace hw := bel_call hw hb8
  have hl8 : m8.length ≤ 7000 := by
    have h9 := HSL.out
    rw [List.length_append, ← hm8.out] at h9
    omega
  clear hb8 a0 a1 a2 a3 ho5 hb7
  go_wp2_with (at_builtin; go_must (refine wpl_bytes 22 5 Tryz.underlying22 u8_info rfl (.tmp 23) (.tmp 27) rfl (w.heap.size + 1) A7 c7 m7 rfl ho7 A8 c8 m8 rfl ho8.sl (by (try simp only [List.length_cons, List.length_nil]); omega) (by have := hB.lt; omega) ?_; intro A9 c9 m9 w9 hm9 ho9 _ _ hb9; replace hw := hw.trans (hb9.mono (Nat.le_succ _)); replace hB : Blk w9 w.heap.size _ _ := (hb9.block w.heap.size (Nat.lt_succ_self _)).trans hB; obtain ⟨a0, a1, a2, a3, _⟩ := hB.four))
  have hl9 : m9.length ≤ 8000 := by rw [hm9.out]; simp only [List.length_append]; omega
  refine (rFrame_any A9 c9 m9 _ ho9.sl (by omega)).mono ?_
  rintro e w10 ⟨A10, c10, m10, rfl, hm10, ho10, hb10⟩
  have hsz := hw.size
  go_wp2_with fail
  go_ret
  exact ⟨A10, c10, m10, rfl, (show _ = _ from by rw [hm10.out, hm9.out, hm7.out, hm5.out, hm3.out, hm2.out, hm4.out, hm6.out, hm8.out, htx.out]; simp), ho10.more hsz, bel_call hw hb10⟩
/-- a receipt's bytes and an error's number -/
def RPutsQ (w0 : World) (x : List UInt8 × Nat) (e : Ending) (w' : World) : Prop := ∃ A c m, e = .returned (.tuple #[.slice A (List.length m) c, .int .i64 (x.2 : Nat)]) ∧ Hid (m = x.1) ∧ SlB w' A c m ∧ Below w0.heap.size w0 w'
theorem qchk_range {p : Rc} (h : p.1 < 0 ∨ 1099511627776 < p.1 ∨ p.2 < 0 ∨ 1048576 < p.2) : qchk p = 1 := by unfold qchk; rw [if_pos h]
theorem qchk_fine {p : Rc} (h : ¬ (p.1 < 0 ∨ 1099511627776 < p.1 ∨ p.2 < 0 ∨ 1048576 < p.2)) : qchk p = 0 := by unfold qchk; rw [if_neg h]
set_option maxRecDepth 100000 in
set_option maxHeartbeats 2000000 in
theorem rQPut_any (x t : Int) (w : World) : Calls Tryz.prog 20 #[.agg #[.int .i64 x, .int .i64 t]] w (RPutsQ w (qput (x, t))) := by
  have hbw := below_new w (.cells #[.int .i64 x, .int .i64 t] 44)
  by_cases h1 : x < 0
  · have hc := qchk_range (p := (x, t)) (.inl h1)
    have HQ : Hid (qput (x, t) = ([], 1)) := (show _ = _ from by unfold qput; rw [hc]; rfl)
    clear hc
    go_enter Tryz.func20, Tryz.ntmps20
    go_wp2_with fail
    go_ret2
    exact ⟨none, 0, [], by rw [HQ.out]; rfl, (show _ = _ from by rw [HQ.out]), Sl.none_ _ _, hbw⟩
  by_cases h2 : 1099511627776 < x
  · have hc := qchk_range (p := (x, t)) (.inr (.inl h2))
    have HQ : Hid (qput (x, t) = ([], 1)) := (show _ = _ from by unfold qput; rw [hc]; rfl)
    clear hc
    go_enter Tryz.func20, Tryz.ntmps20
    go_wp2_with fail
    go_ret2
    exact ⟨none, 0, [], by rw [HQ.out]; rfl, (show _ = _ from by rw [HQ.out]), Sl.none_ _ _, hbw⟩
  by_cases h3 : t < 0
  · have hc := qchk_range (p := (x, t)) (.inr (.inr (.inl h3)))
    have HQ : Hid (qput (x, t) = ([], 1)) := (show _ = _ from by unfold qput; rw [hc]; rfl)
    clear hc
    go_enter Tryz.func20, Tryz.ntmps20
    go_wp2_with fail
    go_ret2
    exact ⟨none, 0, [], by rw [HQ.out]; rfl, (show _ = _ from by rw [HQ.out]), Sl.none_ _ _, hbw⟩
  by_cases h4 : 1048576 < t
  · have hc := qchk_range (p := (x, t)) (.inr (.inr (.inr h4)))
    have HQ : Hid (qput (x, t) = ([], 1)) := (show _ = _ from by unfold qput; rw [hc]; rfl)
    clear hc
    go_enter Tryz.func20, Tryz.ntmps20
    go_wp2_with fail
    go_ret2
    exact ⟨none, 0, [], by rw [HQ.out]; rfl, (show _ = _ from by rw [HQ.out]), Sl.none_ _ _, hbw⟩
  have hc := qchk_fine (p := (x, t)) (by dsimp only; omega)
  have HQ : Hid (qput (x, t) = (frm (qtxt (x, t)), 0)) := (show _ = _ from qput_ok hc)
  obtain ⟨n, rfl⟩ : ∃ n : Nat, x = n := ⟨x.toNat, by omega⟩
  obtain ⟨m, rfl⟩ : ∃ n : Nat, t = n := ⟨t.toNat, by omega⟩
  have hun : U64 n := by unfold U64; omega
  have hum : U64 m := by unfold U64; omega
  have hwn := wrap_u64_of hun
  have hwm := wrap_u64_of hum
  have hv1 := vb_le10 hun
  have hv2 := vb_le10 hum
  have htx : Hid (qtxt ((n : Int), (m : Int)) = [2] ++ (vb n ++ vb m)) := (show _ = _ from by unfold qtxt; rw [vb_2]; rfl)
  have hB0 := Blk.new w 44 #[.int .i64 (n : Int), .int .i64 (m : Int)]
  have hL1 : OwnB ((w.alloc (.cells #[.int .i64 (n : Int), .int .i64 (m : Int)] 44)).alloc (.cells #[.int .u8 2] 5)) (w.heap.size + 1) 5 (some ⟨w.heap.size + 1, 0, none⟩) 1 [2] := (Own.lits1 (w := w.alloc (.cells #[.int .i64 (n : Int), .int .i64 (m : Int)] 44)) (g := w.heap.size + 1) (by simp) 5 2).more (by simp)
  have hB1 := hB0.alloc (.cells #[.int .u8 2] 5)
  have hw1 := bel_alloc hbw (.cells #[.int .u8 2] 5)
  clear hB0 hbw hc
  go_enter Tryz.func20, Tryz.ntmps20
  go_wp2_with fail
  refine (rBytes_any n hun _).mono ?_
  rintro e w2 ⟨A2, c2, m2, rfl, hm2, ho2, hb2⟩
  have hL2 := Own.below hL1 hb2
  have hB := hB1.below hb2
  have hw := bel_call hw1 hb2
  have hml2 : m2.length ≤ 10 := by rw [hm2.out]; exact hv1
  clear hL1 hB1 hw1 hb2
  go_wp2_with (at_builtin; go_must (refine wpl_bytes 22 5 Tryz.underlying22 u8_info rfl (.tmp 23) (.tmp 27) rfl (w.heap.size + 1) (some ⟨w.heap.size + 1, 0, none⟩) 1 [2] rfl hL2 A2 c2 m2 rfl ho2.sl (by (try simp only [List.length_cons, List.length_nil]); omega) (by have := hB.lt; omega) ?_; intro A3 c3 m3 w3 hm3 ho3 _ _ hb3; replace hw := hw.trans (hb3.mono (Nat.le_succ _)); replace hB : Blk w3 w.heap.size _ _ := (hb3.block w.heap.size (Nat.lt_succ_self _)).trans hB; obtain ⟨a0, a1, _, _⟩ := hB.two))
  have hl3 : m3.length ≤ 11 := by rw [hm3.out]; simp only [List.length_append, List.length_cons, List.length_nil]; omega
  refine (rBytes_any m hum _).mono ?_
  rintro e w4 ⟨A4, c4, m4, rfl, hm4, ho4, hb4⟩
  replace ho3 := Own.below ho3 hb4
  replace hB := hB.below hb4
  replace hw := bel_call hw hb4
  have hl4 : m4.length ≤ 10 := by rw [hm4.out]; exact hv2
  clear hb4 a0 a1 hL2 hb3
  go_wp2_with (at_builtin; go_must (refine wpl_bytes 22 5 Tryz.underlying22 u8_info rfl (.tmp 29) (.tmp 33) rfl (w.heap.size + 1) A3 c3 m3 rfl ho3 A4 c4 m4 rfl ho4.sl (by (try simp only [List.length_cons, List.length_nil]); omega) (by have := hB.lt; omega) ?_; intro A5 c5 m5 w5 hm5 ho5 _ _ hb5; replace hw := hw.trans (hb5.mono (Nat.le_succ _)); replace hB : Blk w5 w.heap.size _ _ := (hb5.block w.heap.size (Nat.lt_succ_self _)).trans hB; obtain ⟨a0, a1, _, _⟩ := hB.two))
  have hl5 : m5.length ≤ 21 := by rw [hm5.out]; simp only [List.length_append]; omega
  refine (rFrame_any A5 c5 m5 _ ho5.sl (by omega)).mono ?_
  rintro e w6 ⟨A6, c6, m6, rfl, hm6, ho6, hb6⟩
  go_wp2_with fail
  go_ret2
  exact ⟨A6, c6, m6, by rw [HQ.out]; rfl, (show _ = _ from by rw [hm6.out, hm5.out, hm3.out, hm2.out, hm4.out, HQ.out, htx.out]; simp), ho6.sl, bel_call hw hb6⟩
end Go.Proofs.YtgipfenjachpnaaGreat
