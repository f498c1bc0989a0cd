/- WHAT IT HOLDS: a segment as the document's, and a segment's copy, walked. -/
import Derived.Test.YtjkdnnekagcdhaaSegmentTakesG15
import Derived.Test.YtjkdnnekagcdhaaSegmentTakesG13
import Derived.Test.YtjkdnnekagcdhaaSegmentTakesG14
import Derived.Test.YtjkdnnekagcdhaaSegmentTakesG03
namespace Go.Proofs.Ytjkdnnekagcdhaa
open Go.RowKit
attribute [local go_sem ↓] Go.wp_at_zero Go.wp_at_succ

theorem res_sg1 {fn : Func} {a : Nat} {tmps : Array Value} {w : World} {g : Nat} {x y : Value} (hres : fn.results = #[.cell a 75]) (ha : tmps.getD a undef = .pointer (some ⟨g, 0, none⟩)) (hB : Blk w g 75 #[x, y]) :
    (results fn tmps).run Try.prog w = .ok (.agg #[x, y]) w := by
  obtain ⟨b0, b1, _, _⟩ := hB.two
  have ha' : tmps[a]?.getD undef = .pointer (some ⟨g, 0, none⟩) := by simpa using ha
  simp [results, hres, go_sem, b0, b1, ha']
theorem res_rg1 {fn : Func} {a : Nat} {tmps : Array Value} {w : World} {g : Nat} {x y : Value} (hres : fn.results = #[.cell a 77]) (ha : tmps.getD a undef = .pointer (some ⟨g, 0, none⟩)) (hB : Blk w g 77 #[x, y]) :
    (results fn tmps).run Try.prog w = .ok (.agg #[x, y]) w := by
  obtain ⟨b0, b1, _, _⟩ := hB.two
  have ha' : tmps[a]?.getD undef = .pointer (some ⟨g, 0, none⟩) := by simpa using ha
  simp [results, hres, go_sem, b0, b1, ha']
theorem res_sg2 {fn : Func} {a b : Nat} {tmps : Array Value} {w : World} {g : Nat} {x y : Value} (hres : fn.results = #[.cell a 75, .tmp b]) (ha : tmps.getD a undef = .pointer (some ⟨g, 0, none⟩)) (hB : Blk w g 75 #[x, y]) :
    (results fn tmps).run Try.prog w = .ok (.tuple #[.agg #[x, y], tmps.getD b undef]) w := by
  obtain ⟨b0, b1, _, _⟩ := hB.two
  have ha' : tmps[a]?.getD undef = .pointer (some ⟨g, 0, none⟩) := by simpa using ha
  simp [results, hres, go_sem, b0, b1, ha']
theorem res_rg2 {fn : Func} {a b : Nat} {tmps : Array Value} {w : World} {g : Nat} {x y : Value} (hres : fn.results = #[.cell a 77, .tmp b]) (ha : tmps.getD a undef = .pointer (some ⟨g, 0, none⟩)) (hB : Blk w g 77 #[x, y]) :
    (results fn tmps).run Try.prog w = .ok (.tuple #[.agg #[x, y], tmps.getD b undef]) w := by
  obtain ⟨b0, b1, _, _⟩ := hB.two
  have ha' : tmps[a]?.getD undef = .pointer (some ⟨g, 0, none⟩) := by simpa using ha
  simp [results, hres, go_sem, b0, b1, ha']
theorem Blk.far2 {w : World} {g g' : Nat} {t : TypeId} {cs : Array Value} (h : Blk w g t cs) (hne : g ≠ g') (u v : Value) : Blk ((w.setCell ⟨g', 0, none⟩ u).setCell ⟨g', 1, none⟩ v) g t cs := (h.far hne u).far hne v
theorem Own.set2 {w : World} {base : Nat} {e : TypeId} {size n c : Nat} {A : Option Addr} {xs : List Value} (h : Own w base e size A n c xs) {g : Nat} (hg : g < base) (u v : Value) : Own ((w.setCell ⟨g, 0, none⟩ u).setCell ⟨g, 1, none⟩ v) base e size A n c xs :=
  ownsRow_setCell_below (a := ⟨g, 1, none⟩) (ownsRow_setCell_below (a := ⟨g, 0, none⟩) h hg u) hg v
theorem gen0 {T R : World → Prop} {W : World} (hT : T W) (k : ∀ W, T W → R W) : R W := k W hT

set_option maxRecDepth 100000 in
set_option maxHeartbeats 1000000 in
theorem Doc14_any {E : Option Addr} {cap : Nat} (f : Int) (cs : List CeV) (w : World) (h : SlC w E cap cs) (hl : cs.length ≤ 1000000) :
    Calls Try.prog 42 #[cv f E cs.length cap] w fun e w' => ∃ A c m, e = .returned (cv f A (List.length m) c) ∧ Hid (m = cs.map ceOf) ∧ SlD w' A c m ∧ Below w.heap.size w w' := by
  have hB0 := (Blk.new w 75 #[.int .i64 f, .slice E cs.length cap]).alloc (.cells #[.int .i64 0, .slice none 0 0] 77)
  have hB1 := Blk.newAt (w := w.alloc (.cells #[.int .i64 f, .slice E cs.length cap] 75)) (g := w.heap.size + 1) (by simp) 77 #[.int .i64 0, .slice none 0 0]
  have hbw := bel_alloc (below_new w (.cells #[.int .i64 f, .slice E cs.length cap] 75)) (.cells #[.int .i64 0, .slice none 0 0] 77)
  go_enter Try.func42, Try.ntmps42
  go_upto_region 1 with (fail)
  have hst : Blk ((w.alloc (.cells #[.int .i64 f, .slice E cs.length cap] 75)).alloc (.cells #[.int .i64 0, .slice none 0 0] 77)).drew w.heap.size 75 #[.int .i64 f, .slice E cs.length cap] ∧ Below w.heap.size w ((w.alloc (.cells #[.int .i64 f, .slice E cs.length cap] 75)).alloc (.cells #[.int .i64 0, .slice none 0 0] 77)).drew := ⟨hB0, hbw.drew⟩
  have hst1 : Blk ((w.alloc (.cells #[.int .i64 f, .slice E cs.length cap] 75)).alloc (.cells #[.int .i64 0, .slice none 0 0] 77)).drew (w.heap.size + 1) 77 #[.int .i64 0, .slice none 0 0] := hB1
  clear hB0 hB1 hbw
  refine wp_region_held_drew (S := (fun W => Blk W w.heap.size 75 #[.int .i64 f, .slice E cs.length cap] ∧ Below w.heap.size w W)) (by kernel_rfl) ?_ (fun hHeld => ?_)
  · exact hst
  refine gen0 (T := fun W => ((fun W => Blk W w.heap.size 75 #[.int .i64 f, .slice E cs.length cap] ∧ Below w.heap.size w W)) W ∧ Blk W (w.heap.size + 1) 77 #[.int .i64 0, .slice none 0 0] ∧ True) ?_ (fun wq1 hT => ?_)
  · exact ⟨by (first | exact hst | exact ⟨hHeld.1.below hb9, bel_call hHeld.2 hb9⟩ | exact ⟨Blk.far2 hHeld.1 (by omega) _ _, bel_set (bel_set hHeld.2 (by dsimp only; omega) _) (by dsimp only; omega) _⟩), by (first | assumption | exact f0.below hb9 | exact ho9.more f0.lt | exact Blk.set2 f0 _ _ | exact Own.set2 f1 (by omega) _ _), trivial⟩
  (try clear f0 f1 f2 f3 f4 f5 f6 f7 f8 f9 f10 f11)
  obtain ⟨hHeld, f0, -⟩ := hT
  refine wpAnyH_take (i := 0) (oi := ⟨some 3, _, _, _, _, _⟩) (v := ?_) rfl (by kernel_rfl) (by kernel_rfl) (by kernel_rfl) (fun _ _ _ h => h) (Or.inl ⟨by kernel_rfl, ?_⟩) (by assumption) ?_
  rotate_left
  · (intro wS hSw; (try dsimp only at hSw); obtain ⟨q0, q1, _, _⟩ := hSw.1.two; clear hSw; go_simp; (try with_reducible rfl))
  (try simp only [Act.put, List.setIfInBounds_toArray, List.set_cons_zero, List.set_cons_succ])
  refine wpAnyH_take (i := 1) (oi := ⟨some 4, _, _, _, _, _⟩) (v := ?_) rfl (by kernel_rfl) (by kernel_rfl) (by kernel_rfl) (fun _ _ _ h => h) (Or.inl ⟨by kernel_rfl, ?_⟩) (by assumption) ?_
  rotate_left
  · (intro wS hSw; (try dsimp only at hSw); obtain ⟨q0, q1, _, _⟩ := hSw.1.two; clear hSw; go_simp; (try with_reducible rfl))
  (try simp only [Act.put, List.setIfInBounds_toArray, List.set_cons_zero, List.set_cons_succ])
  refine wpAnyH_take (i := 2) (oi := ⟨some 5, _, _, _, _, _⟩) (v := ?_) rfl (by kernel_rfl) (by kernel_rfl) (by kernel_rfl) (fun _ _ _ h => h) (Or.inl ⟨by kernel_rfl, ?_⟩) (by assumption) ?_
  rotate_left
  · (intro wS hSw; (try dsimp only at hSw); obtain ⟨q0, q1, _, _⟩ := hSw.1.two; clear hSw; go_simp; (try with_reducible rfl))
  (try simp only [Act.put, List.setIfInBounds_toArray, List.set_cons_zero, List.set_cons_succ])
  refine wpAnyH_take (i := 3) (oi := ⟨some 6, _, _, _, _, _⟩) (v := ?_) rfl (by kernel_rfl) (by kernel_rfl) (by kernel_rfl) (fun _ _ _ h => h) (Or.inl ⟨by kernel_rfl, ?_⟩) (by assumption) ?_
  rotate_left
  · (intro wS hSw; (try dsimp only at hSw); obtain ⟨q0, q1, _, _⟩ := hSw.1.two; clear hSw; go_simp; (try with_reducible rfl))
  (try simp only [Act.put, List.setIfInBounds_toArray, List.set_cons_zero, List.set_cons_succ])
  refine wpAnyH_ready (rs := [4]) (by kernel_rfl) (by simp) ?_
  refine AllReadyH.cons (o := ⟨some 7, _, _, _, _, _⟩) rfl (fun K hK => ?_) AllReadyH.nil
  go_simp
  (refine (Documents_own cs _ (h.below hHeld.2) hl).mono ?_; rintro e w9 ⟨A9, c9, m9, rfl, hm9, ho9, hb9⟩)
  go_wp2_with fail
  refine hK.out _ _ ?_ (fun _ => ?_)
  · ((try dsimp only); (first | exact hst | exact ⟨hHeld.1.below hb9, bel_call hHeld.2 hb9⟩ | exact ⟨Blk.far2 hHeld.1 (by omega) _ _, bel_set (bel_set hHeld.2 (by dsimp only; omega) _) (by dsimp only; omega) _⟩))
  clear hK K
  (try simp only [Act.put, List.setIfInBounds_toArray, List.set_cons_zero, List.set_cons_succ])
  refine gen0 (T := fun W => ((fun W => Blk W w.heap.size 75 #[.int .i64 f, .slice E cs.length cap] ∧ Below w.heap.size w W)) W ∧ Blk W (w.heap.size + 1) 77 #[.int .i64 0, .slice none 0 0] ∧ Own W (w.heap.size + 2) 29 2 A9 m9.length c9 (m9.flatMap df) ∧ True) ?_ (fun wq2 hT => ?_)
  · exact ⟨by (first | exact hst | exact ⟨hHeld.1.below hb9, bel_call hHeld.2 hb9⟩ | exact ⟨Blk.far2 hHeld.1 (by omega) _ _, bel_set (bel_set hHeld.2 (by dsimp only; omega) _) (by dsimp only; omega) _⟩), by (first | assumption | exact f0.below hb9 | exact ho9.more f0.lt | exact Blk.set2 f0 _ _ | exact Own.set2 f1 (by omega) _ _), by (first | assumption | exact f0.below hb9 | exact ho9.more f0.lt | exact Blk.set2 f0 _ _ | exact Own.set2 f1 (by omega) _ _), trivial⟩
  (try clear f0 f1 f2 f3 f4 f5 f6 f7 f8 f9 f10 f11)
  obtain ⟨hHeld, f0, f1, -⟩ := hT
  refine wpAnyH_take (i := 5) (oi := ⟨some 8, _, _, _, _, _⟩) (v := ?_) rfl (by kernel_rfl) (by kernel_rfl) (by kernel_rfl) (fun _ _ _ h => h) (Or.inl ⟨by kernel_rfl, ?_⟩) (by assumption) ?_
  rotate_left
  · (intro wS hSw; (try dsimp only at hSw); obtain ⟨q0, q1, _, _⟩ := hSw.1.two; clear hSw; go_simp; (try with_reducible rfl))
  (try simp only [Act.put, List.setIfInBounds_toArray, List.set_cons_zero, List.set_cons_succ])
  refine wpAnyH_ready (rs := [6]) (by kernel_rfl) (by simp) ?_
  refine AllReadyH.cons (o := ⟨none, _, _, _, _, _⟩) rfl (fun K hK => ?_) AllReadyH.nil
  obtain ⟨s0, s1, sf0, sf1⟩ := f0.two
  go_simp
  refine hK.out _ _ ?_ (fun _ => ?_)
  · ((try dsimp only); (first | exact hst | exact ⟨hHeld.1.below hb9, bel_call hHeld.2 hb9⟩ | exact ⟨Blk.far2 hHeld.1 (by omega) _ _, bel_set (bel_set hHeld.2 (by dsimp only; omega) _) (by dsimp only; omega) _⟩))
  clear hK K
  (try simp only [Act.put, List.setIfInBounds_toArray, List.set_cons_zero, List.set_cons_succ])
  refine gen0 (T := fun W => ((fun W => Blk W w.heap.size 75 #[.int .i64 f, .slice E cs.length cap] ∧ Below w.heap.size w W)) W ∧ Own W (w.heap.size + 2) 29 2 A9 m9.length c9 (m9.flatMap df) ∧ Blk W (w.heap.size + 1) 77 #[.int .i64 f, .slice A9 m9.length c9] ∧ True) ?_ (fun wq3 hT => ?_)
  · exact ⟨by (first | exact hst | exact ⟨hHeld.1.below hb9, bel_call hHeld.2 hb9⟩ | exact ⟨Blk.far2 hHeld.1 (by omega) _ _, bel_set (bel_set hHeld.2 (by dsimp only; omega) _) (by dsimp only; omega) _⟩), by (first | assumption | exact f0.below hb9 | exact ho9.more f0.lt | exact Blk.set2 f0 _ _ | exact Own.set2 f1 (by omega) _ _), by (first | assumption | exact f0.below hb9 | exact ho9.more f0.lt | exact Blk.set2 f0 _ _ | exact Own.set2 f1 (by omega) _ _), trivial⟩
  (try clear f0 f1 f2 f3 f4 f5 f6 f7 f8 f9 f10 f11)
  obtain ⟨hHeld, f0, f1, -⟩ := hT
  refine wpAnyH_done (by kernel_rfl) ?_ _
  go_wp2_with fail
  exact bodyPost_ret (res_rg1 rfl rfl (g := w.heap.size + 1) f1) rfl ⟨A9, c9, m9, rfl, hm9, f0.sl, hHeld.2⟩
end Go.Proofs.Ytjkdnnekagcdhaa
