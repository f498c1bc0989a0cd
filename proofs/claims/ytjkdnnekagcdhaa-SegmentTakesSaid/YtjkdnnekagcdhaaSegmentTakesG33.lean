/- WHAT IT HOLDS: the law SegmentTakes, walked. | WHAT IT HOLDS: arguments that are segments, arrays, opened to the words of Kit. -/
import Derived.Test.YtjkdnnekagcdhaaSegmentTakesG32
import Derived.Test.YtjkdnnekagcdhaaSegmentTakesG09
import Derived.Test.YtjkdnnekagcdhaaSegmentTakesG15
namespace Go.Proofs.Ytjkdnnekagcdhaa
open Go.RowKit
attribute [local go_sem ↓] Go.wp_at_zero Go.wp_at_succ

theorem sgTake_len (b : List UInt8) : (sgTake b).1.2.length ≤ 64 := by
  unfold sgTake
  split
  · simp
  · unfold sgEnd
    split
    · simp
    · split
      · simp
      · rename_i h
        obtain ⟨_, _, h3, _⟩ := schk_ok (Decidable.byContradiction h)
        exact h3
set_option maxRecDepth 100000 in
set_option maxHeartbeats 1000000 in
theorem stakes_early {A : Option Addr} {c : Nat} {b : List UInt8} (w : World) (h : SlB w A c b) (hl : 6000 < b.length) :
    Calls Try.prog 11 #[.slice A b.length c] w fun e w' => e = .returned (.bool true) ∧ Below w.heap.size w w' := by
  have hm := h.len_le
  unfold maxLen at hm
  have hlI : (6000 : Int) < (b.length : Int) := by omega
  go_enter Try.func11, Try.ntmps11
  go_wp2_with fail
  refine (alive14_any _).mono ?_
  rintro e w1 ⟨rfl, hb1⟩
  go_wp2_with fail
  go_ret
  exact ⟨rfl, hb1⟩
set_option maxRecDepth 100000 in
set_option maxHeartbeats 4000000 in
theorem stakes_walk {A : Option Addr} {c : Nat} {b : List UInt8} (w : World) (h : SlB w A c b) (hl : b.length ≤ 6000) :
    Calls Try.prog 11 #[.slice A b.length c] w fun e w' => e = .returned (.bool true) ∧ Below w.heap.size w w' := by
  have hlI : (b.length : Int) ≤ 6000 := by omega
  go_enter Try.func11, Try.ntmps11
  go_wp2_with fail
  refine (alive14_any _).mono ?_
  rintro e w1 ⟨rfl, hb1⟩
  go_wp2_with (at_builtin; go_must (refine wpl_fresh 22 5 Try.underlying22 u8_info rfl _ _ rfl rfl A c b rfl (h.below hb1) (by omega) ?_; intro A2 c2 m2 w2 hm2 ho2 hb2))
  obtain rfl : m2 = b := hm2.out
  have hw2 := bel_call hb1 hb2
  have hT2 := sgTake_len m2
  refine (STake_any A2 c2 m2 _ ho2.sl (by omega)).mono ?_
  rintro e w3 ⟨A3, c3, m3, rfl, hm3, hN3, hb3⟩
  have ho3 : SlB w3 A2 c2 m2 := Sl.below ho2.sl hb3
  have hw3 := bel_call hw2 hb3
  have hR := fun W (hh : SlB W A c m2) => rSTake_any A c m2 W hh (by omega)
  clear hw2 hb1 hb2 hb3 ho2
  generalize sgTake m2 = x at *
  obtain ⟨⟨f, cs⟩, bad⟩ := x
  dsimp only at *
  have hml : m3.length ≤ 64 := by
    have := congrArg List.length hm3.out
    simp only [List.length_map] at this
    omega
  have HR := Lib.hid hR
  clear hR hT2
  go_wp2_with fail
  have hbx := below_new w3 (.cells #[.int .i64 f, .slice A3 m3.length c3] 75)
  have hB4 := Blk.new w3 75 #[.int .i64 f, .slice A3 m3.length c3]
  have hS4 := SlC.below hN3.slc hbx
  have ho4 : SlB _ A2 c2 m2 := Sl.below ho3 hbx
  have hw4 := bel_call hw3 hbx
  clear hbx hN3 ho3 hw3
  generalize hWe : w3.alloc (.cells #[.int .i64 f, .slice A3 m3.length c3] 75) = w4 at *
  clear hWe
  refine (HR.out _ (h.below hw4)).mono ?_
  rintro e w5 ⟨A5, c5, m5, rfl, hm5, hO5, hb5⟩
  dsimp only at hm5
  go_upto_region 8 with (fail)
  have hbx := bel_call hb5 (below_new w5 (.cells #[.int .i64 f, .slice A5 m5.length c5] 77))
  have hB6 := hB4.below hbx
  have hQ6 := Blk.new w5 77 #[.int .i64 f, .slice A5 m5.length c5]
  have hS6 := SlC.below hS4 hbx
  have hD6 : SlD _ A5 c5 m5 := Sl.below hO5.sl (below_new w5 (.cells #[.int .i64 f, .slice A5 m5.length c5] 77))
  have ho6 : SlB _ A2 c2 m2 := Sl.below ho4 hbx
  have hw6 := bel_call hw4 hbx
  clear hbx hb5 hO5 hS4 ho4 hw4 hB4
  generalize hWe : w5.alloc (.cells #[.int .i64 f, .slice A5 m5.length c5] 77) = w6 at *
  clear hWe
  have hst : Below w6.heap.size w6 w6.drew := (Below.refl _ _).drew
  have hqq := Lib.hid (show (m2 == m2) = true from by simp)
  refine wp_region_held_drew (S := (fun W => Below w6.heap.size w6 W)) (by kernel_rfl) ?_ (fun hHeld => ?_)
  · exact hst
  refine gen0 (T := fun W => ((fun W => Below w6.heap.size w6 W)) W ∧ True) ?_ (fun wq1 hT => ?_)
  · exact ⟨by (first | exact hst | exact hHeld | exact bel_call hHeld hb9 | exact bel_call hHeld hb10), trivial⟩
  (try clear f0 f1 f2 f3 f4 f5 f6 f7 f8 f9 f10 f11)
  obtain ⟨hHeld, -⟩ := hT
  refine wpAnyH_take (i := 0) (oi := ⟨some 26, _, _, _, _, _⟩) (v := ?_) rfl (by kernel_rfl) (by kernel_rfl) (by kernel_rfl) (fun _ _ _ h => h) (Or.inl ⟨by kernel_rfl, ?_⟩) (by assumption) ?_
  rotate_left
  · (intro wS hSw; (try dsimp only at hSw); obtain ⟨q0, q1, _, _⟩ := (hB6.below hSw).two; obtain ⟨p0, p1, _, _⟩ := (hQ6.below hSw).two; clear hSw; go_simp; (try with_reducible rfl))
  (try simp only [Act.put, List.setIfInBounds_toArray, List.set_cons_zero, List.set_cons_succ])
  refine wpAnyH_take (i := 2) (oi := ⟨some 28, _, _, _, _, _⟩) (v := ?_) rfl (by kernel_rfl) (by kernel_rfl) (by kernel_rfl) (fun _ _ _ h => h) (Or.inl ⟨by kernel_rfl, ?_⟩) (by assumption) ?_
  rotate_left
  · (intro wS hSw; (try dsimp only at hSw); obtain ⟨q0, q1, _, _⟩ := (hB6.below hSw).two; obtain ⟨p0, p1, _, _⟩ := (hQ6.below hSw).two; clear hSw; go_simp; (try with_reducible rfl))
  (try simp only [Act.put, List.setIfInBounds_toArray, List.set_cons_zero, List.set_cons_succ])
  refine wpAnyH_ready (rs := [1]) (by kernel_rfl) (by simp) ?_
  refine AllReadyH.cons (o := ⟨some 27, _, _, _, _, _⟩) rfl (fun K hK => ?_) AllReadyH.nil
  go_simp
  (refine (Doc14_any f m3 _ (SlC.below hS6 hHeld) (by omega)).mono ?_; rintro e w9 ⟨A9, c9, m9, rfl, hm9, hs9, hb9⟩)
  go_wp2_with fail
  refine hK.out _ _ ?_ (fun _ => ?_)
  · ((try dsimp only); (first | exact hst | exact hHeld | exact bel_call hHeld hb9 | exact bel_call hHeld hb10))
  clear hK K
  (try simp only [Act.put, List.setIfInBounds_toArray, List.set_cons_zero, List.set_cons_succ])
  refine gen0 (T := fun W => ((fun W => Below w6.heap.size w6 W)) W ∧ SlD W A9 c9 m9 ∧ True) ?_ (fun wq2 hT => ?_)
  · exact ⟨by (first | exact hst | exact hHeld | exact bel_call hHeld hb9 | exact bel_call hHeld hb10), by (first | assumption | exact hs9), trivial⟩
  (try clear f0 f1 f2 f3 f4 f5 f6 f7 f8 f9 f10 f11)
  obtain ⟨hHeld, f0, -⟩ := hT
  refine wpAnyH_ready (rs := [3]) (by kernel_rfl) (by simp) ?_
  refine AllReadyH.cons (o := ⟨some 29, _, _, _, _, _⟩) rfl (fun K hK => ?_) AllReadyH.nil
  go_simp
  (refine (rSSame_any f f m9 m5 _ f0 (Sl.below hD6 hHeld)).mono ?_; rintro e w10 ⟨rfl, hb10⟩; rw [show ssame (f, m9) (f, m5) = true from by rw [ssame_eq, hm9.out, hm3.out, hm5.out]; simp])
  go_wp2_with fail
  refine hK.out _ _ ?_ (fun _ => ?_)
  · ((try dsimp only); (first | exact hst | exact hHeld | exact bel_call hHeld hb9 | exact bel_call hHeld hb10))
  clear hK K
  (try simp only [Act.put, List.setIfInBounds_toArray, List.set_cons_zero, List.set_cons_succ])
  refine gen0 (T := fun W => ((fun W => Below w6.heap.size w6 W)) W ∧ True) ?_ (fun wq3 hT => ?_)
  · exact ⟨by (first | exact hst | exact hHeld | exact bel_call hHeld hb9 | exact bel_call hHeld hb10), trivial⟩
  (try clear f0 f1 f2 f3 f4 f5 f6 f7 f8 f9 f10 f11)
  obtain ⟨hHeld, -⟩ := hT
  refine wpAnyH_take (i := 4) (oi := ⟨some 30, _, _, _, _, _⟩) (v := ?_) rfl (by kernel_rfl) (by kernel_rfl) (by kernel_rfl) (fun _ _ _ h => h) (Or.inl ⟨by kernel_rfl, ?_⟩) (by assumption) ?_
  rotate_left
  · (intro wS hSw; (try dsimp only at hSw); obtain ⟨q0, q1, _, _⟩ := (hB6.below hSw).two; obtain ⟨p0, p1, _, _⟩ := (hQ6.below hSw).two; clear hSw; go_simp; (try with_reducible rfl))
  (try simp only [Act.put, List.setIfInBounds_toArray, List.set_cons_zero, List.set_cons_succ])
  refine wpAnyH_take (i := 5) (oi := ⟨some 31, _, _, _, _, _⟩) (v := ?_) rfl (by kernel_rfl) (by kernel_rfl) (by kernel_rfl) (fun _ _ _ h => h) (Or.inl ⟨by kernel_rfl, ?_⟩) (by assumption) ?_
  rotate_left
  · (intro wS hSw; (try dsimp only at hSw); obtain ⟨q0, q1, _, _⟩ := (hB6.below hSw).two; obtain ⟨p0, p1, _, _⟩ := (hQ6.below hSw).two; clear hSw; go_simp; (try with_reducible rfl))
  (try simp only [Act.put, List.setIfInBounds_toArray, List.set_cons_zero, List.set_cons_succ])
  refine wpAnyH_take (i := 7) (oi := ⟨some 33, _, _, _, _, _⟩) (v := ?_) rfl (by kernel_rfl) (by kernel_rfl) (by kernel_rfl) (fun _ _ _ h => h) (Or.inl ⟨by kernel_rfl, ?_⟩) (by assumption) ?_
  rotate_left
  · (intro wS hSw; (try dsimp only at hSw); obtain ⟨q0, q1, _, _⟩ := (hB6.below hSw).two; obtain ⟨p0, p1, _, _⟩ := (hQ6.below hSw).two; clear hSw; go_simp; (try with_reducible rfl))
  (try simp only [Act.put, List.setIfInBounds_toArray, List.set_cons_zero, List.set_cons_succ])
  refine wpAnyH_ready (rs := [6]) (by kernel_rfl) (by simp) ?_
  refine AllReadyH.cons (o := ⟨some 32, _, _, _, _, _⟩) rfl (fun K hK => ?_) AllReadyH.nil
  go_simp
  (refine (num_any bad _).mono ?_; rintro e w11 ⟨rfl, rfl⟩)
  go_wp2_with fail
  refine hK.out _ _ ?_ (fun _ => ?_)
  · ((try dsimp only); (first | exact hst | exact hHeld | exact bel_call hHeld hb9 | exact bel_call hHeld hb10))
  clear hK K
  (try simp only [Act.put, List.setIfInBounds_toArray, List.set_cons_zero, List.set_cons_succ])
  refine gen0 (T := fun W => ((fun W => Below w6.heap.size w6 W)) W ∧ True) ?_ (fun wq4 hT => ?_)
  · exact ⟨by (first | exact hst | exact hHeld | exact bel_call hHeld hb9 | exact bel_call hHeld hb10), trivial⟩
  (try clear f0 f1 f2 f3 f4 f5 f6 f7 f8 f9 f10 f11)
  obtain ⟨hHeld, -⟩ := hT
  refine wpAnyH_take (i := 8) (oi := ⟨some 34, _, _, _, _, _⟩) (v := ?_) rfl (by kernel_rfl) (by kernel_rfl) (by kernel_rfl) (fun _ _ _ h => h) (Or.inl ⟨by kernel_rfl, ?_⟩) (by assumption) ?_
  rotate_left
  · (intro wS hSw; (try dsimp only at hSw); obtain ⟨q0, q1, _, _⟩ := (hB6.below hSw).two; obtain ⟨p0, p1, _, _⟩ := (hQ6.below hSw).two; clear hSw; go_simp; (try with_reducible rfl))
  (try simp only [Act.put, List.setIfInBounds_toArray, List.set_cons_zero, List.set_cons_succ])
  refine wpAnyH_take (i := 9) (oi := ⟨some 35, _, _, _, _, _⟩) (v := ?_) rfl (by kernel_rfl) (by kernel_rfl) (by kernel_rfl) (fun _ _ _ h => h) (Or.inl ⟨by kernel_rfl, ?_⟩) (by assumption) ?_
  rotate_left
  · (intro wS hSw; (try dsimp only at hSw); obtain ⟨q0, q1, _, _⟩ := (hB6.below hSw).two; obtain ⟨p0, p1, _, _⟩ := (hQ6.below hSw).two; clear hSw; go_simp; (try with_reducible rfl))
  (try simp only [Act.put, List.setIfInBounds_toArray, List.set_cons_zero, List.set_cons_succ])
  refine wpAnyH_take (i := 10) (oi := ⟨some 36, _, _, _, _, _⟩) (v := ?_) rfl (by kernel_rfl) (by kernel_rfl) (by kernel_rfl) (fun _ _ _ h => h) (Or.inl ⟨by kernel_rfl, ?_⟩) (by assumption) ?_
  rotate_left
  · (intro wS hSw; (try dsimp only at hSw); obtain ⟨q0, q1, _, _⟩ := (hB6.below hSw).two; obtain ⟨p0, p1, _, _⟩ := (hQ6.below hSw).two; clear hSw; go_simp; (try with_reducible rfl))
  (try simp only [Act.put, List.setIfInBounds_toArray, List.set_cons_zero, List.set_cons_succ])
  refine wpAnyH_take (i := 11) (oi := ⟨some 37, _, _, _, _, _⟩) (v := ?_) rfl (by kernel_rfl) (by kernel_rfl) (by kernel_rfl) (fun _ _ _ h => h) (Or.inl ⟨by kernel_rfl, ?_⟩) (by assumption) ?_
  rotate_left
  · (intro wS hSw; (try dsimp only at hSw); obtain ⟨q0, q1, _, _⟩ := (hB6.below hSw).two; obtain ⟨p0, p1, _, _⟩ := (hQ6.below hSw).two; clear hSw; go_simp; (try with_reducible rfl))
  (try simp only [Act.put, List.setIfInBounds_toArray, List.set_cons_zero, List.set_cons_succ])
  refine wpAnyH_take (i := 12) (oi := ⟨some 38, _, _, _, _, _⟩) (v := ?_) rfl (by kernel_rfl) (by kernel_rfl) (by kernel_rfl) (fun _ _ _ h => h) (Or.inl ⟨by kernel_rfl, ?_⟩) (by assumption) ?_
  rotate_left
  · (intro wS hSw; (try dsimp only at hSw); obtain ⟨q0, q1, _, _⟩ := (hB6.below hSw).two; obtain ⟨p0, p1, _, _⟩ := (hQ6.below hSw).two; clear hSw; go_simp; (try with_reducible rfl))
  (try simp only [Act.put, List.setIfInBounds_toArray, List.set_cons_zero, List.set_cons_succ])
  refine wpAnyH_ready (rs := [13]) (by kernel_rfl) (by simp) ?_
  refine AllReadyH.cons (o := ⟨some 39, _, _, _, _, _⟩) rfl (fun K hK => ?_) AllReadyH.nil
  go_simp
  (refine (nBytes_any A2 A c2 c m2 m2 _ (Sl.below ho6 hHeld) (h.below (bel_call hw6 hHeld))).mono ?_; rintro e w12 ⟨rfl, rfl⟩; rw [hqq.out])
  go_wp2_with fail
  refine hK.out _ _ ?_ (fun _ => ?_)
  · ((try dsimp only); (first | exact hst | exact hHeld | exact bel_call hHeld hb9 | exact bel_call hHeld hb10))
  clear hK K
  (try simp only [Act.put, List.setIfInBounds_toArray, List.set_cons_zero, List.set_cons_succ])
  refine gen0 (T := fun W => ((fun W => Below w6.heap.size w6 W)) W ∧ True) ?_ (fun wq5 hT => ?_)
  · exact ⟨by (first | exact hst | exact hHeld | exact bel_call hHeld hb9 | exact bel_call hHeld hb10), trivial⟩
  (try clear f0 f1 f2 f3 f4 f5 f6 f7 f8 f9 f10 f11)
  obtain ⟨hHeld, -⟩ := hT
  refine wpAnyH_take (i := 14) (oi := ⟨some 40, _, _, _, _, _⟩) (v := ?_) rfl (by kernel_rfl) (by kernel_rfl) (by kernel_rfl) (fun _ _ _ h => h) (Or.inl ⟨by kernel_rfl, ?_⟩) (by assumption) ?_
  rotate_left
  · (intro wS hSw; (try dsimp only at hSw); obtain ⟨q0, q1, _, _⟩ := (hB6.below hSw).two; obtain ⟨p0, p1, _, _⟩ := (hQ6.below hSw).two; clear hSw; go_simp; (try with_reducible rfl))
  (try simp only [Act.put, List.setIfInBounds_toArray, List.set_cons_zero, List.set_cons_succ])
  refine wpAnyH_take (i := 15) (oi := ⟨some 2, _, _, _, _, _⟩) (v := ?_) rfl (by kernel_rfl) (by kernel_rfl) (by kernel_rfl) (fun _ _ _ h => h) (Or.inl ⟨by kernel_rfl, ?_⟩) (by assumption) ?_
  rotate_left
  · (intro wS hSw; (try dsimp only at hSw); obtain ⟨q0, q1, _, _⟩ := (hB6.below hSw).two; obtain ⟨p0, p1, _, _⟩ := (hQ6.below hSw).two; clear hSw; go_simp; (try with_reducible rfl))
  (try simp only [Act.put, List.setIfInBounds_toArray, List.set_cons_zero, List.set_cons_succ])
  refine wpAnyH_done (by kernel_rfl) ?_ _
  go_wp2_with fail
  go_ret
  exact ⟨rfl, bel_call hw6 hHeld⟩
theorem stakes_all {A : Option Addr} {c : Nat} {b : List UInt8} (w : World) (h : SlB w A c b) :
    Calls Try.prog 11 #[.slice A b.length c] w fun e w' => e = .returned (.bool true) ∧ Below w.heap.size w w' := by
  rcases Nat.lt_or_ge 6000 b.length with hl | hl
  · exact stakes_early w h hl
  · exact stakes_walk w h hl
end Go.Proofs.Ytjkdnnekagcdhaa

namespace Go.Proofs.Ytjkdnnekagcdhaa
open Go.ChangeShapes Go.WideShapes Go.ChangeAt Go.RowKit Go.Deep

/-- a slice of structs of one-cell fields, as a struct's field -/
theorem open_structsF {H : Type} {enc : TypeId × Value → H} {P : Program} {w : World} {base : Nat} {held : Bool} {t e : TypeId} {v : Value} {fs : Array Field}
    {T : Type} (f : T → List Value) (Q : T → Prop) (hfl : ∀ x, (f x).length = fs.size)
    (ht : P.underlying t = some (.slice e)) (he : P.underlying e = some (.struct fs)) (hone : oneCellFields P fs = true) (hC : P.cellsOf e = fs.size)
    (hel : ∀ vs : List Value, vs.length = fs.size → (∀ (j : Nat) (fd : Field), fs[j]? = some fd → ∃ (u : Value) (n : Nat) (y : DataW H × List MemPlace), vs[j]? = some u ∧ DataW.trod enc P w base (fun _ => true) held n fd.type [u] = some y) → ∃ x : T, f x = vs ∧ Q x)
    {fuel : Nat} {yy : DataW H × List MemPlace} (hf : DataW.trod enc P w base (fun _ => true) held fuel t [v] = some yy) :
    ∃ (A : Option Addr) (c : Nat) (l : List T), v = .slice A l.length c ∧ Sl w fs.size A l.length c (l.flatMap f) ∧ ∀ x ∈ l, Q x := by
  rcases open_slice_fields ht he hone hC hf with ⟨hcs, _⟩ | ⟨a, n, c, m, D, Pl, hcs, _, hl, hm, hmm, _, hi⟩
  · simp at hcs
    subst hcs
    exact ⟨none, 0, [], rfl, by simpa using Sl.none_ w fs.size, fun x hx => by simp at hx⟩
  · simp at hcs
    subst hcs
    simp only [if_true] at hmm
    subst hmm
    have hx : ∀ i, i < n → ∃ x : T, Q x ∧ ∀ j u, (f x)[j]? = some u → w.cell? (a.add (i * fs.size + j)) = some u := by
      intro i hin
      obtain ⟨ys, nn, _, _, _, hfd⟩ := hi i (by omega)
      have hc : ∀ j, j < fs.size → ∃ u : Value, w.cell? (a.add (i * fs.size + j)) = some u ∧ ∃ y : DataW H × List MemPlace, DataW.trod enc P w base (fun _ => true) held nn (fs[j]!).type [u] = some y := by
        intro j hj
        obtain ⟨u, y, h1, _, h3⟩ := hfd j fs[j] (by simp [hj])
        exact ⟨u, h1, y, by simpa [hj] using h3⟩
      obtain ⟨vs, hvl, hvr⟩ := list_choice (fun j u => w.cell? (a.add (i * fs.size + j)) = some u ∧ ∃ y : DataW H × List MemPlace, DataW.trod enc P w base (fun _ => true) held nn (fs[j]!).type [u] = some y) fs.size hc
      obtain ⟨x, hxe, hxq⟩ := hel vs hvl fun j fd hj => by
        have hjl : j < fs.size := (Array.getElem?_eq_some_iff.1 hj).1
        obtain ⟨_, y, hy⟩ := hvr j (by omega)
        have hfe : fs[j]! = fd := by
          have := (Array.getElem?_eq_some_iff.1 hj).2
          simp [hjl, this]
        rw [hfe] at hy
        exact ⟨vs[j], nn, y, List.getElem?_eq_getElem (by omega), hy⟩
      refine ⟨x, hxq, fun j u hj => ?_⟩
      rw [hxe] at hj
      obtain ⟨hjl, hju⟩ := List.getElem?_eq_some_iff.1 hj
      rw [← hju]
      exact (hvr j hjl).1
    obtain ⟨l, hll, hlr⟩ := list_choice _ n hx
    refine ⟨some a, _, l, by rw [hll], ⟨flat_len hfl l, by omega, hm, (fun h => by cases h), fun j u hj => ⟨a, rfl, ?_⟩⟩, fun x hx => ?_⟩
    · rcases Nat.eq_zero_or_pos fs.size with h0 | h0
      · have := (List.getElem?_eq_some_iff.1 hj).1
        rw [flat_len hfl, h0] at this
        omega
      · have hjl := (List.getElem?_eq_some_iff.1 hj).1
        rw [flat_len hfl] at hjl
        have hk : j / fs.size < l.length := by rw [Nat.div_lt_iff_lt_mul h0]; exact hjl
        have hr : j % fs.size < fs.size := Nat.mod_lt _ h0
        have he := flat_get hfl l (j / fs.size) (j % fs.size) hk hr
        have hj2 : j / fs.size * fs.size + j % fs.size = j := by rw [Nat.mul_comm]; exact Nat.div_add_mod _ _
        rw [hj2, hj] at he
        have := (hlr _ hk).2 _ _ he.symm
        rwa [hj2] at this
    · obtain ⟨i, hi, rfl⟩ := List.getElem_of_mem hx
      exact (hlr i hi).1

section
variable {H : Type} {enc : TypeId × Value → H} {P : Program} {w : World} {base b0 : Nat} {held : Bool} {r : Reach} {t e b u : TypeId} {v : Value} {d : DataW H} {p : List MemPlace}
theorem open_seg {g0 g1 f0 f1 : Field} (hs : P.underlying t = some (.struct #[g0, g1])) (hg0 : P.underlying g0.type = some (.int .i64)) (hg1 : P.underlying g1.type = some (.slice b)) (hb : P.underlying b = some (.struct #[f0, f1])) (h0 : P.underlying f0.type = some (.int .i64)) (h1 : P.underlying f1.type = some (.slice e)) (he : P.underlying e = some (.int .u8))
    (hCe : P.cellsOf e = 1) (hone : oneCellFields P #[f0, f1] = true) (hC : P.cellsOf b = 2) (hone2 : oneCellFields P #[g0, g1] = true) (hC2 : P.cellsOf t = 2) (hv : Value.okWide P w r b0 t v) (h : DataW.Trod enc P w base (fun _ => true) held t v d p) :
    ∃ (k : Int) (A : Option Addr) (c : Nat) (l : List CeV), v = cv k A l.length c ∧ SlC w A c l := by
  obtain ⟨v0, v1, y0, y1, n, rfl, _, _, q0, q1⟩ := Go.Joins.open_agg2 hs hone2 hC2 hv h
  obtain ⟨k, rfl, hk⟩ := int_cell hg0 q0
  obtain ⟨A, c, l, rfl, hl, hq⟩ := open_structsF cf (fun x => I64 x.1 ∧ SlB w x.2.1 x.2.2.1 x.2.2.2) (fun _ => rfl) hg1 hb hone hC (by
    intro vs hl hf
    obtain ⟨u0, n0, y0, e0, t0⟩ := hf 0 f0 rfl
    obtain ⟨u1, n1, y1, e1, t1⟩ := hf 1 f1 rfl
    obtain ⟨k, rfl, hk⟩ := int_cell h0 t0
    obtain ⟨A, c, l, rfl, hb⟩ := bytes_cell h1 he hCe t1
    match vs, hl with
    | [x0, x1], _ =>
      simp at e0 e1
      exact ⟨(k, A, c, l), by simp [cf, e0, e1], hk, hb⟩) q1
  exact ⟨k, A, c, l, rfl, ⟨hl, fun x hx => (hq x hx).2⟩⟩
theorem open_segI {g0 g1 f0 f1 : Field} (hs : P.underlying t = some (.struct #[g0, g1])) (hg0 : P.underlying g0.type = some (.int .i64)) (hg1 : P.underlying g1.type = some (.slice b)) (hb : P.underlying b = some (.struct #[f0, f1])) (h0 : P.underlying f0.type = some (.int .i64)) (h1 : P.underlying f1.type = some (.slice e)) (he : P.underlying e = some (.int .u8))
    (hCe : P.cellsOf e = 1) (hone : oneCellFields P #[f0, f1] = true) (hC : P.cellsOf b = 2) (hone2 : oneCellFields P #[g0, g1] = true) (hC2 : P.cellsOf t = 2) (hv : Value.okWide P w r b0 t v) (h : DataW.Trod enc P w base (fun _ => true) held t v d p) :
    ∃ (k : Int) (A : Option Addr) (c : Nat) (l : List CeV), v = cv k A l.length c ∧ SlC w A c l ∧ I64 k := by
  obtain ⟨v0, v1, y0, y1, n, rfl, _, _, q0, q1⟩ := Go.Joins.open_agg2 hs hone2 hC2 hv h
  obtain ⟨k, rfl, hk⟩ := int_cell hg0 q0
  obtain ⟨A, c, l, rfl, hl, hq⟩ := open_structsF cf (fun x => I64 x.1 ∧ SlB w x.2.1 x.2.2.1 x.2.2.2) (fun _ => rfl) hg1 hb hone hC (by
    intro vs hl hf
    obtain ⟨u0, n0, y0, e0, t0⟩ := hf 0 f0 rfl
    obtain ⟨u1, n1, y1, e1, t1⟩ := hf 1 f1 rfl
    obtain ⟨k, rfl, hk⟩ := int_cell h0 t0
    obtain ⟨A, c, l, rfl, hb⟩ := bytes_cell h1 he hCe t1
    match vs, hl with
    | [x0, x1], _ =>
      simp at e0 e1
      exact ⟨(k, A, c, l), by simp [cf, e0, e1], hk, hb⟩) q1
  exact ⟨k, A, c, l, rfl, ⟨hl, fun x hx => (hq x hx).2⟩, hk⟩
theorem open_arr2 (hs : P.underlying t = some (.array 2 e)) (he : P.underlying e = some (.int .i64)) (hC : P.cellsOf t = 2) (hE : P.cellsOf e = 1) (hv : Value.okWide P w r b0 t v) (h : DataW.Trod enc P w base (fun _ => true) held t v d p) :
    ∃ a b : Int, v = .agg #[.int .i64 a, .int .i64 b] := by
  simp only [Value.okWide, hs] at hv
  obtain ⟨cs, rfl, hsz, _⟩ := hv
  obtain ⟨c0, c1, rfl⟩ : ∃ c0 c1, cs = #[c0, c1] := by
    have h2 := hsz.trans hC
    match cs, h2 with
    | ⟨[x, y]⟩, _ => exact ⟨x, y, rfl⟩
  obtain ⟨fuel, hf⟩ := h
  obtain ⟨xs, m, _, _, _, hlen, hg⟩ := DataW.trod_array hs hf
  have k0 := hg 0 (by omega)
  have k1 := hg 1 (by omega)
  rw [hE, List.getElem?_eq_getElem (by omega)] at k0 k1
  simp [Value.cells] at k0 k1
  obtain ⟨a, rfl, ha⟩ := int_cell he k0
  obtain ⟨b, rfl, hb⟩ := int_cell he k1
  exact ⟨a, b, rfl⟩
end
end Go.Proofs.Ytjkdnnekagcdhaa
