/- WHAT IT HOLDS: the law SegmentPuts, walked (under way). -/
import Derived.Test.YtjkdnnekagcdhaaSegmentPutsG31
namespace Go.Proofs.Ytjkdnnekagcdhaa
open Go.RowKit
attribute [local go_sem ↓] Go.wp_at_zero Go.wp_at_succ

set_option maxRecDepth 100000 in
set_option maxHeartbeats 400000 in
theorem SEndW_any (f : Int) (E : Option Addr) (n c : Nat) (w : World) {z : Int} (hz : wrap64 (f + (n : Int)) = z) :
    Calls Try.prog 46 #[cv f E n c] w fun e w' => e = .returned (.int .i64 z) ∧ Below w.heap.size w w' := by
  have hbw := below_new w (.cells #[.int .i64 f, .slice E n c] 75)
  have hz2 : IntKind.i64.wrap (f + (n : Int)) = z := by rw [IntKind.wrap_i64]; simpa only [wrap64] using hz
  go_enter Try.func46, Try.ntmps46
  go_wp2_with fail
  go_ret
  exact ⟨rfl, hbw⟩

theorem sput_two (s : Sg) : (sput s).2 = schk s := by
  unfold sput
  by_cases h : schk s = 0
  · rw [if_neg (by rw [h]; simp), h]
    unfold fput
    rw [if_neg (by have := stxt_len h; omega)]
  · rw [if_pos h]
set_option maxRecDepth 100000 in
set_option maxHeartbeats 1000000 in
theorem sputs_early {E : Option Addr} {cap : Nat} {f a : Int} {cs : List CeV} (w : World) (h : SlC w E cap cs) (hlong : longb (cs.map ceOf) 80 = true) :
    Calls Try.prog 6 #[cv f E cs.length cap, .int .i64 a] w fun e w' => e = .returned (.bool true) ∧ Below w.heap.size w w' := by
  have hB0 := Blk.new w 75 #[.int .i64 f, .slice E cs.length cap]
  have hbw := below_new w (.cells #[.int .i64 f, .slice E cs.length cap] 75)
  go_enter Try.func6, Try.ntmps6
  go_wp2_with fail
  refine (alive14_any _).mono ?_
  rintro e w1 ⟨rfl, hb1⟩
  have hB1 := hB0.below hb1
  have hw1 := bel_call hbw hb1
  clear hB0 hbw hb1
  obtain ⟨a0, a1, _, _⟩ := hB1.two
  go_wp2_with fail
  refine (Long_any cs 80 _ (h.below hw1)).mono ?_
  rintro e w2 ⟨rfl, hb2⟩
  rw [hlong]
  have hB2 := hB1.below hb2
  have hw2 := bel_call hw1 hb2
  clear hB1 hw1 hb2 a0 a1
  go_wp2_with fail
  go_ret
  exact ⟨rfl, hw2⟩
/-- a copy, some kinds turned -/
structure Inc (W7 : World) (gx : Nat) (f : Int) (A : Option Addr) (n c : Nat) (mC mm : List CeV) (k : Nat) (W : World) : Prop where
  len : mm.length = n
  row : Own W W7.heap.size 24 2 A n c (mm.flatMap cf)
  txt : ∀ x ∈ mm, OwnB W W7.heap.size 5 x.2.1 x.2.2.1 x.2.2.2
  box : Blk W gx 75 #[.int .i64 f, .slice A n c]
  bel : Below W7.heap.size W7 W
  st : k = 0 → mm = mC
  hd : 0 < k → (mm.map ceOf).head? ≠ (mC.map ceOf).head?
theorem Inc.step {W7 W : World} {gx g : Nat} {f : Int} {n c k : Nat} {mC mm : List CeV} (h : Inc W7 gx f (some ⟨g, 0, none⟩) n c mC mm k W) (hk : k < mm.length) (hg : W7.heap.size ≤ g) (hgx : gx ≠ g) {z : Int} (hz : wrap64 (mm[k].1 + 1) = z) :
    Inc W7 gx f (some ⟨g, 0, none⟩) n c mC (mm.set k (z, mm[k].2)) (k + 1) (W.setCell ⟨g, k * 2, none⟩ (.int .i64 z)) := by
  have hfl := flat_len (f := cf) (s := 2) (fun _ => rfl) mm
  refine ⟨by rw [List.length_set]; exact h.len, ?_, fun x hx => ?_, h.box.far hgx _, bel_set h.bel hg _, (fun h => by omega), fun _ => ?_⟩
  · have := h.row.setAt (j := k * 2) (by rw [hfl]; omega) (.int .i64 z)
    rw [flat_set (f := cf) (s := 2) (fun _ => rfl) mm k 0 (z, mm[k].2) (.int .i64 z) hk (by decide) rfl]
    exact this
  · have hx2 : OwnB W W7.heap.size 5 x.2.1 x.2.2.1 x.2.2.2 := by
      rcases List.mem_or_eq_of_mem_set hx with hx | rfl
      · exact h.txt x hx
      · exact h.txt mm[k] (List.getElem_mem hk)
    exact Own.setOther hx2 (fun hg2 => Own.apart hx2 h.row (by decide) g hg2 rfl) _ _
  · rcases Nat.eq_zero_or_pos k with h0 | h0
    · subst h0
      have hs := h.st rfl
      subst hs
      cases mm with
      | nil => simp at hk
      | cons x r =>
        simp only [List.set_cons_zero, List.map_cons, List.head?_cons, List.getElem_cons_zero] at hz ⊢
        intro he
        injection he with he
        injection he with he _
        exact wrap_succ_ne x.1 (hz.trans he)
    · have := h.hd h0
      cases mm with
      | nil => simp at hk
      | cons x r =>
        obtain ⟨j, rfl⟩ : ∃ j, k = j + 1 := ⟨k - 1, by omega⟩
        simpa using this
theorem sat_in {f : Int} {cs : List Ce} {k : Nat} (hk : k < cs.length) : sat (f, cs) (f + k) = (cs[k], true) := by
  unfold sat
  rw [if_neg (by dsimp only; omega)]
  have e1 : (f + (k : Int) - f).toNat = k := by omega
  dsimp only
  rw [e1, List.getD_eq_getElem?_getD, List.getElem?_eq_getElem hk]
  rfl
theorem sat_two {f a : Int} {cs : List Ce} : (sat (f, cs) a).2 = decide (f ≤ a ∧ a < f + cs.length) := by
  unfold sat
  dsimp only
  by_cases h : a < f ∨ (cs.length : Int) ≤ a - f
  · rw [if_pos h, eq_comm, decide_eq_false_iff_not]; omega
  · rw [if_neg h, eq_comm, decide_eq_true_iff]; omega
set_option maxRecDepth 100000 in
set_option maxHeartbeats 4000000 in
theorem sputs_good {E : Option Addr} {cap : Nat} {f a : Int} {cs : List CeV} (w : World) (h : SlC w E cap cs) (hlong : longb (cs.map ceOf) 80 = false) (hf : I64 f) (ha : I64 a) (hgood : Hid (schk (f, cs.map ceOf) = 0)) :
    Calls Try.prog 6 #[cv f E cs.length cap, .int .i64 a] w fun e w' => e = .returned (.bool true) ∧ Below w.heap.size w w' := by
  obtain ⟨hd1, hl1⟩ := longb_all hlong (by decide)
  have HD1 := Lib.hid hd1
  clear hd1
  have hB0 := Blk.new w 75 #[.int .i64 f, .slice E cs.length cap]
  have hbw := below_new w (.cells #[.int .i64 f, .slice E cs.length cap] 75)
  go_enter Try.func6, Try.ntmps6
  go_wp2_with fail
  refine (alive14_any _).mono ?_
  rintro e w1 ⟨rfl, hb1⟩
  have hB1 := hB0.below hb1
  have hw1 := bel_call hbw hb1
  clear hB0 hbw hb1
  obtain ⟨a0, a1, _, _⟩ := hB1.two
  go_wp2_with fail
  refine (Long_any cs 80 _ (h.below hw1)).mono ?_
  rintro e w2 ⟨rfl, hb2⟩
  rw [hlong]
  have hB2 := hB1.below hb2
  have hw2 := bel_call hw1 hb2
  clear hB1 hw1 hb2 a0 a1
  clear hlong
  obtain ⟨a0, a1, _, _⟩ := hB2.two
  go_wp2_with fail
  refine (Doc14_any f cs _ (h.below hw2) (by omega)).mono ?_
  rintro e w3 ⟨A3, c3, m3, rfl, hm3, hs3, hb3⟩
  have hB3 := hB2.below hb3
  have hw3 := bel_call hw2 hb3
  clear hB2 hw2 hb3 a0 a1
  go_wp2_with fail
  have hbn := below_new w3 (.cells #[.int .i64 f, .slice A3 m3.length c3] 77)
  refine (rSCheck_any f m3 _ (Sl.below hs3 hbn)).mono ?_
  rintro e w4 ⟨rfl, hb4⟩
  have hB4 := (hB3.below hbn).below hb4
  have hD4 := (Blk.new w3 77 #[.int .i64 f, .slice A3 m3.length c3]).below hb4
  have hs4 : SlD w4 A3 c3 m3 := Sl.below (Sl.below hs3 hbn) hb4
  have hw4 := bel_call (bel_call hw3 hbn) hb4
  clear hB3 hw3 hb4 hbn hs3
  obtain ⟨a0, a1, _, _⟩ := hB4.two
  rw [hm3.out]
  go_wp2_with fail
  refine (SPut_any f cs _ (h.below hw4)).mono ?_
  rintro e w5 ⟨A5, c5, m5, rfl, hm5, ho5, hb5⟩
  have hB5 := hB4.below hb5
  have hD5 := hD4.below hb5
  have hs5 : SlD w5 A3 c3 m3 := Sl.below hs4 hb5
  have hw5 := bel_call hw4 hb5
  clear hB4 hD4 hs4 hw4 hb5 a0 a1
  have hp2 : (sput (f, cs.map ceOf)).2 = schk (f, cs.map ceOf) := sput_two _
  rw [hp2]
  obtain ⟨z, hz⟩ : ∃ z : Int, wrap64 (f + (cs.length : Int)) = z := ⟨_, rfl⟩
  have HE := Lib.hid (fun W => SEndW_any f E cs.length cap W hz)
  have hz2 : IntKind.i64.wrap (f + (cs.length : Int)) = z := by rw [IntKind.wrap_i64]; simpa only [wrap64] using hz
  clear hp2
  have hst : Below w5.heap.size w5 w5.drew := (Below.refl _ _).drew
  have hnum := fun W => num_any (schk (f, cs.map ceOf)) W
  have hchk := fun W (hh : SlC W E cap cs) => SCheck_any f cs W hh
  generalize hbd : schk (f, cs.map ceOf) = bad at *
  have HBD := Lib.hid hbd
  have HNUM := Lib.hid hnum
  have HCHK := Lib.hid hchk
  clear hbd hnum hchk
  go_upto_region 8 with (fail)
  refine wp_region_held_drew (S := (fun W => Below w5.heap.size w5 W)) (by kernel_rfl) ?_ (fun hHeld => ?_)
  · exact hst
  refine gen0 (T := fun W => ((fun W => Below w5.heap.size w5 W)) W ∧ True) ?_ (fun wq1 hT => ?_)
  · exact ⟨by (first | exact hst | exact hHeld | exact bel_call hHeld hb6 | exact bel_call hHeld hb7), trivial⟩
  (try clear f0 f1 f2 f3 f4 f5 f6 f7 f8 f9 f10 f11)
  obtain ⟨hHeld, -⟩ := hT
  refine wpAnyH_take (i := 0) (oi := ⟨some 31, _, _, _, _, _⟩) (v := ?_) rfl (by kernel_rfl) (by kernel_rfl) (by kernel_rfl) (fun _ _ _ h => h) (Or.inl ⟨by kernel_rfl, ?_⟩) (by assumption) ?_
  rotate_left
  · (intro wS hSw; (try dsimp only at hSw); obtain ⟨q0, q1, _, _⟩ := (hB5.below hSw).two; clear hSw; go_simp; (try with_reducible rfl))
  (try simp only [Act.put, List.setIfInBounds_toArray, List.set_cons_zero, List.set_cons_succ])
  refine wpAnyH_take (i := 3) (oi := ⟨some 34, _, _, _, _, _⟩) (v := ?_) rfl (by kernel_rfl) (by kernel_rfl) (by kernel_rfl) (fun _ _ _ h => h) (Or.inl ⟨by kernel_rfl, ?_⟩) (by assumption) ?_
  rotate_left
  · (intro wS hSw; (try dsimp only at hSw); obtain ⟨q0, q1, _, _⟩ := (hB5.below hSw).two; clear hSw; go_simp; (try with_reducible rfl))
  (try simp only [Act.put, List.setIfInBounds_toArray, List.set_cons_zero, List.set_cons_succ])
  refine wpAnyH_ready (rs := [1]) (by kernel_rfl) (by simp) ?_
  refine AllReadyH.cons (o := ⟨some 32, _, _, _, _, _⟩) rfl (fun K hK => ?_) AllReadyH.nil
  go_simp
  (refine (HCHK.out _ (h.below (bel_call hw5 hHeld))).mono ?_; rintro e w6 ⟨rfl, hb6⟩)
  go_wp2_with fail
  refine hK.out _ _ ?_ (fun _ => ?_)
  · ((try dsimp only); (first | exact hst | exact hHeld | exact bel_call hHeld hb6 | exact bel_call hHeld hb7))
  clear hK K
  (try simp only [Act.put, List.setIfInBounds_toArray, List.set_cons_zero, List.set_cons_succ])
  refine gen0 (T := fun W => ((fun W => Below w5.heap.size w5 W)) W ∧ True) ?_ (fun wq2 hT => ?_)
  · exact ⟨by (first | exact hst | exact hHeld | exact bel_call hHeld hb6 | exact bel_call hHeld hb7), trivial⟩
  (try clear f0 f1 f2 f3 f4 f5 f6 f7 f8 f9 f10 f11)
  obtain ⟨hHeld, -⟩ := hT
  refine wpAnyH_ready (rs := [2]) (by kernel_rfl) (by simp) ?_
  refine AllReadyH.cons (o := ⟨some 33, _, _, _, _, _⟩) rfl (fun K hK => ?_) AllReadyH.nil
  go_simp
  (refine (HNUM.out _).mono ?_; rintro e w8 ⟨rfl, rfl⟩)
  go_wp2_with fail
  refine hK.out _ _ ?_ (fun _ => ?_)
  · ((try dsimp only); (first | exact hst | exact hHeld | exact bel_call hHeld hb6 | exact bel_call hHeld hb7))
  clear hK K
  (try simp only [Act.put, List.setIfInBounds_toArray, List.set_cons_zero, List.set_cons_succ])
  refine gen0 (T := fun W => ((fun W => Below w5.heap.size w5 W)) W ∧ True) ?_ (fun wq3 hT => ?_)
  · exact ⟨by (first | exact hst | exact hHeld | exact bel_call hHeld hb6 | exact bel_call hHeld hb7), trivial⟩
  (try clear f0 f1 f2 f3 f4 f5 f6 f7 f8 f9 f10 f11)
  obtain ⟨hHeld, -⟩ := hT
  refine wpAnyH_take (i := 4) (oi := ⟨some 35, _, _, _, _, _⟩) (v := ?_) rfl (by kernel_rfl) (by kernel_rfl) (by kernel_rfl) (fun _ _ _ h => h) (Or.inl ⟨by kernel_rfl, ?_⟩) (by assumption) ?_
  rotate_left
  · (intro wS hSw; (try dsimp only at hSw); obtain ⟨q0, q1, _, _⟩ := (hB5.below hSw).two; clear hSw; go_simp; (try with_reducible rfl))
  (try simp only [Act.put, List.setIfInBounds_toArray, List.set_cons_zero, List.set_cons_succ])
  refine wpAnyH_take (i := 5) (oi := ⟨some 36, _, _, _, _, _⟩) (v := ?_) rfl (by kernel_rfl) (by kernel_rfl) (by kernel_rfl) (fun _ _ _ h => h) (Or.inl ⟨by kernel_rfl, ?_⟩) (by assumption) ?_
  rotate_left
  · (intro wS hSw; (try dsimp only at hSw); obtain ⟨q0, q1, _, _⟩ := (hB5.below hSw).two; clear hSw; go_simp; (try with_reducible rfl))
  (try simp only [Act.put, List.setIfInBounds_toArray, List.set_cons_zero, List.set_cons_succ])
  refine wpAnyH_take (i := 6) (oi := ⟨some 37, _, _, _, _, _⟩) (v := ?_) rfl (by kernel_rfl) (by kernel_rfl) (by kernel_rfl) (fun _ _ _ h => h) (Or.inl ⟨by kernel_rfl, ?_⟩) (by assumption) ?_
  rotate_left
  · (intro wS hSw; (try dsimp only at hSw); obtain ⟨q0, q1, _, _⟩ := (hB5.below hSw).two; clear hSw; go_simp; (try with_reducible rfl))
  (try simp only [Act.put, List.setIfInBounds_toArray, List.set_cons_zero, List.set_cons_succ])
  refine wpAnyH_take (i := 8) (oi := ⟨some 39, _, _, _, _, _⟩) (v := ?_) rfl (by kernel_rfl) (by kernel_rfl) (by kernel_rfl) (fun _ _ _ h => h) (Or.inl ⟨by kernel_rfl, ?_⟩) (by assumption) ?_
  rotate_left
  · (intro wS hSw; (try dsimp only at hSw); obtain ⟨q0, q1, _, _⟩ := (hB5.below hSw).two; clear hSw; go_simp; (try with_reducible rfl))
  (try simp only [Act.put, List.setIfInBounds_toArray, List.set_cons_zero, List.set_cons_succ])
  refine wpAnyH_ready (rs := [7]) (by kernel_rfl) (by simp) ?_
  refine AllReadyH.cons (o := ⟨some 38, _, _, _, _, _⟩) rfl (fun K hK => ?_) AllReadyH.nil
  go_simp
  (refine (HNUM.out _).mono ?_; rintro e w8 ⟨rfl, rfl⟩)
  go_wp2_with fail
  refine hK.out _ _ ?_ (fun _ => ?_)
  · ((try dsimp only); (first | exact hst | exact hHeld | exact bel_call hHeld hb6 | exact bel_call hHeld hb7))
  clear hK K
  (try simp only [Act.put, List.setIfInBounds_toArray, List.set_cons_zero, List.set_cons_succ])
  refine gen0 (T := fun W => ((fun W => Below w5.heap.size w5 W)) W ∧ True) ?_ (fun wq4 hT => ?_)
  · exact ⟨by (first | exact hst | exact hHeld | exact bel_call hHeld hb6 | exact bel_call hHeld hb7), trivial⟩
  (try clear f0 f1 f2 f3 f4 f5 f6 f7 f8 f9 f10 f11)
  obtain ⟨hHeld, -⟩ := hT
  refine wpAnyH_take (i := 9) (oi := ⟨some 40, _, _, _, _, _⟩) (v := ?_) rfl (by kernel_rfl) (by kernel_rfl) (by kernel_rfl) (fun _ _ _ h => h) (Or.inl ⟨by kernel_rfl, ?_⟩) (by assumption) ?_
  rotate_left
  · (intro wS hSw; (try dsimp only at hSw); obtain ⟨q0, q1, _, _⟩ := (hB5.below hSw).two; clear hSw; go_simp; (try with_reducible rfl))
  (try simp only [Act.put, List.setIfInBounds_toArray, List.set_cons_zero, List.set_cons_succ])
  refine wpAnyH_take (i := 10) (oi := ⟨some 41, _, _, _, _, _⟩) (v := ?_) rfl (by kernel_rfl) (by kernel_rfl) (by kernel_rfl) (fun _ _ _ h => h) (Or.inl ⟨by kernel_rfl, ?_⟩) (by assumption) ?_
  rotate_left
  · (intro wS hSw; (try dsimp only at hSw); obtain ⟨q0, q1, _, _⟩ := (hB5.below hSw).two; clear hSw; go_simp; (try with_reducible rfl))
  (try simp only [Act.put, List.setIfInBounds_toArray, List.set_cons_zero, List.set_cons_succ])
  refine wpAnyH_take (i := 11) (oi := ⟨some 42, _, _, _, _, _⟩) (v := ?_) rfl (by kernel_rfl) (by kernel_rfl) (by kernel_rfl) (fun _ _ _ h => h) (Or.inl ⟨by kernel_rfl, ?_⟩) (by assumption) ?_
  rotate_left
  · (intro wS hSw; (try dsimp only at hSw); obtain ⟨q0, q1, _, _⟩ := (hB5.below hSw).two; clear hSw; go_simp; (try with_reducible rfl))
  (try simp only [Act.put, List.setIfInBounds_toArray, List.set_cons_zero, List.set_cons_succ])
  refine wpAnyH_take (i := 12) (oi := ⟨some 43, _, _, _, _, _⟩) (v := ?_) rfl (by kernel_rfl) (by kernel_rfl) (by kernel_rfl) (fun _ _ _ h => h) (Or.inl ⟨by kernel_rfl, ?_⟩) (by assumption) ?_
  rotate_left
  · (intro wS hSw; (try dsimp only at hSw); obtain ⟨q0, q1, _, _⟩ := (hB5.below hSw).two; clear hSw; go_simp; (try with_reducible rfl))
  (try simp only [Act.put, List.setIfInBounds_toArray, List.set_cons_zero, List.set_cons_succ])
  refine wpAnyH_take (i := 14) (oi := ⟨some 45, _, _, _, _, _⟩) (v := ?_) rfl (by kernel_rfl) (by kernel_rfl) (by kernel_rfl) (fun _ _ _ h => h) (Or.inl ⟨by kernel_rfl, ?_⟩) (by assumption) ?_
  rotate_left
  · (intro wS hSw; (try dsimp only at hSw); obtain ⟨q0, q1, _, _⟩ := (hB5.below hSw).two; clear hSw; go_simp; (try with_reducible rfl))
  (try simp only [Act.put, List.setIfInBounds_toArray, List.set_cons_zero, List.set_cons_succ])
  refine wpAnyH_take (i := 15) (oi := ⟨some 46, _, _, _, _, _⟩) (v := ?_) rfl (by kernel_rfl) (by kernel_rfl) (by kernel_rfl) (fun _ _ _ h => h) (Or.inl ⟨by kernel_rfl, ?_⟩) (by assumption) ?_
  rotate_left
  · (intro wS hSw; (try dsimp only at hSw); obtain ⟨q0, q1, _, _⟩ := (hB5.below hSw).two; clear hSw; go_simp; (try with_reducible rfl))
  (try simp only [Act.put, List.setIfInBounds_toArray, List.set_cons_zero, List.set_cons_succ])
  refine wpAnyH_take (i := 16) (oi := ⟨some 47, _, _, _, _, _⟩) (v := ?_) rfl (by kernel_rfl) (by kernel_rfl) (by kernel_rfl) (fun _ _ _ h => h) (Or.inl ⟨by kernel_rfl, ?_⟩) (by assumption) ?_
  rotate_left
  · (intro wS hSw; (try dsimp only at hSw); obtain ⟨q0, q1, _, _⟩ := (hB5.below hSw).two; clear hSw; go_simp; (try with_reducible rfl))
  (try simp only [Act.put, List.setIfInBounds_toArray, List.set_cons_zero, List.set_cons_succ])
  refine wpAnyH_take (i := 17) (oi := ⟨some 48, _, _, _, _, _⟩) (v := ?_) rfl (by kernel_rfl) (by kernel_rfl) (by kernel_rfl) (fun _ _ _ h => h) (Or.inl ⟨by kernel_rfl, ?_⟩) (by assumption) ?_
  rotate_left
  · (intro wS hSw; (try dsimp only at hSw); obtain ⟨q0, q1, _, _⟩ := (hB5.below hSw).two; clear hSw; go_simp; (try with_reducible rfl))
  (try simp only [Act.put, List.setIfInBounds_toArray, List.set_cons_zero, List.set_cons_succ])
  refine wpAnyH_take (i := 18) (oi := ⟨some 49, _, _, _, _, _⟩) (v := ?_) rfl (by kernel_rfl) (by kernel_rfl) (by kernel_rfl) (fun _ _ _ h => h) (Or.inl ⟨by kernel_rfl, ?_⟩) (by assumption) ?_
  rotate_left
  · (intro wS hSw; (try dsimp only at hSw); obtain ⟨q0, q1, _, _⟩ := (hB5.below hSw).two; clear hSw; go_simp; (try with_reducible rfl))
  (try simp only [Act.put, List.setIfInBounds_toArray, List.set_cons_zero, List.set_cons_succ])
  refine wpAnyH_take (i := 19) (oi := ⟨some 50, _, _, _, _, _⟩) (v := ?_) rfl (by kernel_rfl) (by kernel_rfl) (by kernel_rfl) (fun _ _ _ h => h) (Or.inl ⟨by kernel_rfl, ?_⟩) (by assumption) ?_
  rotate_left
  · (intro wS hSw; (try dsimp only at hSw); obtain ⟨q0, q1, _, _⟩ := (hB5.below hSw).two; clear hSw; go_simp; (try with_reducible rfl))
  (try simp only [Act.put, List.setIfInBounds_toArray, List.set_cons_zero, List.set_cons_succ])
  refine wpAnyH_ready (rs := [13]) (by kernel_rfl) (by simp) ?_
  refine AllReadyH.cons (o := ⟨some 44, _, _, _, _, _⟩) rfl (fun K hK => ?_) AllReadyH.nil
  go_simp
  (refine (HE.out _).mono ?_; rintro e w7 ⟨rfl, hb7⟩)
  go_wp2_with fail
  refine hK.out _ _ ?_ (fun _ => ?_)
  · ((try dsimp only); (first | exact hst | exact hHeld | exact bel_call hHeld hb6 | exact bel_call hHeld hb7))
  clear hK K
  (try simp only [Act.put, List.setIfInBounds_toArray, List.set_cons_zero, List.set_cons_succ])
  refine gen0 (T := fun W => ((fun W => Below w5.heap.size w5 W)) W ∧ True) ?_ (fun wq5 hT => ?_)
  · exact ⟨by (first | exact hst | exact hHeld | exact bel_call hHeld hb6 | exact bel_call hHeld hb7), trivial⟩
  (try clear f0 f1 f2 f3 f4 f5 f6 f7 f8 f9 f10 f11)
  obtain ⟨hHeld, -⟩ := hT
  refine wpAnyH_take (i := 20) (oi := ⟨some 51, _, _, _, _, _⟩) (v := ?_) rfl (by kernel_rfl) (by kernel_rfl) (by kernel_rfl) (fun _ _ _ h => h) (Or.inl ⟨by kernel_rfl, ?_⟩) (by assumption) ?_
  rotate_left
  · (intro wS hSw; (try dsimp only at hSw); obtain ⟨q0, q1, _, _⟩ := (hB5.below hSw).two; clear hSw; go_simp; (try with_reducible rfl))
  (try simp only [Act.put, List.setIfInBounds_toArray, List.set_cons_zero, List.set_cons_succ])
  refine wpAnyH_take (i := 21) (oi := ⟨some 52, _, _, _, _, _⟩) (v := ?_) rfl (by kernel_rfl) (by kernel_rfl) (by kernel_rfl) (fun _ _ _ h => h) (Or.inl ⟨by kernel_rfl, ?_⟩) (by assumption) ?_
  rotate_left
  · (intro wS hSw; (try dsimp only at hSw); obtain ⟨q0, q1, _, _⟩ := (hB5.below hSw).two; clear hSw; go_simp; (try with_reducible rfl))
  (try simp only [Act.put, List.setIfInBounds_toArray, List.set_cons_zero, List.set_cons_succ])
  refine wpAnyH_done (by kernel_rfl) ?_ _
  have hb0 : bad = 0 := hgood.out
  have hbe : ((bad : Int) == 0) = true := by rw [hb0]; rfl
  have hbn : ((bad : Int) != 0) = false := by rw [hb0]; rfl
  obtain ⟨hf0, hf1, hn64, hne, hr0⟩ := schk_ok (HBD.out.trans hb0)
  dsimp only at hf0 hf1 hn64 hne
  simp only [List.length_map] at hn64 hne
  have HB0 := Lib.hid hb0
  have hBr := hB5.below hHeld
  have hDr := hD5.below hHeld
  have hsr : SlD wq5 A3 c3 m3 := Sl.below hs5 hHeld
  have hp5 : SlB wq5 A5 c5 m5 := Sl.below ho5.sl hHeld
  have hwr := bel_call hw5 hHeld
  have HA := Lib.hid (fun (b : Int) (hb : I64 b) (W : World) (hh : SlC W E cap cs) => SAt_any f b cs W hh hl1 HD1.out hf hb)
  clear hb0 hr0 hst hB5 hD5 hs5 hw5 hHeld HE
  clear hb6 hb7
  clear hz2 hz HCHK HNUM
  have hm3l : m3.length = cs.length := by rw [hm3.out]; simp
  have HM3 := Lib.hid hm3l
  clear hm3l
  generalize hWl : wq5 = Wl at *
  clear hWl
  have hm3l := HM3.out
  rw [hm3l] at hDr
  have HM3 := Lib.hid hm3l
  clear hm3l
  obtain ⟨a0, a1, _, _⟩ := hBr.two
  go_wp2_with fail
  clear a0 a1
  go_loopw [9, 56] (fun s9 s56 wr => ∃ (k : Nat) (fd : Bool), k ≤ cs.length ∧ s56 = .int .i64 k ∧ s9 = .bool fd ∧ Hid (fd = decide (f ≤ a ∧ a < f + k)) ∧ Below Wl.heap.size Wl wr) (fun s9 s56 wr => cs.length - (intOf s56).toNat)
  case atStart => exact ⟨0, false, Nat.zero_le _, rfl, rfl, (show _ = _ from by rw [eq_comm, decide_eq_false_iff_not]; omega), Below.refl _ _⟩
  case round =>
    obtain ⟨k, fd, hk, rfl, rfl, hfd, hbr⟩ := hrel
    have hBk := hBr.below hbr
    have hDk := hDr.below hbr
    obtain ⟨a0, a1, _, _⟩ := hBk.two
    by_cases hlt : k < cs.length
    · by_cases hat : f + (k : Int) = a
      · have hab : (f + (k : Int) == a) = true := by simpa using hat
        have hak := HA.out a ha _ (h.below (bel_call hwr hbr))
        rw [← hat, sat_in (by simpa using hlt), hat] at hak
        have hnx : Hid (true = decide (f ≤ a ∧ a < f + ((k + 1 : Nat) : Int))) := (show _ = _ from by rw [eq_comm, decide_eq_true_iff]; omega)
        have HAT := Lib.hid hat
        have HAK := Lib.hid hak
        clear hat hak
        generalize hx : (List.map ceOf cs)[k]'(by simpa using hlt) = x at HAK
        obtain ⟨kk, d⟩ := x
        have hx3 : Hid (∀ h : k < m3.length, m3[k] = (kk, d)) := (show ∀ h : k < m3.length, _ from fun h => by
          rw [← hx]
          have := hm3.out
          subst this
          rfl)
        clear hx
        go_wp2_with fail
        refine HAK.out.mono ?_
        rintro e w6 ⟨A6, c6, m6, rfl, hm6, hs6, hb6⟩
        dsimp only at hm6
        obtain rfl := hm6.out
        clear hm6
        have hbr6 := bel_call hbr hb6
        go_upto_region 17 with (fail)
        have hbx := below_new w6 (.cells #[.int .i64 kk, .slice A6 m6.length c6] 24)
        have hBx := Blk.new w6 24 #[.int .i64 kk, .slice A6 m6.length c6]
        have hs7 := hs6.below hbx
        have hbr7 := bel_call hbr6 hbx
        have hD7 := hDr.below hbr7
        have hsr7 : SlD _ A3 c3 m3 := Sl.below hsr hbr7
        generalize hW7 : w6.alloc (.cells #[.int .i64 kk, .slice A6 m6.length c6] 24) = W7 at *
        clear hW7 hbx hbr6 hs6 hb6 hBk hDk a0 a1 hbr
        obtain ⟨ad, b, o, rfl, had, hcc⟩ := hsr7.atS (f := df) (fun _ => rfl) (by decide) (show k < m3.length from by rw [HM3.out]; exact hlt)
        rw [hx3.out] at hcc
        have hc0 := hcc 0 _ rfl
        have hc1 := hcc 1 _ rfl
        rw [Nat.add_zero] at hc0
        have hcl : b < W7.heap.size := World.block_lt_of_cell? _ _ hc0
        have hcW : Hid (∀ W, Below W7.heap.size W7 W → W.cell? ⟨b, o, none⟩ = some (.int .i64 kk) ∧ W.cell? ⟨b, o + 1, none⟩ = some (.string ⟨m6.toArray⟩)) := (show ∀ W, Below W7.heap.size W7 W → _ from fun W hW => ⟨(hW.cell hcl).trans hc0, (hW.cell hcl).trans hc1⟩)
        clear hcc hc0 hc1 hsr7
        have hnn := neq_dv kk kk m6 m6
        rw [show same (kk, m6) (kk, m6) = true from same_iff.2 rfl] at hnn
        have hst : Below W7.heap.size W7 W7.drew := (Below.refl _ _).drew
        have hk0 : (0 : Int) ≤ (k : Int) := by omega
        have hk1 : (k : Int) < (cs.length : Int) := by omega
        refine wp_region_held_drew (S := (fun W => Below W7.heap.size W7 W)) (by kernel_rfl) ?_ (fun hHeld => ?_)
        · exact hst
        refine gen0 (T := fun W => ((fun W => Below W7.heap.size W7 W)) W ∧ True) ?_ (fun wq1 hT => ?_)
        · exact ⟨by (first | exact hst | exact hHeld | exact bel_call hHeld hb8), trivial⟩
        (try clear f0 f1 f2 f3 f4 f5 f6 f7 f8 f9 f10 f11)
        obtain ⟨hHeld, -⟩ := hT
        refine wpAnyH_take (i := 0) (oi := ⟨some 75, _, _, _, _, _⟩) (v := ?_) rfl (by kernel_rfl) (by kernel_rfl) (by kernel_rfl) (fun _ _ _ h => h) (Or.inl ⟨by kernel_rfl, ?_⟩) (by assumption) ?_
        rotate_left
        · (intro wS hSw; (try dsimp only at hSw); obtain ⟨q0, q1, _, _⟩ := (hBx.below hSw).two; obtain ⟨p0, p1, _, _⟩ := (hD7.below hSw).two; obtain ⟨r0, r1⟩ := hcW.out _ hSw; clear hSw; go_simp; (try with_reducible rfl))
        (try simp only [Act.put, List.setIfInBounds_toArray, List.set_cons_zero, List.set_cons_succ])
        refine wpAnyH_take (i := 1) (oi := ⟨some 76, _, _, _, _, _⟩) (v := ?_) rfl (by kernel_rfl) (by kernel_rfl) (by kernel_rfl) (fun _ _ _ h => h) (Or.inl ⟨by kernel_rfl, ?_⟩) (by assumption) ?_
        rotate_left
        · (intro wS hSw; (try dsimp only at hSw); obtain ⟨q0, q1, _, _⟩ := (hBx.below hSw).two; obtain ⟨p0, p1, _, _⟩ := (hD7.below hSw).two; obtain ⟨r0, r1⟩ := hcW.out _ hSw; clear hSw; go_simp; (try with_reducible rfl))
        (try simp only [Act.put, List.setIfInBounds_toArray, List.set_cons_zero, List.set_cons_succ])
        refine wpAnyH_take (i := 2) (oi := ⟨some 77, _, _, _, _, _⟩) (v := ?_) rfl (by kernel_rfl) (by kernel_rfl) (by kernel_rfl) (fun _ _ _ h => h) (Or.inl ⟨by kernel_rfl, ?_⟩) (by assumption) ?_
        rotate_left
        · (intro wS hSw; (try dsimp only at hSw); obtain ⟨q0, q1, _, _⟩ := (hBx.below hSw).two; obtain ⟨p0, p1, _, _⟩ := (hD7.below hSw).two; obtain ⟨r0, r1⟩ := hcW.out _ hSw; clear hSw; go_simp; (try with_reducible rfl))
        (try simp only [Act.put, List.setIfInBounds_toArray, List.set_cons_zero, List.set_cons_succ])
        refine wpAnyH_take (i := 3) (oi := ⟨some 78, _, _, _, _, _⟩) (v := ?_) rfl (by kernel_rfl) (by kernel_rfl) (by kernel_rfl) (fun _ _ _ h => h) (Or.inl ⟨by kernel_rfl, ?_⟩) (by assumption) ?_
        rotate_left
        · (intro wS hSw; (try dsimp only at hSw); obtain ⟨q0, q1, _, _⟩ := (hBx.below hSw).two; obtain ⟨p0, p1, _, _⟩ := (hD7.below hSw).two; obtain ⟨r0, r1⟩ := hcW.out _ hSw; clear hSw; go_simp; (try with_reducible rfl))
        (try simp only [Act.put, List.setIfInBounds_toArray, List.set_cons_zero, List.set_cons_succ])
        refine wpAnyH_take (i := 5) (oi := ⟨some 80, _, _, _, _, _⟩) (v := ?_) rfl (by kernel_rfl) (by kernel_rfl) (by kernel_rfl) (fun _ _ _ h => h) (Or.inl ⟨by kernel_rfl, ?_⟩) (by assumption) ?_
        rotate_left
        · (intro wS hSw; (try dsimp only at hSw); obtain ⟨q0, q1, _, _⟩ := (hBx.below hSw).two; obtain ⟨p0, p1, _, _⟩ := (hD7.below hSw).two; obtain ⟨r0, r1⟩ := hcW.out _ hSw; clear hSw; go_simp; (try with_reducible rfl))
        (try simp only [Act.put, List.setIfInBounds_toArray, List.set_cons_zero, List.set_cons_succ])
        refine wpAnyH_take (i := 6) (oi := ⟨some 81, _, _, _, _, _⟩) (v := ?_) rfl (by kernel_rfl) (by kernel_rfl) (by kernel_rfl) (fun _ _ _ h => h) (Or.inl ⟨by kernel_rfl, ?_⟩) (by assumption) ?_
        rotate_left
        · (intro wS hSw; (try dsimp only at hSw); obtain ⟨q0, q1, _, _⟩ := (hBx.below hSw).two; obtain ⟨p0, p1, _, _⟩ := (hD7.below hSw).two; obtain ⟨r0, r1⟩ := hcW.out _ hSw; clear hSw; go_simp; (try with_reducible rfl))
        (try simp only [Act.put, List.setIfInBounds_toArray, List.set_cons_zero, List.set_cons_succ])
        refine wpAnyH_take (i := 7) (oi := ⟨some 82, _, _, _, _, _⟩) (v := ?_) rfl (by kernel_rfl) (by kernel_rfl) (by kernel_rfl) (fun _ _ _ h => h) (Or.inl ⟨by kernel_rfl, ?_⟩) (by assumption) ?_
        rotate_left
        · (intro wS hSw; (try dsimp only at hSw); obtain ⟨q0, q1, _, _⟩ := (hBx.below hSw).two; obtain ⟨p0, p1, _, _⟩ := (hD7.below hSw).two; obtain ⟨r0, r1⟩ := hcW.out _ hSw; clear hSw; go_simp; (try with_reducible rfl))
        (try simp only [Act.put, List.setIfInBounds_toArray, List.set_cons_zero, List.set_cons_succ])
        refine wpAnyH_take (i := 8) (oi := ⟨some 83, _, _, _, _, _⟩) (v := ?_) rfl (by kernel_rfl) (by kernel_rfl) (by kernel_rfl) (fun _ _ _ h => h) (Or.inl ⟨by kernel_rfl, ?_⟩) (by assumption) ?_
        rotate_left
        · (intro wS hSw; (try dsimp only at hSw); obtain ⟨q0, q1, _, _⟩ := (hBx.below hSw).two; obtain ⟨p0, p1, _, _⟩ := (hD7.below hSw).two; obtain ⟨r0, r1⟩ := hcW.out _ hSw; clear hSw; go_simp; (try with_reducible rfl))
        (try simp only [Act.put, List.setIfInBounds_toArray, List.set_cons_zero, List.set_cons_succ])
        refine wpAnyH_take (i := 9) (oi := ⟨some 84, _, _, _, _, _⟩) (v := ?_) rfl (by kernel_rfl) (by kernel_rfl) (by kernel_rfl) (fun _ _ _ h => h) (Or.inl ⟨by kernel_rfl, ?_⟩) (by assumption) ?_
        rotate_left
        · (intro wS hSw; (try dsimp only at hSw); obtain ⟨q0, q1, _, _⟩ := (hBx.below hSw).two; obtain ⟨p0, p1, _, _⟩ := (hD7.below hSw).two; obtain ⟨r0, r1⟩ := hcW.out _ hSw; clear hSw; go_simp; (try with_reducible rfl))
        (try simp only [Act.put, List.setIfInBounds_toArray, List.set_cons_zero, List.set_cons_succ])
        refine wpAnyH_ready (rs := [4]) (by kernel_rfl) (by simp) ?_
        refine AllReadyH.cons (o := ⟨some 79, _, _, _, _, _⟩) rfl (fun K hK => ?_) AllReadyH.nil
        go_simp
        (refine (Document_any kk m6 _ (hs7.below hHeld)).mono ?_; rintro e w8 ⟨rfl, hb8⟩)
        go_wp2_with fail
        refine hK.out _ _ ?_ (fun _ => ?_)
        · ((try dsimp only); (first | exact hst | exact hHeld | exact bel_call hHeld hb8))
        clear hK K
        (try simp only [Act.put, List.setIfInBounds_toArray, List.set_cons_zero, List.set_cons_succ])
        refine gen0 (T := fun W => ((fun W => Below W7.heap.size W7 W)) W ∧ True) ?_ (fun wq2 hT => ?_)
        · exact ⟨by (first | exact hst | exact hHeld | exact bel_call hHeld hb8), trivial⟩
        (try clear f0 f1 f2 f3 f4 f5 f6 f7 f8 f9 f10 f11)
        obtain ⟨hHeld, -⟩ := hT
        refine wpAnyH_take (i := 10) (oi := ⟨some 85, _, _, _, _, _⟩) (v := ?_) rfl (by kernel_rfl) (by kernel_rfl) (by kernel_rfl) (fun _ _ _ h => h) (Or.inl ⟨by kernel_rfl, ?_⟩) (by assumption) ?_
        rotate_left
        · (intro wS hSw; (try dsimp only at hSw); obtain ⟨q0, q1, _, _⟩ := (hBx.below hSw).two; obtain ⟨p0, p1, _, _⟩ := (hD7.below hSw).two; obtain ⟨r0, r1⟩ := hcW.out _ hSw; clear hSw; go_simp; (try with_reducible rfl))
        (try simp only [Act.put, List.setIfInBounds_toArray, List.set_cons_zero, List.set_cons_succ])
        refine wpAnyH_take (i := 11) (oi := ⟨some 86, _, _, _, _, _⟩) (v := ?_) rfl (by kernel_rfl) (by kernel_rfl) (by kernel_rfl) (fun _ _ _ h => h) (Or.inl ⟨by kernel_rfl, ?_⟩) (by assumption) ?_
        rotate_left
        · (intro wS hSw; (try dsimp only at hSw); obtain ⟨q0, q1, _, _⟩ := (hBx.below hSw).two; obtain ⟨p0, p1, _, _⟩ := (hD7.below hSw).two; obtain ⟨r0, r1⟩ := hcW.out _ hSw; clear hSw; go_simp; (try with_reducible rfl))
        (try simp only [Act.put, List.setIfInBounds_toArray, List.set_cons_zero, List.set_cons_succ])
        refine wpAnyH_done (by kernel_rfl) ?_ _
        go_wp2_with fail
        go_roundw
        case rel => exact ⟨k + 1, true, hlt, by go_num, rfl, hnx, bel_call hbr7 hHeld⟩
        case measure => simp [intOf]; omega
      · have hab : (f + (k : Int) == a) = false := by simpa using hat
        have hnx : Hid (fd = decide (f ≤ a ∧ a < f + ((k + 1 : Nat) : Int))) := (show _ = _ from by rw [hfd.out, decide_eq_decide]; omega)
        clear hat
        go_wp2_with fail
        go_roundw
        case rel => exact ⟨k + 1, fd, hlt, by go_num, rfl, hnx, hbr⟩
        case measure => simp [intOf]; omega
    · have hkn : k = cs.length := by omega
      have HFD := Lib.hid (show fd = decide (f ≤ a ∧ a < f + cs.length) from by rw [hfd.out, hkn])
      clear hfd hkn
      have hBk := hBr.below hbr
      have hDk := hDr.below hbr
      have hwk := bel_call hwr hbr
      have hsk : SlD wr A3 c3 m3 := Sl.below hsr hbr
      have hpk : SlB wr A5 c5 m5 := Sl.below hp5 hbr
      clear hp5 ho5
      clear hBr hDr hsr hwr hbr
      obtain ⟨a0, a1, _, _⟩ := hBk.two
      have hA2 := HA.out a ha _ (h.below hwk)
      generalize hx : sat (f, cs.map ceOf) a = x at hA2
      obtain ⟨⟨xk, xd⟩, xb⟩ := x
      have hxb : xb = fd := by
        have := sat_two (f := f) (a := a) (cs := cs.map ceOf)
        rw [hx] at this
        rw [HFD.out]
        simpa using this
      subst hxb
      clear hx
      have HA2 := Lib.hid hA2
      clear hA2
      go_wp2_with fail
      refine HA2.out.mono ?_
      rintro e w6 ⟨A6, c6, m6, rfl, hm6, hs6, hb6⟩
      have hbx := bel_call hb6 (below_new w6 (.cells #[.int .i64 xk, .slice A6 m6.length c6] 24))
      have hB7 := hBk.below hbx
      have hD7 := hDk.below hbx
      have hw7 := bel_call hwk hbx
      have hs7 : SlD _ A3 c3 m3 := Sl.below hsk hbx
      have hp7 : SlB _ A5 c5 m5 := Sl.below hpk hbx
      clear hpk
      clear hBk hDk hwk hsk hbx hs6 hb6 a0 a1 hm6 HA2 HA
      dsimp only at *
      go_upto_region 21 with (fail)
      generalize hW7 : w6.alloc (.cells #[.int .i64 xk, .slice A6 m6.length c6] 24) = W7 at *
      clear hW7
      have HTOP : Hid (∀ W, Below W7.heap.size W7 W → Blk W w.heap.size 75 #[.int .i64 f, .slice E cs.length cap] ∧ Blk W w3.heap.size 77 #[.int .i64 f, .slice A3 cs.length c3] ∧ Below w.heap.size w W ∧ SlD W A3 c3 m3 ∧ SlB W A5 c5 m5) := (show ∀ W, _ → _ from fun W hW => ⟨hB7.below hW, hD7.below hW, bel_call hw7 hW, Sl.below hs7 hW, Sl.below hp7 hW⟩)
      clear hp7
      obtain ⟨a0, a1, _, _⟩ := hB7.two
      go_wp2_with fail
      refine (SCopy_any f cs _ (h.below hw7) (by omega) HD1.out).mono ?_
      rintro e w8 ⟨A8, c8, m8, rfl, hm8, hN8, hb8⟩
      have hB8 := hB7.below hb8
      have hD8 := hD7.below hb8
      have hw8 := bel_call hw7 hb8
      have hs8 : SlD _ A3 c3 m3 := Sl.below hs7 hb8
      clear hB7 hD7 hw7 hs7 a0 a1
      go_upto_region 24 with (fail)
      have hbx := below_new w8 (.cells #[.int .i64 f, .slice A8 m8.length c8] 75)
      have hX9 := Blk.new w8 75 #[.int .i64 f, .slice A8 m8.length c8]
      have hB9 := hB8.below hbx
      have hD9 := hD8.below hbx
      have hw9 := bel_call hw8 hbx
      have hs9 : SlD _ A3 c3 m3 := Sl.below hs8 hbx
      have hN9 := hN8.below hbx
      have hb9 := bel_call hb8 hbx
      have hg9 : ∀ g, A8.map (·.block) = some g → g < w8.heap.size := fun g hg => (hN8.1.ltB g hg).2
      clear hB8 hD8 hw8 hs8 hN8 hb8 hbx
      generalize hW9 : w8.alloc (.cells #[.int .i64 f, .slice A8 m8.length c8] 75) = W9 at *
      clear hW9
      obtain ⟨a0, a1, _, _⟩ := hB9.two
      obtain ⟨x0, x1, _, _⟩ := hX9.two
      go_wp2_with fail
      refine (SSame_any f f m8 cs _ hN9.slc (h.below hw9)).mono ?_
      rintro e w10 ⟨rfl, hb10⟩
      rw [show ssame (f, m8.map ceOf) (f, cs.map ceOf) = true from by rw [ssame_eq, hm8.out]; simp]
      clear hlt hk
      have hB10 := hB9.below hb10
      have hD10 := hD9.below hb10
      have hw10 := bel_call hw9 hb10
      have hs10 : SlD _ A3 c3 m3 := Sl.below hs9 hb10
      have hI0 : Inc W7 w8.heap.size f A8 m8.length c8 m8 m8 0 w10 := ⟨rfl, (hN9.below hb10).1, (hN9.below hb10).2, hX9.below hb10, bel_call hb9 hb10, fun _ => rfl, fun h => by omega⟩
      have hml8 : m8.length = cs.length := by
        have := congrArg List.length hm8.out
        simpa using this
      have hmax8 : m8.length ≤ 1000 := by omega
      have HML8 := Lib.hid hml8
      clear hml8
      clear hB9 hD9 hw9 hs9 hN9 hX9 hb9 hb10 a0 a1 x0 x1 hB10 hD10 hw10 hs10
      obtain ⟨x0, x1, _, _⟩ := hI0.box.two
      go_wp2_with fail
      clear x0 x1
      go_loopw [110] (fun s110 wr => ∃ (k : Nat) (mm : List CeV), k ≤ m8.length ∧ s110 = .int .i64 k ∧ Hid (Inc W7 w8.heap.size f A8 m8.length c8 m8 mm k wr)) (fun s110 wr => m8.length - (intOf s110).toNat)
      case atStart => exact ⟨0, m8, Nat.zero_le _, rfl, (show Inc _ _ _ _ _ _ _ _ _ _ from hI0)⟩
      case round =>
        obtain ⟨k, mm, hk, rfl, hI⟩ := hrel
        clear hI0
        obtain ⟨x0, x1, _, _⟩ := hI.out.box.two
        by_cases hlt : k < m8.length
        · have hkm : k < mm.length := by rw [hI.out.len]; exact hlt
          obtain ⟨g, cur, rfl, hg, _, _, _⟩ := hI.out.row.row (by rw [flat_len (f := cf) (s := 2) (fun _ => rfl)]; omega)
          have hgx := hg9 g rfl
          obtain ⟨z, hz⟩ : ∃ z, wrap64 (mm[k].1 + 1) = z := ⟨_, rfl⟩
          have hst := Lib.hid (hI.out.step hkm hg (by omega) hz)
          have hcl := hI.out.row.cellAt (j := k * 2) (by rw [flat_len (f := cf) (s := 2) (fun _ => rfl)]; omega)
          have hce := flat_get (f := cf) (s := 2) (fun _ => rfl) mm k 0 hkm (by decide)
          rw [List.getElem?_eq_getElem (by rw [flat_len (f := cf) (s := 2) (fun _ => rfl)]; omega)] at hce
          have hcv : (mm.flatMap cf)[k * 2]'(by rw [flat_len (f := cf) (s := 2) (fun _ => rfl)]; omega) = .int .i64 mm[k].1 := by
            have := hce
            simp only [Nat.add_zero] at this
            injection this
          rw [hcv] at hcl
          clear hce hcv
          have hfr := hI.out.row.frz (k * 2)
          have had := addr_lit g 0 (k * 2)
          rw [Nat.zero_add] at had
          have hz2 : IntKind.i64.wrap (mm[k].1 + 1) = z := by rw [IntKind.wrap_i64]; simpa only [wrap64] using hz
          generalize hkk : mm[k].1 = kk at *
          clear hkk hg9
          go_wp2_with fail
          go_roundw
          case rel => exact ⟨k + 1, _, hlt, by go_num, hst⟩
          case measure => simp [intOf]; omega
        · have hlen : mm.length = m8.length := hI.out.len
          have hbox := hI.out.box
          have hslm := hI.out.row.sl
          rw [← hlen] at hbox hslm
          have hM : SlC wr A8 c8 mm := ⟨hslm, fun x hx => (hI.out.txt x hx).sl⟩
          obtain ⟨hBe, hDe, hwe, hse, hpe⟩ := HTOP.out _ hI.out.bel
          have hdf : Hid (cs ≠ [] → ssame (f, mm.map ceOf) (f, cs.map ceOf) = false) := (show _ → _ from fun hne => by
            have hd := hI.out.hd (by have := HML8.out; have : 0 < cs.length := List.length_pos_iff.2 hne; omega)
            rw [ssame_eq, decide_eq_false_iff_not]
            intro he
            rw [he, hm8.out] at hd
            exact hd rfl)
          clear hslm hlen
          have hrs := fun (A : Option Addr) (c : Nat) (m : List Ce) (W : World) (hx : SlD W A c m) (hy : SlD W A3 c3 m3) => rSSame_any f f m m3 W hx hy
          rw [HM3.out] at hrs
          have HRS := Lib.hid hrs
          clear hrs
          have hrp := fun (W : World) (hx : SlD W A3 c3 m3) => rSPut_any f m3 W hx (by rw [hm3.out]; exact HBD.out.trans HB0.out)
          rw [HM3.out] at hrp
          have HRP := Lib.hid hrp
          clear hrp
          have hst : Below wr.heap.size wr wr.drew := (Below.refl _ _).drew
          go_upto_region 31 with (fail)
          by_cases hcs0 : cs = []
          · have hg0 : decide ((0 : Int) < (cs.length : Int)) = false := by rw [hcs0]; rfl
            have hg1 : ¬ 0 < cs.length := by rw [hcs0]; decide
            have hcs := Lib.hid hcs0
            clear hcs0
            refine wp_region_held_drew (S := (fun W => Below wr.heap.size wr W)) (by kernel_rfl) ?_ (fun hHeld => ?_)
            · exact hst
            refine gen0 (T := fun W => ((fun W => Below wr.heap.size wr W)) W ∧ True) ?_ (fun wq1 hT => ?_)
            · exact ⟨by (first | exact hst | exact hHeld | exact bel_call hHeld hb11 | exact bel_call hHeld hb12 | exact bel_call hHeld hb13), trivial⟩
            (try clear f0 f1 f2 f3 f4 f5 f6 f7 f8 f9 f10 f11)
            obtain ⟨hHeld, -⟩ := hT
            refine wpAnyH_take (i := 0) (oi := ⟨some 123, _, _, _, _, _⟩) (v := ?_) rfl (by kernel_rfl) (by kernel_rfl) (by kernel_rfl) (fun _ _ _ h => h) (Or.inl ⟨by kernel_rfl, ?_⟩) (by assumption) ?_
            rotate_left
            · (intro wS hSw; (try dsimp only at hSw); obtain ⟨q0, q1, _, _⟩ := (hBe.below hSw).two; obtain ⟨p0, p1, _, _⟩ := (hDe.below hSw).two; obtain ⟨x0, x1, _, _⟩ := (hbox.below hSw).two; clear hSw; go_simp; (try with_reducible rfl))
            (try simp only [Act.put, List.setIfInBounds_toArray, List.set_cons_zero, List.set_cons_succ])
            refine wpAnyH_take (i := 2) (oi := ⟨some 125, _, _, _, _, _⟩) (v := ?_) rfl (by kernel_rfl) (by kernel_rfl) (by kernel_rfl) (fun _ _ _ h => h) (Or.inl ⟨by kernel_rfl, ?_⟩) (by assumption) ?_
            rotate_left
            · (intro wS hSw; (try dsimp only at hSw); obtain ⟨q0, q1, _, _⟩ := (hBe.below hSw).two; obtain ⟨p0, p1, _, _⟩ := (hDe.below hSw).two; obtain ⟨x0, x1, _, _⟩ := (hbox.below hSw).two; clear hSw; go_simp; (try with_reducible rfl))
            (try simp only [Act.put, List.setIfInBounds_toArray, List.set_cons_zero, List.set_cons_succ])
            refine wpAnyH_ready (rs := [1]) (by kernel_rfl) (by simp) ?_
            refine AllReadyH.cons (o := ⟨some 124, _, _, _, _, _⟩) rfl (fun K hK => ?_) AllReadyH.nil
            go_simp
            (refine (Doc14_any f cs _ (h.below (bel_call hwe hHeld)) (by omega)).mono ?_; rintro e w11 ⟨A11, c11, m11, rfl, hm11, hs11, hb11⟩)
            go_wp2_with fail
            refine hK.out _ _ ?_ (fun _ => ?_)
            · ((try dsimp only); (first | exact hst | exact hHeld | exact bel_call hHeld hb11 | exact bel_call hHeld hb12 | exact bel_call hHeld hb13))
            clear hK K
            (try simp only [Act.put, List.setIfInBounds_toArray, List.set_cons_zero, List.set_cons_succ])
            refine gen0 (T := fun W => ((fun W => Below wr.heap.size wr W)) W ∧ SlD W A11 c11 m11 ∧ True) ?_ (fun wq2 hT => ?_)
            · exact ⟨by (first | exact hst | exact hHeld | exact bel_call hHeld hb11 | exact bel_call hHeld hb12 | exact bel_call hHeld hb13), by (first | assumption | exact hs11), trivial⟩
            (try clear f0 f1 f2 f3 f4 f5 f6 f7 f8 f9 f10 f11)
            obtain ⟨hHeld, f0, -⟩ := hT
            refine wpAnyH_ready (rs := [3]) (by kernel_rfl) (by simp) ?_
            refine AllReadyH.cons (o := ⟨some 126, _, _, _, _, _⟩) rfl (fun K hK => ?_) AllReadyH.nil
            go_simp
            (refine (HRS.out A11 c11 m11 _ f0 (Sl.below hse hHeld)).mono ?_; rintro e w12 ⟨rfl, hb12⟩; rw [show ssame (f, m11) (f, m3) = true from by rw [ssame_eq, hm11.out, hm3.out]; simp])
            go_wp2_with fail
            refine hK.out _ _ ?_ (fun _ => ?_)
            · ((try dsimp only); (first | exact hst | exact hHeld | exact bel_call hHeld hb11 | exact bel_call hHeld hb12 | exact bel_call hHeld hb13))
            clear hK K
            (try simp only [Act.put, List.setIfInBounds_toArray, List.set_cons_zero, List.set_cons_succ])
            refine gen0 (T := fun W => ((fun W => Below wr.heap.size wr W)) W ∧ True) ?_ (fun wq3 hT => ?_)
            · exact ⟨by (first | exact hst | exact hHeld | exact bel_call hHeld hb11 | exact bel_call hHeld hb12 | exact bel_call hHeld hb13), trivial⟩
            (try clear f0 f1 f2 f3 f4 f5 f6 f7 f8 f9 f10 f11)
            obtain ⟨hHeld, -⟩ := hT
            refine wpAnyH_take (i := 4) (oi := ⟨some 127, _, _, _, _, _⟩) (v := ?_) rfl (by kernel_rfl) (by kernel_rfl) (by kernel_rfl) (fun _ _ _ h => h) (Or.inl ⟨by kernel_rfl, ?_⟩) (by assumption) ?_
            rotate_left
            · (intro wS hSw; (try dsimp only at hSw); obtain ⟨q0, q1, _, _⟩ := (hBe.below hSw).two; obtain ⟨p0, p1, _, _⟩ := (hDe.below hSw).two; obtain ⟨x0, x1, _, _⟩ := (hbox.below hSw).two; clear hSw; go_simp; (try with_reducible rfl))
            (try simp only [Act.put, List.setIfInBounds_toArray, List.set_cons_zero, List.set_cons_succ])
            refine wpAnyH_take (i := 5) (oi := ⟨some 128, _, _, _, _, _⟩) (v := ?_) rfl (by kernel_rfl) (by kernel_rfl) (by kernel_rfl) (fun _ _ _ h => h) (Or.inl ⟨by kernel_rfl, ?_⟩) (by assumption) ?_
            rotate_left
            · (intro wS hSw; (try dsimp only at hSw); obtain ⟨q0, q1, _, _⟩ := (hBe.below hSw).two; obtain ⟨p0, p1, _, _⟩ := (hDe.below hSw).two; obtain ⟨x0, x1, _, _⟩ := (hbox.below hSw).two; clear hSw; go_simp; (try with_reducible rfl))
            (try simp only [Act.put, List.setIfInBounds_toArray, List.set_cons_zero, List.set_cons_succ])
            refine wpAnyH_take (i := 6) (oi := ⟨some 129, _, _, _, _, _⟩) (v := ?_) rfl (by kernel_rfl) (by kernel_rfl) (by kernel_rfl) (fun _ _ _ h => h) (Or.inl ⟨by kernel_rfl, ?_⟩) (by assumption) ?_
            rotate_left
            · (intro wS hSw; (try dsimp only at hSw); obtain ⟨q0, q1, _, _⟩ := (hBe.below hSw).two; obtain ⟨p0, p1, _, _⟩ := (hDe.below hSw).two; obtain ⟨x0, x1, _, _⟩ := (hbox.below hSw).two; clear hSw; go_simp; (try with_reducible rfl))
            (try simp only [Act.put, List.setIfInBounds_toArray, List.set_cons_zero, List.set_cons_succ])
            refine wpAnyH_take (i := 7) (oi := ⟨some 130, _, _, _, _, _⟩) (v := ?_) rfl (by kernel_rfl) (by kernel_rfl) (by kernel_rfl) (fun _ _ _ h => h) (Or.inl ⟨by kernel_rfl, ?_⟩) (by assumption) ?_
            rotate_left
            · (intro wS hSw; (try dsimp only at hSw); obtain ⟨q0, q1, _, _⟩ := (hBe.below hSw).two; obtain ⟨p0, p1, _, _⟩ := (hDe.below hSw).two; obtain ⟨x0, x1, _, _⟩ := (hbox.below hSw).two; clear hSw; go_simp; (try with_reducible rfl))
            (try simp only [Act.put, List.setIfInBounds_toArray, List.set_cons_zero, List.set_cons_succ])
            refine wpAnyH_take (i := 8) (oi := ⟨some 131, _, _, _, _, _⟩) (v := ?_) rfl (by kernel_rfl) (by kernel_rfl) (by kernel_rfl) (fun _ _ _ h => h) (Or.inl ⟨by kernel_rfl, ?_⟩) (by assumption) ?_
            rotate_left
            · (intro wS hSw; (try dsimp only at hSw); obtain ⟨q0, q1, _, _⟩ := (hBe.below hSw).two; obtain ⟨p0, p1, _, _⟩ := (hDe.below hSw).two; obtain ⟨x0, x1, _, _⟩ := (hbox.below hSw).two; clear hSw; go_simp; (try with_reducible rfl))
            (try simp only [Act.put, List.setIfInBounds_toArray, List.set_cons_zero, List.set_cons_succ])
            refine wpAnyH_take (i := 9) (oi := ⟨some 132, _, _, _, _, _⟩) (v := ?_) rfl (by kernel_rfl) (by kernel_rfl) (by kernel_rfl) (fun _ _ _ h => h) (Or.inl ⟨by kernel_rfl, ?_⟩) (by assumption) ?_
            rotate_left
            · (intro wS hSw; (try dsimp only at hSw); obtain ⟨q0, q1, _, _⟩ := (hBe.below hSw).two; obtain ⟨p0, p1, _, _⟩ := (hDe.below hSw).two; obtain ⟨x0, x1, _, _⟩ := (hbox.below hSw).two; clear hSw; go_simp; (try with_reducible rfl))
            (try simp only [Act.put, List.setIfInBounds_toArray, List.set_cons_zero, List.set_cons_succ])
            refine wpAnyH_take (i := 10) (oi := ⟨some 133, _, _, _, _, _⟩) (v := ?_) rfl (by kernel_rfl) (by kernel_rfl) (by kernel_rfl) (fun _ _ _ h => h) (Or.inl ⟨by kernel_rfl, ?_⟩) (by assumption) ?_
            rotate_left
            · (intro wS hSw; (try dsimp only at hSw); obtain ⟨q0, q1, _, _⟩ := (hBe.below hSw).two; obtain ⟨p0, p1, _, _⟩ := (hDe.below hSw).two; obtain ⟨x0, x1, _, _⟩ := (hbox.below hSw).two; clear hSw; go_simp; (try with_reducible rfl))
            (try simp only [Act.put, List.setIfInBounds_toArray, List.set_cons_zero, List.set_cons_succ])
            refine wpAnyH_take (i := 11) (oi := ⟨some 134, _, _, _, _, _⟩) (v := undef) rfl (by kernel_rfl) (by kernel_rfl) (by kernel_rfl) (fun _ _ _ h => h) (Or.inr ⟨by kernel_rfl, rfl⟩) (by assumption) ?_
            (try simp only [Act.put, List.setIfInBounds_toArray, List.set_cons_zero, List.set_cons_succ])
            refine wpAnyH_take (i := 12) (oi := ⟨some 135, _, _, _, _, _⟩) (v := undef) rfl (by kernel_rfl) (by kernel_rfl) (by kernel_rfl) (fun _ _ _ h => h) (Or.inr ⟨by kernel_rfl, rfl⟩) (by assumption) ?_
            (try simp only [Act.put, List.setIfInBounds_toArray, List.set_cons_zero, List.set_cons_succ])
            refine wpAnyH_take (i := 13) (oi := ⟨some 136, _, _, _, _, _⟩) (v := undef) rfl (by kernel_rfl) (by kernel_rfl) (by kernel_rfl) (fun _ _ _ h => h) (Or.inr ⟨by kernel_rfl, rfl⟩) (by assumption) ?_
            (try simp only [Act.put, List.setIfInBounds_toArray, List.set_cons_zero, List.set_cons_succ])
            refine wpAnyH_take (i := 14) (oi := ⟨some 137, _, _, _, _, _⟩) (v := ?_) rfl (by kernel_rfl) (by kernel_rfl) (by kernel_rfl) (fun _ _ _ h => h) (Or.inl ⟨by kernel_rfl, ?_⟩) (by assumption) ?_
            rotate_left
            · (intro wS hSw; (try dsimp only at hSw); obtain ⟨q0, q1, _, _⟩ := (hBe.below hSw).two; obtain ⟨p0, p1, _, _⟩ := (hDe.below hSw).two; obtain ⟨x0, x1, _, _⟩ := (hbox.below hSw).two; clear hSw; go_simp; (try with_reducible rfl))
            (try simp only [Act.put, List.setIfInBounds_toArray, List.set_cons_zero, List.set_cons_succ])
            refine wpAnyH_take (i := 15) (oi := ⟨some 138, _, _, _, _, _⟩) (v := ?_) rfl (by kernel_rfl) (by kernel_rfl) (by kernel_rfl) (fun _ _ _ h => h) (Or.inl ⟨by kernel_rfl, ?_⟩) (by assumption) ?_
            rotate_left
            · (intro wS hSw; (try dsimp only at hSw); obtain ⟨q0, q1, _, _⟩ := (hBe.below hSw).two; obtain ⟨p0, p1, _, _⟩ := (hDe.below hSw).two; obtain ⟨x0, x1, _, _⟩ := (hbox.below hSw).two; clear hSw; go_simp; (try with_reducible rfl))
            (try simp only [Act.put, List.setIfInBounds_toArray, List.set_cons_zero, List.set_cons_succ])
            refine wpAnyH_done (by kernel_rfl) ?_ _
            obtain ⟨p0, p1, _, _⟩ := (hDe.below hHeld).two
            go_wp2_with fail
            refine (HRP.out _ (Sl.below hse hHeld)).mono ?_
            rintro e w14 ⟨A14, c14, m14, rfl, hm14, ho14, hb14⟩
            have heq : (m5 == m14) = true := by
              have hgd : schk (f, cs.map ceOf) = 0 := HBD.out.trans HB0.out
              have h2 := stxt_len hgd
              rw [hm5.out, hm14.out, hm3.out]
              unfold sput fput
              rw [if_neg (by rw [hgd]; simp), if_neg (by omega)]
              simp
            have HEQ := Lib.hid heq
            clear heq
            go_wp2_with fail
            refine (nBytes_any A5 A14 c5 c14 m5 m14 _ (Sl.below (Sl.below hpe hHeld) hb14) ho14.sl).mono ?_
            rintro e w15 ⟨rfl, rfl⟩
            rw [HEQ.out]
            go_wp2_with fail
            go_ret
            exact ⟨rfl, bel_call (bel_call hwe hHeld) hb14⟩
          · have hg0 : decide ((0 : Int) < (cs.length : Int)) = true := by
              have : 0 < cs.length := List.length_pos_iff.2 hcs0
              simpa using this
            have hg1 : 0 < cs.length := List.length_pos_iff.2 hcs0
            have hcs := Lib.hid hcs0
            clear hcs0
            refine wp_region_held_drew (S := (fun W => Below wr.heap.size wr W)) (by kernel_rfl) ?_ (fun hHeld => ?_)
            · exact hst
            refine gen0 (T := fun W => ((fun W => Below wr.heap.size wr W)) W ∧ True) ?_ (fun wq1 hT => ?_)
            · exact ⟨by (first | exact hst | exact hHeld | exact bel_call hHeld hb11 | exact bel_call hHeld hb12 | exact bel_call hHeld hb13), trivial⟩
            (try clear f0 f1 f2 f3 f4 f5 f6 f7 f8 f9 f10 f11)
            obtain ⟨hHeld, -⟩ := hT
            refine wpAnyH_take (i := 0) (oi := ⟨some 123, _, _, _, _, _⟩) (v := ?_) rfl (by kernel_rfl) (by kernel_rfl) (by kernel_rfl) (fun _ _ _ h => h) (Or.inl ⟨by kernel_rfl, ?_⟩) (by assumption) ?_
            rotate_left
            · (intro wS hSw; (try dsimp only at hSw); obtain ⟨q0, q1, _, _⟩ := (hBe.below hSw).two; obtain ⟨p0, p1, _, _⟩ := (hDe.below hSw).two; obtain ⟨x0, x1, _, _⟩ := (hbox.below hSw).two; clear hSw; go_simp; (try with_reducible rfl))
            (try simp only [Act.put, List.setIfInBounds_toArray, List.set_cons_zero, List.set_cons_succ])
            refine wpAnyH_take (i := 2) (oi := ⟨some 125, _, _, _, _, _⟩) (v := ?_) rfl (by kernel_rfl) (by kernel_rfl) (by kernel_rfl) (fun _ _ _ h => h) (Or.inl ⟨by kernel_rfl, ?_⟩) (by assumption) ?_
            rotate_left
            · (intro wS hSw; (try dsimp only at hSw); obtain ⟨q0, q1, _, _⟩ := (hBe.below hSw).two; obtain ⟨p0, p1, _, _⟩ := (hDe.below hSw).two; obtain ⟨x0, x1, _, _⟩ := (hbox.below hSw).two; clear hSw; go_simp; (try with_reducible rfl))
            (try simp only [Act.put, List.setIfInBounds_toArray, List.set_cons_zero, List.set_cons_succ])
            refine wpAnyH_ready (rs := [1]) (by kernel_rfl) (by simp) ?_
            refine AllReadyH.cons (o := ⟨some 124, _, _, _, _, _⟩) rfl (fun K hK => ?_) AllReadyH.nil
            go_simp
            (refine (Doc14_any f cs _ (h.below (bel_call hwe hHeld)) (by omega)).mono ?_; rintro e w11 ⟨A11, c11, m11, rfl, hm11, hs11, hb11⟩)
            go_wp2_with fail
            refine hK.out _ _ ?_ (fun _ => ?_)
            · ((try dsimp only); (first | exact hst | exact hHeld | exact bel_call hHeld hb11 | exact bel_call hHeld hb12 | exact bel_call hHeld hb13))
            clear hK K
            (try simp only [Act.put, List.setIfInBounds_toArray, List.set_cons_zero, List.set_cons_succ])
            refine gen0 (T := fun W => ((fun W => Below wr.heap.size wr W)) W ∧ SlD W A11 c11 m11 ∧ True) ?_ (fun wq2 hT => ?_)
            · exact ⟨by (first | exact hst | exact hHeld | exact bel_call hHeld hb11 | exact bel_call hHeld hb12 | exact bel_call hHeld hb13), by (first | assumption | exact hs11), trivial⟩
            (try clear f0 f1 f2 f3 f4 f5 f6 f7 f8 f9 f10 f11)
            obtain ⟨hHeld, f0, -⟩ := hT
            refine wpAnyH_ready (rs := [3]) (by kernel_rfl) (by simp) ?_
            refine AllReadyH.cons (o := ⟨some 126, _, _, _, _, _⟩) rfl (fun K hK => ?_) AllReadyH.nil
            go_simp
            (refine (HRS.out A11 c11 m11 _ f0 (Sl.below hse hHeld)).mono ?_; rintro e w12 ⟨rfl, hb12⟩; rw [show ssame (f, m11) (f, m3) = true from by rw [ssame_eq, hm11.out, hm3.out]; simp])
            go_wp2_with fail
            refine hK.out _ _ ?_ (fun _ => ?_)
            · ((try dsimp only); (first | exact hst | exact hHeld | exact bel_call hHeld hb11 | exact bel_call hHeld hb12 | exact bel_call hHeld hb13))
            clear hK K
            (try simp only [Act.put, List.setIfInBounds_toArray, List.set_cons_zero, List.set_cons_succ])
            refine gen0 (T := fun W => ((fun W => Below wr.heap.size wr W)) W ∧ True) ?_ (fun wq3 hT => ?_)
            · exact ⟨by (first | exact hst | exact hHeld | exact bel_call hHeld hb11 | exact bel_call hHeld hb12 | exact bel_call hHeld hb13), trivial⟩
            (try clear f0 f1 f2 f3 f4 f5 f6 f7 f8 f9 f10 f11)
            obtain ⟨hHeld, -⟩ := hT
            refine wpAnyH_take (i := 4) (oi := ⟨some 127, _, _, _, _, _⟩) (v := ?_) rfl (by kernel_rfl) (by kernel_rfl) (by kernel_rfl) (fun _ _ _ h => h) (Or.inl ⟨by kernel_rfl, ?_⟩) (by assumption) ?_
            rotate_left
            · (intro wS hSw; (try dsimp only at hSw); obtain ⟨q0, q1, _, _⟩ := (hBe.below hSw).two; obtain ⟨p0, p1, _, _⟩ := (hDe.below hSw).two; obtain ⟨x0, x1, _, _⟩ := (hbox.below hSw).two; clear hSw; go_simp; (try with_reducible rfl))
            (try simp only [Act.put, List.setIfInBounds_toArray, List.set_cons_zero, List.set_cons_succ])
            refine wpAnyH_take (i := 5) (oi := ⟨some 128, _, _, _, _, _⟩) (v := ?_) rfl (by kernel_rfl) (by kernel_rfl) (by kernel_rfl) (fun _ _ _ h => h) (Or.inl ⟨by kernel_rfl, ?_⟩) (by assumption) ?_
            rotate_left
            · (intro wS hSw; (try dsimp only at hSw); obtain ⟨q0, q1, _, _⟩ := (hBe.below hSw).two; obtain ⟨p0, p1, _, _⟩ := (hDe.below hSw).two; obtain ⟨x0, x1, _, _⟩ := (hbox.below hSw).two; clear hSw; go_simp; (try with_reducible rfl))
            (try simp only [Act.put, List.setIfInBounds_toArray, List.set_cons_zero, List.set_cons_succ])
            refine wpAnyH_take (i := 6) (oi := ⟨some 129, _, _, _, _, _⟩) (v := ?_) rfl (by kernel_rfl) (by kernel_rfl) (by kernel_rfl) (fun _ _ _ h => h) (Or.inl ⟨by kernel_rfl, ?_⟩) (by assumption) ?_
            rotate_left
            · (intro wS hSw; (try dsimp only at hSw); obtain ⟨q0, q1, _, _⟩ := (hBe.below hSw).two; obtain ⟨p0, p1, _, _⟩ := (hDe.below hSw).two; obtain ⟨x0, x1, _, _⟩ := (hbox.below hSw).two; clear hSw; go_simp; (try with_reducible rfl))
            (try simp only [Act.put, List.setIfInBounds_toArray, List.set_cons_zero, List.set_cons_succ])
            refine wpAnyH_take (i := 7) (oi := ⟨some 130, _, _, _, _, _⟩) (v := ?_) rfl (by kernel_rfl) (by kernel_rfl) (by kernel_rfl) (fun _ _ _ h => h) (Or.inl ⟨by kernel_rfl, ?_⟩) (by assumption) ?_
            rotate_left
            · (intro wS hSw; (try dsimp only at hSw); obtain ⟨q0, q1, _, _⟩ := (hBe.below hSw).two; obtain ⟨p0, p1, _, _⟩ := (hDe.below hSw).two; obtain ⟨x0, x1, _, _⟩ := (hbox.below hSw).two; clear hSw; go_simp; (try with_reducible rfl))
            (try simp only [Act.put, List.setIfInBounds_toArray, List.set_cons_zero, List.set_cons_succ])
            refine wpAnyH_take (i := 8) (oi := ⟨some 131, _, _, _, _, _⟩) (v := ?_) rfl (by kernel_rfl) (by kernel_rfl) (by kernel_rfl) (fun _ _ _ h => h) (Or.inl ⟨by kernel_rfl, ?_⟩) (by assumption) ?_
            rotate_left
            · (intro wS hSw; (try dsimp only at hSw); obtain ⟨q0, q1, _, _⟩ := (hBe.below hSw).two; obtain ⟨p0, p1, _, _⟩ := (hDe.below hSw).two; obtain ⟨x0, x1, _, _⟩ := (hbox.below hSw).two; clear hSw; go_simp; (try with_reducible rfl))
            (try simp only [Act.put, List.setIfInBounds_toArray, List.set_cons_zero, List.set_cons_succ])
            refine wpAnyH_take (i := 9) (oi := ⟨some 132, _, _, _, _, _⟩) (v := ?_) rfl (by kernel_rfl) (by kernel_rfl) (by kernel_rfl) (fun _ _ _ h => h) (Or.inl ⟨by kernel_rfl, ?_⟩) (by assumption) ?_
            rotate_left
            · (intro wS hSw; (try dsimp only at hSw); obtain ⟨q0, q1, _, _⟩ := (hBe.below hSw).two; obtain ⟨p0, p1, _, _⟩ := (hDe.below hSw).two; obtain ⟨x0, x1, _, _⟩ := (hbox.below hSw).two; clear hSw; go_simp; (try with_reducible rfl))
            (try simp only [Act.put, List.setIfInBounds_toArray, List.set_cons_zero, List.set_cons_succ])
            refine wpAnyH_take (i := 10) (oi := ⟨some 133, _, _, _, _, _⟩) (v := ?_) rfl (by kernel_rfl) (by kernel_rfl) (by kernel_rfl) (fun _ _ _ h => h) (Or.inl ⟨by kernel_rfl, ?_⟩) (by assumption) ?_
            rotate_left
            · (intro wS hSw; (try dsimp only at hSw); obtain ⟨q0, q1, _, _⟩ := (hBe.below hSw).two; obtain ⟨p0, p1, _, _⟩ := (hDe.below hSw).two; obtain ⟨x0, x1, _, _⟩ := (hbox.below hSw).two; clear hSw; go_simp; (try with_reducible rfl))
            (try simp only [Act.put, List.setIfInBounds_toArray, List.set_cons_zero, List.set_cons_succ])
            refine wpAnyH_take (i := 11) (oi := ⟨some 134, _, _, _, _, _⟩) (v := ?_) rfl (by kernel_rfl) (by kernel_rfl) (by kernel_rfl) (fun _ _ _ h => h) (Or.inl ⟨by kernel_rfl, ?_⟩) (by assumption) ?_
            rotate_left
            · (intro wS hSw; (try dsimp only at hSw); obtain ⟨q0, q1, _, _⟩ := (hBe.below hSw).two; obtain ⟨p0, p1, _, _⟩ := (hDe.below hSw).two; obtain ⟨x0, x1, _, _⟩ := (hbox.below hSw).two; clear hSw; go_simp; (try with_reducible rfl))
            (try simp only [Act.put, List.setIfInBounds_toArray, List.set_cons_zero, List.set_cons_succ])
            refine wpAnyH_take (i := 12) (oi := ⟨some 135, _, _, _, _, _⟩) (v := ?_) rfl (by kernel_rfl) (by kernel_rfl) (by kernel_rfl) (fun _ _ _ h => h) (Or.inl ⟨by kernel_rfl, ?_⟩) (by assumption) ?_
            rotate_left
            · (intro wS hSw; (try dsimp only at hSw); obtain ⟨q0, q1, _, _⟩ := (hBe.below hSw).two; obtain ⟨p0, p1, _, _⟩ := (hDe.below hSw).two; obtain ⟨x0, x1, _, _⟩ := (hbox.below hSw).two; clear hSw; go_simp; (try with_reducible rfl))
            (try simp only [Act.put, List.setIfInBounds_toArray, List.set_cons_zero, List.set_cons_succ])
            refine wpAnyH_ready (rs := [13]) (by kernel_rfl) (by simp) ?_
            refine AllReadyH.cons (o := ⟨some 136, _, _, _, _, _⟩) rfl (fun K hK => ?_) AllReadyH.nil
            go_simp
            (refine (SSame_any f f mm cs _ (SlC.below hM hHeld) (h.below (bel_call hwe hHeld))).mono ?_; rintro e w13 ⟨rfl, hb13⟩; rw [hdf.out hcs.out])
            go_wp2_with fail
            refine hK.out _ _ ?_ (fun _ => ?_)
            · ((try dsimp only); (first | exact hst | exact hHeld | exact bel_call hHeld hb11 | exact bel_call hHeld hb12 | exact bel_call hHeld hb13))
            clear hK K
            (try simp only [Act.put, List.setIfInBounds_toArray, List.set_cons_zero, List.set_cons_succ])
            refine gen0 (T := fun W => ((fun W => Below wr.heap.size wr W)) W ∧ True) ?_ (fun wq4 hT => ?_)
            · exact ⟨by (first | exact hst | exact hHeld | exact bel_call hHeld hb11 | exact bel_call hHeld hb12 | exact bel_call hHeld hb13), trivial⟩
            (try clear f0 f1 f2 f3 f4 f5 f6 f7 f8 f9 f10 f11)
            obtain ⟨hHeld, -⟩ := hT
            refine wpAnyH_take (i := 14) (oi := ⟨some 137, _, _, _, _, _⟩) (v := ?_) rfl (by kernel_rfl) (by kernel_rfl) (by kernel_rfl) (fun _ _ _ h => h) (Or.inl ⟨by kernel_rfl, ?_⟩) (by assumption) ?_
            rotate_left
            · (intro wS hSw; (try dsimp only at hSw); obtain ⟨q0, q1, _, _⟩ := (hBe.below hSw).two; obtain ⟨p0, p1, _, _⟩ := (hDe.below hSw).two; obtain ⟨x0, x1, _, _⟩ := (hbox.below hSw).two; clear hSw; go_simp; (try with_reducible rfl))
            (try simp only [Act.put, List.setIfInBounds_toArray, List.set_cons_zero, List.set_cons_succ])
            refine wpAnyH_take (i := 15) (oi := ⟨some 138, _, _, _, _, _⟩) (v := ?_) rfl (by kernel_rfl) (by kernel_rfl) (by kernel_rfl) (fun _ _ _ h => h) (Or.inl ⟨by kernel_rfl, ?_⟩) (by assumption) ?_
            rotate_left
            · (intro wS hSw; (try dsimp only at hSw); obtain ⟨q0, q1, _, _⟩ := (hBe.below hSw).two; obtain ⟨p0, p1, _, _⟩ := (hDe.below hSw).two; obtain ⟨x0, x1, _, _⟩ := (hbox.below hSw).two; clear hSw; go_simp; (try with_reducible rfl))
            (try simp only [Act.put, List.setIfInBounds_toArray, List.set_cons_zero, List.set_cons_succ])
            refine wpAnyH_done (by kernel_rfl) ?_ _
            obtain ⟨p0, p1, _, _⟩ := (hDe.below hHeld).two
            go_wp2_with fail
            refine (HRP.out _ (Sl.below hse hHeld)).mono ?_
            rintro e w14 ⟨A14, c14, m14, rfl, hm14, ho14, hb14⟩
            have heq : (m5 == m14) = true := by
              have hgd : schk (f, cs.map ceOf) = 0 := HBD.out.trans HB0.out
              have h2 := stxt_len hgd
              rw [hm5.out, hm14.out, hm3.out]
              unfold sput fput
              rw [if_neg (by rw [hgd]; simp), if_neg (by omega)]
              simp
            have HEQ := Lib.hid heq
            clear heq
            go_wp2_with fail
            refine (nBytes_any A5 A14 c5 c14 m5 m14 _ (Sl.below (Sl.below hpe hHeld) hb14) ho14.sl).mono ?_
            rintro e w15 ⟨rfl, rfl⟩
            rw [HEQ.out]
            go_wp2_with fail
            go_ret
            exact ⟨rfl, bel_call (bel_call hwe hHeld) hb14⟩
set_option maxRecDepth 100000 in
set_option maxHeartbeats 4000000 in
theorem sputs_bad {E : Option Addr} {cap : Nat} {f a : Int} {cs : List CeV} (w : World) (h : SlC w E cap cs) (hlong : longb (cs.map ceOf) 80 = false) (hf : I64 f) (ha : I64 a) (hbad : Hid (schk (f, cs.map ceOf) ≠ 0)) :
    Calls Try.prog 6 #[cv f E cs.length cap, .int .i64 a] w fun e w' => e = .returned (.bool true) ∧ Below w.heap.size w w' := by
  have hn80 : cs.length ≤ 80 := by
    unfold longb at hlong
    simp only [Bool.or_eq_false_iff, decide_eq_false_iff_not, List.length_map] at hlong
    omega
  obtain ⟨hd1, hl1⟩ := longb_all hlong (by decide)
  have HD1 := Lib.hid hd1
  clear hd1
  have hB0 := Blk.new w 75 #[.int .i64 f, .slice E cs.length cap]
  have hbw := below_new w (.cells #[.int .i64 f, .slice E cs.length cap] 75)
  go_enter Try.func6, Try.ntmps6
  go_wp2_with fail
  refine (alive14_any _).mono ?_
  rintro e w1 ⟨rfl, hb1⟩
  have hB1 := hB0.below hb1
  have hw1 := bel_call hbw hb1
  clear hB0 hbw hb1
  obtain ⟨a0, a1, _, _⟩ := hB1.two
  go_wp2_with fail
  refine (Long_any cs 80 _ (h.below hw1)).mono ?_
  rintro e w2 ⟨rfl, hb2⟩
  rw [hlong]
  have hB2 := hB1.below hb2
  have hw2 := bel_call hw1 hb2
  clear hB1 hw1 hb2 a0 a1
  clear hlong
  obtain ⟨a0, a1, _, _⟩ := hB2.two
  go_wp2_with fail
  refine (Doc14_any f cs _ (h.below hw2) (by omega)).mono ?_
  rintro e w3 ⟨A3, c3, m3, rfl, hm3, hs3, hb3⟩
  have hB3 := hB2.below hb3
  have hw3 := bel_call hw2 hb3
  clear hB2 hw2 hb3 a0 a1
  go_wp2_with fail
  have hbn := below_new w3 (.cells #[.int .i64 f, .slice A3 m3.length c3] 77)
  refine (rSCheck_any f m3 _ (Sl.below hs3 hbn)).mono ?_
  rintro e w4 ⟨rfl, hb4⟩
  have hB4 := (hB3.below hbn).below hb4
  have hD4 := (Blk.new w3 77 #[.int .i64 f, .slice A3 m3.length c3]).below hb4
  have hs4 : SlD w4 A3 c3 m3 := Sl.below (Sl.below hs3 hbn) hb4
  have hw4 := bel_call (bel_call hw3 hbn) hb4
  clear hB3 hw3 hb4 hbn hs3
  obtain ⟨a0, a1, _, _⟩ := hB4.two
  rw [hm3.out]
  go_wp2_with fail
  refine (SPut_any f cs _ (h.below hw4)).mono ?_
  rintro e w5 ⟨A5, c5, m5, rfl, hm5, ho5, hb5⟩
  have hB5 := hB4.below hb5
  have hD5 := hD4.below hb5
  have hs5 : SlD w5 A3 c3 m3 := Sl.below hs4 hb5
  have hw5 := bel_call hw4 hb5
  clear hB4 hD4 hs4 hw4 hb5 a0 a1
  have hp2 : (sput (f, cs.map ceOf)).2 = schk (f, cs.map ceOf) := sput_two _
  rw [hp2]
  obtain ⟨z, hz⟩ : ∃ z : Int, wrap64 (f + (cs.length : Int)) = z := ⟨_, rfl⟩
  have HE := Lib.hid (fun W => SEndW_any f E cs.length cap W hz)
  have hz2 : IntKind.i64.wrap (f + (cs.length : Int)) = z := by rw [IntKind.wrap_i64]; simpa only [wrap64] using hz
  clear hp2
  have hst : Below w5.heap.size w5 w5.drew := (Below.refl _ _).drew
  have hnum := fun W => num_any (schk (f, cs.map ceOf)) W
  have hchk := fun W (hh : SlC W E cap cs) => SCheck_any f cs W hh
  generalize hbd : schk (f, cs.map ceOf) = bad at *
  have HBD := Lib.hid hbd
  have HNUM := Lib.hid hnum
  have HCHK := Lib.hid hchk
  clear hbd hnum hchk
  go_upto_region 8 with (fail)
  refine wp_region_held_drew (S := (fun W => Below w5.heap.size w5 W)) (by kernel_rfl) ?_ (fun hHeld => ?_)
  · exact hst
  refine gen0 (T := fun W => ((fun W => Below w5.heap.size w5 W)) W ∧ True) ?_ (fun wq1 hT => ?_)
  · exact ⟨by (first | exact hst | exact hHeld | exact bel_call hHeld hb6 | exact bel_call hHeld hb7), trivial⟩
  (try clear f0 f1 f2 f3 f4 f5 f6 f7 f8 f9 f10 f11)
  obtain ⟨hHeld, -⟩ := hT
  refine wpAnyH_take (i := 0) (oi := ⟨some 31, _, _, _, _, _⟩) (v := ?_) rfl (by kernel_rfl) (by kernel_rfl) (by kernel_rfl) (fun _ _ _ h => h) (Or.inl ⟨by kernel_rfl, ?_⟩) (by assumption) ?_
  rotate_left
  · (intro wS hSw; (try dsimp only at hSw); obtain ⟨q0, q1, _, _⟩ := (hB5.below hSw).two; clear hSw; go_simp; (try with_reducible rfl))
  (try simp only [Act.put, List.setIfInBounds_toArray, List.set_cons_zero, List.set_cons_succ])
  refine wpAnyH_take (i := 3) (oi := ⟨some 34, _, _, _, _, _⟩) (v := ?_) rfl (by kernel_rfl) (by kernel_rfl) (by kernel_rfl) (fun _ _ _ h => h) (Or.inl ⟨by kernel_rfl, ?_⟩) (by assumption) ?_
  rotate_left
  · (intro wS hSw; (try dsimp only at hSw); obtain ⟨q0, q1, _, _⟩ := (hB5.below hSw).two; clear hSw; go_simp; (try with_reducible rfl))
  (try simp only [Act.put, List.setIfInBounds_toArray, List.set_cons_zero, List.set_cons_succ])
  refine wpAnyH_ready (rs := [1]) (by kernel_rfl) (by simp) ?_
  refine AllReadyH.cons (o := ⟨some 32, _, _, _, _, _⟩) rfl (fun K hK => ?_) AllReadyH.nil
  go_simp
  (refine (HCHK.out _ (h.below (bel_call hw5 hHeld))).mono ?_; rintro e w6 ⟨rfl, hb6⟩)
  go_wp2_with fail
  refine hK.out _ _ ?_ (fun _ => ?_)
  · ((try dsimp only); (first | exact hst | exact hHeld | exact bel_call hHeld hb6 | exact bel_call hHeld hb7))
  clear hK K
  (try simp only [Act.put, List.setIfInBounds_toArray, List.set_cons_zero, List.set_cons_succ])
  refine gen0 (T := fun W => ((fun W => Below w5.heap.size w5 W)) W ∧ True) ?_ (fun wq2 hT => ?_)
  · exact ⟨by (first | exact hst | exact hHeld | exact bel_call hHeld hb6 | exact bel_call hHeld hb7), trivial⟩
  (try clear f0 f1 f2 f3 f4 f5 f6 f7 f8 f9 f10 f11)
  obtain ⟨hHeld, -⟩ := hT
  refine wpAnyH_ready (rs := [2]) (by kernel_rfl) (by simp) ?_
  refine AllReadyH.cons (o := ⟨some 33, _, _, _, _, _⟩) rfl (fun K hK => ?_) AllReadyH.nil
  go_simp
  (refine (HNUM.out _).mono ?_; rintro e w8 ⟨rfl, rfl⟩)
  go_wp2_with fail
  refine hK.out _ _ ?_ (fun _ => ?_)
  · ((try dsimp only); (first | exact hst | exact hHeld | exact bel_call hHeld hb6 | exact bel_call hHeld hb7))
  clear hK K
  (try simp only [Act.put, List.setIfInBounds_toArray, List.set_cons_zero, List.set_cons_succ])
  refine gen0 (T := fun W => ((fun W => Below w5.heap.size w5 W)) W ∧ True) ?_ (fun wq3 hT => ?_)
  · exact ⟨by (first | exact hst | exact hHeld | exact bel_call hHeld hb6 | exact bel_call hHeld hb7), trivial⟩
  (try clear f0 f1 f2 f3 f4 f5 f6 f7 f8 f9 f10 f11)
  obtain ⟨hHeld, -⟩ := hT
  refine wpAnyH_take (i := 4) (oi := ⟨some 35, _, _, _, _, _⟩) (v := ?_) rfl (by kernel_rfl) (by kernel_rfl) (by kernel_rfl) (fun _ _ _ h => h) (Or.inl ⟨by kernel_rfl, ?_⟩) (by assumption) ?_
  rotate_left
  · (intro wS hSw; (try dsimp only at hSw); obtain ⟨q0, q1, _, _⟩ := (hB5.below hSw).two; clear hSw; go_simp; (try with_reducible rfl))
  (try simp only [Act.put, List.setIfInBounds_toArray, List.set_cons_zero, List.set_cons_succ])
  refine wpAnyH_take (i := 5) (oi := ⟨some 36, _, _, _, _, _⟩) (v := ?_) rfl (by kernel_rfl) (by kernel_rfl) (by kernel_rfl) (fun _ _ _ h => h) (Or.inl ⟨by kernel_rfl, ?_⟩) (by assumption) ?_
  rotate_left
  · (intro wS hSw; (try dsimp only at hSw); obtain ⟨q0, q1, _, _⟩ := (hB5.below hSw).two; clear hSw; go_simp; (try with_reducible rfl))
  (try simp only [Act.put, List.setIfInBounds_toArray, List.set_cons_zero, List.set_cons_succ])
  refine wpAnyH_take (i := 6) (oi := ⟨some 37, _, _, _, _, _⟩) (v := ?_) rfl (by kernel_rfl) (by kernel_rfl) (by kernel_rfl) (fun _ _ _ h => h) (Or.inl ⟨by kernel_rfl, ?_⟩) (by assumption) ?_
  rotate_left
  · (intro wS hSw; (try dsimp only at hSw); obtain ⟨q0, q1, _, _⟩ := (hB5.below hSw).two; clear hSw; go_simp; (try with_reducible rfl))
  (try simp only [Act.put, List.setIfInBounds_toArray, List.set_cons_zero, List.set_cons_succ])
  refine wpAnyH_take (i := 8) (oi := ⟨some 39, _, _, _, _, _⟩) (v := ?_) rfl (by kernel_rfl) (by kernel_rfl) (by kernel_rfl) (fun _ _ _ h => h) (Or.inl ⟨by kernel_rfl, ?_⟩) (by assumption) ?_
  rotate_left
  · (intro wS hSw; (try dsimp only at hSw); obtain ⟨q0, q1, _, _⟩ := (hB5.below hSw).two; clear hSw; go_simp; (try with_reducible rfl))
  (try simp only [Act.put, List.setIfInBounds_toArray, List.set_cons_zero, List.set_cons_succ])
  refine wpAnyH_ready (rs := [7]) (by kernel_rfl) (by simp) ?_
  refine AllReadyH.cons (o := ⟨some 38, _, _, _, _, _⟩) rfl (fun K hK => ?_) AllReadyH.nil
  go_simp
  (refine (HNUM.out _).mono ?_; rintro e w8 ⟨rfl, rfl⟩)
  go_wp2_with fail
  refine hK.out _ _ ?_ (fun _ => ?_)
  · ((try dsimp only); (first | exact hst | exact hHeld | exact bel_call hHeld hb6 | exact bel_call hHeld hb7))
  clear hK K
  (try simp only [Act.put, List.setIfInBounds_toArray, List.set_cons_zero, List.set_cons_succ])
  refine gen0 (T := fun W => ((fun W => Below w5.heap.size w5 W)) W ∧ True) ?_ (fun wq4 hT => ?_)
  · exact ⟨by (first | exact hst | exact hHeld | exact bel_call hHeld hb6 | exact bel_call hHeld hb7), trivial⟩
  (try clear f0 f1 f2 f3 f4 f5 f6 f7 f8 f9 f10 f11)
  obtain ⟨hHeld, -⟩ := hT
  refine wpAnyH_take (i := 9) (oi := ⟨some 40, _, _, _, _, _⟩) (v := ?_) rfl (by kernel_rfl) (by kernel_rfl) (by kernel_rfl) (fun _ _ _ h => h) (Or.inl ⟨by kernel_rfl, ?_⟩) (by assumption) ?_
  rotate_left
  · (intro wS hSw; (try dsimp only at hSw); obtain ⟨q0, q1, _, _⟩ := (hB5.below hSw).two; clear hSw; go_simp; (try with_reducible rfl))
  (try simp only [Act.put, List.setIfInBounds_toArray, List.set_cons_zero, List.set_cons_succ])
  refine wpAnyH_take (i := 10) (oi := ⟨some 41, _, _, _, _, _⟩) (v := ?_) rfl (by kernel_rfl) (by kernel_rfl) (by kernel_rfl) (fun _ _ _ h => h) (Or.inl ⟨by kernel_rfl, ?_⟩) (by assumption) ?_
  rotate_left
  · (intro wS hSw; (try dsimp only at hSw); obtain ⟨q0, q1, _, _⟩ := (hB5.below hSw).two; clear hSw; go_simp; (try with_reducible rfl))
  (try simp only [Act.put, List.setIfInBounds_toArray, List.set_cons_zero, List.set_cons_succ])
  refine wpAnyH_take (i := 11) (oi := ⟨some 42, _, _, _, _, _⟩) (v := ?_) rfl (by kernel_rfl) (by kernel_rfl) (by kernel_rfl) (fun _ _ _ h => h) (Or.inl ⟨by kernel_rfl, ?_⟩) (by assumption) ?_
  rotate_left
  · (intro wS hSw; (try dsimp only at hSw); obtain ⟨q0, q1, _, _⟩ := (hB5.below hSw).two; clear hSw; go_simp; (try with_reducible rfl))
  (try simp only [Act.put, List.setIfInBounds_toArray, List.set_cons_zero, List.set_cons_succ])
  refine wpAnyH_take (i := 12) (oi := ⟨some 43, _, _, _, _, _⟩) (v := ?_) rfl (by kernel_rfl) (by kernel_rfl) (by kernel_rfl) (fun _ _ _ h => h) (Or.inl ⟨by kernel_rfl, ?_⟩) (by assumption) ?_
  rotate_left
  · (intro wS hSw; (try dsimp only at hSw); obtain ⟨q0, q1, _, _⟩ := (hB5.below hSw).two; clear hSw; go_simp; (try with_reducible rfl))
  (try simp only [Act.put, List.setIfInBounds_toArray, List.set_cons_zero, List.set_cons_succ])
  refine wpAnyH_take (i := 14) (oi := ⟨some 45, _, _, _, _, _⟩) (v := ?_) rfl (by kernel_rfl) (by kernel_rfl) (by kernel_rfl) (fun _ _ _ h => h) (Or.inl ⟨by kernel_rfl, ?_⟩) (by assumption) ?_
  rotate_left
  · (intro wS hSw; (try dsimp only at hSw); obtain ⟨q0, q1, _, _⟩ := (hB5.below hSw).two; clear hSw; go_simp; (try with_reducible rfl))
  (try simp only [Act.put, List.setIfInBounds_toArray, List.set_cons_zero, List.set_cons_succ])
  refine wpAnyH_take (i := 15) (oi := ⟨some 46, _, _, _, _, _⟩) (v := ?_) rfl (by kernel_rfl) (by kernel_rfl) (by kernel_rfl) (fun _ _ _ h => h) (Or.inl ⟨by kernel_rfl, ?_⟩) (by assumption) ?_
  rotate_left
  · (intro wS hSw; (try dsimp only at hSw); obtain ⟨q0, q1, _, _⟩ := (hB5.below hSw).two; clear hSw; go_simp; (try with_reducible rfl))
  (try simp only [Act.put, List.setIfInBounds_toArray, List.set_cons_zero, List.set_cons_succ])
  refine wpAnyH_take (i := 16) (oi := ⟨some 47, _, _, _, _, _⟩) (v := ?_) rfl (by kernel_rfl) (by kernel_rfl) (by kernel_rfl) (fun _ _ _ h => h) (Or.inl ⟨by kernel_rfl, ?_⟩) (by assumption) ?_
  rotate_left
  · (intro wS hSw; (try dsimp only at hSw); obtain ⟨q0, q1, _, _⟩ := (hB5.below hSw).two; clear hSw; go_simp; (try with_reducible rfl))
  (try simp only [Act.put, List.setIfInBounds_toArray, List.set_cons_zero, List.set_cons_succ])
  refine wpAnyH_take (i := 17) (oi := ⟨some 48, _, _, _, _, _⟩) (v := ?_) rfl (by kernel_rfl) (by kernel_rfl) (by kernel_rfl) (fun _ _ _ h => h) (Or.inl ⟨by kernel_rfl, ?_⟩) (by assumption) ?_
  rotate_left
  · (intro wS hSw; (try dsimp only at hSw); obtain ⟨q0, q1, _, _⟩ := (hB5.below hSw).two; clear hSw; go_simp; (try with_reducible rfl))
  (try simp only [Act.put, List.setIfInBounds_toArray, List.set_cons_zero, List.set_cons_succ])
  refine wpAnyH_take (i := 18) (oi := ⟨some 49, _, _, _, _, _⟩) (v := ?_) rfl (by kernel_rfl) (by kernel_rfl) (by kernel_rfl) (fun _ _ _ h => h) (Or.inl ⟨by kernel_rfl, ?_⟩) (by assumption) ?_
  rotate_left
  · (intro wS hSw; (try dsimp only at hSw); obtain ⟨q0, q1, _, _⟩ := (hB5.below hSw).two; clear hSw; go_simp; (try with_reducible rfl))
  (try simp only [Act.put, List.setIfInBounds_toArray, List.set_cons_zero, List.set_cons_succ])
  refine wpAnyH_take (i := 19) (oi := ⟨some 50, _, _, _, _, _⟩) (v := ?_) rfl (by kernel_rfl) (by kernel_rfl) (by kernel_rfl) (fun _ _ _ h => h) (Or.inl ⟨by kernel_rfl, ?_⟩) (by assumption) ?_
  rotate_left
  · (intro wS hSw; (try dsimp only at hSw); obtain ⟨q0, q1, _, _⟩ := (hB5.below hSw).two; clear hSw; go_simp; (try with_reducible rfl))
  (try simp only [Act.put, List.setIfInBounds_toArray, List.set_cons_zero, List.set_cons_succ])
  refine wpAnyH_ready (rs := [13]) (by kernel_rfl) (by simp) ?_
  refine AllReadyH.cons (o := ⟨some 44, _, _, _, _, _⟩) rfl (fun K hK => ?_) AllReadyH.nil
  go_simp
  (refine (HE.out _).mono ?_; rintro e w7 ⟨rfl, hb7⟩)
  go_wp2_with fail
  refine hK.out _ _ ?_ (fun _ => ?_)
  · ((try dsimp only); (first | exact hst | exact hHeld | exact bel_call hHeld hb6 | exact bel_call hHeld hb7))
  clear hK K
  (try simp only [Act.put, List.setIfInBounds_toArray, List.set_cons_zero, List.set_cons_succ])
  refine gen0 (T := fun W => ((fun W => Below w5.heap.size w5 W)) W ∧ True) ?_ (fun wq5 hT => ?_)
  · exact ⟨by (first | exact hst | exact hHeld | exact bel_call hHeld hb6 | exact bel_call hHeld hb7), trivial⟩
  (try clear f0 f1 f2 f3 f4 f5 f6 f7 f8 f9 f10 f11)
  obtain ⟨hHeld, -⟩ := hT
  refine wpAnyH_take (i := 20) (oi := ⟨some 51, _, _, _, _, _⟩) (v := ?_) rfl (by kernel_rfl) (by kernel_rfl) (by kernel_rfl) (fun _ _ _ h => h) (Or.inl ⟨by kernel_rfl, ?_⟩) (by assumption) ?_
  rotate_left
  · (intro wS hSw; (try dsimp only at hSw); obtain ⟨q0, q1, _, _⟩ := (hB5.below hSw).two; clear hSw; go_simp; (try with_reducible rfl))
  (try simp only [Act.put, List.setIfInBounds_toArray, List.set_cons_zero, List.set_cons_succ])
  refine wpAnyH_take (i := 21) (oi := ⟨some 52, _, _, _, _, _⟩) (v := ?_) rfl (by kernel_rfl) (by kernel_rfl) (by kernel_rfl) (fun _ _ _ h => h) (Or.inl ⟨by kernel_rfl, ?_⟩) (by assumption) ?_
  rotate_left
  · (intro wS hSw; (try dsimp only at hSw); obtain ⟨q0, q1, _, _⟩ := (hB5.below hSw).two; clear hSw; go_simp; (try with_reducible rfl))
  (try simp only [Act.put, List.setIfInBounds_toArray, List.set_cons_zero, List.set_cons_succ])
  refine wpAnyH_done (by kernel_rfl) ?_ _
  have hb0 : bad ≠ 0 := hbad.out
  have hbe : ((bad : Int) == 0) = false := by simpa using hb0
  have hbn : ((bad : Int) != 0) = true := by simpa using hb0
  have HB0 := Lib.hid hb0
  have hBr := hB5.below hHeld
  have hDr := hD5.below hHeld
  have hsr : SlD wq5 A3 c3 m3 := Sl.below hs5 hHeld
  have hp5 : SlB wq5 A5 c5 m5 := Sl.below ho5.sl hHeld
  have hwr := bel_call hw5 hHeld
  have HA := Lib.hid (fun (b : Int) (hb : I64 b) (W : World) (hh : SlC W E cap cs) => SAt_any f b cs W hh hl1 HD1.out hf hb)
  clear hb0 hst hB5 hD5 hs5 hw5 hHeld HE
  clear hb6 hb7
  clear hz2 hz HCHK HNUM
  have hm3l : m3.length = cs.length := by rw [hm3.out]; simp
  rw [hm3l] at hDr
  have HM3 := Lib.hid hm3l
  clear hm3l
  generalize hWl : wq5 = Wl at *
  clear hWl
  obtain ⟨a0, a1, _, _⟩ := hBr.two
  go_wp2_with fail
  clear a0 a1
  go_loopw [9, 56] (fun s9 s56 wr => ∃ (k : Nat), k ≤ cs.length ∧ s56 = .int .i64 k ∧ s9 = .bool false ∧ Below Wl.heap.size Wl wr) (fun s9 s56 wr => cs.length - (intOf s56).toNat)
  case atStart => exact ⟨0, Nat.zero_le _, rfl, rfl, Below.refl _ _⟩
  case round =>
    obtain ⟨k, hk, rfl, rfl, hbr⟩ := hrel
    by_cases hlt : k < cs.length
    · go_wp2_with fail
      go_roundw
      case rel => exact ⟨k + 1, hlt, by go_num, rfl, hbr⟩
      case measure => simp [intOf]; omega
    · have hBk := hBr.below hbr
      have hDk := hDr.below hbr
      have hwk := bel_call hwr hbr
      have hsk : SlD wr A3 c3 m3 := Sl.below hsr hbr
      have hpk : SlB wr A5 c5 m5 := Sl.below hp5 hbr
      clear hp5 ho5
      clear hBr hDr hsr hwr hbr
      obtain ⟨a0, a1, _, _⟩ := hBk.two
      have hA2 := HA.out a ha _ (h.below hwk)
      generalize hx : sat (f, cs.map ceOf) a = x at hA2
      obtain ⟨⟨xk, xd⟩, xb⟩ := x
      clear hx
      have HA2 := Lib.hid hA2
      clear hA2
      go_wp2_with fail
      refine HA2.out.mono ?_
      rintro e w6 ⟨A6, c6, m6, rfl, hm6, hs6, hb6⟩
      have hbx := bel_call hb6 (below_new w6 (.cells #[.int .i64 xk, .slice A6 m6.length c6] 24))
      have hB7 := hBk.below hbx
      have hD7 := hDk.below hbx
      have hw7 := bel_call hwk hbx
      have hs7 : SlD _ A3 c3 m3 := Sl.below hsk hbx
      have hp7 : SlB _ A5 c5 m5 := Sl.below hpk hbx
      clear hpk
      clear hBk hDk hwk hsk hbx hs6 hb6 a0 a1 hm6 HA2 HA
      dsimp only at *
      go_upto_region 21 with (fail)
      generalize hW7 : w6.alloc (.cells #[.int .i64 xk, .slice A6 m6.length c6] 24) = W7 at *
      clear hW7
      have HTOP : Hid (∀ W, Below W7.heap.size W7 W → Blk W w.heap.size 75 #[.int .i64 f, .slice E cs.length cap] ∧ Blk W w3.heap.size 77 #[.int .i64 f, .slice A3 cs.length c3] ∧ Below w.heap.size w W ∧ SlD W A3 c3 m3 ∧ SlB W A5 c5 m5) := (show ∀ W, _ → _ from fun W hW => ⟨hB7.below hW, hD7.below hW, bel_call hw7 hW, Sl.below hs7 hW, Sl.below hp7 hW⟩)
      clear hp7
      obtain ⟨a0, a1, _, _⟩ := hB7.two
      go_wp2_with fail
      refine (SCopy_any f cs _ (h.below hw7) (by omega) HD1.out).mono ?_
      rintro e w8 ⟨A8, c8, m8, rfl, hm8, hN8, hb8⟩
      have hB8 := hB7.below hb8
      have hD8 := hD7.below hb8
      have hw8 := bel_call hw7 hb8
      have hs8 : SlD _ A3 c3 m3 := Sl.below hs7 hb8
      clear hB7 hD7 hw7 hs7 a0 a1
      go_upto_region 24 with (fail)
      have hbx := below_new w8 (.cells #[.int .i64 f, .slice A8 m8.length c8] 75)
      have hX9 := Blk.new w8 75 #[.int .i64 f, .slice A8 m8.length c8]
      have hB9 := hB8.below hbx
      have hD9 := hD8.below hbx
      have hw9 := bel_call hw8 hbx
      have hs9 : SlD _ A3 c3 m3 := Sl.below hs8 hbx
      have hN9 := hN8.below hbx
      have hb9 := bel_call hb8 hbx
      have hg9 : ∀ g, A8.map (·.block) = some g → g < w8.heap.size := fun g hg => (hN8.1.ltB g hg).2
      clear hB8 hD8 hw8 hs8 hN8 hb8 hbx
      generalize hW9 : w8.alloc (.cells #[.int .i64 f, .slice A8 m8.length c8] 75) = W9 at *
      clear hW9
      obtain ⟨a0, a1, _, _⟩ := hB9.two
      obtain ⟨x0, x1, _, _⟩ := hX9.two
      go_wp2_with fail
      refine (SSame_any f f m8 cs _ hN9.slc (h.below hw9)).mono ?_
      rintro e w10 ⟨rfl, hb10⟩
      rw [show ssame (f, m8.map ceOf) (f, cs.map ceOf) = true from by rw [ssame_eq, hm8.out]; simp]
      clear hlt hk
      have hB10 := hB9.below hb10
      have hD10 := hD9.below hb10
      have hw10 := bel_call hw9 hb10
      have hs10 : SlD _ A3 c3 m3 := Sl.below hs9 hb10
      have hI0 : Inc W7 w8.heap.size f A8 m8.length c8 m8 m8 0 w10 := ⟨rfl, (hN9.below hb10).1, (hN9.below hb10).2, hX9.below hb10, bel_call hb9 hb10, fun _ => rfl, fun h => by omega⟩
      have hml8 : m8.length = cs.length := by
        have := congrArg List.length hm8.out
        simpa using this
      have hmax8 : m8.length ≤ 1000 := by omega
      have HML8 := Lib.hid hml8
      clear hml8
      clear hB9 hD9 hw9 hs9 hN9 hX9 hb9 hb10 a0 a1 x0 x1 hB10 hD10 hw10 hs10
      obtain ⟨x0, x1, _, _⟩ := hI0.box.two
      go_wp2_with fail
      clear x0 x1
      go_loopw [110] (fun s110 wr => ∃ (k : Nat) (mm : List CeV), k ≤ m8.length ∧ s110 = .int .i64 k ∧ Hid (Inc W7 w8.heap.size f A8 m8.length c8 m8 mm k wr)) (fun s110 wr => m8.length - (intOf s110).toNat)
      case atStart => exact ⟨0, m8, Nat.zero_le _, rfl, (show Inc _ _ _ _ _ _ _ _ _ _ from hI0)⟩
      case round =>
        obtain ⟨k, mm, hk, rfl, hI⟩ := hrel
        clear hI0
        obtain ⟨x0, x1, _, _⟩ := hI.out.box.two
        by_cases hlt : k < m8.length
        · have hkm : k < mm.length := by rw [hI.out.len]; exact hlt
          obtain ⟨g, cur, rfl, hg, _, _, _⟩ := hI.out.row.row (by rw [flat_len (f := cf) (s := 2) (fun _ => rfl)]; omega)
          have hgx := hg9 g rfl
          obtain ⟨z, hz⟩ : ∃ z, wrap64 (mm[k].1 + 1) = z := ⟨_, rfl⟩
          have hst := Lib.hid (hI.out.step hkm hg (by omega) hz)
          have hcl := hI.out.row.cellAt (j := k * 2) (by rw [flat_len (f := cf) (s := 2) (fun _ => rfl)]; omega)
          have hce := flat_get (f := cf) (s := 2) (fun _ => rfl) mm k 0 hkm (by decide)
          rw [List.getElem?_eq_getElem (by rw [flat_len (f := cf) (s := 2) (fun _ => rfl)]; omega)] at hce
          have hcv : (mm.flatMap cf)[k * 2]'(by rw [flat_len (f := cf) (s := 2) (fun _ => rfl)]; omega) = .int .i64 mm[k].1 := by
            have := hce
            simp only [Nat.add_zero] at this
            injection this
          rw [hcv] at hcl
          clear hce hcv
          have hfr := hI.out.row.frz (k * 2)
          have had := addr_lit g 0 (k * 2)
          rw [Nat.zero_add] at had
          have hz2 : IntKind.i64.wrap (mm[k].1 + 1) = z := by rw [IntKind.wrap_i64]; simpa only [wrap64] using hz
          generalize hkk : mm[k].1 = kk at *
          clear hkk hg9
          go_wp2_with fail
          go_roundw
          case rel => exact ⟨k + 1, _, hlt, by go_num, hst⟩
          case measure => simp [intOf]; omega
        · have hlen : mm.length = m8.length := hI.out.len
          have hbox := hI.out.box
          have hslm := hI.out.row.sl
          rw [← hlen] at hbox hslm
          have hM : SlC wr A8 c8 mm := ⟨hslm, fun x hx => (hI.out.txt x hx).sl⟩
          obtain ⟨hBe, hDe, hwe, hse, hpe⟩ := HTOP.out _ hI.out.bel
          have hdf : Hid (cs ≠ [] → ssame (f, mm.map ceOf) (f, cs.map ceOf) = false) := (show _ → _ from fun hne => by
            have hd := hI.out.hd (by have := HML8.out; have : 0 < cs.length := List.length_pos_iff.2 hne; omega)
            rw [ssame_eq, decide_eq_false_iff_not]
            intro he
            rw [he, hm8.out] at hd
            exact hd rfl)
          clear hslm hlen
          have hrs := fun (A : Option Addr) (c : Nat) (m : List Ce) (W : World) (hx : SlD W A c m) (hy : SlD W A3 c3 m3) => rSSame_any f f m m3 W hx hy
          rw [HM3.out] at hrs
          have HRS := Lib.hid hrs
          clear hrs
          have hst : Below wr.heap.size wr wr.drew := (Below.refl _ _).drew
          go_upto_region 31 with (fail)
          by_cases hcs0 : cs = []
          · have hg0 : decide ((0 : Int) < (cs.length : Int)) = false := by rw [hcs0]; rfl
            have hg1 : ¬ 0 < cs.length := by rw [hcs0]; decide
            have hcs := Lib.hid hcs0
            clear hcs0
            refine wp_region_held_drew (S := (fun W => Below wr.heap.size wr W)) (by kernel_rfl) ?_ (fun hHeld => ?_)
            · exact hst
            refine gen0 (T := fun W => ((fun W => Below wr.heap.size wr W)) W ∧ True) ?_ (fun wq1 hT => ?_)
            · exact ⟨by (first | exact hst | exact hHeld | exact bel_call hHeld hb11 | exact bel_call hHeld hb12 | exact bel_call hHeld hb13), trivial⟩
            (try clear f0 f1 f2 f3 f4 f5 f6 f7 f8 f9 f10 f11)
            obtain ⟨hHeld, -⟩ := hT
            refine wpAnyH_take (i := 0) (oi := ⟨some 123, _, _, _, _, _⟩) (v := ?_) rfl (by kernel_rfl) (by kernel_rfl) (by kernel_rfl) (fun _ _ _ h => h) (Or.inl ⟨by kernel_rfl, ?_⟩) (by assumption) ?_
            rotate_left
            · (intro wS hSw; (try dsimp only at hSw); obtain ⟨q0, q1, _, _⟩ := (hBe.below hSw).two; obtain ⟨p0, p1, _, _⟩ := (hDe.below hSw).two; obtain ⟨x0, x1, _, _⟩ := (hbox.below hSw).two; clear hSw; go_simp; (try with_reducible rfl))
            (try simp only [Act.put, List.setIfInBounds_toArray, List.set_cons_zero, List.set_cons_succ])
            refine wpAnyH_take (i := 2) (oi := ⟨some 125, _, _, _, _, _⟩) (v := ?_) rfl (by kernel_rfl) (by kernel_rfl) (by kernel_rfl) (fun _ _ _ h => h) (Or.inl ⟨by kernel_rfl, ?_⟩) (by assumption) ?_
            rotate_left
            · (intro wS hSw; (try dsimp only at hSw); obtain ⟨q0, q1, _, _⟩ := (hBe.below hSw).two; obtain ⟨p0, p1, _, _⟩ := (hDe.below hSw).two; obtain ⟨x0, x1, _, _⟩ := (hbox.below hSw).two; clear hSw; go_simp; (try with_reducible rfl))
            (try simp only [Act.put, List.setIfInBounds_toArray, List.set_cons_zero, List.set_cons_succ])
            refine wpAnyH_ready (rs := [1]) (by kernel_rfl) (by simp) ?_
            refine AllReadyH.cons (o := ⟨some 124, _, _, _, _, _⟩) rfl (fun K hK => ?_) AllReadyH.nil
            go_simp
            (refine (Doc14_any f cs _ (h.below (bel_call hwe hHeld)) (by omega)).mono ?_; rintro e w11 ⟨A11, c11, m11, rfl, hm11, hs11, hb11⟩)
            go_wp2_with fail
            refine hK.out _ _ ?_ (fun _ => ?_)
            · ((try dsimp only); (first | exact hst | exact hHeld | exact bel_call hHeld hb11 | exact bel_call hHeld hb12 | exact bel_call hHeld hb13))
            clear hK K
            (try simp only [Act.put, List.setIfInBounds_toArray, List.set_cons_zero, List.set_cons_succ])
            refine gen0 (T := fun W => ((fun W => Below wr.heap.size wr W)) W ∧ SlD W A11 c11 m11 ∧ True) ?_ (fun wq2 hT => ?_)
            · exact ⟨by (first | exact hst | exact hHeld | exact bel_call hHeld hb11 | exact bel_call hHeld hb12 | exact bel_call hHeld hb13), by (first | assumption | exact hs11), trivial⟩
            (try clear f0 f1 f2 f3 f4 f5 f6 f7 f8 f9 f10 f11)
            obtain ⟨hHeld, f0, -⟩ := hT
            refine wpAnyH_ready (rs := [3]) (by kernel_rfl) (by simp) ?_
            refine AllReadyH.cons (o := ⟨some 126, _, _, _, _, _⟩) rfl (fun K hK => ?_) AllReadyH.nil
            go_simp
            (refine (HRS.out A11 c11 m11 _ f0 (Sl.below hse hHeld)).mono ?_; rintro e w12 ⟨rfl, hb12⟩; rw [show ssame (f, m11) (f, m3) = true from by rw [ssame_eq, hm11.out, hm3.out]; simp])
            go_wp2_with fail
            refine hK.out _ _ ?_ (fun _ => ?_)
            · ((try dsimp only); (first | exact hst | exact hHeld | exact bel_call hHeld hb11 | exact bel_call hHeld hb12 | exact bel_call hHeld hb13))
            clear hK K
            (try simp only [Act.put, List.setIfInBounds_toArray, List.set_cons_zero, List.set_cons_succ])
            refine gen0 (T := fun W => ((fun W => Below wr.heap.size wr W)) W ∧ True) ?_ (fun wq3 hT => ?_)
            · exact ⟨by (first | exact hst | exact hHeld | exact bel_call hHeld hb11 | exact bel_call hHeld hb12 | exact bel_call hHeld hb13), trivial⟩
            (try clear f0 f1 f2 f3 f4 f5 f6 f7 f8 f9 f10 f11)
            obtain ⟨hHeld, -⟩ := hT
            refine wpAnyH_take (i := 4) (oi := ⟨some 127, _, _, _, _, _⟩) (v := ?_) rfl (by kernel_rfl) (by kernel_rfl) (by kernel_rfl) (fun _ _ _ h => h) (Or.inl ⟨by kernel_rfl, ?_⟩) (by assumption) ?_
            rotate_left
            · (intro wS hSw; (try dsimp only at hSw); obtain ⟨q0, q1, _, _⟩ := (hBe.below hSw).two; obtain ⟨p0, p1, _, _⟩ := (hDe.below hSw).two; obtain ⟨x0, x1, _, _⟩ := (hbox.below hSw).two; clear hSw; go_simp; (try with_reducible rfl))
            (try simp only [Act.put, List.setIfInBounds_toArray, List.set_cons_zero, List.set_cons_succ])
            refine wpAnyH_take (i := 5) (oi := ⟨some 128, _, _, _, _, _⟩) (v := ?_) rfl (by kernel_rfl) (by kernel_rfl) (by kernel_rfl) (fun _ _ _ h => h) (Or.inl ⟨by kernel_rfl, ?_⟩) (by assumption) ?_
            rotate_left
            · (intro wS hSw; (try dsimp only at hSw); obtain ⟨q0, q1, _, _⟩ := (hBe.below hSw).two; obtain ⟨p0, p1, _, _⟩ := (hDe.below hSw).two; obtain ⟨x0, x1, _, _⟩ := (hbox.below hSw).two; clear hSw; go_simp; (try with_reducible rfl))
            (try simp only [Act.put, List.setIfInBounds_toArray, List.set_cons_zero, List.set_cons_succ])
            refine wpAnyH_take (i := 6) (oi := ⟨some 129, _, _, _, _, _⟩) (v := ?_) rfl (by kernel_rfl) (by kernel_rfl) (by kernel_rfl) (fun _ _ _ h => h) (Or.inl ⟨by kernel_rfl, ?_⟩) (by assumption) ?_
            rotate_left
            · (intro wS hSw; (try dsimp only at hSw); obtain ⟨q0, q1, _, _⟩ := (hBe.below hSw).two; obtain ⟨p0, p1, _, _⟩ := (hDe.below hSw).two; obtain ⟨x0, x1, _, _⟩ := (hbox.below hSw).two; clear hSw; go_simp; (try with_reducible rfl))
            (try simp only [Act.put, List.setIfInBounds_toArray, List.set_cons_zero, List.set_cons_succ])
            refine wpAnyH_take (i := 7) (oi := ⟨some 130, _, _, _, _, _⟩) (v := ?_) rfl (by kernel_rfl) (by kernel_rfl) (by kernel_rfl) (fun _ _ _ h => h) (Or.inl ⟨by kernel_rfl, ?_⟩) (by assumption) ?_
            rotate_left
            · (intro wS hSw; (try dsimp only at hSw); obtain ⟨q0, q1, _, _⟩ := (hBe.below hSw).two; obtain ⟨p0, p1, _, _⟩ := (hDe.below hSw).two; obtain ⟨x0, x1, _, _⟩ := (hbox.below hSw).two; clear hSw; go_simp; (try with_reducible rfl))
            (try simp only [Act.put, List.setIfInBounds_toArray, List.set_cons_zero, List.set_cons_succ])
            refine wpAnyH_take (i := 8) (oi := ⟨some 131, _, _, _, _, _⟩) (v := ?_) rfl (by kernel_rfl) (by kernel_rfl) (by kernel_rfl) (fun _ _ _ h => h) (Or.inl ⟨by kernel_rfl, ?_⟩) (by assumption) ?_
            rotate_left
            · (intro wS hSw; (try dsimp only at hSw); obtain ⟨q0, q1, _, _⟩ := (hBe.below hSw).two; obtain ⟨p0, p1, _, _⟩ := (hDe.below hSw).two; obtain ⟨x0, x1, _, _⟩ := (hbox.below hSw).two; clear hSw; go_simp; (try with_reducible rfl))
            (try simp only [Act.put, List.setIfInBounds_toArray, List.set_cons_zero, List.set_cons_succ])
            refine wpAnyH_take (i := 9) (oi := ⟨some 132, _, _, _, _, _⟩) (v := ?_) rfl (by kernel_rfl) (by kernel_rfl) (by kernel_rfl) (fun _ _ _ h => h) (Or.inl ⟨by kernel_rfl, ?_⟩) (by assumption) ?_
            rotate_left
            · (intro wS hSw; (try dsimp only at hSw); obtain ⟨q0, q1, _, _⟩ := (hBe.below hSw).two; obtain ⟨p0, p1, _, _⟩ := (hDe.below hSw).two; obtain ⟨x0, x1, _, _⟩ := (hbox.below hSw).two; clear hSw; go_simp; (try with_reducible rfl))
            (try simp only [Act.put, List.setIfInBounds_toArray, List.set_cons_zero, List.set_cons_succ])
            refine wpAnyH_take (i := 10) (oi := ⟨some 133, _, _, _, _, _⟩) (v := ?_) rfl (by kernel_rfl) (by kernel_rfl) (by kernel_rfl) (fun _ _ _ h => h) (Or.inl ⟨by kernel_rfl, ?_⟩) (by assumption) ?_
            rotate_left
            · (intro wS hSw; (try dsimp only at hSw); obtain ⟨q0, q1, _, _⟩ := (hBe.below hSw).two; obtain ⟨p0, p1, _, _⟩ := (hDe.below hSw).two; obtain ⟨x0, x1, _, _⟩ := (hbox.below hSw).two; clear hSw; go_simp; (try with_reducible rfl))
            (try simp only [Act.put, List.setIfInBounds_toArray, List.set_cons_zero, List.set_cons_succ])
            refine wpAnyH_take (i := 11) (oi := ⟨some 134, _, _, _, _, _⟩) (v := undef) rfl (by kernel_rfl) (by kernel_rfl) (by kernel_rfl) (fun _ _ _ h => h) (Or.inr ⟨by kernel_rfl, rfl⟩) (by assumption) ?_
            (try simp only [Act.put, List.setIfInBounds_toArray, List.set_cons_zero, List.set_cons_succ])
            refine wpAnyH_take (i := 12) (oi := ⟨some 135, _, _, _, _, _⟩) (v := undef) rfl (by kernel_rfl) (by kernel_rfl) (by kernel_rfl) (fun _ _ _ h => h) (Or.inr ⟨by kernel_rfl, rfl⟩) (by assumption) ?_
            (try simp only [Act.put, List.setIfInBounds_toArray, List.set_cons_zero, List.set_cons_succ])
            refine wpAnyH_take (i := 13) (oi := ⟨some 136, _, _, _, _, _⟩) (v := undef) rfl (by kernel_rfl) (by kernel_rfl) (by kernel_rfl) (fun _ _ _ h => h) (Or.inr ⟨by kernel_rfl, rfl⟩) (by assumption) ?_
            (try simp only [Act.put, List.setIfInBounds_toArray, List.set_cons_zero, List.set_cons_succ])
            refine wpAnyH_take (i := 14) (oi := ⟨some 137, _, _, _, _, _⟩) (v := ?_) rfl (by kernel_rfl) (by kernel_rfl) (by kernel_rfl) (fun _ _ _ h => h) (Or.inl ⟨by kernel_rfl, ?_⟩) (by assumption) ?_
            rotate_left
            · (intro wS hSw; (try dsimp only at hSw); obtain ⟨q0, q1, _, _⟩ := (hBe.below hSw).two; obtain ⟨p0, p1, _, _⟩ := (hDe.below hSw).two; obtain ⟨x0, x1, _, _⟩ := (hbox.below hSw).two; clear hSw; go_simp; (try with_reducible rfl))
            (try simp only [Act.put, List.setIfInBounds_toArray, List.set_cons_zero, List.set_cons_succ])
            refine wpAnyH_take (i := 15) (oi := ⟨some 138, _, _, _, _, _⟩) (v := ?_) rfl (by kernel_rfl) (by kernel_rfl) (by kernel_rfl) (fun _ _ _ h => h) (Or.inl ⟨by kernel_rfl, ?_⟩) (by assumption) ?_
            rotate_left
            · (intro wS hSw; (try dsimp only at hSw); obtain ⟨q0, q1, _, _⟩ := (hBe.below hSw).two; obtain ⟨p0, p1, _, _⟩ := (hDe.below hSw).two; obtain ⟨x0, x1, _, _⟩ := (hbox.below hSw).two; clear hSw; go_simp; (try with_reducible rfl))
            (try simp only [Act.put, List.setIfInBounds_toArray, List.set_cons_zero, List.set_cons_succ])
            refine wpAnyH_done (by kernel_rfl) ?_ _
            have hm50 : m5.length = 0 := by
              rw [hm5.out]
              unfold sput
              rw [if_pos (by rw [HBD.out]; exact HB0.out)]
              rfl
            have hm5e : ((m5.length : Int) == 0) = true := by rw [hm50]; rfl
            clear hm50
            go_wp2_with fail
            go_ret
            exact ⟨rfl, bel_call hwe hHeld⟩
          · have hg0 : decide ((0 : Int) < (cs.length : Int)) = true := by
              have : 0 < cs.length := List.length_pos_iff.2 hcs0
              simpa using this
            have hg1 : 0 < cs.length := List.length_pos_iff.2 hcs0
            have hcs := Lib.hid hcs0
            clear hcs0
            refine wp_region_held_drew (S := (fun W => Below wr.heap.size wr W)) (by kernel_rfl) ?_ (fun hHeld => ?_)
            · exact hst
            refine gen0 (T := fun W => ((fun W => Below wr.heap.size wr W)) W ∧ True) ?_ (fun wq1 hT => ?_)
            · exact ⟨by (first | exact hst | exact hHeld | exact bel_call hHeld hb11 | exact bel_call hHeld hb12 | exact bel_call hHeld hb13), trivial⟩
            (try clear f0 f1 f2 f3 f4 f5 f6 f7 f8 f9 f10 f11)
            obtain ⟨hHeld, -⟩ := hT
            refine wpAnyH_take (i := 0) (oi := ⟨some 123, _, _, _, _, _⟩) (v := ?_) rfl (by kernel_rfl) (by kernel_rfl) (by kernel_rfl) (fun _ _ _ h => h) (Or.inl ⟨by kernel_rfl, ?_⟩) (by assumption) ?_
            rotate_left
            · (intro wS hSw; (try dsimp only at hSw); obtain ⟨q0, q1, _, _⟩ := (hBe.below hSw).two; obtain ⟨p0, p1, _, _⟩ := (hDe.below hSw).two; obtain ⟨x0, x1, _, _⟩ := (hbox.below hSw).two; clear hSw; go_simp; (try with_reducible rfl))
            (try simp only [Act.put, List.setIfInBounds_toArray, List.set_cons_zero, List.set_cons_succ])
            refine wpAnyH_take (i := 2) (oi := ⟨some 125, _, _, _, _, _⟩) (v := ?_) rfl (by kernel_rfl) (by kernel_rfl) (by kernel_rfl) (fun _ _ _ h => h) (Or.inl ⟨by kernel_rfl, ?_⟩) (by assumption) ?_
            rotate_left
            · (intro wS hSw; (try dsimp only at hSw); obtain ⟨q0, q1, _, _⟩ := (hBe.below hSw).two; obtain ⟨p0, p1, _, _⟩ := (hDe.below hSw).two; obtain ⟨x0, x1, _, _⟩ := (hbox.below hSw).two; clear hSw; go_simp; (try with_reducible rfl))
            (try simp only [Act.put, List.setIfInBounds_toArray, List.set_cons_zero, List.set_cons_succ])
            refine wpAnyH_ready (rs := [1]) (by kernel_rfl) (by simp) ?_
            refine AllReadyH.cons (o := ⟨some 124, _, _, _, _, _⟩) rfl (fun K hK => ?_) AllReadyH.nil
            go_simp
            (refine (Doc14_any f cs _ (h.below (bel_call hwe hHeld)) (by omega)).mono ?_; rintro e w11 ⟨A11, c11, m11, rfl, hm11, hs11, hb11⟩)
            go_wp2_with fail
            refine hK.out _ _ ?_ (fun _ => ?_)
            · ((try dsimp only); (first | exact hst | exact hHeld | exact bel_call hHeld hb11 | exact bel_call hHeld hb12 | exact bel_call hHeld hb13))
            clear hK K
            (try simp only [Act.put, List.setIfInBounds_toArray, List.set_cons_zero, List.set_cons_succ])
            refine gen0 (T := fun W => ((fun W => Below wr.heap.size wr W)) W ∧ SlD W A11 c11 m11 ∧ True) ?_ (fun wq2 hT => ?_)
            · exact ⟨by (first | exact hst | exact hHeld | exact bel_call hHeld hb11 | exact bel_call hHeld hb12 | exact bel_call hHeld hb13), by (first | assumption | exact hs11), trivial⟩
            (try clear f0 f1 f2 f3 f4 f5 f6 f7 f8 f9 f10 f11)
            obtain ⟨hHeld, f0, -⟩ := hT
            refine wpAnyH_ready (rs := [3]) (by kernel_rfl) (by simp) ?_
            refine AllReadyH.cons (o := ⟨some 126, _, _, _, _, _⟩) rfl (fun K hK => ?_) AllReadyH.nil
            go_simp
            (refine (HRS.out A11 c11 m11 _ f0 (Sl.below hse hHeld)).mono ?_; rintro e w12 ⟨rfl, hb12⟩; rw [show ssame (f, m11) (f, m3) = true from by rw [ssame_eq, hm11.out, hm3.out]; simp])
            go_wp2_with fail
            refine hK.out _ _ ?_ (fun _ => ?_)
            · ((try dsimp only); (first | exact hst | exact hHeld | exact bel_call hHeld hb11 | exact bel_call hHeld hb12 | exact bel_call hHeld hb13))
            clear hK K
            (try simp only [Act.put, List.setIfInBounds_toArray, List.set_cons_zero, List.set_cons_succ])
            refine gen0 (T := fun W => ((fun W => Below wr.heap.size wr W)) W ∧ True) ?_ (fun wq3 hT => ?_)
            · exact ⟨by (first | exact hst | exact hHeld | exact bel_call hHeld hb11 | exact bel_call hHeld hb12 | exact bel_call hHeld hb13), trivial⟩
            (try clear f0 f1 f2 f3 f4 f5 f6 f7 f8 f9 f10 f11)
            obtain ⟨hHeld, -⟩ := hT
            refine wpAnyH_take (i := 4) (oi := ⟨some 127, _, _, _, _, _⟩) (v := ?_) rfl (by kernel_rfl) (by kernel_rfl) (by kernel_rfl) (fun _ _ _ h => h) (Or.inl ⟨by kernel_rfl, ?_⟩) (by assumption) ?_
            rotate_left
            · (intro wS hSw; (try dsimp only at hSw); obtain ⟨q0, q1, _, _⟩ := (hBe.below hSw).two; obtain ⟨p0, p1, _, _⟩ := (hDe.below hSw).two; obtain ⟨x0, x1, _, _⟩ := (hbox.below hSw).two; clear hSw; go_simp; (try with_reducible rfl))
            (try simp only [Act.put, List.setIfInBounds_toArray, List.set_cons_zero, List.set_cons_succ])
            refine wpAnyH_take (i := 5) (oi := ⟨some 128, _, _, _, _, _⟩) (v := ?_) rfl (by kernel_rfl) (by kernel_rfl) (by kernel_rfl) (fun _ _ _ h => h) (Or.inl ⟨by kernel_rfl, ?_⟩) (by assumption) ?_
            rotate_left
            · (intro wS hSw; (try dsimp only at hSw); obtain ⟨q0, q1, _, _⟩ := (hBe.below hSw).two; obtain ⟨p0, p1, _, _⟩ := (hDe.below hSw).two; obtain ⟨x0, x1, _, _⟩ := (hbox.below hSw).two; clear hSw; go_simp; (try with_reducible rfl))
            (try simp only [Act.put, List.setIfInBounds_toArray, List.set_cons_zero, List.set_cons_succ])
            refine wpAnyH_take (i := 6) (oi := ⟨some 129, _, _, _, _, _⟩) (v := ?_) rfl (by kernel_rfl) (by kernel_rfl) (by kernel_rfl) (fun _ _ _ h => h) (Or.inl ⟨by kernel_rfl, ?_⟩) (by assumption) ?_
            rotate_left
            · (intro wS hSw; (try dsimp only at hSw); obtain ⟨q0, q1, _, _⟩ := (hBe.below hSw).two; obtain ⟨p0, p1, _, _⟩ := (hDe.below hSw).two; obtain ⟨x0, x1, _, _⟩ := (hbox.below hSw).two; clear hSw; go_simp; (try with_reducible rfl))
            (try simp only [Act.put, List.setIfInBounds_toArray, List.set_cons_zero, List.set_cons_succ])
            refine wpAnyH_take (i := 7) (oi := ⟨some 130, _, _, _, _, _⟩) (v := ?_) rfl (by kernel_rfl) (by kernel_rfl) (by kernel_rfl) (fun _ _ _ h => h) (Or.inl ⟨by kernel_rfl, ?_⟩) (by assumption) ?_
            rotate_left
            · (intro wS hSw; (try dsimp only at hSw); obtain ⟨q0, q1, _, _⟩ := (hBe.below hSw).two; obtain ⟨p0, p1, _, _⟩ := (hDe.below hSw).two; obtain ⟨x0, x1, _, _⟩ := (hbox.below hSw).two; clear hSw; go_simp; (try with_reducible rfl))
            (try simp only [Act.put, List.setIfInBounds_toArray, List.set_cons_zero, List.set_cons_succ])
            refine wpAnyH_take (i := 8) (oi := ⟨some 131, _, _, _, _, _⟩) (v := ?_) rfl (by kernel_rfl) (by kernel_rfl) (by kernel_rfl) (fun _ _ _ h => h) (Or.inl ⟨by kernel_rfl, ?_⟩) (by assumption) ?_
            rotate_left
            · (intro wS hSw; (try dsimp only at hSw); obtain ⟨q0, q1, _, _⟩ := (hBe.below hSw).two; obtain ⟨p0, p1, _, _⟩ := (hDe.below hSw).two; obtain ⟨x0, x1, _, _⟩ := (hbox.below hSw).two; clear hSw; go_simp; (try with_reducible rfl))
            (try simp only [Act.put, List.setIfInBounds_toArray, List.set_cons_zero, List.set_cons_succ])
            refine wpAnyH_take (i := 9) (oi := ⟨some 132, _, _, _, _, _⟩) (v := ?_) rfl (by kernel_rfl) (by kernel_rfl) (by kernel_rfl) (fun _ _ _ h => h) (Or.inl ⟨by kernel_rfl, ?_⟩) (by assumption) ?_
            rotate_left
            · (intro wS hSw; (try dsimp only at hSw); obtain ⟨q0, q1, _, _⟩ := (hBe.below hSw).two; obtain ⟨p0, p1, _, _⟩ := (hDe.below hSw).two; obtain ⟨x0, x1, _, _⟩ := (hbox.below hSw).two; clear hSw; go_simp; (try with_reducible rfl))
            (try simp only [Act.put, List.setIfInBounds_toArray, List.set_cons_zero, List.set_cons_succ])
            refine wpAnyH_take (i := 10) (oi := ⟨some 133, _, _, _, _, _⟩) (v := ?_) rfl (by kernel_rfl) (by kernel_rfl) (by kernel_rfl) (fun _ _ _ h => h) (Or.inl ⟨by kernel_rfl, ?_⟩) (by assumption) ?_
            rotate_left
            · (intro wS hSw; (try dsimp only at hSw); obtain ⟨q0, q1, _, _⟩ := (hBe.below hSw).two; obtain ⟨p0, p1, _, _⟩ := (hDe.below hSw).two; obtain ⟨x0, x1, _, _⟩ := (hbox.below hSw).two; clear hSw; go_simp; (try with_reducible rfl))
            (try simp only [Act.put, List.setIfInBounds_toArray, List.set_cons_zero, List.set_cons_succ])
            refine wpAnyH_take (i := 11) (oi := ⟨some 134, _, _, _, _, _⟩) (v := ?_) rfl (by kernel_rfl) (by kernel_rfl) (by kernel_rfl) (fun _ _ _ h => h) (Or.inl ⟨by kernel_rfl, ?_⟩) (by assumption) ?_
            rotate_left
            · (intro wS hSw; (try dsimp only at hSw); obtain ⟨q0, q1, _, _⟩ := (hBe.below hSw).two; obtain ⟨p0, p1, _, _⟩ := (hDe.below hSw).two; obtain ⟨x0, x1, _, _⟩ := (hbox.below hSw).two; clear hSw; go_simp; (try with_reducible rfl))
            (try simp only [Act.put, List.setIfInBounds_toArray, List.set_cons_zero, List.set_cons_succ])
            refine wpAnyH_take (i := 12) (oi := ⟨some 135, _, _, _, _, _⟩) (v := ?_) rfl (by kernel_rfl) (by kernel_rfl) (by kernel_rfl) (fun _ _ _ h => h) (Or.inl ⟨by kernel_rfl, ?_⟩) (by assumption) ?_
            rotate_left
            · (intro wS hSw; (try dsimp only at hSw); obtain ⟨q0, q1, _, _⟩ := (hBe.below hSw).two; obtain ⟨p0, p1, _, _⟩ := (hDe.below hSw).two; obtain ⟨x0, x1, _, _⟩ := (hbox.below hSw).two; clear hSw; go_simp; (try with_reducible rfl))
            (try simp only [Act.put, List.setIfInBounds_toArray, List.set_cons_zero, List.set_cons_succ])
            refine wpAnyH_ready (rs := [13]) (by kernel_rfl) (by simp) ?_
            refine AllReadyH.cons (o := ⟨some 136, _, _, _, _, _⟩) rfl (fun K hK => ?_) AllReadyH.nil
            go_simp
            (refine (SSame_any f f mm cs _ (SlC.below hM hHeld) (h.below (bel_call hwe hHeld))).mono ?_; rintro e w13 ⟨rfl, hb13⟩; rw [hdf.out hcs.out])
            go_wp2_with fail
            refine hK.out _ _ ?_ (fun _ => ?_)
            · ((try dsimp only); (first | exact hst | exact hHeld | exact bel_call hHeld hb11 | exact bel_call hHeld hb12 | exact bel_call hHeld hb13))
            clear hK K
            (try simp only [Act.put, List.setIfInBounds_toArray, List.set_cons_zero, List.set_cons_succ])
            refine gen0 (T := fun W => ((fun W => Below wr.heap.size wr W)) W ∧ True) ?_ (fun wq4 hT => ?_)
            · exact ⟨by (first | exact hst | exact hHeld | exact bel_call hHeld hb11 | exact bel_call hHeld hb12 | exact bel_call hHeld hb13), trivial⟩
            (try clear f0 f1 f2 f3 f4 f5 f6 f7 f8 f9 f10 f11)
            obtain ⟨hHeld, -⟩ := hT
            refine wpAnyH_take (i := 14) (oi := ⟨some 137, _, _, _, _, _⟩) (v := ?_) rfl (by kernel_rfl) (by kernel_rfl) (by kernel_rfl) (fun _ _ _ h => h) (Or.inl ⟨by kernel_rfl, ?_⟩) (by assumption) ?_
            rotate_left
            · (intro wS hSw; (try dsimp only at hSw); obtain ⟨q0, q1, _, _⟩ := (hBe.below hSw).two; obtain ⟨p0, p1, _, _⟩ := (hDe.below hSw).two; obtain ⟨x0, x1, _, _⟩ := (hbox.below hSw).two; clear hSw; go_simp; (try with_reducible rfl))
            (try simp only [Act.put, List.setIfInBounds_toArray, List.set_cons_zero, List.set_cons_succ])
            refine wpAnyH_take (i := 15) (oi := ⟨some 138, _, _, _, _, _⟩) (v := ?_) rfl (by kernel_rfl) (by kernel_rfl) (by kernel_rfl) (fun _ _ _ h => h) (Or.inl ⟨by kernel_rfl, ?_⟩) (by assumption) ?_
            rotate_left
            · (intro wS hSw; (try dsimp only at hSw); obtain ⟨q0, q1, _, _⟩ := (hBe.below hSw).two; obtain ⟨p0, p1, _, _⟩ := (hDe.below hSw).two; obtain ⟨x0, x1, _, _⟩ := (hbox.below hSw).two; clear hSw; go_simp; (try with_reducible rfl))
            (try simp only [Act.put, List.setIfInBounds_toArray, List.set_cons_zero, List.set_cons_succ])
            refine wpAnyH_done (by kernel_rfl) ?_ _
            have hm50 : m5.length = 0 := by
              rw [hm5.out]
              unfold sput
              rw [if_pos (by rw [HBD.out]; exact HB0.out)]
              rfl
            have hm5e : ((m5.length : Int) == 0) = true := by rw [hm50]; rfl
            clear hm50
            go_wp2_with fail
            go_ret
            exact ⟨rfl, bel_call hwe hHeld⟩
theorem sputs_all {E : Option Addr} {cap : Nat} {f a : Int} {cs : List CeV} (w : World) (h : SlC w E cap cs) (hf : I64 f) (ha : I64 a) :
    Calls Try.prog 6 #[cv f E cs.length cap, .int .i64 a] w fun e w' => e = .returned (.bool true) ∧ Below w.heap.size w w' := by
  cases hl : longb (cs.map ceOf) 80
  · by_cases h0 : schk (f, cs.map ceOf) = 0
    · exact sputs_good w h hl hf ha (Lib.hid h0)
    · exact sputs_bad w h hl hf ha (Lib.hid h0)
  · exact sputs_early w h hl
end Go.Proofs.Ytjkdnnekagcdhaa
