/- WHAT IT HOLDS: taking cells out of no reader, walked; the law CellTakes, walked. | WHAT IT HOLDS: arguments that are segments, arrays, opened to the words of Kit. -/
import Derived.Test.YtgipfenjachpnaaCellTakesG17
import Derived.Test.YtgipfenjachpnaaCellTakesG08
import Derived.Test.YtgipfenjachpnaaCellTakesG18
import Derived.Test.YtgipfenjachpnaaCellTakesG16
import Derived.Test.YtgipfenjachpnaaCellTakesG05
namespace Go.Proofs.Ytgipfenjachpnaa
open Go.RowKit
attribute [local go_sem ↓] Go.wp_at_zero Go.wp_at_succ

set_option maxRecDepth 100000 in
set_option maxHeartbeats 1000000 in
theorem CTake_none (w : World) : Calls Try.prog 29 #[.pointer none] w fun e w' => e = .returned (cv 0 none 0 0) ∧ Below w.heap.size w w' := by
  have hRes := (Blk.new w 24 #[.int .i64 0, .slice none 0 0]).alloc (.cells #[.int .i64 0, .slice none 0 0] 24)
  have hw := bel_alloc (below_new w (.cells #[.int .i64 0, .slice none 0 0] 24)) (.cells #[.int .i64 0, .slice none 0 0] 24)
  obtain ⟨r0, r1, rf0, rf1⟩ := hRes.two
  go_enter Try.func29, Try.ntmps29
  go_wp2_with fail
  refine (Within_nil 3 _).mono ?_
  rintro e w2 ⟨rfl, rfl⟩
  go_wp2_with fail
  refine (Err_nil _).mono ?_
  rintro e w3 ⟨rfl, rfl⟩
  go_wp2_with fail
  exact bodyPost_ret (res_c1 rfl rfl (g := w.heap.size) hRes) rfl ⟨rfl, hw⟩
set_option maxRecDepth 100000 in
set_option maxHeartbeats 1000000 in
theorem TakeRun_none (w : World) : Calls Try.prog 34 #[.pointer none] w fun e w' => e = .returned (.slice none 0 0) ∧ Below w.heap.size w w' := by
  have hT := Blk.new w 140 #[.pointer none, .slice none 0 0, .int .i64 0, .slice none 0 0, .int .i64 1]
  have hw := below_new w (.cells #[.pointer none, .slice none 0 0, .int .i64 0, .slice none 0 0, .int .i64 1] 140)
  obtain ⟨a0, a1, a2, a3, a4, af⟩ := hT.five
  go_enter Try.func34, Try.ntmps34
  go_wp2_with fail
  refine (Number_nil _).mono ?_
  rintro e w2 ⟨rfl, rfl⟩
  go_wp2_with fail
  go_loopw [] (fun wr => wr = w.alloc (.cells #[.pointer none, .slice none 0 0, .int .i64 0, .slice none 0 0, .int .i64 1] 140)) (fun wr => 0)
  case atStart => rfl
  case round =>
    subst hrel
    go_wp2_with fail
    refine (Err_nil _).mono ?_
    rintro e w3 ⟨rfl, rfl⟩
    go_wp2_with fail
    go_ret
    exact ⟨rfl, hw⟩
theorem Own.setAnyB {w : World} {base c j : Nat} {A : Option Addr} {l : List UInt8} (h : OwnB w base 5 A c l) (g : Nat) (y : UInt8) : ∃ l' : List UInt8, l'.length = l.length ∧ OwnB (w.setCell ⟨g, j, none⟩ (bv y)) base 5 A c l' := by
  rcases Decidable.em (A.map (·.block) = some g) with hA | hA
  · obtain ⟨h1, h2⟩ := h
    rcases h2 with ⟨hv, h0⟩ | ⟨g2, cap, cur, hv, hb, hh, hnc, hcm, hs, ht⟩
    · injection hv with hv; rw [hv] at hA; simp at hA
    · injection hv with hv hn hc
      rw [hv] at hA
      simp at hA
      subst hA
      have hl : ((bvs l).set j (bv y)) = bvs (l.set j y) := by rw [bvs, bvs, List.map_set]
      refine ⟨l.set j y, by simp, by simp [h1], .inr ⟨g2, cap, cur.setIfInBounds j (bv y), by rw [hv, hc, List.length_set], hb, heap_setCell_same w g2 j cur _ _ hh, by simpa using hnc, hcm, by simpa using hs, ?_⟩⟩
      rw [Array.toList_setIfInBounds, List.take_set, List.length_set, ht, hl]
  · exact ⟨l, rfl, Own.setOther h hA _ _⟩
theorem takeRun_len {l : List UInt8} (hl : l.length ≤ 1000000000) : (takeRun (l, 0)).1.length ≤ 64 := by
  obtain ⟨cs, s', he⟩ : ∃ cs s', takeRun (l, 0) = (cs, s') := ⟨_, _, rfl⟩
  by_cases hb : s'.2 = 0
  · rw [he]
    exact (takeRun_back hl he hb).2.2
  · have hn : (takeRun (l, 0)).1 = [] := by
      have h2 : (takeRun (l, 0)).2.2 ≠ 0 := by rw [he]; exact hb
      unfold takeRun at h2 ⊢
      by_cases hc : (tkEnd (tkNew (l, 0))).s.2 ≠ 0
      · rw [if_pos hc]
      · rw [if_neg hc] at h2; exact absurd (Decidable.byContradiction hc) h2
    rw [hn]; simp
def bt (w : World) (base : Nat) (x : CeV) : Prop := ∃ l : List UInt8, l.length = x.2.2.2.length ∧ OwnB w base 5 x.2.1 x.2.2.1 l
/-- the cells taken, their bytes turned -/
structure Mut (w0 : World) (base : Nat) (A : Option Addr) (c : Nat) (m : List CeV) (W : World) : Prop where
  row : Own W base 24 2 A m.length c (m.flatMap cf)
  txt : ∀ x ∈ m, bt W base x
  bel : Below base w0 W
theorem Mut.place {w0 W : World} {base c : Nat} {A : Option Addr} {m : List CeV} (h : Mut w0 base A c m W) (hm : 0 < m.length) : ∃ g, A = some ⟨g, 0, none⟩ ∧ base ≤ g := by
  obtain ⟨g, cur, hA, hg, _⟩ := h.row.row (by rw [flat_len (f := cf) (s := 2) (fun _ => rfl)]; omega)
  exact ⟨g, hA, hg⟩
theorem Mut.cell {w0 W : World} {base c g : Nat} {m : List CeV} (h : Mut w0 base (some ⟨g, 0, none⟩) c m W) {i : Nat} (hi : i < m.length) : W.cell? ⟨g, i * 2 + 1, none⟩ = some (.slice m[i].2.1 m[i].2.2.2.length m[i].2.2.1) ∧ True := by
  have hl : i * 2 + 1 < (m.flatMap cf).length := by rw [flat_len (f := cf) (s := 2) (fun _ => rfl)]; omega
  have h1 := h.row.cellAt hl
  have h2 := flat_get (f := cf) (s := 2) (fun _ => rfl) m i 1 hi (by decide)
  rw [List.getElem?_eq_getElem hl] at h2
  injection h2 with h2
  rw [h2] at h1
  exact ⟨h1, trivial⟩
theorem Mut.turn {w0 W : World} {base c : Nat} {A : Option Addr} {m : List CeV} (h : Mut w0 base A c m W) {x : CeV} (hx : x ∈ m) {j : Nat} (hj : j < x.2.2.2.length) : ∃ (g : Nat) (b : UInt8), x.2.1 = some ⟨g, 0, none⟩ ∧ W.cell? ⟨g, j, none⟩ = some (bv b) ∧ W.frozen? ⟨g, j, none⟩ = false ∧ ∀ y : UInt8, Mut w0 base A c m (W.setCell ⟨g, j, none⟩ (bv y)) := by
  obtain ⟨l, hl, ho⟩ := h.txt x hx
  obtain ⟨g, cur, hA, hg, _⟩ := ho.row (by simp; omega)
  rw [hA] at ho
  have hc := ho.cellAt (j := j) (by simp; omega)
  refine ⟨g, l[j]'(by omega), hA, by simpa using hc, ho.frz j, fun y => ⟨h.row.setOther (fun hg2 => Own.apart h.row ho (by decide) g hg2 rfl) _ _, fun x' hx' => ?_, h.bel.setCell hg _⟩⟩
  obtain ⟨l', hl', ho'⟩ := h.txt x' hx'
  obtain ⟨l2, h2, h3⟩ := ho'.setAnyB g (j := j) y
  exact ⟨l2, by rw [h2, hl'], h3⟩
set_option maxRecDepth 100000 in
set_option maxHeartbeats 1000000 in
theorem ctakes_early {A : Option Addr} {c : Nat} {b : List UInt8} (w : World) (h : SlB w A c b) (hl : 3000 < b.length) :
    Calls Try.prog 5 #[.slice A b.length c] w fun e w' => e = .returned (.bool true) ∧ Below w.heap.size w w' := by
  have hm := h.len_le
  unfold maxLen at hm
  have hlI : (3000 : Int) < (b.length : Int) := by omega
  go_enter Try.func5, Try.ntmps5
  go_wp2_with fail
  refine (alive05_any _).mono ?_
  rintro e w1 ⟨rfl, hb1⟩
  go_wp2_with fail
  go_ret
  exact ⟨rfl, hb1⟩
set_option maxRecDepth 100000 in
set_option maxHeartbeats 4000000 in
theorem ctakes_walk {A : Option Addr} {c : Nat} {b : List UInt8} (w : World) (h : SlB w A c b) (hl : b.length ≤ 3000) :
    Calls Try.prog 5 #[.slice A b.length c] w fun e w' => e = .returned (.bool true) ∧ Below w.heap.size w w' := by
  have hlI : (b.length : Int) ≤ 3000 := by omega
  go_enter Try.func5, Try.ntmps5
  go_wp2_with fail
  refine (alive05_any _).mono ?_
  rintro e w1 ⟨rfl, hb1⟩
  go_wp2_with (at_builtin; go_must (refine wpl_fresh 22 5 Try.underlying22 u8_info rfl _ _ rfl rfl A c b rfl (h.below hb1) (by omega) ?_; intro A2 c2 m2 w2 hm2 ho2 hb2))
  obtain rfl : m2 = b := hm2.out
  have hw2 := bel_call hb1 hb2
  have hs2 : SlB w2 A2 c2 m2 := ho2.sl
  have hA2 : m2 ≠ [] → ∀ ad, A2 = some ad → ad.block < w2.heap.size := fun hne ad hA => Sl.lt0 hs2 (by cases m2 with | nil => exact absurd rfl hne | cons x r => exact List.cons_ne_nil _ _) ad.block (by rw [hA]; rfl)
  clear hb1 hb2 ho2 hm2
  refine (RNew_any A2 c2 m2 _ hs2).mono ?_
  rintro e w3 ⟨g, rfl, hg, hR, hb3⟩
  have hw3 := bel_call hw2 hb3
  have hs3 := Sl.below hs2 hb3
  have hgl := hR.lt
  clear hb3
  go_wp2_with fail
  refine (CTake_any hR (by omega) (by dsimp only; omega)).mono ?_
  rintro e w4 ⟨A4, c4, m4, rfl, hm4, hO4, hR4, hr4⟩
  have hb4 : Below w2.heap.size w3 w4 := hr4.below (by omega) hg
  have hw4 := hw3.trans (hb4.mono hw2.size)
  have hs4 : SlB w4 A2 c2 m2 := SlB.wrR hs3 hR hr4
  obtain ⟨⟨⟨k, d⟩, s4⟩, hrc⟩ : ∃ x, rCell (m2, 0) = x := ⟨_, rfl⟩
  rw [hrc] at hm4 hR4 ⊢
  dsimp only at hm4 hR4 ⊢
  obtain rfl := hm4.out
  have hg4 := hR4.lt
  clear hm4 hR hr4 hb4 hs3 hw3
  go_upto_region 8 with (fail)
  have hbx := below_new w4 (.cells #[.int .i64 k, .slice A4 m4.length c4] 24)
  have hX5 := Blk.new w4 24 #[.int .i64 k, .slice A4 m4.length c4]
  have hR5 := hR4.below hbx
  have hs5 := Sl.below hs4 hbx
  have hO5 : SlB _ A4 c4 m4 := Sl.below hO4.sl hbx
  have hw5 := bel_call hw4 hbx
  clear hbx hR4 hs4 hO4 hw4
  generalize hWe : w4.alloc (.cells #[.int .i64 k, .slice A4 m4.length c4] 24) = w5 at *
  clear hWe
  have hlt5 : w4.heap.size < w5.heap.size := hX5.lt
  generalize hge : w4.heap.size = gx at *
  clear hge
  go_wp2_with fail
  refine (rCTake_any (s := (m2, 0)) _ (h.below hw5) (B := w.heap.size) (fun hne ad hA => Sl.lt0 h (by cases m2 with | nil => exact absurd rfl hne | cons x r => exact List.cons_ne_nil _ _) ad.block (by rw [hA]; rfl)) hw5.size (by dsimp only; omega)).mono ?_
  rw [hrc]
  rintro e w6 ⟨v, rfl, ⟨A6, c6, rfl, hS6, -⟩, hb6⟩
  dsimp only
  go_upto_region 9 with (fail)
  have hb7 := bel_call hb6 (bel_alloc (below_new w6 (.cells #[.int .i64 k, .string ⟨m4.toArray⟩] 29)) (.cells #[.slice A6 s4.1.length c6, .int .i64 (s4.2 : Nat)] 63))
  have hQ7 := (Blk.new w6 29 #[.int .i64 k, .string ⟨m4.toArray⟩]).alloc (.cells #[.slice A6 s4.1.length c6, .int .i64 (s4.2 : Nat)] 63)
  have hP7 := Blk.newAt (w := w6.alloc (.cells #[.int .i64 k, .string ⟨m4.toArray⟩] 29)) (g := w6.heap.size + 1) (by simp) 63 #[.slice A6 s4.1.length c6, .int .i64 (s4.2 : Nat)]
  have hX7 := hX5.below hb7
  have hR7 := hR5.below hb7
  have hs7 := Sl.below hs5 hb7
  have hO7 := Sl.below hO5 hb7
  have hw7 := bel_call hw5 hb7
  have hw5x := hw5
  have hb6x := hb6
  clear hb6 hb7 hX5 hR5 hs5 hO5 hw5 hS6
  generalize hWe : (w6.alloc (.cells #[.int .i64 k, .string ⟨m4.toArray⟩] 29)).alloc (.cells #[.slice A6 s4.1.length c6, .int .i64 (s4.2 : Nat)] 63) = w7 at *
  clear hWe
  have hgqw : w.heap.size ≤ w6.heap.size := (bel_call hw5x hb6x).size
  clear hw5x hb6x
  generalize hge : w6.heap.size = gq at *
  clear hge
  have hnn := neq_dv k k m4 m4
  rw [show same (k, m4) (k, m4) = true from same_iff.2 rfl] at hnn
  have hst : Below w7.heap.size w7 w7.drew := (Below.refl _ _).drew
  obtain ⟨e1, he1⟩ : ∃ n, s4.2 = n := ⟨_, rfl⟩
  obtain ⟨e2, he2⟩ : ∃ n, rEnd s4 = n := ⟨_, rfl⟩
  have HErr := Lib.hid (fun (W : World) (hW : Below w7.heap.size w7 W) => Err_s (hR7.below hW))
  have HEnd := Lib.hid (fun (W : World) (hW : Below w7.heap.size w7 W) => End_s (hR7.below hW))
  have HREnd := Lib.hid (fun (W : World) => rEnd_v (A := A6) (c := c6) (s := s4) W)
  rw [he1] at HErr HREnd hP7 ⊢
  rw [he2] at HEnd HREnd
  clear he1 he2
  refine wp_region_held_drew (S := (fun W => Below w7.heap.size w7 W)) (by kernel_rfl) ?_ (fun hHeld => ?_)
  · exact hst
  refine gen0 (T := fun W => ((fun W => Below w7.heap.size w7 W)) W ∧ True) ?_ (fun wq1 hT => ?_)
  · exact ⟨by (first | exact hst | exact hHeld | exact bel_call hHeld hb8 | exact bel_call hHeld hb9), trivial⟩
  (try clear f0 f1 f2 f3 f4 f5 f6 f7 f8 f9 f10 f11)
  obtain ⟨hHeld, -⟩ := hT
  refine wpAnyH_take (i := 0) (oi := ⟨some 30, _, _, _, _, _⟩) (v := ?_) rfl (by kernel_rfl) (by kernel_rfl) (by kernel_rfl) (fun _ _ _ h => h) (Or.inl ⟨by kernel_rfl, ?_⟩) (by assumption) ?_
  rotate_left
  · (intro wS hSw; (try dsimp only at hSw); obtain ⟨q0, q1, _, _⟩ := (hX7.below hSw).two; obtain ⟨p0, p1, _, _⟩ := (hQ7.below hSw).two; obtain ⟨r0, r1, _, _⟩ := (hP7.below hSw).two; clear hSw; go_simp; (try with_reducible rfl))
  (try simp only [Act.put, List.setIfInBounds_toArray, List.set_cons_zero, List.set_cons_succ])
  refine wpAnyH_take (i := 2) (oi := ⟨some 32, _, _, _, _, _⟩) (v := ?_) rfl (by kernel_rfl) (by kernel_rfl) (by kernel_rfl) (fun _ _ _ h => h) (Or.inl ⟨by kernel_rfl, ?_⟩) (by assumption) ?_
  rotate_left
  · (intro wS hSw; (try dsimp only at hSw); obtain ⟨q0, q1, _, _⟩ := (hX7.below hSw).two; obtain ⟨p0, p1, _, _⟩ := (hQ7.below hSw).two; obtain ⟨r0, r1, _, _⟩ := (hP7.below hSw).two; clear hSw; go_simp; (try with_reducible rfl))
  (try simp only [Act.put, List.setIfInBounds_toArray, List.set_cons_zero, List.set_cons_succ])
  refine wpAnyH_ready (rs := [1]) (by kernel_rfl) (by simp) ?_
  refine AllReadyH.cons (o := ⟨some 31, _, _, _, _, _⟩) rfl (fun K hK => ?_) AllReadyH.nil
  go_simp
  (refine (Document_any k m4 _ (Sl.below hO7 hHeld)).mono ?_; rintro e w8 ⟨rfl, hb8⟩)
  go_wp2_with fail
  refine hK.out _ _ ?_ (fun _ => ?_)
  · ((try dsimp only); (first | exact hst | exact hHeld | exact bel_call hHeld hb8 | exact bel_call hHeld hb9))
  clear hK K
  (try simp only [Act.put, List.setIfInBounds_toArray, List.set_cons_zero, List.set_cons_succ])
  refine gen0 (T := fun W => ((fun W => Below w7.heap.size w7 W)) W ∧ True) ?_ (fun wq2 hT => ?_)
  · exact ⟨by (first | exact hst | exact hHeld | exact bel_call hHeld hb8 | exact bel_call hHeld hb9), trivial⟩
  (try clear f0 f1 f2 f3 f4 f5 f6 f7 f8 f9 f10 f11)
  obtain ⟨hHeld, -⟩ := hT
  refine wpAnyH_take (i := 3) (oi := ⟨some 33, _, _, _, _, _⟩) (v := ?_) rfl (by kernel_rfl) (by kernel_rfl) (by kernel_rfl) (fun _ _ _ h => h) (Or.inl ⟨by kernel_rfl, ?_⟩) (by assumption) ?_
  rotate_left
  · (intro wS hSw; (try dsimp only at hSw); obtain ⟨q0, q1, _, _⟩ := (hX7.below hSw).two; obtain ⟨p0, p1, _, _⟩ := (hQ7.below hSw).two; obtain ⟨r0, r1, _, _⟩ := (hP7.below hSw).two; clear hSw; go_simp; (try with_reducible rfl))
  (try simp only [Act.put, List.setIfInBounds_toArray, List.set_cons_zero, List.set_cons_succ])
  refine wpAnyH_take (i := 4) (oi := ⟨some 34, _, _, _, _, _⟩) (v := ?_) rfl (by kernel_rfl) (by kernel_rfl) (by kernel_rfl) (fun _ _ _ h => h) (Or.inl ⟨by kernel_rfl, ?_⟩) (by assumption) ?_
  rotate_left
  · (intro wS hSw; (try dsimp only at hSw); obtain ⟨q0, q1, _, _⟩ := (hX7.below hSw).two; obtain ⟨p0, p1, _, _⟩ := (hQ7.below hSw).two; obtain ⟨r0, r1, _, _⟩ := (hP7.below hSw).two; clear hSw; go_simp; (try with_reducible rfl))
  (try simp only [Act.put, List.setIfInBounds_toArray, List.set_cons_zero, List.set_cons_succ])
  refine wpAnyH_take (i := 5) (oi := ⟨some 35, _, _, _, _, _⟩) (v := ?_) rfl (by kernel_rfl) (by kernel_rfl) (by kernel_rfl) (fun _ _ _ h => h) (Or.inl ⟨by kernel_rfl, ?_⟩) (by assumption) ?_
  rotate_left
  · (intro wS hSw; (try dsimp only at hSw); obtain ⟨q0, q1, _, _⟩ := (hX7.below hSw).two; obtain ⟨p0, p1, _, _⟩ := (hQ7.below hSw).two; obtain ⟨r0, r1, _, _⟩ := (hP7.below hSw).two; clear hSw; go_simp; (try with_reducible rfl))
  (try simp only [Act.put, List.setIfInBounds_toArray, List.set_cons_zero, List.set_cons_succ])
  refine wpAnyH_take (i := 8) (oi := ⟨some 38, _, _, _, _, _⟩) (v := ?_) rfl (by kernel_rfl) (by kernel_rfl) (by kernel_rfl) (fun _ _ _ h => h) (Or.inl ⟨by kernel_rfl, ?_⟩) (by assumption) ?_
  rotate_left
  · (intro wS hSw; (try dsimp only at hSw); obtain ⟨q0, q1, _, _⟩ := (hX7.below hSw).two; obtain ⟨p0, p1, _, _⟩ := (hQ7.below hSw).two; obtain ⟨r0, r1, _, _⟩ := (hP7.below hSw).two; clear hSw; go_simp; (try with_reducible rfl))
  (try simp only [Act.put, List.setIfInBounds_toArray, List.set_cons_zero, List.set_cons_succ])
  refine wpAnyH_take (i := 9) (oi := ⟨some 39, _, _, _, _, _⟩) (v := ?_) rfl (by kernel_rfl) (by kernel_rfl) (by kernel_rfl) (fun _ _ _ h => h) (Or.inl ⟨by kernel_rfl, ?_⟩) (by assumption) ?_
  rotate_left
  · (intro wS hSw; (try dsimp only at hSw); obtain ⟨q0, q1, _, _⟩ := (hX7.below hSw).two; obtain ⟨p0, p1, _, _⟩ := (hQ7.below hSw).two; obtain ⟨r0, r1, _, _⟩ := (hP7.below hSw).two; clear hSw; go_simp; (try with_reducible rfl))
  (try simp only [Act.put, List.setIfInBounds_toArray, List.set_cons_zero, List.set_cons_succ])
  refine wpAnyH_ready (rs := [6]) (by kernel_rfl) (by simp) ?_
  refine AllReadyH.cons (o := ⟨some 36, _, _, _, _, _⟩) rfl (fun K hK => ?_) AllReadyH.nil
  go_simp
  (refine (HErr.out _ hHeld).mono ?_; rintro e w8 ⟨rfl, rfl⟩)
  go_wp2_with fail
  refine hK.out _ _ ?_ (fun _ => ?_)
  · ((try dsimp only); (first | exact hst | exact hHeld | exact bel_call hHeld hb8 | exact bel_call hHeld hb9))
  clear hK K
  (try simp only [Act.put, List.setIfInBounds_toArray, List.set_cons_zero, List.set_cons_succ])
  refine gen0 (T := fun W => ((fun W => Below w7.heap.size w7 W)) W ∧ True) ?_ (fun wq3 hT => ?_)
  · exact ⟨by (first | exact hst | exact hHeld | exact bel_call hHeld hb8 | exact bel_call hHeld hb9), trivial⟩
  (try clear f0 f1 f2 f3 f4 f5 f6 f7 f8 f9 f10 f11)
  obtain ⟨hHeld, -⟩ := hT
  refine wpAnyH_ready (rs := [7]) (by kernel_rfl) (by simp) ?_
  refine AllReadyH.cons (o := ⟨some 37, _, _, _, _, _⟩) rfl (fun K hK => ?_) AllReadyH.nil
  go_simp
  (first | ((with_reducible refine (num_any e1 _).mono ?_); rintro e w8 ⟨rfl, rfl⟩) | ((with_reducible refine (num_any e2 _).mono ?_); rintro e w8 ⟨rfl, rfl⟩))
  go_wp2_with fail
  refine hK.out _ _ ?_ (fun _ => ?_)
  · ((try dsimp only); (first | exact hst | exact hHeld | exact bel_call hHeld hb8 | exact bel_call hHeld hb9))
  clear hK K
  (try simp only [Act.put, List.setIfInBounds_toArray, List.set_cons_zero, List.set_cons_succ])
  refine gen0 (T := fun W => ((fun W => Below w7.heap.size w7 W)) W ∧ True) ?_ (fun wq4 hT => ?_)
  · exact ⟨by (first | exact hst | exact hHeld | exact bel_call hHeld hb8 | exact bel_call hHeld hb9), trivial⟩
  (try clear f0 f1 f2 f3 f4 f5 f6 f7 f8 f9 f10 f11)
  obtain ⟨hHeld, -⟩ := hT
  refine wpAnyH_take (i := 10) (oi := ⟨some 40, _, _, _, _, _⟩) (v := ?_) rfl (by kernel_rfl) (by kernel_rfl) (by kernel_rfl) (fun _ _ _ h => h) (Or.inl ⟨by kernel_rfl, ?_⟩) (by assumption) ?_
  rotate_left
  · (intro wS hSw; (try dsimp only at hSw); obtain ⟨q0, q1, _, _⟩ := (hX7.below hSw).two; obtain ⟨p0, p1, _, _⟩ := (hQ7.below hSw).two; obtain ⟨r0, r1, _, _⟩ := (hP7.below hSw).two; clear hSw; go_simp; (try with_reducible rfl))
  (try simp only [Act.put, List.setIfInBounds_toArray, List.set_cons_zero, List.set_cons_succ])
  refine wpAnyH_take (i := 11) (oi := ⟨some 41, _, _, _, _, _⟩) (v := ?_) rfl (by kernel_rfl) (by kernel_rfl) (by kernel_rfl) (fun _ _ _ h => h) (Or.inl ⟨by kernel_rfl, ?_⟩) (by assumption) ?_
  rotate_left
  · (intro wS hSw; (try dsimp only at hSw); obtain ⟨q0, q1, _, _⟩ := (hX7.below hSw).two; obtain ⟨p0, p1, _, _⟩ := (hQ7.below hSw).two; obtain ⟨r0, r1, _, _⟩ := (hP7.below hSw).two; clear hSw; go_simp; (try with_reducible rfl))
  (try simp only [Act.put, List.setIfInBounds_toArray, List.set_cons_zero, List.set_cons_succ])
  refine wpAnyH_take (i := 12) (oi := ⟨some 42, _, _, _, _, _⟩) (v := ?_) rfl (by kernel_rfl) (by kernel_rfl) (by kernel_rfl) (fun _ _ _ h => h) (Or.inl ⟨by kernel_rfl, ?_⟩) (by assumption) ?_
  rotate_left
  · (intro wS hSw; (try dsimp only at hSw); obtain ⟨q0, q1, _, _⟩ := (hX7.below hSw).two; obtain ⟨p0, p1, _, _⟩ := (hQ7.below hSw).two; obtain ⟨r0, r1, _, _⟩ := (hP7.below hSw).two; clear hSw; go_simp; (try with_reducible rfl))
  (try simp only [Act.put, List.setIfInBounds_toArray, List.set_cons_zero, List.set_cons_succ])
  refine wpAnyH_take (i := 13) (oi := ⟨some 43, _, _, _, _, _⟩) (v := ?_) rfl (by kernel_rfl) (by kernel_rfl) (by kernel_rfl) (fun _ _ _ h => h) (Or.inl ⟨by kernel_rfl, ?_⟩) (by assumption) ?_
  rotate_left
  · (intro wS hSw; (try dsimp only at hSw); obtain ⟨q0, q1, _, _⟩ := (hX7.below hSw).two; obtain ⟨p0, p1, _, _⟩ := (hQ7.below hSw).two; obtain ⟨r0, r1, _, _⟩ := (hP7.below hSw).two; clear hSw; go_simp; (try with_reducible rfl))
  (try simp only [Act.put, List.setIfInBounds_toArray, List.set_cons_zero, List.set_cons_succ])
  refine wpAnyH_take (i := 16) (oi := ⟨some 46, _, _, _, _, _⟩) (v := ?_) rfl (by kernel_rfl) (by kernel_rfl) (by kernel_rfl) (fun _ _ _ h => h) (Or.inl ⟨by kernel_rfl, ?_⟩) (by assumption) ?_
  rotate_left
  · (intro wS hSw; (try dsimp only at hSw); obtain ⟨q0, q1, _, _⟩ := (hX7.below hSw).two; obtain ⟨p0, p1, _, _⟩ := (hQ7.below hSw).two; obtain ⟨r0, r1, _, _⟩ := (hP7.below hSw).two; clear hSw; go_simp; (try with_reducible rfl))
  (try simp only [Act.put, List.setIfInBounds_toArray, List.set_cons_zero, List.set_cons_succ])
  refine wpAnyH_ready (rs := [14]) (by kernel_rfl) (by simp) ?_
  refine AllReadyH.cons (o := ⟨some 44, _, _, _, _, _⟩) rfl (fun K hK => ?_) AllReadyH.nil
  go_simp
  (refine (HEnd.out _ hHeld).mono ?_; rintro e w8 ⟨rfl, rfl⟩)
  go_wp2_with fail
  refine hK.out _ _ ?_ (fun _ => ?_)
  · ((try dsimp only); (first | exact hst | exact hHeld | exact bel_call hHeld hb8 | exact bel_call hHeld hb9))
  clear hK K
  (try simp only [Act.put, List.setIfInBounds_toArray, List.set_cons_zero, List.set_cons_succ])
  refine gen0 (T := fun W => ((fun W => Below w7.heap.size w7 W)) W ∧ True) ?_ (fun wq5 hT => ?_)
  · exact ⟨by (first | exact hst | exact hHeld | exact bel_call hHeld hb8 | exact bel_call hHeld hb9), trivial⟩
  (try clear f0 f1 f2 f3 f4 f5 f6 f7 f8 f9 f10 f11)
  obtain ⟨hHeld, -⟩ := hT
  refine wpAnyH_ready (rs := [15]) (by kernel_rfl) (by simp) ?_
  refine AllReadyH.cons (o := ⟨some 45, _, _, _, _, _⟩) rfl (fun K hK => ?_) AllReadyH.nil
  go_simp
  (first | ((with_reducible refine (num_any e1 _).mono ?_); rintro e w8 ⟨rfl, rfl⟩) | ((with_reducible refine (num_any e2 _).mono ?_); rintro e w8 ⟨rfl, rfl⟩))
  go_wp2_with fail
  refine hK.out _ _ ?_ (fun _ => ?_)
  · ((try dsimp only); (first | exact hst | exact hHeld | exact bel_call hHeld hb8 | exact bel_call hHeld hb9))
  clear hK K
  (try simp only [Act.put, List.setIfInBounds_toArray, List.set_cons_zero, List.set_cons_succ])
  refine gen0 (T := fun W => ((fun W => Below w7.heap.size w7 W)) W ∧ True) ?_ (fun wq6 hT => ?_)
  · exact ⟨by (first | exact hst | exact hHeld | exact bel_call hHeld hb8 | exact bel_call hHeld hb9), trivial⟩
  (try clear f0 f1 f2 f3 f4 f5 f6 f7 f8 f9 f10 f11)
  obtain ⟨hHeld, -⟩ := hT
  refine wpAnyH_ready (rs := [17]) (by kernel_rfl) (by simp) ?_
  refine AllReadyH.cons (o := ⟨some 47, _, _, _, _, _⟩) rfl (fun K hK => ?_) AllReadyH.nil
  go_simp
  (refine (HREnd.out _).mono ?_; rintro e w9 ⟨rfl, hb9⟩)
  go_wp2_with fail
  refine hK.out _ _ ?_ (fun _ => ?_)
  · ((try dsimp only); (first | exact hst | exact hHeld | exact bel_call hHeld hb8 | exact bel_call hHeld hb9))
  clear hK K
  (try simp only [Act.put, List.setIfInBounds_toArray, List.set_cons_zero, List.set_cons_succ])
  refine gen0 (T := fun W => ((fun W => Below w7.heap.size w7 W)) W ∧ True) ?_ (fun wq7 hT => ?_)
  · exact ⟨by (first | exact hst | exact hHeld | exact bel_call hHeld hb8 | exact bel_call hHeld hb9), trivial⟩
  (try clear f0 f1 f2 f3 f4 f5 f6 f7 f8 f9 f10 f11)
  obtain ⟨hHeld, -⟩ := hT
  refine wpAnyH_take (i := 18) (oi := ⟨some 48, _, _, _, _, _⟩) (v := ?_) rfl (by kernel_rfl) (by kernel_rfl) (by kernel_rfl) (fun _ _ _ h => h) (Or.inl ⟨by kernel_rfl, ?_⟩) (by assumption) ?_
  rotate_left
  · (intro wS hSw; (try dsimp only at hSw); obtain ⟨q0, q1, _, _⟩ := (hX7.below hSw).two; obtain ⟨p0, p1, _, _⟩ := (hQ7.below hSw).two; obtain ⟨r0, r1, _, _⟩ := (hP7.below hSw).two; clear hSw; go_simp; (try with_reducible rfl))
  (try simp only [Act.put, List.setIfInBounds_toArray, List.set_cons_zero, List.set_cons_succ])
  refine wpAnyH_take (i := 19) (oi := ⟨some 49, _, _, _, _, _⟩) (v := ?_) rfl (by kernel_rfl) (by kernel_rfl) (by kernel_rfl) (fun _ _ _ h => h) (Or.inl ⟨by kernel_rfl, ?_⟩) (by assumption) ?_
  rotate_left
  · (intro wS hSw; (try dsimp only at hSw); obtain ⟨q0, q1, _, _⟩ := (hX7.below hSw).two; obtain ⟨p0, p1, _, _⟩ := (hQ7.below hSw).two; obtain ⟨r0, r1, _, _⟩ := (hP7.below hSw).two; clear hSw; go_simp; (try with_reducible rfl))
  (try simp only [Act.put, List.setIfInBounds_toArray, List.set_cons_zero, List.set_cons_succ])
  refine wpAnyH_done (by kernel_rfl) ?_ _
  have hP8 := hP7.below hHeld
  have hs8 := Sl.below hs7 hHeld
  have hw8 := bel_call hw7 hHeld
  have hlo : w2.heap.size ≤ w7.heap.size := by have := hR7.lt; omega
  have hlo2 := hHeld.size
  clear hst HErr HEnd HREnd hnn hP7 hQ7 hX7 hR7 hs7 hO7 hw7 hHeld
  generalize hWe : wq7 = w8 at *
  clear hWe
  go_wp2_with fail
  refine (RNew_any A2 c2 m2 _ hs8).mono ?_
  rintro e w9 ⟨g2, rfl, hg2, hR9, hb9⟩
  have hgq : gq + 1 < w8.heap.size := hP8.lt
  replace hP8 := hP8.below hb9
  have hs9 := Sl.below hs8 hb9
  have hw9 := bel_call hw8 hb9
  have hgl9 := hR9.lt
  clear hb9 hs8 hw8
  go_wp2_with fail
  refine (TakeRun_any hR9 (by omega) (by dsimp only; omega)).mono ?_
  rintro e w10 ⟨A10, c10, m10, rfl, hm10, hN10, hR10, hr10⟩
  have hA9 : w2.heap.size ≤ w9.heap.size := by omega
  have hw9l : w.heap.size ≤ w9.heap.size := hw9.size
  have hq9 : gq + 1 < w9.heap.size := by omega
  obtain ⟨bs, hbs9⟩ : ∃ bs, w9.heap.size = bs := ⟨_, rfl⟩
  rw [hbs9] at hN10 hA9 hw9l hq9
  have hb10 : Below w8.heap.size w9 w10 := hr10.below (by omega) hg2
  have hws : w.heap.size ≤ w8.heap.size := by have := hw2.size; omega
  have hw10 := hw9.trans (hb10.mono hws)
  have hs10 : SlB w10 A2 c2 m2 := SlB.wrR hs9 hR9 hr10
  have hP10 := hP8.wr hr10 (by omega)
  obtain ⟨⟨ls, s10⟩, htr⟩ : ∃ x, takeRun (m2, 0) = x := ⟨_, rfl⟩
  rw [htr] at hm10 hR10
  dsimp only at hm10 hR10
  have hgl10 := hR10.lt
  have h910 := hr10.size
  have hmls : ls.length ≤ 64 := by
    have := takeRun_len (l := m2) (by omega)
    rw [htr] at this
    exact this
  have hml10 : m10.length ≤ 64 := by
    have := congrArg List.length hm10.out
    simp only [List.length_map] at this
    omega
  clear hR9 hr10 hb10 hs9 hw9 hP8
  go_wp2_with fail
  refine (rTakeRun_any (s := (m2, 0)) _ (h.below hw10) (B := w.heap.size) (fun hne ad hA => Sl.lt0 h (by cases m2 with | nil => exact absurd rfl hne | cons x r => exact List.cons_ne_nil _ _) ad.block (by rw [hA]; rfl)) hw10.size (by dsimp only; omega)).mono ?_
  rw [htr]
  rintro e w11 ⟨A11, c11, m11, v, rfl, hm11, hO11, ⟨A12, c12, rfl, hS12, -⟩, hb11⟩
  dsimp only at hm11
  have hP11 := hP10.below hb11
  have hR11 := hR10.below hb11
  have hN11 := hN10.below hb11
  have hs11 := Sl.below hs10 hb11
  have hw11 := bel_call hw10 hb11
  have h1011 := hb11.size
  clear hP10 hR10 hN10 hs10 hw10 hb11 hS12
  obtain ⟨x0, x1, xf0, xf1⟩ := hP11.two
  go_upto_region 14 with (fail)
  have hP12 := hP11.set2 (.slice A12 s10.1.length c12) (.int .i64 (s10.2 : Nat))
  have hR12 : IsR ((w11.setCell ⟨gq + 1, 0, none⟩ (.slice A12 s10.1.length c12)).setCell ⟨gq + 1, 1, none⟩ (.int .i64 (s10.2 : Nat))) g2 w8.heap.size s10 := by
    obtain ⟨Ar, cr, hB, hS, hBd⟩ := hR11
    exact ⟨Ar, cr, (hB.far (by dsimp only; omega) _).far (by dsimp only; omega) _, SlB.wr hS hP11 (slice_ne _ _ _) (inti_ne _) (((Wr.refl _ _).set_ 0 _).set_ 1 _), hBd⟩
  have hs12 : SlB ((w11.setCell ⟨gq + 1, 0, none⟩ (.slice A12 s10.1.length c12)).setCell ⟨gq + 1, 1, none⟩ (.int .i64 (s10.2 : Nat))) A2 c2 m2 := SlB.wr hs11 hP11 (slice_ne _ _ _) (inti_ne _) (((Wr.refl _ _).set_ 0 _).set_ 1 _)
  have hN12 := (hN11.setLow (g := gq + 1) (by omega) 0 (.slice A12 s10.1.length c12)).setLow (g := gq + 1) (by omega) 1 (.int .i64 (s10.2 : Nat))
  have hO12 := Own.set2 hO11 (g := gq + 1) (by omega) (.slice A12 s10.1.length c12) (.int .i64 (s10.2 : Nat))
  have hw12 := bel_set (bel_set hw11 (p := ⟨gq + 1, 0, none⟩) (by dsimp only; omega) (.slice A12 s10.1.length c12)) (p := ⟨gq + 1, 1, none⟩) (by dsimp only; omega) (.int .i64 (s10.2 : Nat))
  have hsz12 : ((w11.setCell ⟨gq + 1, 0, none⟩ (.slice A12 s10.1.length c12)).setCell ⟨gq + 1, 1, none⟩ (.int .i64 (s10.2 : Nat))).heap.size = w11.heap.size := by simp
  clear hP11 hR11 hs11 hN11 hO11 hw11 x0 x1 xf0 xf1
  generalize hWe : (w11.setCell ⟨gq + 1, 0, none⟩ (.slice A12 s10.1.length c12)).setCell ⟨gq + 1, 1, none⟩ (.int .i64 (s10.2 : Nat)) = w12 at *
  clear hWe
  have hst : Below w12.heap.size w12 w12.drew := (Below.refl _ _).drew
  obtain ⟨e3, he3⟩ : ∃ n, s10.2 = n := ⟨_, rfl⟩
  obtain ⟨e4, he4⟩ : ∃ n, rEnd s10 = n := ⟨_, rfl⟩
  have HErr := Lib.hid (fun (W : World) (hW : Below w12.heap.size w12 W) => Err_s (hR12.below hW))
  have HEnd := Lib.hid (fun (W : World) (hW : Below w12.heap.size w12 W) => End_s (hR12.below hW))
  have HREnd := Lib.hid (fun (W : World) => rEnd_v (A := A12) (c := c12) (s := s10) W)
  rw [he3] at HErr HREnd hP12 ⊢
  rw [he4] at HEnd HREnd
  clear he3 he4
  refine wp_region_held_drew (S := (fun W => Below w12.heap.size w12 W)) (by kernel_rfl) ?_ (fun hHeld => ?_)
  · exact hst
  refine gen0 (T := fun W => ((fun W => Below w12.heap.size w12 W)) W ∧ True) ?_ (fun wq1 hT => ?_)
  · exact ⟨by (first | exact hst | exact hHeld | exact bel_call hHeld hb8 | exact bel_call hHeld hb9), trivial⟩
  (try clear f0 f1 f2 f3 f4 f5 f6 f7 f8 f9 f10 f11)
  obtain ⟨hHeld, -⟩ := hT
  refine wpAnyH_take (i := 0) (oi := ⟨some 60, _, _, _, _, _⟩) (v := ?_) rfl (by kernel_rfl) (by kernel_rfl) (by kernel_rfl) (fun _ _ _ h => h) (Or.inl ⟨by kernel_rfl, ?_⟩) (by assumption) ?_
  rotate_left
  · (intro wS hSw; (try dsimp only at hSw); obtain ⟨r0, r1, _, _⟩ := (hP12.below hSw).two; clear hSw; go_simp; (try with_reducible rfl))
  (try simp only [Act.put, List.setIfInBounds_toArray, List.set_cons_zero, List.set_cons_succ])
  refine wpAnyH_take (i := 1) (oi := ⟨some 61, _, _, _, _, _⟩) (v := ?_) rfl (by kernel_rfl) (by kernel_rfl) (by kernel_rfl) (fun _ _ _ h => h) (Or.inl ⟨by kernel_rfl, ?_⟩) (by assumption) ?_
  rotate_left
  · (intro wS hSw; (try dsimp only at hSw); obtain ⟨r0, r1, _, _⟩ := (hP12.below hSw).two; clear hSw; go_simp; (try with_reducible rfl))
  (try simp only [Act.put, List.setIfInBounds_toArray, List.set_cons_zero, List.set_cons_succ])
  refine wpAnyH_ready (rs := [2]) (by kernel_rfl) (by simp) ?_
  refine AllReadyH.cons (o := ⟨some 62, _, _, _, _, _⟩) rfl (fun K hK => ?_) AllReadyH.nil
  go_simp
  (refine (Are_true m10 m11 _ (SlC.below hN12.slc hHeld) (Sl.below hO12.sl hHeld) (by rw [hm10.out, hm11.out]) (by omega)).mono ?_; rintro e w8 ⟨rfl, hb8⟩)
  go_wp2_with fail
  refine hK.out _ _ ?_ (fun _ => ?_)
  · ((try dsimp only); (first | exact hst | exact hHeld | exact bel_call hHeld hb8 | exact bel_call hHeld hb9))
  clear hK K
  (try simp only [Act.put, List.setIfInBounds_toArray, List.set_cons_zero, List.set_cons_succ])
  refine gen0 (T := fun W => ((fun W => Below w12.heap.size w12 W)) W ∧ True) ?_ (fun wq2 hT => ?_)
  · exact ⟨by (first | exact hst | exact hHeld | exact bel_call hHeld hb8 | exact bel_call hHeld hb9), trivial⟩
  (try clear f0 f1 f2 f3 f4 f5 f6 f7 f8 f9 f10 f11)
  obtain ⟨hHeld, -⟩ := hT
  refine wpAnyH_take (i := 3) (oi := ⟨some 63, _, _, _, _, _⟩) (v := ?_) rfl (by kernel_rfl) (by kernel_rfl) (by kernel_rfl) (fun _ _ _ h => h) (Or.inl ⟨by kernel_rfl, ?_⟩) (by assumption) ?_
  rotate_left
  · (intro wS hSw; (try dsimp only at hSw); obtain ⟨r0, r1, _, _⟩ := (hP12.below hSw).two; clear hSw; go_simp; (try with_reducible rfl))
  (try simp only [Act.put, List.setIfInBounds_toArray, List.set_cons_zero, List.set_cons_succ])
  refine wpAnyH_take (i := 4) (oi := ⟨some 64, _, _, _, _, _⟩) (v := ?_) rfl (by kernel_rfl) (by kernel_rfl) (by kernel_rfl) (fun _ _ _ h => h) (Or.inl ⟨by kernel_rfl, ?_⟩) (by assumption) ?_
  rotate_left
  · (intro wS hSw; (try dsimp only at hSw); obtain ⟨r0, r1, _, _⟩ := (hP12.below hSw).two; clear hSw; go_simp; (try with_reducible rfl))
  (try simp only [Act.put, List.setIfInBounds_toArray, List.set_cons_zero, List.set_cons_succ])
  refine wpAnyH_take (i := 5) (oi := ⟨some 65, _, _, _, _, _⟩) (v := ?_) rfl (by kernel_rfl) (by kernel_rfl) (by kernel_rfl) (fun _ _ _ h => h) (Or.inl ⟨by kernel_rfl, ?_⟩) (by assumption) ?_
  rotate_left
  · (intro wS hSw; (try dsimp only at hSw); obtain ⟨r0, r1, _, _⟩ := (hP12.below hSw).two; clear hSw; go_simp; (try with_reducible rfl))
  (try simp only [Act.put, List.setIfInBounds_toArray, List.set_cons_zero, List.set_cons_succ])
  refine wpAnyH_take (i := 8) (oi := ⟨some 68, _, _, _, _, _⟩) (v := ?_) rfl (by kernel_rfl) (by kernel_rfl) (by kernel_rfl) (fun _ _ _ h => h) (Or.inl ⟨by kernel_rfl, ?_⟩) (by assumption) ?_
  rotate_left
  · (intro wS hSw; (try dsimp only at hSw); obtain ⟨r0, r1, _, _⟩ := (hP12.below hSw).two; clear hSw; go_simp; (try with_reducible rfl))
  (try simp only [Act.put, List.setIfInBounds_toArray, List.set_cons_zero, List.set_cons_succ])
  refine wpAnyH_take (i := 9) (oi := ⟨some 69, _, _, _, _, _⟩) (v := ?_) rfl (by kernel_rfl) (by kernel_rfl) (by kernel_rfl) (fun _ _ _ h => h) (Or.inl ⟨by kernel_rfl, ?_⟩) (by assumption) ?_
  rotate_left
  · (intro wS hSw; (try dsimp only at hSw); obtain ⟨r0, r1, _, _⟩ := (hP12.below hSw).two; clear hSw; go_simp; (try with_reducible rfl))
  (try simp only [Act.put, List.setIfInBounds_toArray, List.set_cons_zero, List.set_cons_succ])
  refine wpAnyH_ready (rs := [6]) (by kernel_rfl) (by simp) ?_
  refine AllReadyH.cons (o := ⟨some 66, _, _, _, _, _⟩) rfl (fun K hK => ?_) AllReadyH.nil
  go_simp
  (refine (HErr.out _ hHeld).mono ?_; rintro e w8 ⟨rfl, rfl⟩)
  go_wp2_with fail
  refine hK.out _ _ ?_ (fun _ => ?_)
  · ((try dsimp only); (first | exact hst | exact hHeld | exact bel_call hHeld hb8 | exact bel_call hHeld hb9))
  clear hK K
  (try simp only [Act.put, List.setIfInBounds_toArray, List.set_cons_zero, List.set_cons_succ])
  refine gen0 (T := fun W => ((fun W => Below w12.heap.size w12 W)) W ∧ True) ?_ (fun wq3 hT => ?_)
  · exact ⟨by (first | exact hst | exact hHeld | exact bel_call hHeld hb8 | exact bel_call hHeld hb9), trivial⟩
  (try clear f0 f1 f2 f3 f4 f5 f6 f7 f8 f9 f10 f11)
  obtain ⟨hHeld, -⟩ := hT
  refine wpAnyH_ready (rs := [7]) (by kernel_rfl) (by simp) ?_
  refine AllReadyH.cons (o := ⟨some 67, _, _, _, _, _⟩) rfl (fun K hK => ?_) AllReadyH.nil
  go_simp
  (first | ((with_reducible refine (num_any e3 _).mono ?_); rintro e w8 ⟨rfl, rfl⟩) | ((with_reducible refine (num_any e4 _).mono ?_); rintro e w8 ⟨rfl, rfl⟩))
  go_wp2_with fail
  refine hK.out _ _ ?_ (fun _ => ?_)
  · ((try dsimp only); (first | exact hst | exact hHeld | exact bel_call hHeld hb8 | exact bel_call hHeld hb9))
  clear hK K
  (try simp only [Act.put, List.setIfInBounds_toArray, List.set_cons_zero, List.set_cons_succ])
  refine gen0 (T := fun W => ((fun W => Below w12.heap.size w12 W)) W ∧ True) ?_ (fun wq4 hT => ?_)
  · exact ⟨by (first | exact hst | exact hHeld | exact bel_call hHeld hb8 | exact bel_call hHeld hb9), trivial⟩
  (try clear f0 f1 f2 f3 f4 f5 f6 f7 f8 f9 f10 f11)
  obtain ⟨hHeld, -⟩ := hT
  refine wpAnyH_take (i := 10) (oi := ⟨some 70, _, _, _, _, _⟩) (v := ?_) rfl (by kernel_rfl) (by kernel_rfl) (by kernel_rfl) (fun _ _ _ h => h) (Or.inl ⟨by kernel_rfl, ?_⟩) (by assumption) ?_
  rotate_left
  · (intro wS hSw; (try dsimp only at hSw); obtain ⟨r0, r1, _, _⟩ := (hP12.below hSw).two; clear hSw; go_simp; (try with_reducible rfl))
  (try simp only [Act.put, List.setIfInBounds_toArray, List.set_cons_zero, List.set_cons_succ])
  refine wpAnyH_take (i := 11) (oi := ⟨some 71, _, _, _, _, _⟩) (v := ?_) rfl (by kernel_rfl) (by kernel_rfl) (by kernel_rfl) (fun _ _ _ h => h) (Or.inl ⟨by kernel_rfl, ?_⟩) (by assumption) ?_
  rotate_left
  · (intro wS hSw; (try dsimp only at hSw); obtain ⟨r0, r1, _, _⟩ := (hP12.below hSw).two; clear hSw; go_simp; (try with_reducible rfl))
  (try simp only [Act.put, List.setIfInBounds_toArray, List.set_cons_zero, List.set_cons_succ])
  refine wpAnyH_take (i := 12) (oi := ⟨some 72, _, _, _, _, _⟩) (v := ?_) rfl (by kernel_rfl) (by kernel_rfl) (by kernel_rfl) (fun _ _ _ h => h) (Or.inl ⟨by kernel_rfl, ?_⟩) (by assumption) ?_
  rotate_left
  · (intro wS hSw; (try dsimp only at hSw); obtain ⟨r0, r1, _, _⟩ := (hP12.below hSw).two; clear hSw; go_simp; (try with_reducible rfl))
  (try simp only [Act.put, List.setIfInBounds_toArray, List.set_cons_zero, List.set_cons_succ])
  refine wpAnyH_take (i := 13) (oi := ⟨some 73, _, _, _, _, _⟩) (v := ?_) rfl (by kernel_rfl) (by kernel_rfl) (by kernel_rfl) (fun _ _ _ h => h) (Or.inl ⟨by kernel_rfl, ?_⟩) (by assumption) ?_
  rotate_left
  · (intro wS hSw; (try dsimp only at hSw); obtain ⟨r0, r1, _, _⟩ := (hP12.below hSw).two; clear hSw; go_simp; (try with_reducible rfl))
  (try simp only [Act.put, List.setIfInBounds_toArray, List.set_cons_zero, List.set_cons_succ])
  refine wpAnyH_take (i := 16) (oi := ⟨some 76, _, _, _, _, _⟩) (v := ?_) rfl (by kernel_rfl) (by kernel_rfl) (by kernel_rfl) (fun _ _ _ h => h) (Or.inl ⟨by kernel_rfl, ?_⟩) (by assumption) ?_
  rotate_left
  · (intro wS hSw; (try dsimp only at hSw); obtain ⟨r0, r1, _, _⟩ := (hP12.below hSw).two; clear hSw; go_simp; (try with_reducible rfl))
  (try simp only [Act.put, List.setIfInBounds_toArray, List.set_cons_zero, List.set_cons_succ])
  refine wpAnyH_ready (rs := [14]) (by kernel_rfl) (by simp) ?_
  refine AllReadyH.cons (o := ⟨some 74, _, _, _, _, _⟩) rfl (fun K hK => ?_) AllReadyH.nil
  go_simp
  (refine (HEnd.out _ hHeld).mono ?_; rintro e w8 ⟨rfl, rfl⟩)
  go_wp2_with fail
  refine hK.out _ _ ?_ (fun _ => ?_)
  · ((try dsimp only); (first | exact hst | exact hHeld | exact bel_call hHeld hb8 | exact bel_call hHeld hb9))
  clear hK K
  (try simp only [Act.put, List.setIfInBounds_toArray, List.set_cons_zero, List.set_cons_succ])
  refine gen0 (T := fun W => ((fun W => Below w12.heap.size w12 W)) W ∧ True) ?_ (fun wq5 hT => ?_)
  · exact ⟨by (first | exact hst | exact hHeld | exact bel_call hHeld hb8 | exact bel_call hHeld hb9), trivial⟩
  (try clear f0 f1 f2 f3 f4 f5 f6 f7 f8 f9 f10 f11)
  obtain ⟨hHeld, -⟩ := hT
  refine wpAnyH_ready (rs := [15]) (by kernel_rfl) (by simp) ?_
  refine AllReadyH.cons (o := ⟨some 75, _, _, _, _, _⟩) rfl (fun K hK => ?_) AllReadyH.nil
  go_simp
  (first | ((with_reducible refine (num_any e3 _).mono ?_); rintro e w8 ⟨rfl, rfl⟩) | ((with_reducible refine (num_any e4 _).mono ?_); rintro e w8 ⟨rfl, rfl⟩))
  go_wp2_with fail
  refine hK.out _ _ ?_ (fun _ => ?_)
  · ((try dsimp only); (first | exact hst | exact hHeld | exact bel_call hHeld hb8 | exact bel_call hHeld hb9))
  clear hK K
  (try simp only [Act.put, List.setIfInBounds_toArray, List.set_cons_zero, List.set_cons_succ])
  refine gen0 (T := fun W => ((fun W => Below w12.heap.size w12 W)) W ∧ True) ?_ (fun wq6 hT => ?_)
  · exact ⟨by (first | exact hst | exact hHeld | exact bel_call hHeld hb8 | exact bel_call hHeld hb9), trivial⟩
  (try clear f0 f1 f2 f3 f4 f5 f6 f7 f8 f9 f10 f11)
  obtain ⟨hHeld, -⟩ := hT
  refine wpAnyH_ready (rs := [17]) (by kernel_rfl) (by simp) ?_
  refine AllReadyH.cons (o := ⟨some 77, _, _, _, _, _⟩) rfl (fun K hK => ?_) AllReadyH.nil
  go_simp
  (refine (HREnd.out _).mono ?_; rintro e w9 ⟨rfl, hb9⟩)
  go_wp2_with fail
  refine hK.out _ _ ?_ (fun _ => ?_)
  · ((try dsimp only); (first | exact hst | exact hHeld | exact bel_call hHeld hb8 | exact bel_call hHeld hb9))
  clear hK K
  (try simp only [Act.put, List.setIfInBounds_toArray, List.set_cons_zero, List.set_cons_succ])
  refine gen0 (T := fun W => ((fun W => Below w12.heap.size w12 W)) W ∧ True) ?_ (fun wq7 hT => ?_)
  · exact ⟨by (first | exact hst | exact hHeld | exact bel_call hHeld hb8 | exact bel_call hHeld hb9), trivial⟩
  (try clear f0 f1 f2 f3 f4 f5 f6 f7 f8 f9 f10 f11)
  obtain ⟨hHeld, -⟩ := hT
  refine wpAnyH_take (i := 18) (oi := ⟨some 78, _, _, _, _, _⟩) (v := ?_) rfl (by kernel_rfl) (by kernel_rfl) (by kernel_rfl) (fun _ _ _ h => h) (Or.inl ⟨by kernel_rfl, ?_⟩) (by assumption) ?_
  rotate_left
  · (intro wS hSw; (try dsimp only at hSw); obtain ⟨r0, r1, _, _⟩ := (hP12.below hSw).two; clear hSw; go_simp; (try with_reducible rfl))
  (try simp only [Act.put, List.setIfInBounds_toArray, List.set_cons_zero, List.set_cons_succ])
  refine wpAnyH_take (i := 19) (oi := ⟨some 79, _, _, _, _, _⟩) (v := ?_) rfl (by kernel_rfl) (by kernel_rfl) (by kernel_rfl) (fun _ _ _ h => h) (Or.inl ⟨by kernel_rfl, ?_⟩) (by assumption) ?_
  rotate_left
  · (intro wS hSw; (try dsimp only at hSw); obtain ⟨r0, r1, _, _⟩ := (hP12.below hSw).two; clear hSw; go_simp; (try with_reducible rfl))
  (try simp only [Act.put, List.setIfInBounds_toArray, List.set_cons_zero, List.set_cons_succ])
  refine wpAnyH_done (by kernel_rfl) ?_ _
  have hN13 := hN12.below hHeld
  have hs13 := Sl.below hs12 hHeld
  have hw13 := bel_call hw12 hHeld
  have hlo13 := hHeld.size
  clear hst HErr HEnd HREnd hP12 hR12 hN12 hs12 hO12 hw12 hHeld hm10 hm11
  generalize hWe : wq7 = w13 at *
  clear hWe
  have HDL := Lib.hid (fun (x : CeV) (hx : x ∈ m10) => (hN13.2 x hx).sl.len_le)
  go_wp2_with fail
  go_loopw [82] (fun s82 wr => ∃ i : Nat, i ≤ m10.length ∧ s82 = .int .i64 i ∧ Hid (Mut w13 bs A10 c10 m10 wr)) (fun s82 wr => m10.length - (intOf s82).toNat)
  case atStart => exact ⟨0, Nat.zero_le _, rfl, (show Mut _ _ _ _ _ _ from ⟨hN13.1, fun x hx => ⟨x.2.2.2, rfl, hN13.2 x hx⟩, Below.refl _ _⟩)⟩
  case round =>
    obtain ⟨i, hi, rfl, hM⟩ := hrel
    by_cases hlt : i < m10.length
    · obtain ⟨gr, rfl, hgr⟩ := hM.out.place (by omega)
      have HR := Lib.hid (fun (W : World) (hW : Mut w13 bs (some ⟨gr, 0, none⟩) c10 m10 W) => hW.cell hlt)
      have hmem := List.getElem_mem hlt
      generalize m10[i] = x at *
      obtain ⟨kk, Ax, cx, d⟩ := x
      dsimp only at *
      have had := addr_lit gr 0 (i * 2)
      rw [Nat.zero_add] at had
      obtain ⟨y0, _⟩ := HR.out _ hM.out
      have hdx := HDL.out _ hmem
      unfold maxLen at hdx
      dsimp only at hdx
      go_wp2_with fail
      clear y0
      go_loopw [91] (fun s91 wq => ∃ j : Nat, j ≤ d.length ∧ s91 = .int .i64 j ∧ Hid (Mut w13 bs (some ⟨gr, 0, none⟩) c10 m10 wq)) (fun s91 wq => d.length - (intOf s91).toNat)
      case atStart => exact ⟨0, Nat.zero_le _, rfl, hM.out⟩
      case round =>
        obtain ⟨j, hj, rfl, hMq⟩ := hrel
        clear hM
        obtain ⟨y0, _⟩ := HR.out _ hMq.out
        by_cases hjl : j < d.length
        · obtain ⟨gd, b0, hAx, hcd, hfd, hset⟩ := hMq.out.turn hmem hjl
          dsimp only at hAx
          subst hAx
          have had2 := addr_lit gd 0 j
          rw [Nat.zero_add] at had2
          have hx1 := Lib.hid (show bits .xor .u8 (b0.toNat : Int) 1 = ((b0 ^^^ 1).toNat : Int) from by
            rw [show (1 : Int) = ((1 : UInt8).toNat : Int) from rfl, xor_u8 b0.toNat_lt (1 : UInt8).toNat_lt, UInt8.toNat_xor])
          have HSET := Lib.hid (hset (b0 ^^^ 1))
          clear hset
          go_wp2_with fail
          rw [hx1.out]
          go_roundw
          case rel => exact ⟨j + 1, hjl, by go_num, HSET.out⟩
          case measure => simp [intOf]; omega
        · go_wp2_with fail
          go_roundw
          case rel => exact ⟨i + 1, hlt, by go_num, hMq.out⟩
          case measure => simp [intOf]; omega
    · have hw14 := hw13.trans (hM.out.bel.mono (by omega))
      have hs14 : SlB wr A2 c2 m2 := SlB.apart hs13 hA2 hA9 hM.out.bel
      have hqq := Lib.hid (show (m2 == m2) = true from by simp)
      clear hM
      go_wp2_with fail
      refine (nBytes_any A2 A c2 c m2 m2 _ hs14 (h.below hw14)).mono ?_
      rintro e w14 ⟨rfl, rfl⟩
      rw [hqq.out]
      go_wp2_with fail
      refine (TakeRun_none _).mono ?_
      rintro e w15 ⟨rfl, hb15⟩
      go_wp2_with fail
      refine (CTake_none _).mono ?_
      rintro e w16 ⟨rfl, hb16⟩
      go_wp2_with fail
      refine (CSame_any (A := none) (A2 := none) (c := 0) (c2 := 0) 0 0 [] [] _ (Sl.none_ _ _) (Sl.none_ _ _)).mono ?_
      rintro e w17 ⟨rfl, hb17⟩
      rw [show same (0, []) (0, []) = true from same_iff.2 rfl]
      go_wp2_with fail
      go_ret
      exact ⟨rfl, bel_call (bel_call (bel_call hw14 hb15) hb16) hb17⟩
theorem ctakes_all {A : Option Addr} {c : Nat} {b : List UInt8} (w : World) (h : SlB w A c b) :
    Calls Try.prog 5 #[.slice A b.length c] w fun e w' => e = .returned (.bool true) ∧ Below w.heap.size w w' := by
  rcases Nat.lt_or_ge 3000 b.length with hl | hl
  · exact ctakes_early w h hl
  · exact ctakes_walk w h hl
end Go.Proofs.Ytgipfenjachpnaa

namespace Go.Proofs.Ytgipfenjachpnaa
open Go.ChangeShapes Go.WideShapes Go.ChangeAt Go.RowKit Go.Deep

/-- a slice of structs of one-cell fields, as a struct's field -/
theorem open_structsF {H : Type} {enc : TypeId × Value → H} {P : Program} {w : World} {base : Nat} {held : Bool} {t e : TypeId} {v : Value} {fs : Array Field}
    {T : Type} (f : T → List Value) (Q : T → Prop) (hfl : ∀ x, (f x).length = fs.size)
    (ht : P.underlying t = some (.slice e)) (he : P.underlying e = some (.struct fs)) (hone : oneCellFields P fs = true) (hC : P.cellsOf e = fs.size)
    (hel : ∀ vs : List Value, vs.length = fs.size → (∀ (j : Nat) (fd : Field), fs[j]? = some fd → ∃ (u : Value) (n : Nat) (y : DataW H × List MemPlace), vs[j]? = some u ∧ DataW.trod enc P w base (fun _ => true) held n fd.type [u] = some y) → ∃ x : T, f x = vs ∧ Q x)
    {fuel : Nat} {yy : DataW H × List MemPlace} (hf : DataW.trod enc P w base (fun _ => true) held fuel t [v] = some yy) :
    ∃ (A : Option Addr) (c : Nat) (l : List T), v = .slice A l.length c ∧ Sl w fs.size A l.length c (l.flatMap f) ∧ ∀ x ∈ l, Q x := by
  rcases open_slice_fields ht he hone hC hf with ⟨hcs, _⟩ | ⟨a, n, c, m, D, Pl, hcs, _, hl, hm, hmm, _, hi⟩
  · simp at hcs
    subst hcs
    exact ⟨none, 0, [], rfl, by simpa using Sl.none_ w fs.size, fun x hx => by simp at hx⟩
  · simp at hcs
    subst hcs
    simp only [if_true] at hmm
    subst hmm
    have hx : ∀ i, i < n → ∃ x : T, Q x ∧ ∀ j u, (f x)[j]? = some u → w.cell? (a.add (i * fs.size + j)) = some u := by
      intro i hin
      obtain ⟨ys, nn, _, _, _, hfd⟩ := hi i (by omega)
      have hc : ∀ j, j < fs.size → ∃ u : Value, w.cell? (a.add (i * fs.size + j)) = some u ∧ ∃ y : DataW H × List MemPlace, DataW.trod enc P w base (fun _ => true) held nn (fs[j]!).type [u] = some y := by
        intro j hj
        obtain ⟨u, y, h1, _, h3⟩ := hfd j fs[j] (by simp [hj])
        exact ⟨u, h1, y, by simpa [hj] using h3⟩
      obtain ⟨vs, hvl, hvr⟩ := list_choice (fun j u => w.cell? (a.add (i * fs.size + j)) = some u ∧ ∃ y : DataW H × List MemPlace, DataW.trod enc P w base (fun _ => true) held nn (fs[j]!).type [u] = some y) fs.size hc
      obtain ⟨x, hxe, hxq⟩ := hel vs hvl fun j fd hj => by
        have hjl : j < fs.size := (Array.getElem?_eq_some_iff.1 hj).1
        obtain ⟨_, y, hy⟩ := hvr j (by omega)
        have hfe : fs[j]! = fd := by
          have := (Array.getElem?_eq_some_iff.1 hj).2
          simp [hjl, this]
        rw [hfe] at hy
        exact ⟨vs[j], nn, y, List.getElem?_eq_getElem (by omega), hy⟩
      refine ⟨x, hxq, fun j u hj => ?_⟩
      rw [hxe] at hj
      obtain ⟨hjl, hju⟩ := List.getElem?_eq_some_iff.1 hj
      rw [← hju]
      exact (hvr j hjl).1
    obtain ⟨l, hll, hlr⟩ := list_choice _ n hx
    refine ⟨some a, _, l, by rw [hll], ⟨flat_len hfl l, by omega, hm, (fun h => by cases h), fun j u hj => ⟨a, rfl, ?_⟩⟩, fun x hx => ?_⟩
    · rcases Nat.eq_zero_or_pos fs.size with h0 | h0
      · have := (List.getElem?_eq_some_iff.1 hj).1
        rw [flat_len hfl, h0] at this
        omega
      · have hjl := (List.getElem?_eq_some_iff.1 hj).1
        rw [flat_len hfl] at hjl
        have hk : j / fs.size < l.length := by rw [Nat.div_lt_iff_lt_mul h0]; exact hjl
        have hr : j % fs.size < fs.size := Nat.mod_lt _ h0
        have he := flat_get hfl l (j / fs.size) (j % fs.size) hk hr
        have hj2 : j / fs.size * fs.size + j % fs.size = j := by rw [Nat.mul_comm]; exact Nat.div_add_mod _ _
        rw [hj2, hj] at he
        have := (hlr _ hk).2 _ _ he.symm
        rwa [hj2] at this
    · obtain ⟨i, hi, rfl⟩ := List.getElem_of_mem hx
      exact (hlr i hi).1

section
variable {H : Type} {enc : TypeId × Value → H} {P : Program} {w : World} {base b0 : Nat} {held : Bool} {r : Reach} {t e b u : TypeId} {v : Value} {d : DataW H} {p : List MemPlace}
theorem open_seg {g0 g1 f0 f1 : Field} (hs : P.underlying t = some (.struct #[g0, g1])) (hg0 : P.underlying g0.type = some (.int .i64)) (hg1 : P.underlying g1.type = some (.slice b)) (hb : P.underlying b = some (.struct #[f0, f1])) (h0 : P.underlying f0.type = some (.int .i64)) (h1 : P.underlying f1.type = some (.slice e)) (he : P.underlying e = some (.int .u8))
    (hCe : P.cellsOf e = 1) (hone : oneCellFields P #[f0, f1] = true) (hC : P.cellsOf b = 2) (hone2 : oneCellFields P #[g0, g1] = true) (hC2 : P.cellsOf t = 2) (hv : Value.okWide P w r b0 t v) (h : DataW.Trod enc P w base (fun _ => true) held t v d p) :
    ∃ (k : Int) (A : Option Addr) (c : Nat) (l : List CeV), v = cv k A l.length c ∧ SlC w A c l := by
  obtain ⟨v0, v1, y0, y1, n, rfl, _, _, q0, q1⟩ := Go.Joins.open_agg2 hs hone2 hC2 hv h
  obtain ⟨k, rfl, hk⟩ := int_cell hg0 q0
  obtain ⟨A, c, l, rfl, hl, hq⟩ := open_structsF cf (fun x => I64 x.1 ∧ SlB w x.2.1 x.2.2.1 x.2.2.2) (fun _ => rfl) hg1 hb hone hC (by
    intro vs hl hf
    obtain ⟨u0, n0, y0, e0, t0⟩ := hf 0 f0 rfl
    obtain ⟨u1, n1, y1, e1, t1⟩ := hf 1 f1 rfl
    obtain ⟨k, rfl, hk⟩ := int_cell h0 t0
    obtain ⟨A, c, l, rfl, hb⟩ := bytes_cell h1 he hCe t1
    match vs, hl with
    | [x0, x1], _ =>
      simp at e0 e1
      exact ⟨(k, A, c, l), by simp [cf, e0, e1], hk, hb⟩) q1
  exact ⟨k, A, c, l, rfl, ⟨hl, fun x hx => (hq x hx).2⟩⟩
theorem open_segI {g0 g1 f0 f1 : Field} (hs : P.underlying t = some (.struct #[g0, g1])) (hg0 : P.underlying g0.type = some (.int .i64)) (hg1 : P.underlying g1.type = some (.slice b)) (hb : P.underlying b = some (.struct #[f0, f1])) (h0 : P.underlying f0.type = some (.int .i64)) (h1 : P.underlying f1.type = some (.slice e)) (he : P.underlying e = some (.int .u8))
    (hCe : P.cellsOf e = 1) (hone : oneCellFields P #[f0, f1] = true) (hC : P.cellsOf b = 2) (hone2 : oneCellFields P #[g0, g1] = true) (hC2 : P.cellsOf t = 2) (hv : Value.okWide P w r b0 t v) (h : DataW.Trod enc P w base (fun _ => true) held t v d p) :
    ∃ (k : Int) (A : Option Addr) (c : Nat) (l : List CeV), v = cv k A l.length c ∧ SlC w A c l ∧ I64 k := by
  obtain ⟨v0, v1, y0, y1, n, rfl, _, _, q0, q1⟩ := Go.Joins.open_agg2 hs hone2 hC2 hv h
  obtain ⟨k, rfl, hk⟩ := int_cell hg0 q0
  obtain ⟨A, c, l, rfl, hl, hq⟩ := open_structsF cf (fun x => I64 x.1 ∧ SlB w x.2.1 x.2.2.1 x.2.2.2) (fun _ => rfl) hg1 hb hone hC (by
    intro vs hl hf
    obtain ⟨u0, n0, y0, e0, t0⟩ := hf 0 f0 rfl
    obtain ⟨u1, n1, y1, e1, t1⟩ := hf 1 f1 rfl
    obtain ⟨k, rfl, hk⟩ := int_cell h0 t0
    obtain ⟨A, c, l, rfl, hb⟩ := bytes_cell h1 he hCe t1
    match vs, hl with
    | [x0, x1], _ =>
      simp at e0 e1
      exact ⟨(k, A, c, l), by simp [cf, e0, e1], hk, hb⟩) q1
  exact ⟨k, A, c, l, rfl, ⟨hl, fun x hx => (hq x hx).2⟩, hk⟩
theorem open_arr2 (hs : P.underlying t = some (.array 2 e)) (he : P.underlying e = some (.int .i64)) (hC : P.cellsOf t = 2) (hE : P.cellsOf e = 1) (hv : Value.okWide P w r b0 t v) (h : DataW.Trod enc P w base (fun _ => true) held t v d p) :
    ∃ a b : Int, v = .agg #[.int .i64 a, .int .i64 b] := by
  simp only [Value.okWide, hs] at hv
  obtain ⟨cs, rfl, hsz, _⟩ := hv
  obtain ⟨c0, c1, rfl⟩ : ∃ c0 c1, cs = #[c0, c1] := by
    have h2 := hsz.trans hC
    match cs, h2 with
    | ⟨[x, y]⟩, _ => exact ⟨x, y, rfl⟩
  obtain ⟨fuel, hf⟩ := h
  obtain ⟨xs, m, _, _, _, hlen, hg⟩ := DataW.trod_array hs hf
  have k0 := hg 0 (by omega)
  have k1 := hg 1 (by omega)
  rw [hE, List.getElem?_eq_getElem (by omega)] at k0 k1
  simp [Value.cells] at k0 k1
  obtain ⟨a, rfl, ha⟩ := int_cell he k0
  obtain ⟨b, rfl, hb⟩ := int_cell he k1
  exact ⟨a, b, rfl⟩
end
end Go.Proofs.Ytgipfenjachpnaa
