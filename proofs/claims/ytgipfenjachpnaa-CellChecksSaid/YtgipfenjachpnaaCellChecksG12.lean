/- WHAT IT HOLDS: the law CellChecks, walked. -/
import Derived.Test.YtgipfenjachpnaaCellChecksG07
import Derived.Test.YtgipfenjachpnaaCellChecksG03
import Derived.Test.YtgipfenjachpnaaCellChecksG08
import Derived.Deep.CutBlock
import Derived.Test.YtgipfenjachpnaaCellChecksG11
namespace Go.Proofs.Ytgipfenjachpnaa
open Go.ChangeShapes Go.WideShapes Go.ChangeAt Go.RowKit
attribute [local go_sem ↓] Go.wp_at_zero Go.wp_at_succ


theorem checks_early {A1 A2 : Option Addr} {c1 c2 : Nat} (k1 k2 kind : Int) (d1 d2 : List UInt8) (w : World) (ha : SlB w A1 c1 d1) (hb : SlB w A2 c2 d2) (hlong : longb [(k1, d1), (k2, d2)] 2 = true) :
    Calls Try.prog 3 #[cv k1 A1 d1.length c1, cv k2 A2 d2.length c2, .int .i64 kind] w fun e w' => e = .returned (.bool true) ∧ Below w.heap.size w w' := by
  have hB1 := (Blk.new w 24 #[.int .i64 k1, .slice A1 d1.length c1]).alloc (.cells #[.int .i64 k2, .slice A2 d2.length c2] 24)
  have hB2 := Blk.newAt (w := w.alloc (.cells #[.int .i64 k1, .slice A1 d1.length c1] 24)) (g := w.heap.size + 1) (by simp) 24 #[.int .i64 k2, .slice A2 d2.length c2]
  have hbw := bel_alloc (below_new w (.cells #[.int .i64 k1, .slice A1 d1.length c1] 24)) (.cells #[.int .i64 k2, .slice A2 d2.length c2] 24)
  go_enter Try.func3, Try.ntmps3
  go_wp2_with fail
  refine (alive05_any _).mono ?_
  rintro e w1 ⟨rfl, hb1⟩
  have hw1 := bel_call hbw hb1
  have hC1 := hB1.below hb1
  have hC2 := hB2.below hb1
  clear hB1 hB2 hbw hb1
  obtain ⟨a0, a1, _, _⟩ := hC1.two
  obtain ⟨b0, b1, _, _⟩ := hC2.two
  have hLong := fun W (h : SlC W (some ⟨w1.heap.size, 0, none⟩) 2 [(k1, A1, c1, d1), (k2, A2, c2, d2)]) => Long_any [(k1, A1, c1, d1), (k2, A2, c2, d2)] 2 W h
  simp only [List.map_cons, List.map_nil, hlong, ceOf] at hLong
  have HL := Lib.hid hLong
  clear hLong hlong
  go_wp2_with fail
  have hw2 := bel_alloc hw1 (.cells #[.int .i64 k1, .slice A1 d1.length c1, .int .i64 k2, .slice A2 d2.length c2] 24)
  refine (HL.out _ ⟨Sl.litsS w1 2 2 _ 24 (by rfl) (by simp [maxLen]), ?_⟩).mono ?_
  · intro x hx
    simp only [List.mem_cons, List.not_mem_nil, or_false] at hx
    rcases hx with rfl | rfl
    · exact ha.below hw2
    · exact hb.below hw2
  rintro e w2 ⟨rfl, hb2⟩
  go_wp2_with fail
  go_ret
  exact ⟨rfl, bel_call hw2 hb2⟩

theorem new_in {g' : Nat} {t' : TypeId} {cs' : Array Value} {w : World} {cs : Array Value} {t : TypeId} (_ : Blk (w.alloc (.cells cs t)) g' t' cs') : Blk (w.alloc (.cells cs t)) w.heap.size t cs := Blk.new _ _ _
theorem new_in_drew {g' : Nat} {t' : TypeId} {cs' : Array Value} {w : World} {cs : Array Value} {t : TypeId} (_ : Blk (w.alloc (.cells cs t)).drew g' t' cs') : Blk (w.alloc (.cells cs t)).drew w.heap.size t cs := Blk.new _ _ _
theorem keep_in {g' : Nat} {t' : TypeId} {cs' : Array Value} {w : World} {o : Obj} {g : Nat} {cs : Array Value} {t : TypeId} (_ : Blk (w.alloc o) g' t' cs') (k : Blk w g t cs) : Blk (w.alloc o) g t cs := k.alloc o
theorem keep_in_drew {g' : Nat} {t' : TypeId} {cs' : Array Value} {w : World} {o : Obj} {g : Nat} {cs : Array Value} {t : TypeId} (_ : Blk (w.alloc o).drew g' t' cs') (k : Blk w.drew g t cs) : Blk (w.alloc o).drew g t cs := Blk.alloc (w := w) k o
theorem carry2 {W W' : World} {g g' : Nat} {t t' : TypeId} {cs cs' : Array Value} (_ : Blk W' g' t' cs') (_ : Blk W g t cs) (h : Blk W' g t cs) : Blk W' g t cs := h
theorem carryS {W W' : World} {g g' : Nat} {t t' : TypeId} {cs cs' : Array Value} (cs2 : Array Value) (_ : Blk W' g' t' cs') (_ : Blk W g t cs) (h : Blk W' g t cs2) : Blk W' g t cs2 := h
theorem belowC {W W' : World} {b g : Nat} {t : TypeId} {cs : Array Value} (hb : Below b W W') (h : Blk W g t cs) (hl : b = W.heap.size) : Blk W' g t cs := by subst hl; exact h.below hb
/-- two cells and two of the document's, in memory -/
structure In4 (w W : World) (g1 g2 : Nat) (k1 k2 : Int) (A1 A2 : Option Addr) (c1 c2 : Nat) (d1 d2 : List UInt8) : Prop where
  bel : Below w.heap.size w W
  a : Blk W w.heap.size 24 #[.int .i64 k1, .slice A1 d1.length c1]
  b : Blk W (w.heap.size + 1) 24 #[.int .i64 k2, .slice A2 d2.length c2]
  x : Blk W g1 29 #[.int .i64 k1, .string ⟨d1.toArray⟩]
  y : Blk W g2 29 #[.int .i64 k2, .string ⟨d2.toArray⟩]
/-- two cells in memory -/
structure CK (w W : World) (k1 k2 : Int) (A1 A2 : Option Addr) (c1 c2 : Nat) (n1 n2 : Nat) : Prop where
  bel : Below w.heap.size w W
  a : Blk W w.heap.size 24 #[.int .i64 k1, .slice A1 n1 c1]
  b : Blk W (w.heap.size + 1) 24 #[.int .i64 k2, .slice A2 n2 c2]
section
variable {w W W' : World} {k1 k2 : Int} {A1 A2 : Option Addr} {c1 c2 n1 n2 : Nat}
theorem CK.lt (h : CK w W k1 k2 A1 A2 c1 c2 n1 n2) : w.heap.size + 1 < W.heap.size := h.b.lt
theorem CK.below (h : CK w W k1 k2 A1 A2 c1 c2 n1 n2) (hb : Below W.heap.size W W') : CK w W' k1 k2 A1 A2 c1 c2 n1 n2 := ⟨bel_call h.bel hb, h.a.below hb, h.b.below hb⟩
theorem CK.alloc (h : CK w W k1 k2 A1 A2 c1 c2 n1 n2) (o : Obj) : CK w (W.alloc o) k1 k2 A1 A2 c1 c2 n1 n2 := ⟨bel_alloc h.bel o, h.a.alloc o, h.b.alloc o⟩
theorem CK.drew (h : CK w W k1 k2 A1 A2 c1 c2 n1 n2) : CK w W.drew k1 k2 A1 A2 c1 c2 n1 n2 := ⟨h.bel.drew, h.a.drew, h.b.drew⟩
theorem CK.set2 (h : CK w W k1 k2 A1 A2 c1 c2 n1 n2) {g : Nat} (hg : w.heap.size + 1 < g) (u v : Value) : CK w ((W.setCell ⟨g, 0, none⟩ u).setCell ⟨g, 1, none⟩ v) k1 k2 A1 A2 c1 c2 n1 n2 :=
  ⟨bel_set (bel_set h.bel (by dsimp only; omega) u) (by dsimp only; omega) v, Blk.far2 h.a (by omega) u v, Blk.far2 h.b (by omega) u v⟩
end
theorem cbytes_len {k : Int} {d : List UInt8} (h : d.length ≤ 100) : (cbytes (k, d)).length ≤ 1000 := by
  unfold cbytes
  split
  · have := vb_le10 (n := d.length) (by omega)
    simp only [List.length_cons, List.length_append]
    omega
  · simp
theorem In4.below {w W W' : World} {g1 g2 : Nat} {k1 k2 : Int} {A1 A2 : Option Addr} {c1 c2 : Nat} {d1 d2 : List UInt8} (h : In4 w W g1 g2 k1 k2 A1 A2 c1 c2 d1 d2) (hb : Below W.heap.size W W') : In4 w W' g1 g2 k1 k2 A1 A2 c1 c2 d1 d2 := ⟨bel_call h.bel hb, h.a.below hb, h.b.below hb, h.x.below hb, h.y.below hb⟩
theorem In4.drew {w W : World} {g1 g2 : Nat} {k1 k2 : Int} {A1 A2 : Option Addr} {c1 c2 : Nat} {d1 d2 : List UInt8} (h : In4 w W g1 g2 k1 k2 A1 A2 c1 c2 d1 d2) : In4 w W.drew g1 g2 k1 k2 A1 A2 c1 c2 d1 d2 := ⟨h.bel.drew, h.a.drew, h.b.drew, h.x.drew, h.y.drew⟩
theorem In4.set2 {w W : World} {g1 g2 g : Nat} {k1 k2 : Int} {A1 A2 : Option Addr} {c1 c2 : Nat} {d1 d2 : List UInt8} (h : In4 w W g1 g2 k1 k2 A1 A2 c1 c2 d1 d2) (hg : w.heap.size + 1 < g) (h1 : g1 ≠ g) (h2 : g2 ≠ g) (u v : Value) : In4 w ((W.setCell ⟨g, 0, none⟩ u).setCell ⟨g, 1, none⟩ v) g1 g2 k1 k2 A1 A2 c1 c2 d1 d2 :=
  ⟨bel_set (bel_set h.bel (by dsimp only; omega) u) (by dsimp only; omega) v, Blk.far2 h.a (by omega) u v, Blk.far2 h.b (by omega) u v, Blk.far2 h.x h1 u v, Blk.far2 h.y h2 u v⟩
theorem int_neb (n : Int) : ∀ b, Value.int .i64 n ≠ bv b := fun b h => by injection h with h _; cases h
theorem str_neb (s : ByteArray) : ∀ b, Value.string s ≠ bv b := fun b h => by cases h
theorem ne_lt {a b : Nat} (h : a < b) : a ≠ b := Nat.ne_of_lt h
theorem ne_gt {a b : Nat} (h : b < a) : a ≠ b := Nat.ne_of_gt h

set_option maxRecDepth 100000 in
set_option maxHeartbeats 8000000 in
theorem checks_walk {A1 A2 : Option Addr} {c1 c2 : Nat} (k1 k2 kind : Int) (d1 d2 : List UInt8) (w : World) (ha : SlB w A1 c1 d1) (hb : SlB w A2 c2 d2) (hlong : longb [(k1, d1), (k2, d2)] 2 = false) (hl1 : d1.length ≤ 100) (hl2 : d2.length ≤ 100) :
    Calls Try.prog 3 #[cv k1 A1 d1.length c1, cv k2 A2 d2.length c2, .int .i64 kind] w fun e w' => e = .returned (.bool true) ∧ Below w.heap.size w w' := by
  have hB1 := (Blk.new w 24 #[.int .i64 k1, .slice A1 d1.length c1]).alloc (.cells #[.int .i64 k2, .slice A2 d2.length c2] 24)
  have hB2 := Blk.newAt (w := w.alloc (.cells #[.int .i64 k1, .slice A1 d1.length c1] 24)) (g := w.heap.size + 1) (by simp) 24 #[.int .i64 k2, .slice A2 d2.length c2]
  have hbw := bel_alloc (below_new w (.cells #[.int .i64 k1, .slice A1 d1.length c1] 24)) (.cells #[.int .i64 k2, .slice A2 d2.length c2] 24)
  go_enter Try.func3, Try.ntmps3
  go_wp2_with fail
  refine (alive05_any _).mono ?_
  rintro e w1 ⟨rfl, hb1⟩
  have hw1 := bel_call hbw hb1
  have hC1 := hB1.below hb1
  have hC2 := hB2.below hb1
  clear hB1 hB2 hbw hb1
  obtain ⟨a0, a1, _, _⟩ := hC1.two
  obtain ⟨b0, b1, _, _⟩ := hC2.two
  have hLong := fun W (h : SlC W (some ⟨w1.heap.size, 0, none⟩) 2 [(k1, A1, c1, d1), (k2, A2, c2, d2)]) => Long_any [(k1, A1, c1, d1), (k2, A2, c2, d2)] 2 W h
  simp only [List.map_cons, List.map_nil, hlong, ceOf] at hLong
  have HL := Lib.hid hLong
  clear hLong hlong
  go_wp2_with fail
  have hw2 := bel_alloc hw1 (.cells #[.int .i64 k1, .slice A1 d1.length c1, .int .i64 k2, .slice A2 d2.length c2] 24)
  refine (HL.out _ ⟨Sl.litsS w1 2 2 _ 24 (by rfl) (by simp [maxLen]), ?_⟩).mono ?_
  · intro x hx
    simp only [List.mem_cons, List.not_mem_nil, or_false] at hx
    rcases hx with rfl | rfl
    · exact ha.below hw2
    · exact hb.below hw2
  rintro e w2 ⟨rfl, hb2⟩
  have hw3 := bel_call hw2 hb2
  have hD1 := (hC1.alloc (.cells #[.int .i64 k1, .slice A1 d1.length c1, .int .i64 k2, .slice A2 d2.length c2] 24)).below hb2
  have hD2 := (hC2.alloc (.cells #[.int .i64 k1, .slice A1 d1.length c1, .int .i64 k2, .slice A2 d2.length c2] 24)).below hb2
  clear hC1 hC2 hw2 hb2 hw1 a0 a1 b0 b1 HL
  have hst : CK w w2.drew k1 k2 A1 A2 c1 c2 d1.length d2.length := ⟨hw3.drew, hD1.drew, hD2.drew⟩
  clear hD1 hD2 hw3
  go_upto_region 5 with (fail)
  go_cut [7, 8] (fun s7 s8 wx => ∃ g1 g2 : Nat, s7 = .pointer (some ⟨g1, 0, none⟩) ∧ s8 = .pointer (some ⟨g2, 0, none⟩) ∧ In4 w wx g1 g2 k1 k2 A1 A2 c1 c2 d1 d2)
  case first =>
    refine wp_region_held_drew (S := (fun W => CK w W k1 k2 A1 A2 c1 c2 d1.length d2.length)) (by kernel_rfl) ?_ (fun hHeld => ?_)
    · exact hst
    refine gen0 (T := fun W => ((fun W => CK w W k1 k2 A1 A2 c1 c2 d1.length d2.length)) W ∧ True) ?_ (fun wq1 hT => ?_)
    · exact ⟨by (first | exact hst | assumption | exact hHeld.below hb9 | exact hHeld.alloc _ | exact hHeld.set2 (by omega) _ _), trivial⟩
    (try clear f0 f1 f2 f3 f4 f5 f6 f7 f8 f9 f10 f11)
    obtain ⟨hHeld, -⟩ := hT
    refine wpAnyH_take (i := 0) (oi := ⟨some 25, _, _, _, _, _⟩) (v := ?_) rfl (by kernel_rfl) (by kernel_rfl) (by kernel_rfl) (fun _ _ _ h => h) (Or.inl ⟨by kernel_rfl, ?_⟩) (by assumption) ?_
    rotate_left
    · (intro wS hSw; (try dsimp only at hSw); obtain ⟨q0, q1⟩ := hSw.a.cells2; obtain ⟨r0, r1⟩ := hSw.b.cells2; clear hSw; go_simp; (try with_reducible rfl))
    (try simp only [Act.put, List.setIfInBounds_toArray, List.set_cons_zero, List.set_cons_succ])
    refine wpAnyH_take (i := 2) (oi := ⟨some 27, _, _, _, _, _⟩) (v := ?_) rfl (by kernel_rfl) (by kernel_rfl) (by kernel_rfl) (fun _ _ _ h => h) (Or.inl ⟨by kernel_rfl, ?_⟩) (by assumption) ?_
    rotate_left
    · (intro wS hSw; (try dsimp only at hSw); obtain ⟨q0, q1⟩ := hSw.a.cells2; obtain ⟨r0, r1⟩ := hSw.b.cells2; clear hSw; go_simp; (try with_reducible rfl))
    (try simp only [Act.put, List.setIfInBounds_toArray, List.set_cons_zero, List.set_cons_succ])
    refine wpAnyH_ready (rs := [1, 4, 5]) (by kernel_rfl) (by simp) ?_
    refine AllReadyH.cons (o := ⟨some 26, _, _, _, _, _⟩) rfl (fun K hK => ?_) ?_
    · go_simp
      (refine (Document_any _ _ _ ?_).mono ?_; (first | exact ha.below hHeld.bel | exact hb.below hHeld.bel); rintro e w9 ⟨rfl, hb9⟩)
      go_wp2_with fail
      refine hK.out _ _ ?_ (fun _ => ?_)
      · ((try dsimp only); (first | exact hst | assumption | exact hHeld.below hb9 | exact hHeld.alloc _ | exact hHeld.set2 (by omega) _ _))
      clear hK K
      (try simp only [Act.put, List.setIfInBounds_toArray, List.set_cons_zero, List.set_cons_succ])
      refine gen0 (T := fun W => ((fun W => CK w W k1 k2 A1 A2 c1 c2 d1.length d2.length)) W ∧ True) ?_ (fun wq2 hT => ?_)
      · exact ⟨by (first | exact hst | assumption | exact hHeld.below hb9 | exact hHeld.alloc _ | exact hHeld.set2 (by omega) _ _), trivial⟩
      (try clear f0 f1 f2 f3 f4 f5 f6 f7 f8 f9 f10 f11)
      obtain ⟨hHeld, -⟩ := hT
      refine wpAnyH_ready (rs := [3, 4, 5]) (by kernel_rfl) (by simp) ?_
      refine AllReadyH.cons (o := ⟨some 28, _, _, _, _, _⟩) rfl (fun K hK => ?_) ?_
      · go_simp
        (refine (Document_any _ _ _ ?_).mono ?_; (first | exact ha.below hHeld.bel | exact hb.below hHeld.bel); rintro e w9 ⟨rfl, hb9⟩)
        go_wp2_with fail
        refine hK.out _ _ ?_ (fun _ => ?_)
        · ((try dsimp only); (first | exact hst | assumption | exact hHeld.below hb9 | exact hHeld.alloc _ | exact hHeld.set2 (by omega) _ _))
        clear hK K
        (try simp only [Act.put, List.setIfInBounds_toArray, List.set_cons_zero, List.set_cons_succ])
        refine gen0 (T := fun W => ((fun W => CK w W k1 k2 A1 A2 c1 c2 d1.length d2.length)) W ∧ True) ?_ (fun wq3 hT => ?_)
        · exact ⟨by (first | exact hst | assumption | exact hHeld.below hb9 | exact hHeld.alloc _ | exact hHeld.set2 (by omega) _ _), trivial⟩
        (try clear f0 f1 f2 f3 f4 f5 f6 f7 f8 f9 f10 f11)
        obtain ⟨hHeld, -⟩ := hT
        refine wpAnyH_ready (rs := [4, 5]) (by kernel_rfl) (by simp) ?_
        refine AllReadyH.cons (o := ⟨some 7, _, _, _, _, _⟩) rfl (fun K hK => ?_) ?_
        · go_simp
          refine hK.out _ _ ?_ (fun _ => ?_)
          · ((try dsimp only); (first | exact hst | assumption | exact hHeld.below hb9 | exact hHeld.alloc _ | exact hHeld.set2 (by omega) _ _))
          clear hK K
          (try simp only [Act.put, List.setIfInBounds_toArray, List.set_cons_zero, List.set_cons_succ])
          refine gen0 (T := fun W => ((fun W => CK w W k1 k2 A1 A2 c1 c2 d1.length d2.length)) W ∧ Blk W wq3.heap.size 29 #[.int .i64 0, .string ⟨#[]⟩] ∧ w.heap.size + 1 < wq3.heap.size ∧ True) ?_ (fun wq4 hT => ?_)
          · exact ⟨by (first | exact hst | assumption | exact hHeld.below hb9 | exact hHeld.alloc _ | exact hHeld.set2 (by omega) _ _), by (first | assumption | with_reducible exact Blk.new _ _ _ | exact hHeld.lt | exact f0.below hb9 | exact f2.below hb9 | with_reducible exact f0.alloc _ | with_reducible exact f2.alloc _ | with_reducible exact Blk.set2 f0 _ _ | with_reducible exact Blk.set2 f2 _ _ | exact Blk.far2 f0 (by first | assumption | exact Ne.symm (by assumption)) _ _ | exact Blk.far2 f2 (by first | assumption | exact Ne.symm (by assumption)) _ _ | exact ne_lt f0.lt | exact ne_gt f0.lt), by (first | assumption | with_reducible exact Blk.new _ _ _ | exact hHeld.lt | exact f0.below hb9 | exact f2.below hb9 | with_reducible exact f0.alloc _ | with_reducible exact f2.alloc _ | with_reducible exact Blk.set2 f0 _ _ | with_reducible exact Blk.set2 f2 _ _ | exact Blk.far2 f0 (by first | assumption | exact Ne.symm (by assumption)) _ _ | exact Blk.far2 f2 (by first | assumption | exact Ne.symm (by assumption)) _ _ | exact ne_lt f0.lt | exact ne_gt f0.lt), trivial⟩
          (try clear f0 f1 f2 f3 f4 f5 f6 f7 f8 f9 f10 f11)
          obtain ⟨hHeld, f0, f1, -⟩ := hT
          refine wpAnyH_ready (rs := [5]) (by kernel_rfl) (by simp) ?_
          refine AllReadyH.cons (o := ⟨some 8, _, _, _, _, _⟩) rfl (fun K hK => ?_) AllReadyH.nil
          go_simp
          refine hK.out _ _ ?_ (fun _ => ?_)
          · ((try dsimp only); (first | exact hst | assumption | exact hHeld.below hb9 | exact hHeld.alloc _ | exact hHeld.set2 (by omega) _ _))
          clear hK K
          (try simp only [Act.put, List.setIfInBounds_toArray, List.set_cons_zero, List.set_cons_succ])
          refine gen0 (T := fun W => ((fun W => CK w W k1 k2 A1 A2 c1 c2 d1.length d2.length)) W ∧ Blk W wq3.heap.size 29 #[.int .i64 0, .string ⟨#[]⟩] ∧ w.heap.size + 1 < wq3.heap.size ∧ Blk W wq4.heap.size 29 #[.int .i64 0, .string ⟨#[]⟩] ∧ w.heap.size + 1 < wq4.heap.size ∧ wq3.heap.size ≠ wq4.heap.size ∧ True) ?_ (fun wq5 hT => ?_)
          · exact ⟨by (first | exact hst | assumption | exact hHeld.below hb9 | exact hHeld.alloc _ | exact hHeld.set2 (by omega) _ _), by (first | assumption | with_reducible exact Blk.new _ _ _ | exact hHeld.lt | exact f0.below hb9 | exact f2.below hb9 | with_reducible exact f0.alloc _ | with_reducible exact f2.alloc _ | with_reducible exact Blk.set2 f0 _ _ | with_reducible exact Blk.set2 f2 _ _ | exact Blk.far2 f0 (by first | assumption | exact Ne.symm (by assumption)) _ _ | exact Blk.far2 f2 (by first | assumption | exact Ne.symm (by assumption)) _ _ | exact ne_lt f0.lt | exact ne_gt f0.lt), by (first | assumption | with_reducible exact Blk.new _ _ _ | exact hHeld.lt | exact f0.below hb9 | exact f2.below hb9 | with_reducible exact f0.alloc _ | with_reducible exact f2.alloc _ | with_reducible exact Blk.set2 f0 _ _ | with_reducible exact Blk.set2 f2 _ _ | exact Blk.far2 f0 (by first | assumption | exact Ne.symm (by assumption)) _ _ | exact Blk.far2 f2 (by first | assumption | exact Ne.symm (by assumption)) _ _ | exact ne_lt f0.lt | exact ne_gt f0.lt), by (first | assumption | with_reducible exact Blk.new _ _ _ | exact hHeld.lt | exact f0.below hb9 | exact f2.below hb9 | with_reducible exact f0.alloc _ | with_reducible exact f2.alloc _ | with_reducible exact Blk.set2 f0 _ _ | with_reducible exact Blk.set2 f2 _ _ | exact Blk.far2 f0 (by first | assumption | exact Ne.symm (by assumption)) _ _ | exact Blk.far2 f2 (by first | assumption | exact Ne.symm (by assumption)) _ _ | exact ne_lt f0.lt | exact ne_gt f0.lt), by (first | assumption | with_reducible exact Blk.new _ _ _ | exact hHeld.lt | exact f0.below hb9 | exact f2.below hb9 | with_reducible exact f0.alloc _ | with_reducible exact f2.alloc _ | with_reducible exact Blk.set2 f0 _ _ | with_reducible exact Blk.set2 f2 _ _ | exact Blk.far2 f0 (by first | assumption | exact Ne.symm (by assumption)) _ _ | exact Blk.far2 f2 (by first | assumption | exact Ne.symm (by assumption)) _ _ | exact ne_lt f0.lt | exact ne_gt f0.lt), by (first | assumption | with_reducible exact Blk.new _ _ _ | exact hHeld.lt | exact f0.below hb9 | exact f2.below hb9 | with_reducible exact f0.alloc _ | with_reducible exact f2.alloc _ | with_reducible exact Blk.set2 f0 _ _ | with_reducible exact Blk.set2 f2 _ _ | exact Blk.far2 f0 (by first | assumption | exact Ne.symm (by assumption)) _ _ | exact Blk.far2 f2 (by first | assumption | exact Ne.symm (by assumption)) _ _ | exact ne_lt f0.lt | exact ne_gt f0.lt), trivial⟩
          (try clear f0 f1 f2 f3 f4 f5 f6 f7 f8 f9 f10 f11)
          obtain ⟨hHeld, f0, f1, f2, f3, f4, -⟩ := hT
          refine wpAnyH_ready (rs := [6]) (by kernel_rfl) (by simp) ?_
          refine AllReadyH.cons (o := ⟨none, _, _, _, _, _⟩) rfl (fun K hK => ?_) AllReadyH.nil
          (first | (obtain ⟨m0, m1, mf0, mf1⟩ := f0.two) | skip); (first | (obtain ⟨n0, n1, nf0, nf1⟩ := f2.two) | skip)
          go_simp
          refine hK.out _ _ ?_ (fun _ => ?_)
          · ((try dsimp only); (first | exact hst | assumption | exact hHeld.below hb9 | exact hHeld.alloc _ | exact hHeld.set2 (by omega) _ _))
          clear hK K
          (try simp only [Act.put, List.setIfInBounds_toArray, List.set_cons_zero, List.set_cons_succ])
          refine gen0 (T := fun W => ((fun W => CK w W k1 k2 A1 A2 c1 c2 d1.length d2.length)) W ∧ Blk W wq3.heap.size 29 #[.int .i64 k1, .string ⟨d1.toArray⟩] ∧ w.heap.size + 1 < wq3.heap.size ∧ Blk W wq4.heap.size 29 #[.int .i64 0, .string ⟨#[]⟩] ∧ w.heap.size + 1 < wq4.heap.size ∧ wq3.heap.size ≠ wq4.heap.size ∧ True) ?_ (fun wq6 hT => ?_)
          · exact ⟨by (first | exact hst | assumption | exact hHeld.below hb9 | exact hHeld.alloc _ | exact hHeld.set2 (by omega) _ _), by (first | assumption | with_reducible exact Blk.new _ _ _ | exact hHeld.lt | exact f0.below hb9 | exact f2.below hb9 | with_reducible exact f0.alloc _ | with_reducible exact f2.alloc _ | with_reducible exact Blk.set2 f0 _ _ | with_reducible exact Blk.set2 f2 _ _ | exact Blk.far2 f0 (by first | assumption | exact Ne.symm (by assumption)) _ _ | exact Blk.far2 f2 (by first | assumption | exact Ne.symm (by assumption)) _ _ | exact ne_lt f0.lt | exact ne_gt f0.lt), by (first | assumption | with_reducible exact Blk.new _ _ _ | exact hHeld.lt | exact f0.below hb9 | exact f2.below hb9 | with_reducible exact f0.alloc _ | with_reducible exact f2.alloc _ | with_reducible exact Blk.set2 f0 _ _ | with_reducible exact Blk.set2 f2 _ _ | exact Blk.far2 f0 (by first | assumption | exact Ne.symm (by assumption)) _ _ | exact Blk.far2 f2 (by first | assumption | exact Ne.symm (by assumption)) _ _ | exact ne_lt f0.lt | exact ne_gt f0.lt), by (first | assumption | with_reducible exact Blk.new _ _ _ | exact hHeld.lt | exact f0.below hb9 | exact f2.below hb9 | with_reducible exact f0.alloc _ | with_reducible exact f2.alloc _ | with_reducible exact Blk.set2 f0 _ _ | with_reducible exact Blk.set2 f2 _ _ | exact Blk.far2 f0 (by first | assumption | exact Ne.symm (by assumption)) _ _ | exact Blk.far2 f2 (by first | assumption | exact Ne.symm (by assumption)) _ _ | exact ne_lt f0.lt | exact ne_gt f0.lt), by (first | assumption | with_reducible exact Blk.new _ _ _ | exact hHeld.lt | exact f0.below hb9 | exact f2.below hb9 | with_reducible exact f0.alloc _ | with_reducible exact f2.alloc _ | with_reducible exact Blk.set2 f0 _ _ | with_reducible exact Blk.set2 f2 _ _ | exact Blk.far2 f0 (by first | assumption | exact Ne.symm (by assumption)) _ _ | exact Blk.far2 f2 (by first | assumption | exact Ne.symm (by assumption)) _ _ | exact ne_lt f0.lt | exact ne_gt f0.lt), by (first | assumption | with_reducible exact Blk.new _ _ _ | exact hHeld.lt | exact f0.below hb9 | exact f2.below hb9 | with_reducible exact f0.alloc _ | with_reducible exact f2.alloc _ | with_reducible exact Blk.set2 f0 _ _ | with_reducible exact Blk.set2 f2 _ _ | exact Blk.far2 f0 (by first | assumption | exact Ne.symm (by assumption)) _ _ | exact Blk.far2 f2 (by first | assumption | exact Ne.symm (by assumption)) _ _ | exact ne_lt f0.lt | exact ne_gt f0.lt), trivial⟩
          (try clear f0 f1 f2 f3 f4 f5 f6 f7 f8 f9 f10 f11)
          obtain ⟨hHeld, f0, f1, f2, f3, f4, -⟩ := hT
          refine wpAnyH_ready (rs := [7]) (by kernel_rfl) (by simp) ?_
          refine AllReadyH.cons (o := ⟨none, _, _, _, _, _⟩) rfl (fun K hK => ?_) AllReadyH.nil
          (first | (obtain ⟨m0, m1, mf0, mf1⟩ := f0.two) | skip); (first | (obtain ⟨n0, n1, nf0, nf1⟩ := f2.two) | skip)
          go_simp
          refine hK.out _ _ ?_ (fun _ => ?_)
          · ((try dsimp only); (first | exact hst | assumption | exact hHeld.below hb9 | exact hHeld.alloc _ | exact hHeld.set2 (by omega) _ _))
          clear hK K
          (try simp only [Act.put, List.setIfInBounds_toArray, List.set_cons_zero, List.set_cons_succ])
          refine gen0 (T := fun W => ((fun W => CK w W k1 k2 A1 A2 c1 c2 d1.length d2.length)) W ∧ Blk W wq3.heap.size 29 #[.int .i64 k1, .string ⟨d1.toArray⟩] ∧ w.heap.size + 1 < wq3.heap.size ∧ Blk W wq4.heap.size 29 #[.int .i64 k2, .string ⟨d2.toArray⟩] ∧ w.heap.size + 1 < wq4.heap.size ∧ wq3.heap.size ≠ wq4.heap.size ∧ True) ?_ (fun wq7 hT => ?_)
          · exact ⟨by (first | exact hst | assumption | exact hHeld.below hb9 | exact hHeld.alloc _ | exact hHeld.set2 (by omega) _ _), by (first | assumption | with_reducible exact Blk.new _ _ _ | exact hHeld.lt | exact f0.below hb9 | exact f2.below hb9 | with_reducible exact f0.alloc _ | with_reducible exact f2.alloc _ | with_reducible exact Blk.set2 f0 _ _ | with_reducible exact Blk.set2 f2 _ _ | exact Blk.far2 f0 (by first | assumption | exact Ne.symm (by assumption)) _ _ | exact Blk.far2 f2 (by first | assumption | exact Ne.symm (by assumption)) _ _ | exact ne_lt f0.lt | exact ne_gt f0.lt), by (first | assumption | with_reducible exact Blk.new _ _ _ | exact hHeld.lt | exact f0.below hb9 | exact f2.below hb9 | with_reducible exact f0.alloc _ | with_reducible exact f2.alloc _ | with_reducible exact Blk.set2 f0 _ _ | with_reducible exact Blk.set2 f2 _ _ | exact Blk.far2 f0 (by first | assumption | exact Ne.symm (by assumption)) _ _ | exact Blk.far2 f2 (by first | assumption | exact Ne.symm (by assumption)) _ _ | exact ne_lt f0.lt | exact ne_gt f0.lt), by (first | assumption | with_reducible exact Blk.new _ _ _ | exact hHeld.lt | exact f0.below hb9 | exact f2.below hb9 | with_reducible exact f0.alloc _ | with_reducible exact f2.alloc _ | with_reducible exact Blk.set2 f0 _ _ | with_reducible exact Blk.set2 f2 _ _ | exact Blk.far2 f0 (by first | assumption | exact Ne.symm (by assumption)) _ _ | exact Blk.far2 f2 (by first | assumption | exact Ne.symm (by assumption)) _ _ | exact ne_lt f0.lt | exact ne_gt f0.lt), by (first | assumption | with_reducible exact Blk.new _ _ _ | exact hHeld.lt | exact f0.below hb9 | exact f2.below hb9 | with_reducible exact f0.alloc _ | with_reducible exact f2.alloc _ | with_reducible exact Blk.set2 f0 _ _ | with_reducible exact Blk.set2 f2 _ _ | exact Blk.far2 f0 (by first | assumption | exact Ne.symm (by assumption)) _ _ | exact Blk.far2 f2 (by first | assumption | exact Ne.symm (by assumption)) _ _ | exact ne_lt f0.lt | exact ne_gt f0.lt), by (first | assumption | with_reducible exact Blk.new _ _ _ | exact hHeld.lt | exact f0.below hb9 | exact f2.below hb9 | with_reducible exact f0.alloc _ | with_reducible exact f2.alloc _ | with_reducible exact Blk.set2 f0 _ _ | with_reducible exact Blk.set2 f2 _ _ | exact Blk.far2 f0 (by first | assumption | exact Ne.symm (by assumption)) _ _ | exact Blk.far2 f2 (by first | assumption | exact Ne.symm (by assumption)) _ _ | exact ne_lt f0.lt | exact ne_gt f0.lt), trivial⟩
          (try clear f0 f1 f2 f3 f4 f5 f6 f7 f8 f9 f10 f11)
          obtain ⟨hHeld, f0, f1, f2, f3, f4, -⟩ := hT
          refine wpAnyH_done (by kernel_rfl) ?_ _
          (go_wp2_with fail; go_meet; exact ⟨_, _, rfl, rfl, ⟨hHeld.bel, hHeld.a, hHeld.b, by assumption, by assumption⟩⟩)
        refine AllReadyH.cons (o := ⟨some 8, _, _, _, _, _⟩) rfl (fun K hK => ?_) ?_
        · go_simp
          refine hK.out _ _ ?_ (fun _ => ?_)
          · ((try dsimp only); (first | exact hst | assumption | exact hHeld.below hb9 | exact hHeld.alloc _ | exact hHeld.set2 (by omega) _ _))
          clear hK K
          (try simp only [Act.put, List.setIfInBounds_toArray, List.set_cons_zero, List.set_cons_succ])
          refine gen0 (T := fun W => ((fun W => CK w W k1 k2 A1 A2 c1 c2 d1.length d2.length)) W ∧ Blk W wq3.heap.size 29 #[.int .i64 0, .string ⟨#[]⟩] ∧ w.heap.size + 1 < wq3.heap.size ∧ True) ?_ (fun wq8 hT => ?_)
          · exact ⟨by (first | exact hst | assumption | exact hHeld.below hb9 | exact hHeld.alloc _ | exact hHeld.set2 (by omega) _ _), by (first | assumption | with_reducible exact Blk.new _ _ _ | exact hHeld.lt | exact f0.below hb9 | exact f2.below hb9 | with_reducible exact f0.alloc _ | with_reducible exact f2.alloc _ | with_reducible exact Blk.set2 f0 _ _ | with_reducible exact Blk.set2 f2 _ _ | exact Blk.far2 f0 (by first | assumption | exact Ne.symm (by assumption)) _ _ | exact Blk.far2 f2 (by first | assumption | exact Ne.symm (by assumption)) _ _ | exact ne_lt f0.lt | exact ne_gt f0.lt), by (first | assumption | with_reducible exact Blk.new _ _ _ | exact hHeld.lt | exact f0.below hb9 | exact f2.below hb9 | with_reducible exact f0.alloc _ | with_reducible exact f2.alloc _ | with_reducible exact Blk.set2 f0 _ _ | with_reducible exact Blk.set2 f2 _ _ | exact Blk.far2 f0 (by first | assumption | exact Ne.symm (by assumption)) _ _ | exact Blk.far2 f2 (by first | assumption | exact Ne.symm (by assumption)) _ _ | exact ne_lt f0.lt | exact ne_gt f0.lt), trivial⟩
          (try clear f0 f1 f2 f3 f4 f5 f6 f7 f8 f9 f10 f11)
          obtain ⟨hHeld, f0, f1, -⟩ := hT
          refine wpAnyH_ready (rs := [4]) (by kernel_rfl) (by simp) ?_
          refine AllReadyH.cons (o := ⟨some 7, _, _, _, _, _⟩) rfl (fun K hK => ?_) AllReadyH.nil
          go_simp
          refine hK.out _ _ ?_ (fun _ => ?_)
          · ((try dsimp only); (first | exact hst | assumption | exact hHeld.below hb9 | exact hHeld.alloc _ | exact hHeld.set2 (by omega) _ _))
          clear hK K
          (try simp only [Act.put, List.setIfInBounds_toArray, List.set_cons_zero, List.set_cons_succ])
          refine gen0 (T := fun W => ((fun W => CK w W k1 k2 A1 A2 c1 c2 d1.length d2.length)) W ∧ Blk W wq8.heap.size 29 #[.int .i64 0, .string ⟨#[]⟩] ∧ w.heap.size + 1 < wq8.heap.size ∧ Blk W wq3.heap.size 29 #[.int .i64 0, .string ⟨#[]⟩] ∧ w.heap.size + 1 < wq3.heap.size ∧ wq8.heap.size ≠ wq3.heap.size ∧ True) ?_ (fun wq9 hT => ?_)
          · exact ⟨by (first | exact hst | assumption | exact hHeld.below hb9 | exact hHeld.alloc _ | exact hHeld.set2 (by omega) _ _), by (first | assumption | with_reducible exact Blk.new _ _ _ | exact hHeld.lt | exact f0.below hb9 | exact f2.below hb9 | with_reducible exact f0.alloc _ | with_reducible exact f2.alloc _ | with_reducible exact Blk.set2 f0 _ _ | with_reducible exact Blk.set2 f2 _ _ | exact Blk.far2 f0 (by first | assumption | exact Ne.symm (by assumption)) _ _ | exact Blk.far2 f2 (by first | assumption | exact Ne.symm (by assumption)) _ _ | exact ne_lt f0.lt | exact ne_gt f0.lt), by (first | assumption | with_reducible exact Blk.new _ _ _ | exact hHeld.lt | exact f0.below hb9 | exact f2.below hb9 | with_reducible exact f0.alloc _ | with_reducible exact f2.alloc _ | with_reducible exact Blk.set2 f0 _ _ | with_reducible exact Blk.set2 f2 _ _ | exact Blk.far2 f0 (by first | assumption | exact Ne.symm (by assumption)) _ _ | exact Blk.far2 f2 (by first | assumption | exact Ne.symm (by assumption)) _ _ | exact ne_lt f0.lt | exact ne_gt f0.lt), by (first | assumption | with_reducible exact Blk.new _ _ _ | exact hHeld.lt | exact f0.below hb9 | exact f2.below hb9 | with_reducible exact f0.alloc _ | with_reducible exact f2.alloc _ | with_reducible exact Blk.set2 f0 _ _ | with_reducible exact Blk.set2 f2 _ _ | exact Blk.far2 f0 (by first | assumption | exact Ne.symm (by assumption)) _ _ | exact Blk.far2 f2 (by first | assumption | exact Ne.symm (by assumption)) _ _ | exact ne_lt f0.lt | exact ne_gt f0.lt), by (first | assumption | with_reducible exact Blk.new _ _ _ | exact hHeld.lt | exact f0.below hb9 | exact f2.below hb9 | with_reducible exact f0.alloc _ | with_reducible exact f2.alloc _ | with_reducible exact Blk.set2 f0 _ _ | with_reducible exact Blk.set2 f2 _ _ | exact Blk.far2 f0 (by first | assumption | exact Ne.symm (by assumption)) _ _ | exact Blk.far2 f2 (by first | assumption | exact Ne.symm (by assumption)) _ _ | exact ne_lt f0.lt | exact ne_gt f0.lt), by (first | assumption | with_reducible exact Blk.new _ _ _ | exact hHeld.lt | exact f0.below hb9 | exact f2.below hb9 | with_reducible exact f0.alloc _ | with_reducible exact f2.alloc _ | with_reducible exact Blk.set2 f0 _ _ | with_reducible exact Blk.set2 f2 _ _ | exact Blk.far2 f0 (by first | assumption | exact Ne.symm (by assumption)) _ _ | exact Blk.far2 f2 (by first | assumption | exact Ne.symm (by assumption)) _ _ | exact ne_lt f0.lt | exact ne_gt f0.lt), trivial⟩
          (try clear f0 f1 f2 f3 f4 f5 f6 f7 f8 f9 f10 f11)
          obtain ⟨hHeld, f0, f1, f2, f3, f4, -⟩ := hT
          refine wpAnyH_ready (rs := [6]) (by kernel_rfl) (by simp) ?_
          refine AllReadyH.cons (o := ⟨none, _, _, _, _, _⟩) rfl (fun K hK => ?_) AllReadyH.nil
          (first | (obtain ⟨m0, m1, mf0, mf1⟩ := f0.two) | skip); (first | (obtain ⟨n0, n1, nf0, nf1⟩ := f2.two) | skip)
          go_simp
          refine hK.out _ _ ?_ (fun _ => ?_)
          · ((try dsimp only); (first | exact hst | assumption | exact hHeld.below hb9 | exact hHeld.alloc _ | exact hHeld.set2 (by omega) _ _))
          clear hK K
          (try simp only [Act.put, List.setIfInBounds_toArray, List.set_cons_zero, List.set_cons_succ])
          refine gen0 (T := fun W => ((fun W => CK w W k1 k2 A1 A2 c1 c2 d1.length d2.length)) W ∧ Blk W wq8.heap.size 29 #[.int .i64 k1, .string ⟨d1.toArray⟩] ∧ w.heap.size + 1 < wq8.heap.size ∧ Blk W wq3.heap.size 29 #[.int .i64 0, .string ⟨#[]⟩] ∧ w.heap.size + 1 < wq3.heap.size ∧ wq8.heap.size ≠ wq3.heap.size ∧ True) ?_ (fun wq10 hT => ?_)
          · exact ⟨by (first | exact hst | assumption | exact hHeld.below hb9 | exact hHeld.alloc _ | exact hHeld.set2 (by omega) _ _), by (first | assumption | with_reducible exact Blk.new _ _ _ | exact hHeld.lt | exact f0.below hb9 | exact f2.below hb9 | with_reducible exact f0.alloc _ | with_reducible exact f2.alloc _ | with_reducible exact Blk.set2 f0 _ _ | with_reducible exact Blk.set2 f2 _ _ | exact Blk.far2 f0 (by first | assumption | exact Ne.symm (by assumption)) _ _ | exact Blk.far2 f2 (by first | assumption | exact Ne.symm (by assumption)) _ _ | exact ne_lt f0.lt | exact ne_gt f0.lt), by (first | assumption | with_reducible exact Blk.new _ _ _ | exact hHeld.lt | exact f0.below hb9 | exact f2.below hb9 | with_reducible exact f0.alloc _ | with_reducible exact f2.alloc _ | with_reducible exact Blk.set2 f0 _ _ | with_reducible exact Blk.set2 f2 _ _ | exact Blk.far2 f0 (by first | assumption | exact Ne.symm (by assumption)) _ _ | exact Blk.far2 f2 (by first | assumption | exact Ne.symm (by assumption)) _ _ | exact ne_lt f0.lt | exact ne_gt f0.lt), by (first | assumption | with_reducible exact Blk.new _ _ _ | exact hHeld.lt | exact f0.below hb9 | exact f2.below hb9 | with_reducible exact f0.alloc _ | with_reducible exact f2.alloc _ | with_reducible exact Blk.set2 f0 _ _ | with_reducible exact Blk.set2 f2 _ _ | exact Blk.far2 f0 (by first | assumption | exact Ne.symm (by assumption)) _ _ | exact Blk.far2 f2 (by first | assumption | exact Ne.symm (by assumption)) _ _ | exact ne_lt f0.lt | exact ne_gt f0.lt), by (first | assumption | with_reducible exact Blk.new _ _ _ | exact hHeld.lt | exact f0.below hb9 | exact f2.below hb9 | with_reducible exact f0.alloc _ | with_reducible exact f2.alloc _ | with_reducible exact Blk.set2 f0 _ _ | with_reducible exact Blk.set2 f2 _ _ | exact Blk.far2 f0 (by first | assumption | exact Ne.symm (by assumption)) _ _ | exact Blk.far2 f2 (by first | assumption | exact Ne.symm (by assumption)) _ _ | exact ne_lt f0.lt | exact ne_gt f0.lt), by (first | assumption | with_reducible exact Blk.new _ _ _ | exact hHeld.lt | exact f0.below hb9 | exact f2.below hb9 | with_reducible exact f0.alloc _ | with_reducible exact f2.alloc _ | with_reducible exact Blk.set2 f0 _ _ | with_reducible exact Blk.set2 f2 _ _ | exact Blk.far2 f0 (by first | assumption | exact Ne.symm (by assumption)) _ _ | exact Blk.far2 f2 (by first | assumption | exact Ne.symm (by assumption)) _ _ | exact ne_lt f0.lt | exact ne_gt f0.lt), trivial⟩
          (try clear f0 f1 f2 f3 f4 f5 f6 f7 f8 f9 f10 f11)
          obtain ⟨hHeld, f0, f1, f2, f3, f4, -⟩ := hT
          refine wpAnyH_ready (rs := [7]) (by kernel_rfl) (by simp) ?_
          refine AllReadyH.cons (o := ⟨none, _, _, _, _, _⟩) rfl (fun K hK => ?_) AllReadyH.nil
          (first | (obtain ⟨m0, m1, mf0, mf1⟩ := f0.two) | skip); (first | (obtain ⟨n0, n1, nf0, nf1⟩ := f2.two) | skip)
          go_simp
          refine hK.out _ _ ?_ (fun _ => ?_)
          · ((try dsimp only); (first | exact hst | assumption | exact hHeld.below hb9 | exact hHeld.alloc _ | exact hHeld.set2 (by omega) _ _))
          clear hK K
          (try simp only [Act.put, List.setIfInBounds_toArray, List.set_cons_zero, List.set_cons_succ])
          refine gen0 (T := fun W => ((fun W => CK w W k1 k2 A1 A2 c1 c2 d1.length d2.length)) W ∧ Blk W wq8.heap.size 29 #[.int .i64 k1, .string ⟨d1.toArray⟩] ∧ w.heap.size + 1 < wq8.heap.size ∧ Blk W wq3.heap.size 29 #[.int .i64 k2, .string ⟨d2.toArray⟩] ∧ w.heap.size + 1 < wq3.heap.size ∧ wq8.heap.size ≠ wq3.heap.size ∧ True) ?_ (fun wq11 hT => ?_)
          · exact ⟨by (first | exact hst | assumption | exact hHeld.below hb9 | exact hHeld.alloc _ | exact hHeld.set2 (by omega) _ _), by (first | assumption | with_reducible exact Blk.new _ _ _ | exact hHeld.lt | exact f0.below hb9 | exact f2.below hb9 | with_reducible exact f0.alloc _ | with_reducible exact f2.alloc _ | with_reducible exact Blk.set2 f0 _ _ | with_reducible exact Blk.set2 f2 _ _ | exact Blk.far2 f0 (by first | assumption | exact Ne.symm (by assumption)) _ _ | exact Blk.far2 f2 (by first | assumption | exact Ne.symm (by assumption)) _ _ | exact ne_lt f0.lt | exact ne_gt f0.lt), by (first | assumption | with_reducible exact Blk.new _ _ _ | exact hHeld.lt | exact f0.below hb9 | exact f2.below hb9 | with_reducible exact f0.alloc _ | with_reducible exact f2.alloc _ | with_reducible exact Blk.set2 f0 _ _ | with_reducible exact Blk.set2 f2 _ _ | exact Blk.far2 f0 (by first | assumption | exact Ne.symm (by assumption)) _ _ | exact Blk.far2 f2 (by first | assumption | exact Ne.symm (by assumption)) _ _ | exact ne_lt f0.lt | exact ne_gt f0.lt), by (first | assumption | with_reducible exact Blk.new _ _ _ | exact hHeld.lt | exact f0.below hb9 | exact f2.below hb9 | with_reducible exact f0.alloc _ | with_reducible exact f2.alloc _ | with_reducible exact Blk.set2 f0 _ _ | with_reducible exact Blk.set2 f2 _ _ | exact Blk.far2 f0 (by first | assumption | exact Ne.symm (by assumption)) _ _ | exact Blk.far2 f2 (by first | assumption | exact Ne.symm (by assumption)) _ _ | exact ne_lt f0.lt | exact ne_gt f0.lt), by (first | assumption | with_reducible exact Blk.new _ _ _ | exact hHeld.lt | exact f0.below hb9 | exact f2.below hb9 | with_reducible exact f0.alloc _ | with_reducible exact f2.alloc _ | with_reducible exact Blk.set2 f0 _ _ | with_reducible exact Blk.set2 f2 _ _ | exact Blk.far2 f0 (by first | assumption | exact Ne.symm (by assumption)) _ _ | exact Blk.far2 f2 (by first | assumption | exact Ne.symm (by assumption)) _ _ | exact ne_lt f0.lt | exact ne_gt f0.lt), by (first | assumption | with_reducible exact Blk.new _ _ _ | exact hHeld.lt | exact f0.below hb9 | exact f2.below hb9 | with_reducible exact f0.alloc _ | with_reducible exact f2.alloc _ | with_reducible exact Blk.set2 f0 _ _ | with_reducible exact Blk.set2 f2 _ _ | exact Blk.far2 f0 (by first | assumption | exact Ne.symm (by assumption)) _ _ | exact Blk.far2 f2 (by first | assumption | exact Ne.symm (by assumption)) _ _ | exact ne_lt f0.lt | exact ne_gt f0.lt), trivial⟩
          (try clear f0 f1 f2 f3 f4 f5 f6 f7 f8 f9 f10 f11)
          obtain ⟨hHeld, f0, f1, f2, f3, f4, -⟩ := hT
          refine wpAnyH_done (by kernel_rfl) ?_ _
          (go_wp2_with fail; go_meet; exact ⟨_, _, rfl, rfl, ⟨hHeld.bel, hHeld.a, hHeld.b, by assumption, by assumption⟩⟩)
        exact AllReadyH.nil
      refine AllReadyH.cons (o := ⟨some 7, _, _, _, _, _⟩) rfl (fun K hK => ?_) ?_
      · go_simp
        refine hK.out _ _ ?_ (fun _ => ?_)
        · ((try dsimp only); (first | exact hst | assumption | exact hHeld.below hb9 | exact hHeld.alloc _ | exact hHeld.set2 (by omega) _ _))
        clear hK K
        (try simp only [Act.put, List.setIfInBounds_toArray, List.set_cons_zero, List.set_cons_succ])
        refine gen0 (T := fun W => ((fun W => CK w W k1 k2 A1 A2 c1 c2 d1.length d2.length)) W ∧ Blk W wq2.heap.size 29 #[.int .i64 0, .string ⟨#[]⟩] ∧ w.heap.size + 1 < wq2.heap.size ∧ True) ?_ (fun wq12 hT => ?_)
        · exact ⟨by (first | exact hst | assumption | exact hHeld.below hb9 | exact hHeld.alloc _ | exact hHeld.set2 (by omega) _ _), by (first | assumption | with_reducible exact Blk.new _ _ _ | exact hHeld.lt | exact f0.below hb9 | exact f2.below hb9 | with_reducible exact f0.alloc _ | with_reducible exact f2.alloc _ | with_reducible exact Blk.set2 f0 _ _ | with_reducible exact Blk.set2 f2 _ _ | exact Blk.far2 f0 (by first | assumption | exact Ne.symm (by assumption)) _ _ | exact Blk.far2 f2 (by first | assumption | exact Ne.symm (by assumption)) _ _ | exact ne_lt f0.lt | exact ne_gt f0.lt), by (first | assumption | with_reducible exact Blk.new _ _ _ | exact hHeld.lt | exact f0.below hb9 | exact f2.below hb9 | with_reducible exact f0.alloc _ | with_reducible exact f2.alloc _ | with_reducible exact Blk.set2 f0 _ _ | with_reducible exact Blk.set2 f2 _ _ | exact Blk.far2 f0 (by first | assumption | exact Ne.symm (by assumption)) _ _ | exact Blk.far2 f2 (by first | assumption | exact Ne.symm (by assumption)) _ _ | exact ne_lt f0.lt | exact ne_gt f0.lt), trivial⟩
        (try clear f0 f1 f2 f3 f4 f5 f6 f7 f8 f9 f10 f11)
        obtain ⟨hHeld, f0, f1, -⟩ := hT
        refine wpAnyH_ready (rs := [3, 5]) (by kernel_rfl) (by simp) ?_
        refine AllReadyH.cons (o := ⟨some 28, _, _, _, _, _⟩) rfl (fun K hK => ?_) ?_
        · go_simp
          (refine (Document_any _ _ _ ?_).mono ?_; (first | exact ha.below hHeld.bel | exact hb.below hHeld.bel); rintro e w9 ⟨rfl, hb9⟩)
          go_wp2_with fail
          refine hK.out _ _ ?_ (fun _ => ?_)
          · ((try dsimp only); (first | exact hst | assumption | exact hHeld.below hb9 | exact hHeld.alloc _ | exact hHeld.set2 (by omega) _ _))
          clear hK K
          (try simp only [Act.put, List.setIfInBounds_toArray, List.set_cons_zero, List.set_cons_succ])
          refine gen0 (T := fun W => ((fun W => CK w W k1 k2 A1 A2 c1 c2 d1.length d2.length)) W ∧ Blk W wq2.heap.size 29 #[.int .i64 0, .string ⟨#[]⟩] ∧ w.heap.size + 1 < wq2.heap.size ∧ True) ?_ (fun wq13 hT => ?_)
          · exact ⟨by (first | exact hst | assumption | exact hHeld.below hb9 | exact hHeld.alloc _ | exact hHeld.set2 (by omega) _ _), by (first | assumption | with_reducible exact Blk.new _ _ _ | exact hHeld.lt | exact f0.below hb9 | exact f2.below hb9 | with_reducible exact f0.alloc _ | with_reducible exact f2.alloc _ | with_reducible exact Blk.set2 f0 _ _ | with_reducible exact Blk.set2 f2 _ _ | exact Blk.far2 f0 (by first | assumption | exact Ne.symm (by assumption)) _ _ | exact Blk.far2 f2 (by first | assumption | exact Ne.symm (by assumption)) _ _ | exact ne_lt f0.lt | exact ne_gt f0.lt), by (first | assumption | with_reducible exact Blk.new _ _ _ | exact hHeld.lt | exact f0.below hb9 | exact f2.below hb9 | with_reducible exact f0.alloc _ | with_reducible exact f2.alloc _ | with_reducible exact Blk.set2 f0 _ _ | with_reducible exact Blk.set2 f2 _ _ | exact Blk.far2 f0 (by first | assumption | exact Ne.symm (by assumption)) _ _ | exact Blk.far2 f2 (by first | assumption | exact Ne.symm (by assumption)) _ _ | exact ne_lt f0.lt | exact ne_gt f0.lt), trivial⟩
          (try clear f0 f1 f2 f3 f4 f5 f6 f7 f8 f9 f10 f11)
          obtain ⟨hHeld, f0, f1, -⟩ := hT
          refine wpAnyH_ready (rs := [5]) (by kernel_rfl) (by simp) ?_
          refine AllReadyH.cons (o := ⟨some 8, _, _, _, _, _⟩) rfl (fun K hK => ?_) AllReadyH.nil
          go_simp
          refine hK.out _ _ ?_ (fun _ => ?_)
          · ((try dsimp only); (first | exact hst | assumption | exact hHeld.below hb9 | exact hHeld.alloc _ | exact hHeld.set2 (by omega) _ _))
          clear hK K
          (try simp only [Act.put, List.setIfInBounds_toArray, List.set_cons_zero, List.set_cons_succ])
          refine gen0 (T := fun W => ((fun W => CK w W k1 k2 A1 A2 c1 c2 d1.length d2.length)) W ∧ Blk W wq2.heap.size 29 #[.int .i64 0, .string ⟨#[]⟩] ∧ w.heap.size + 1 < wq2.heap.size ∧ Blk W wq13.heap.size 29 #[.int .i64 0, .string ⟨#[]⟩] ∧ w.heap.size + 1 < wq13.heap.size ∧ wq2.heap.size ≠ wq13.heap.size ∧ True) ?_ (fun wq14 hT => ?_)
          · exact ⟨by (first | exact hst | assumption | exact hHeld.below hb9 | exact hHeld.alloc _ | exact hHeld.set2 (by omega) _ _), by (first | assumption | with_reducible exact Blk.new _ _ _ | exact hHeld.lt | exact f0.below hb9 | exact f2.below hb9 | with_reducible exact f0.alloc _ | with_reducible exact f2.alloc _ | with_reducible exact Blk.set2 f0 _ _ | with_reducible exact Blk.set2 f2 _ _ | exact Blk.far2 f0 (by first | assumption | exact Ne.symm (by assumption)) _ _ | exact Blk.far2 f2 (by first | assumption | exact Ne.symm (by assumption)) _ _ | exact ne_lt f0.lt | exact ne_gt f0.lt), by (first | assumption | with_reducible exact Blk.new _ _ _ | exact hHeld.lt | exact f0.below hb9 | exact f2.below hb9 | with_reducible exact f0.alloc _ | with_reducible exact f2.alloc _ | with_reducible exact Blk.set2 f0 _ _ | with_reducible exact Blk.set2 f2 _ _ | exact Blk.far2 f0 (by first | assumption | exact Ne.symm (by assumption)) _ _ | exact Blk.far2 f2 (by first | assumption | exact Ne.symm (by assumption)) _ _ | exact ne_lt f0.lt | exact ne_gt f0.lt), by (first | assumption | with_reducible exact Blk.new _ _ _ | exact hHeld.lt | exact f0.below hb9 | exact f2.below hb9 | with_reducible exact f0.alloc _ | with_reducible exact f2.alloc _ | with_reducible exact Blk.set2 f0 _ _ | with_reducible exact Blk.set2 f2 _ _ | exact Blk.far2 f0 (by first | assumption | exact Ne.symm (by assumption)) _ _ | exact Blk.far2 f2 (by first | assumption | exact Ne.symm (by assumption)) _ _ | exact ne_lt f0.lt | exact ne_gt f0.lt), by (first | assumption | with_reducible exact Blk.new _ _ _ | exact hHeld.lt | exact f0.below hb9 | exact f2.below hb9 | with_reducible exact f0.alloc _ | with_reducible exact f2.alloc _ | with_reducible exact Blk.set2 f0 _ _ | with_reducible exact Blk.set2 f2 _ _ | exact Blk.far2 f0 (by first | assumption | exact Ne.symm (by assumption)) _ _ | exact Blk.far2 f2 (by first | assumption | exact Ne.symm (by assumption)) _ _ | exact ne_lt f0.lt | exact ne_gt f0.lt), by (first | assumption | with_reducible exact Blk.new _ _ _ | exact hHeld.lt | exact f0.below hb9 | exact f2.below hb9 | with_reducible exact f0.alloc _ | with_reducible exact f2.alloc _ | with_reducible exact Blk.set2 f0 _ _ | with_reducible exact Blk.set2 f2 _ _ | exact Blk.far2 f0 (by first | assumption | exact Ne.symm (by assumption)) _ _ | exact Blk.far2 f2 (by first | assumption | exact Ne.symm (by assumption)) _ _ | exact ne_lt f0.lt | exact ne_gt f0.lt), trivial⟩
          (try clear f0 f1 f2 f3 f4 f5 f6 f7 f8 f9 f10 f11)
          obtain ⟨hHeld, f0, f1, f2, f3, f4, -⟩ := hT
          refine wpAnyH_ready (rs := [6]) (by kernel_rfl) (by simp) ?_
          refine AllReadyH.cons (o := ⟨none, _, _, _, _, _⟩) rfl (fun K hK => ?_) AllReadyH.nil
          (first | (obtain ⟨m0, m1, mf0, mf1⟩ := f0.two) | skip); (first | (obtain ⟨n0, n1, nf0, nf1⟩ := f2.two) | skip)
          go_simp
          refine hK.out _ _ ?_ (fun _ => ?_)
          · ((try dsimp only); (first | exact hst | assumption | exact hHeld.below hb9 | exact hHeld.alloc _ | exact hHeld.set2 (by omega) _ _))
          clear hK K
          (try simp only [Act.put, List.setIfInBounds_toArray, List.set_cons_zero, List.set_cons_succ])
          refine gen0 (T := fun W => ((fun W => CK w W k1 k2 A1 A2 c1 c2 d1.length d2.length)) W ∧ Blk W wq2.heap.size 29 #[.int .i64 k1, .string ⟨d1.toArray⟩] ∧ w.heap.size + 1 < wq2.heap.size ∧ Blk W wq13.heap.size 29 #[.int .i64 0, .string ⟨#[]⟩] ∧ w.heap.size + 1 < wq13.heap.size ∧ wq2.heap.size ≠ wq13.heap.size ∧ True) ?_ (fun wq15 hT => ?_)
          · exact ⟨by (first | exact hst | assumption | exact hHeld.below hb9 | exact hHeld.alloc _ | exact hHeld.set2 (by omega) _ _), by (first | assumption | with_reducible exact Blk.new _ _ _ | exact hHeld.lt | exact f0.below hb9 | exact f2.below hb9 | with_reducible exact f0.alloc _ | with_reducible exact f2.alloc _ | with_reducible exact Blk.set2 f0 _ _ | with_reducible exact Blk.set2 f2 _ _ | exact Blk.far2 f0 (by first | assumption | exact Ne.symm (by assumption)) _ _ | exact Blk.far2 f2 (by first | assumption | exact Ne.symm (by assumption)) _ _ | exact ne_lt f0.lt | exact ne_gt f0.lt), by (first | assumption | with_reducible exact Blk.new _ _ _ | exact hHeld.lt | exact f0.below hb9 | exact f2.below hb9 | with_reducible exact f0.alloc _ | with_reducible exact f2.alloc _ | with_reducible exact Blk.set2 f0 _ _ | with_reducible exact Blk.set2 f2 _ _ | exact Blk.far2 f0 (by first | assumption | exact Ne.symm (by assumption)) _ _ | exact Blk.far2 f2 (by first | assumption | exact Ne.symm (by assumption)) _ _ | exact ne_lt f0.lt | exact ne_gt f0.lt), by (first | assumption | with_reducible exact Blk.new _ _ _ | exact hHeld.lt | exact f0.below hb9 | exact f2.below hb9 | with_reducible exact f0.alloc _ | with_reducible exact f2.alloc _ | with_reducible exact Blk.set2 f0 _ _ | with_reducible exact Blk.set2 f2 _ _ | exact Blk.far2 f0 (by first | assumption | exact Ne.symm (by assumption)) _ _ | exact Blk.far2 f2 (by first | assumption | exact Ne.symm (by assumption)) _ _ | exact ne_lt f0.lt | exact ne_gt f0.lt), by (first | assumption | with_reducible exact Blk.new _ _ _ | exact hHeld.lt | exact f0.below hb9 | exact f2.below hb9 | with_reducible exact f0.alloc _ | with_reducible exact f2.alloc _ | with_reducible exact Blk.set2 f0 _ _ | with_reducible exact Blk.set2 f2 _ _ | exact Blk.far2 f0 (by first | assumption | exact Ne.symm (by assumption)) _ _ | exact Blk.far2 f2 (by first | assumption | exact Ne.symm (by assumption)) _ _ | exact ne_lt f0.lt | exact ne_gt f0.lt), by (first | assumption | with_reducible exact Blk.new _ _ _ | exact hHeld.lt | exact f0.below hb9 | exact f2.below hb9 | with_reducible exact f0.alloc _ | with_reducible exact f2.alloc _ | with_reducible exact Blk.set2 f0 _ _ | with_reducible exact Blk.set2 f2 _ _ | exact Blk.far2 f0 (by first | assumption | exact Ne.symm (by assumption)) _ _ | exact Blk.far2 f2 (by first | assumption | exact Ne.symm (by assumption)) _ _ | exact ne_lt f0.lt | exact ne_gt f0.lt), trivial⟩
          (try clear f0 f1 f2 f3 f4 f5 f6 f7 f8 f9 f10 f11)
          obtain ⟨hHeld, f0, f1, f2, f3, f4, -⟩ := hT
          refine wpAnyH_ready (rs := [7]) (by kernel_rfl) (by simp) ?_
          refine AllReadyH.cons (o := ⟨none, _, _, _, _, _⟩) rfl (fun K hK => ?_) AllReadyH.nil
          (first | (obtain ⟨m0, m1, mf0, mf1⟩ := f0.two) | skip); (first | (obtain ⟨n0, n1, nf0, nf1⟩ := f2.two) | skip)
          go_simp
          refine hK.out _ _ ?_ (fun _ => ?_)
          · ((try dsimp only); (first | exact hst | assumption | exact hHeld.below hb9 | exact hHeld.alloc _ | exact hHeld.set2 (by omega) _ _))
          clear hK K
          (try simp only [Act.put, List.setIfInBounds_toArray, List.set_cons_zero, List.set_cons_succ])
          refine gen0 (T := fun W => ((fun W => CK w W k1 k2 A1 A2 c1 c2 d1.length d2.length)) W ∧ Blk W wq2.heap.size 29 #[.int .i64 k1, .string ⟨d1.toArray⟩] ∧ w.heap.size + 1 < wq2.heap.size ∧ Blk W wq13.heap.size 29 #[.int .i64 k2, .string ⟨d2.toArray⟩] ∧ w.heap.size + 1 < wq13.heap.size ∧ wq2.heap.size ≠ wq13.heap.size ∧ True) ?_ (fun wq16 hT => ?_)
          · exact ⟨by (first | exact hst | assumption | exact hHeld.below hb9 | exact hHeld.alloc _ | exact hHeld.set2 (by omega) _ _), by (first | assumption | with_reducible exact Blk.new _ _ _ | exact hHeld.lt | exact f0.below hb9 | exact f2.below hb9 | with_reducible exact f0.alloc _ | with_reducible exact f2.alloc _ | with_reducible exact Blk.set2 f0 _ _ | with_reducible exact Blk.set2 f2 _ _ | exact Blk.far2 f0 (by first | assumption | exact Ne.symm (by assumption)) _ _ | exact Blk.far2 f2 (by first | assumption | exact Ne.symm (by assumption)) _ _ | exact ne_lt f0.lt | exact ne_gt f0.lt), by (first | assumption | with_reducible exact Blk.new _ _ _ | exact hHeld.lt | exact f0.below hb9 | exact f2.below hb9 | with_reducible exact f0.alloc _ | with_reducible exact f2.alloc _ | with_reducible exact Blk.set2 f0 _ _ | with_reducible exact Blk.set2 f2 _ _ | exact Blk.far2 f0 (by first | assumption | exact Ne.symm (by assumption)) _ _ | exact Blk.far2 f2 (by first | assumption | exact Ne.symm (by assumption)) _ _ | exact ne_lt f0.lt | exact ne_gt f0.lt), by (first | assumption | with_reducible exact Blk.new _ _ _ | exact hHeld.lt | exact f0.below hb9 | exact f2.below hb9 | with_reducible exact f0.alloc _ | with_reducible exact f2.alloc _ | with_reducible exact Blk.set2 f0 _ _ | with_reducible exact Blk.set2 f2 _ _ | exact Blk.far2 f0 (by first | assumption | exact Ne.symm (by assumption)) _ _ | exact Blk.far2 f2 (by first | assumption | exact Ne.symm (by assumption)) _ _ | exact ne_lt f0.lt | exact ne_gt f0.lt), by (first | assumption | with_reducible exact Blk.new _ _ _ | exact hHeld.lt | exact f0.below hb9 | exact f2.below hb9 | with_reducible exact f0.alloc _ | with_reducible exact f2.alloc _ | with_reducible exact Blk.set2 f0 _ _ | with_reducible exact Blk.set2 f2 _ _ | exact Blk.far2 f0 (by first | assumption | exact Ne.symm (by assumption)) _ _ | exact Blk.far2 f2 (by first | assumption | exact Ne.symm (by assumption)) _ _ | exact ne_lt f0.lt | exact ne_gt f0.lt), by (first | assumption | with_reducible exact Blk.new _ _ _ | exact hHeld.lt | exact f0.below hb9 | exact f2.below hb9 | with_reducible exact f0.alloc _ | with_reducible exact f2.alloc _ | with_reducible exact Blk.set2 f0 _ _ | with_reducible exact Blk.set2 f2 _ _ | exact Blk.far2 f0 (by first | assumption | exact Ne.symm (by assumption)) _ _ | exact Blk.far2 f2 (by first | assumption | exact Ne.symm (by assumption)) _ _ | exact ne_lt f0.lt | exact ne_gt f0.lt), trivial⟩
          (try clear f0 f1 f2 f3 f4 f5 f6 f7 f8 f9 f10 f11)
          obtain ⟨hHeld, f0, f1, f2, f3, f4, -⟩ := hT
          refine wpAnyH_done (by kernel_rfl) ?_ _
          (go_wp2_with fail; go_meet; exact ⟨_, _, rfl, rfl, ⟨hHeld.bel, hHeld.a, hHeld.b, by assumption, by assumption⟩⟩)
        refine AllReadyH.cons (o := ⟨some 8, _, _, _, _, _⟩) rfl (fun K hK => ?_) ?_
        · go_simp
          refine hK.out _ _ ?_ (fun _ => ?_)
          · ((try dsimp only); (first | exact hst | assumption | exact hHeld.below hb9 | exact hHeld.alloc _ | exact hHeld.set2 (by omega) _ _))
          clear hK K
          (try simp only [Act.put, List.setIfInBounds_toArray, List.set_cons_zero, List.set_cons_succ])
          refine gen0 (T := fun W => ((fun W => CK w W k1 k2 A1 A2 c1 c2 d1.length d2.length)) W ∧ Blk W wq2.heap.size 29 #[.int .i64 0, .string ⟨#[]⟩] ∧ w.heap.size + 1 < wq2.heap.size ∧ Blk W wq12.heap.size 29 #[.int .i64 0, .string ⟨#[]⟩] ∧ w.heap.size + 1 < wq12.heap.size ∧ wq2.heap.size ≠ wq12.heap.size ∧ True) ?_ (fun wq17 hT => ?_)
          · exact ⟨by (first | exact hst | assumption | exact hHeld.below hb9 | exact hHeld.alloc _ | exact hHeld.set2 (by omega) _ _), by (first | assumption | with_reducible exact Blk.new _ _ _ | exact hHeld.lt | exact f0.below hb9 | exact f2.below hb9 | with_reducible exact f0.alloc _ | with_reducible exact f2.alloc _ | with_reducible exact Blk.set2 f0 _ _ | with_reducible exact Blk.set2 f2 _ _ | exact Blk.far2 f0 (by first | assumption | exact Ne.symm (by assumption)) _ _ | exact Blk.far2 f2 (by first | assumption | exact Ne.symm (by assumption)) _ _ | exact ne_lt f0.lt | exact ne_gt f0.lt), by (first | assumption | with_reducible exact Blk.new _ _ _ | exact hHeld.lt | exact f0.below hb9 | exact f2.below hb9 | with_reducible exact f0.alloc _ | with_reducible exact f2.alloc _ | with_reducible exact Blk.set2 f0 _ _ | with_reducible exact Blk.set2 f2 _ _ | exact Blk.far2 f0 (by first | assumption | exact Ne.symm (by assumption)) _ _ | exact Blk.far2 f2 (by first | assumption | exact Ne.symm (by assumption)) _ _ | exact ne_lt f0.lt | exact ne_gt f0.lt), by (first | assumption | with_reducible exact Blk.new _ _ _ | exact hHeld.lt | exact f0.below hb9 | exact f2.below hb9 | with_reducible exact f0.alloc _ | with_reducible exact f2.alloc _ | with_reducible exact Blk.set2 f0 _ _ | with_reducible exact Blk.set2 f2 _ _ | exact Blk.far2 f0 (by first | assumption | exact Ne.symm (by assumption)) _ _ | exact Blk.far2 f2 (by first | assumption | exact Ne.symm (by assumption)) _ _ | exact ne_lt f0.lt | exact ne_gt f0.lt), by (first | assumption | with_reducible exact Blk.new _ _ _ | exact hHeld.lt | exact f0.below hb9 | exact f2.below hb9 | with_reducible exact f0.alloc _ | with_reducible exact f2.alloc _ | with_reducible exact Blk.set2 f0 _ _ | with_reducible exact Blk.set2 f2 _ _ | exact Blk.far2 f0 (by first | assumption | exact Ne.symm (by assumption)) _ _ | exact Blk.far2 f2 (by first | assumption | exact Ne.symm (by assumption)) _ _ | exact ne_lt f0.lt | exact ne_gt f0.lt), by (first | assumption | with_reducible exact Blk.new _ _ _ | exact hHeld.lt | exact f0.below hb9 | exact f2.below hb9 | with_reducible exact f0.alloc _ | with_reducible exact f2.alloc _ | with_reducible exact Blk.set2 f0 _ _ | with_reducible exact Blk.set2 f2 _ _ | exact Blk.far2 f0 (by first | assumption | exact Ne.symm (by assumption)) _ _ | exact Blk.far2 f2 (by first | assumption | exact Ne.symm (by assumption)) _ _ | exact ne_lt f0.lt | exact ne_gt f0.lt), trivial⟩
          (try clear f0 f1 f2 f3 f4 f5 f6 f7 f8 f9 f10 f11)
          obtain ⟨hHeld, f0, f1, f2, f3, f4, -⟩ := hT
          refine wpAnyH_ready (rs := [3]) (by kernel_rfl) (by simp) ?_
          refine AllReadyH.cons (o := ⟨some 28, _, _, _, _, _⟩) rfl (fun K hK => ?_) AllReadyH.nil
          go_simp
          (refine (Document_any _ _ _ ?_).mono ?_; (first | exact ha.below hHeld.bel | exact hb.below hHeld.bel); rintro e w9 ⟨rfl, hb9⟩)
          go_wp2_with fail
          refine hK.out _ _ ?_ (fun _ => ?_)
          · ((try dsimp only); (first | exact hst | assumption | exact hHeld.below hb9 | exact hHeld.alloc _ | exact hHeld.set2 (by omega) _ _))
          clear hK K
          (try simp only [Act.put, List.setIfInBounds_toArray, List.set_cons_zero, List.set_cons_succ])
          refine gen0 (T := fun W => ((fun W => CK w W k1 k2 A1 A2 c1 c2 d1.length d2.length)) W ∧ Blk W wq2.heap.size 29 #[.int .i64 0, .string ⟨#[]⟩] ∧ w.heap.size + 1 < wq2.heap.size ∧ Blk W wq12.heap.size 29 #[.int .i64 0, .string ⟨#[]⟩] ∧ w.heap.size + 1 < wq12.heap.size ∧ wq2.heap.size ≠ wq12.heap.size ∧ True) ?_ (fun wq18 hT => ?_)
          · exact ⟨by (first | exact hst | assumption | exact hHeld.below hb9 | exact hHeld.alloc _ | exact hHeld.set2 (by omega) _ _), by (first | assumption | with_reducible exact Blk.new _ _ _ | exact hHeld.lt | exact f0.below hb9 | exact f2.below hb9 | with_reducible exact f0.alloc _ | with_reducible exact f2.alloc _ | with_reducible exact Blk.set2 f0 _ _ | with_reducible exact Blk.set2 f2 _ _ | exact Blk.far2 f0 (by first | assumption | exact Ne.symm (by assumption)) _ _ | exact Blk.far2 f2 (by first | assumption | exact Ne.symm (by assumption)) _ _ | exact ne_lt f0.lt | exact ne_gt f0.lt), by (first | assumption | with_reducible exact Blk.new _ _ _ | exact hHeld.lt | exact f0.below hb9 | exact f2.below hb9 | with_reducible exact f0.alloc _ | with_reducible exact f2.alloc _ | with_reducible exact Blk.set2 f0 _ _ | with_reducible exact Blk.set2 f2 _ _ | exact Blk.far2 f0 (by first | assumption | exact Ne.symm (by assumption)) _ _ | exact Blk.far2 f2 (by first | assumption | exact Ne.symm (by assumption)) _ _ | exact ne_lt f0.lt | exact ne_gt f0.lt), by (first | assumption | with_reducible exact Blk.new _ _ _ | exact hHeld.lt | exact f0.below hb9 | exact f2.below hb9 | with_reducible exact f0.alloc _ | with_reducible exact f2.alloc _ | with_reducible exact Blk.set2 f0 _ _ | with_reducible exact Blk.set2 f2 _ _ | exact Blk.far2 f0 (by first | assumption | exact Ne.symm (by assumption)) _ _ | exact Blk.far2 f2 (by first | assumption | exact Ne.symm (by assumption)) _ _ | exact ne_lt f0.lt | exact ne_gt f0.lt), by (first | assumption | with_reducible exact Blk.new _ _ _ | exact hHeld.lt | exact f0.below hb9 | exact f2.below hb9 | with_reducible exact f0.alloc _ | with_reducible exact f2.alloc _ | with_reducible exact Blk.set2 f0 _ _ | with_reducible exact Blk.set2 f2 _ _ | exact Blk.far2 f0 (by first | assumption | exact Ne.symm (by assumption)) _ _ | exact Blk.far2 f2 (by first | assumption | exact Ne.symm (by assumption)) _ _ | exact ne_lt f0.lt | exact ne_gt f0.lt), by (first | assumption | with_reducible exact Blk.new _ _ _ | exact hHeld.lt | exact f0.below hb9 | exact f2.below hb9 | with_reducible exact f0.alloc _ | with_reducible exact f2.alloc _ | with_reducible exact Blk.set2 f0 _ _ | with_reducible exact Blk.set2 f2 _ _ | exact Blk.far2 f0 (by first | assumption | exact Ne.symm (by assumption)) _ _ | exact Blk.far2 f2 (by first | assumption | exact Ne.symm (by assumption)) _ _ | exact ne_lt f0.lt | exact ne_gt f0.lt), trivial⟩
          (try clear f0 f1 f2 f3 f4 f5 f6 f7 f8 f9 f10 f11)
          obtain ⟨hHeld, f0, f1, f2, f3, f4, -⟩ := hT
          refine wpAnyH_ready (rs := [6]) (by kernel_rfl) (by simp) ?_
          refine AllReadyH.cons (o := ⟨none, _, _, _, _, _⟩) rfl (fun K hK => ?_) AllReadyH.nil
          (first | (obtain ⟨m0, m1, mf0, mf1⟩ := f0.two) | skip); (first | (obtain ⟨n0, n1, nf0, nf1⟩ := f2.two) | skip)
          go_simp
          refine hK.out _ _ ?_ (fun _ => ?_)
          · ((try dsimp only); (first | exact hst | assumption | exact hHeld.below hb9 | exact hHeld.alloc _ | exact hHeld.set2 (by omega) _ _))
          clear hK K
          (try simp only [Act.put, List.setIfInBounds_toArray, List.set_cons_zero, List.set_cons_succ])
          refine gen0 (T := fun W => ((fun W => CK w W k1 k2 A1 A2 c1 c2 d1.length d2.length)) W ∧ Blk W wq2.heap.size 29 #[.int .i64 k1, .string ⟨d1.toArray⟩] ∧ w.heap.size + 1 < wq2.heap.size ∧ Blk W wq12.heap.size 29 #[.int .i64 0, .string ⟨#[]⟩] ∧ w.heap.size + 1 < wq12.heap.size ∧ wq2.heap.size ≠ wq12.heap.size ∧ True) ?_ (fun wq19 hT => ?_)
          · exact ⟨by (first | exact hst | assumption | exact hHeld.below hb9 | exact hHeld.alloc _ | exact hHeld.set2 (by omega) _ _), by (first | assumption | with_reducible exact Blk.new _ _ _ | exact hHeld.lt | exact f0.below hb9 | exact f2.below hb9 | with_reducible exact f0.alloc _ | with_reducible exact f2.alloc _ | with_reducible exact Blk.set2 f0 _ _ | with_reducible exact Blk.set2 f2 _ _ | exact Blk.far2 f0 (by first | assumption | exact Ne.symm (by assumption)) _ _ | exact Blk.far2 f2 (by first | assumption | exact Ne.symm (by assumption)) _ _ | exact ne_lt f0.lt | exact ne_gt f0.lt), by (first | assumption | with_reducible exact Blk.new _ _ _ | exact hHeld.lt | exact f0.below hb9 | exact f2.below hb9 | with_reducible exact f0.alloc _ | with_reducible exact f2.alloc _ | with_reducible exact Blk.set2 f0 _ _ | with_reducible exact Blk.set2 f2 _ _ | exact Blk.far2 f0 (by first | assumption | exact Ne.symm (by assumption)) _ _ | exact Blk.far2 f2 (by first | assumption | exact Ne.symm (by assumption)) _ _ | exact ne_lt f0.lt | exact ne_gt f0.lt), by (first | assumption | with_reducible exact Blk.new _ _ _ | exact hHeld.lt | exact f0.below hb9 | exact f2.below hb9 | with_reducible exact f0.alloc _ | with_reducible exact f2.alloc _ | with_reducible exact Blk.set2 f0 _ _ | with_reducible exact Blk.set2 f2 _ _ | exact Blk.far2 f0 (by first | assumption | exact Ne.symm (by assumption)) _ _ | exact Blk.far2 f2 (by first | assumption | exact Ne.symm (by assumption)) _ _ | exact ne_lt f0.lt | exact ne_gt f0.lt), by (first | assumption | with_reducible exact Blk.new _ _ _ | exact hHeld.lt | exact f0.below hb9 | exact f2.below hb9 | with_reducible exact f0.alloc _ | with_reducible exact f2.alloc _ | with_reducible exact Blk.set2 f0 _ _ | with_reducible exact Blk.set2 f2 _ _ | exact Blk.far2 f0 (by first | assumption | exact Ne.symm (by assumption)) _ _ | exact Blk.far2 f2 (by first | assumption | exact Ne.symm (by assumption)) _ _ | exact ne_lt f0.lt | exact ne_gt f0.lt), by (first | assumption | with_reducible exact Blk.new _ _ _ | exact hHeld.lt | exact f0.below hb9 | exact f2.below hb9 | with_reducible exact f0.alloc _ | with_reducible exact f2.alloc _ | with_reducible exact Blk.set2 f0 _ _ | with_reducible exact Blk.set2 f2 _ _ | exact Blk.far2 f0 (by first | assumption | exact Ne.symm (by assumption)) _ _ | exact Blk.far2 f2 (by first | assumption | exact Ne.symm (by assumption)) _ _ | exact ne_lt f0.lt | exact ne_gt f0.lt), trivial⟩
          (try clear f0 f1 f2 f3 f4 f5 f6 f7 f8 f9 f10 f11)
          obtain ⟨hHeld, f0, f1, f2, f3, f4, -⟩ := hT
          refine wpAnyH_ready (rs := [7]) (by kernel_rfl) (by simp) ?_
          refine AllReadyH.cons (o := ⟨none, _, _, _, _, _⟩) rfl (fun K hK => ?_) AllReadyH.nil
          (first | (obtain ⟨m0, m1, mf0, mf1⟩ := f0.two) | skip); (first | (obtain ⟨n0, n1, nf0, nf1⟩ := f2.two) | skip)
          go_simp
          refine hK.out _ _ ?_ (fun _ => ?_)
          · ((try dsimp only); (first | exact hst | assumption | exact hHeld.below hb9 | exact hHeld.alloc _ | exact hHeld.set2 (by omega) _ _))
          clear hK K
          (try simp only [Act.put, List.setIfInBounds_toArray, List.set_cons_zero, List.set_cons_succ])
          refine gen0 (T := fun W => ((fun W => CK w W k1 k2 A1 A2 c1 c2 d1.length d2.length)) W ∧ Blk W wq2.heap.size 29 #[.int .i64 k1, .string ⟨d1.toArray⟩] ∧ w.heap.size + 1 < wq2.heap.size ∧ Blk W wq12.heap.size 29 #[.int .i64 k2, .string ⟨d2.toArray⟩] ∧ w.heap.size + 1 < wq12.heap.size ∧ wq2.heap.size ≠ wq12.heap.size ∧ True) ?_ (fun wq20 hT => ?_)
          · exact ⟨by (first | exact hst | assumption | exact hHeld.below hb9 | exact hHeld.alloc _ | exact hHeld.set2 (by omega) _ _), by (first | assumption | with_reducible exact Blk.new _ _ _ | exact hHeld.lt | exact f0.below hb9 | exact f2.below hb9 | with_reducible exact f0.alloc _ | with_reducible exact f2.alloc _ | with_reducible exact Blk.set2 f0 _ _ | with_reducible exact Blk.set2 f2 _ _ | exact Blk.far2 f0 (by first | assumption | exact Ne.symm (by assumption)) _ _ | exact Blk.far2 f2 (by first | assumption | exact Ne.symm (by assumption)) _ _ | exact ne_lt f0.lt | exact ne_gt f0.lt), by (first | assumption | with_reducible exact Blk.new _ _ _ | exact hHeld.lt | exact f0.below hb9 | exact f2.below hb9 | with_reducible exact f0.alloc _ | with_reducible exact f2.alloc _ | with_reducible exact Blk.set2 f0 _ _ | with_reducible exact Blk.set2 f2 _ _ | exact Blk.far2 f0 (by first | assumption | exact Ne.symm (by assumption)) _ _ | exact Blk.far2 f2 (by first | assumption | exact Ne.symm (by assumption)) _ _ | exact ne_lt f0.lt | exact ne_gt f0.lt), by (first | assumption | with_reducible exact Blk.new _ _ _ | exact hHeld.lt | exact f0.below hb9 | exact f2.below hb9 | with_reducible exact f0.alloc _ | with_reducible exact f2.alloc _ | with_reducible exact Blk.set2 f0 _ _ | with_reducible exact Blk.set2 f2 _ _ | exact Blk.far2 f0 (by first | assumption | exact Ne.symm (by assumption)) _ _ | exact Blk.far2 f2 (by first | assumption | exact Ne.symm (by assumption)) _ _ | exact ne_lt f0.lt | exact ne_gt f0.lt), by (first | assumption | with_reducible exact Blk.new _ _ _ | exact hHeld.lt | exact f0.below hb9 | exact f2.below hb9 | with_reducible exact f0.alloc _ | with_reducible exact f2.alloc _ | with_reducible exact Blk.set2 f0 _ _ | with_reducible exact Blk.set2 f2 _ _ | exact Blk.far2 f0 (by first | assumption | exact Ne.symm (by assumption)) _ _ | exact Blk.far2 f2 (by first | assumption | exact Ne.symm (by assumption)) _ _ | exact ne_lt f0.lt | exact ne_gt f0.lt), by (first | assumption | with_reducible exact Blk.new _ _ _ | exact hHeld.lt | exact f0.below hb9 | exact f2.below hb9 | with_reducible exact f0.alloc _ | with_reducible exact f2.alloc _ | with_reducible exact Blk.set2 f0 _ _ | with_reducible exact Blk.set2 f2 _ _ | exact Blk.far2 f0 (by first | assumption | exact Ne.symm (by assumption)) _ _ | exact Blk.far2 f2 (by first | assumption | exact Ne.symm (by assumption)) _ _ | exact ne_lt f0.lt | exact ne_gt f0.lt), trivial⟩
          (try clear f0 f1 f2 f3 f4 f5 f6 f7 f8 f9 f10 f11)
          obtain ⟨hHeld, f0, f1, f2, f3, f4, -⟩ := hT
          refine wpAnyH_done (by kernel_rfl) ?_ _
          (go_wp2_with fail; go_meet; exact ⟨_, _, rfl, rfl, ⟨hHeld.bel, hHeld.a, hHeld.b, by assumption, by assumption⟩⟩)
        exact AllReadyH.nil
      refine AllReadyH.cons (o := ⟨some 8, _, _, _, _, _⟩) rfl (fun K hK => ?_) ?_
      · go_simp
        refine hK.out _ _ ?_ (fun _ => ?_)
        · ((try dsimp only); (first | exact hst | assumption | exact hHeld.below hb9 | exact hHeld.alloc _ | exact hHeld.set2 (by omega) _ _))
        clear hK K
        (try simp only [Act.put, List.setIfInBounds_toArray, List.set_cons_zero, List.set_cons_succ])
        refine gen0 (T := fun W => ((fun W => CK w W k1 k2 A1 A2 c1 c2 d1.length d2.length)) W ∧ Blk W wq2.heap.size 29 #[.int .i64 0, .string ⟨#[]⟩] ∧ w.heap.size + 1 < wq2.heap.size ∧ True) ?_ (fun wq21 hT => ?_)
        · exact ⟨by (first | exact hst | assumption | exact hHeld.below hb9 | exact hHeld.alloc _ | exact hHeld.set2 (by omega) _ _), by (first | assumption | with_reducible exact Blk.new _ _ _ | exact hHeld.lt | exact f0.below hb9 | exact f2.below hb9 | with_reducible exact f0.alloc _ | with_reducible exact f2.alloc _ | with_reducible exact Blk.set2 f0 _ _ | with_reducible exact Blk.set2 f2 _ _ | exact Blk.far2 f0 (by first | assumption | exact Ne.symm (by assumption)) _ _ | exact Blk.far2 f2 (by first | assumption | exact Ne.symm (by assumption)) _ _ | exact ne_lt f0.lt | exact ne_gt f0.lt), by (first | assumption | with_reducible exact Blk.new _ _ _ | exact hHeld.lt | exact f0.below hb9 | exact f2.below hb9 | with_reducible exact f0.alloc _ | with_reducible exact f2.alloc _ | with_reducible exact Blk.set2 f0 _ _ | with_reducible exact Blk.set2 f2 _ _ | exact Blk.far2 f0 (by first | assumption | exact Ne.symm (by assumption)) _ _ | exact Blk.far2 f2 (by first | assumption | exact Ne.symm (by assumption)) _ _ | exact ne_lt f0.lt | exact ne_gt f0.lt), trivial⟩
        (try clear f0 f1 f2 f3 f4 f5 f6 f7 f8 f9 f10 f11)
        obtain ⟨hHeld, f0, f1, -⟩ := hT
        refine wpAnyH_ready (rs := [3, 4]) (by kernel_rfl) (by simp) ?_
        refine AllReadyH.cons (o := ⟨some 28, _, _, _, _, _⟩) rfl (fun K hK => ?_) ?_
        · go_simp
          (refine (Document_any _ _ _ ?_).mono ?_; (first | exact ha.below hHeld.bel | exact hb.below hHeld.bel); rintro e w9 ⟨rfl, hb9⟩)
          go_wp2_with fail
          refine hK.out _ _ ?_ (fun _ => ?_)
          · ((try dsimp only); (first | exact hst | assumption | exact hHeld.below hb9 | exact hHeld.alloc _ | exact hHeld.set2 (by omega) _ _))
          clear hK K
          (try simp only [Act.put, List.setIfInBounds_toArray, List.set_cons_zero, List.set_cons_succ])
          refine gen0 (T := fun W => ((fun W => CK w W k1 k2 A1 A2 c1 c2 d1.length d2.length)) W ∧ Blk W wq2.heap.size 29 #[.int .i64 0, .string ⟨#[]⟩] ∧ w.heap.size + 1 < wq2.heap.size ∧ True) ?_ (fun wq22 hT => ?_)
          · exact ⟨by (first | exact hst | assumption | exact hHeld.below hb9 | exact hHeld.alloc _ | exact hHeld.set2 (by omega) _ _), by (first | assumption | with_reducible exact Blk.new _ _ _ | exact hHeld.lt | exact f0.below hb9 | exact f2.below hb9 | with_reducible exact f0.alloc _ | with_reducible exact f2.alloc _ | with_reducible exact Blk.set2 f0 _ _ | with_reducible exact Blk.set2 f2 _ _ | exact Blk.far2 f0 (by first | assumption | exact Ne.symm (by assumption)) _ _ | exact Blk.far2 f2 (by first | assumption | exact Ne.symm (by assumption)) _ _ | exact ne_lt f0.lt | exact ne_gt f0.lt), by (first | assumption | with_reducible exact Blk.new _ _ _ | exact hHeld.lt | exact f0.below hb9 | exact f2.below hb9 | with_reducible exact f0.alloc _ | with_reducible exact f2.alloc _ | with_reducible exact Blk.set2 f0 _ _ | with_reducible exact Blk.set2 f2 _ _ | exact Blk.far2 f0 (by first | assumption | exact Ne.symm (by assumption)) _ _ | exact Blk.far2 f2 (by first | assumption | exact Ne.symm (by assumption)) _ _ | exact ne_lt f0.lt | exact ne_gt f0.lt), trivial⟩
          (try clear f0 f1 f2 f3 f4 f5 f6 f7 f8 f9 f10 f11)
          obtain ⟨hHeld, f0, f1, -⟩ := hT
          refine wpAnyH_ready (rs := [4]) (by kernel_rfl) (by simp) ?_
          refine AllReadyH.cons (o := ⟨some 7, _, _, _, _, _⟩) rfl (fun K hK => ?_) AllReadyH.nil
          go_simp
          refine hK.out _ _ ?_ (fun _ => ?_)
          · ((try dsimp only); (first | exact hst | assumption | exact hHeld.below hb9 | exact hHeld.alloc _ | exact hHeld.set2 (by omega) _ _))
          clear hK K
          (try simp only [Act.put, List.setIfInBounds_toArray, List.set_cons_zero, List.set_cons_succ])
          refine gen0 (T := fun W => ((fun W => CK w W k1 k2 A1 A2 c1 c2 d1.length d2.length)) W ∧ Blk W wq22.heap.size 29 #[.int .i64 0, .string ⟨#[]⟩] ∧ w.heap.size + 1 < wq22.heap.size ∧ Blk W wq2.heap.size 29 #[.int .i64 0, .string ⟨#[]⟩] ∧ w.heap.size + 1 < wq2.heap.size ∧ wq22.heap.size ≠ wq2.heap.size ∧ True) ?_ (fun wq23 hT => ?_)
          · exact ⟨by (first | exact hst | assumption | exact hHeld.below hb9 | exact hHeld.alloc _ | exact hHeld.set2 (by omega) _ _), by (first | assumption | with_reducible exact Blk.new _ _ _ | exact hHeld.lt | exact f0.below hb9 | exact f2.below hb9 | with_reducible exact f0.alloc _ | with_reducible exact f2.alloc _ | with_reducible exact Blk.set2 f0 _ _ | with_reducible exact Blk.set2 f2 _ _ | exact Blk.far2 f0 (by first | assumption | exact Ne.symm (by assumption)) _ _ | exact Blk.far2 f2 (by first | assumption | exact Ne.symm (by assumption)) _ _ | exact ne_lt f0.lt | exact ne_gt f0.lt), by (first | assumption | with_reducible exact Blk.new _ _ _ | exact hHeld.lt | exact f0.below hb9 | exact f2.below hb9 | with_reducible exact f0.alloc _ | with_reducible exact f2.alloc _ | with_reducible exact Blk.set2 f0 _ _ | with_reducible exact Blk.set2 f2 _ _ | exact Blk.far2 f0 (by first | assumption | exact Ne.symm (by assumption)) _ _ | exact Blk.far2 f2 (by first | assumption | exact Ne.symm (by assumption)) _ _ | exact ne_lt f0.lt | exact ne_gt f0.lt), by (first | assumption | with_reducible exact Blk.new _ _ _ | exact hHeld.lt | exact f0.below hb9 | exact f2.below hb9 | with_reducible exact f0.alloc _ | with_reducible exact f2.alloc _ | with_reducible exact Blk.set2 f0 _ _ | with_reducible exact Blk.set2 f2 _ _ | exact Blk.far2 f0 (by first | assumption | exact Ne.symm (by assumption)) _ _ | exact Blk.far2 f2 (by first | assumption | exact Ne.symm (by assumption)) _ _ | exact ne_lt f0.lt | exact ne_gt f0.lt), by (first | assumption | with_reducible exact Blk.new _ _ _ | exact hHeld.lt | exact f0.below hb9 | exact f2.below hb9 | with_reducible exact f0.alloc _ | with_reducible exact f2.alloc _ | with_reducible exact Blk.set2 f0 _ _ | with_reducible exact Blk.set2 f2 _ _ | exact Blk.far2 f0 (by first | assumption | exact Ne.symm (by assumption)) _ _ | exact Blk.far2 f2 (by first | assumption | exact Ne.symm (by assumption)) _ _ | exact ne_lt f0.lt | exact ne_gt f0.lt), by (first | assumption | with_reducible exact Blk.new _ _ _ | exact hHeld.lt | exact f0.below hb9 | exact f2.below hb9 | with_reducible exact f0.alloc _ | with_reducible exact f2.alloc _ | with_reducible exact Blk.set2 f0 _ _ | with_reducible exact Blk.set2 f2 _ _ | exact Blk.far2 f0 (by first | assumption | exact Ne.symm (by assumption)) _ _ | exact Blk.far2 f2 (by first | assumption | exact Ne.symm (by assumption)) _ _ | exact ne_lt f0.lt | exact ne_gt f0.lt), trivial⟩
          (try clear f0 f1 f2 f3 f4 f5 f6 f7 f8 f9 f10 f11)
          obtain ⟨hHeld, f0, f1, f2, f3, f4, -⟩ := hT
          refine wpAnyH_ready (rs := [6]) (by kernel_rfl) (by simp) ?_
          refine AllReadyH.cons (o := ⟨none, _, _, _, _, _⟩) rfl (fun K hK => ?_) AllReadyH.nil
          (first | (obtain ⟨m0, m1, mf0, mf1⟩ := f0.two) | skip); (first | (obtain ⟨n0, n1, nf0, nf1⟩ := f2.two) | skip)
          go_simp
          refine hK.out _ _ ?_ (fun _ => ?_)
          · ((try dsimp only); (first | exact hst | assumption | exact hHeld.below hb9 | exact hHeld.alloc _ | exact hHeld.set2 (by omega) _ _))
          clear hK K
          (try simp only [Act.put, List.setIfInBounds_toArray, List.set_cons_zero, List.set_cons_succ])
          refine gen0 (T := fun W => ((fun W => CK w W k1 k2 A1 A2 c1 c2 d1.length d2.length)) W ∧ Blk W wq22.heap.size 29 #[.int .i64 k1, .string ⟨d1.toArray⟩] ∧ w.heap.size + 1 < wq22.heap.size ∧ Blk W wq2.heap.size 29 #[.int .i64 0, .string ⟨#[]⟩] ∧ w.heap.size + 1 < wq2.heap.size ∧ wq22.heap.size ≠ wq2.heap.size ∧ True) ?_ (fun wq24 hT => ?_)
          · exact ⟨by (first | exact hst | assumption | exact hHeld.below hb9 | exact hHeld.alloc _ | exact hHeld.set2 (by omega) _ _), by (first | assumption | with_reducible exact Blk.new _ _ _ | exact hHeld.lt | exact f0.below hb9 | exact f2.below hb9 | with_reducible exact f0.alloc _ | with_reducible exact f2.alloc _ | with_reducible exact Blk.set2 f0 _ _ | with_reducible exact Blk.set2 f2 _ _ | exact Blk.far2 f0 (by first | assumption | exact Ne.symm (by assumption)) _ _ | exact Blk.far2 f2 (by first | assumption | exact Ne.symm (by assumption)) _ _ | exact ne_lt f0.lt | exact ne_gt f0.lt), by (first | assumption | with_reducible exact Blk.new _ _ _ | exact hHeld.lt | exact f0.below hb9 | exact f2.below hb9 | with_reducible exact f0.alloc _ | with_reducible exact f2.alloc _ | with_reducible exact Blk.set2 f0 _ _ | with_reducible exact Blk.set2 f2 _ _ | exact Blk.far2 f0 (by first | assumption | exact Ne.symm (by assumption)) _ _ | exact Blk.far2 f2 (by first | assumption | exact Ne.symm (by assumption)) _ _ | exact ne_lt f0.lt | exact ne_gt f0.lt), by (first | assumption | with_reducible exact Blk.new _ _ _ | exact hHeld.lt | exact f0.below hb9 | exact f2.below hb9 | with_reducible exact f0.alloc _ | with_reducible exact f2.alloc _ | with_reducible exact Blk.set2 f0 _ _ | with_reducible exact Blk.set2 f2 _ _ | exact Blk.far2 f0 (by first | assumption | exact Ne.symm (by assumption)) _ _ | exact Blk.far2 f2 (by first | assumption | exact Ne.symm (by assumption)) _ _ | exact ne_lt f0.lt | exact ne_gt f0.lt), by (first | assumption | with_reducible exact Blk.new _ _ _ | exact hHeld.lt | exact f0.below hb9 | exact f2.below hb9 | with_reducible exact f0.alloc _ | with_reducible exact f2.alloc _ | with_reducible exact Blk.set2 f0 _ _ | with_reducible exact Blk.set2 f2 _ _ | exact Blk.far2 f0 (by first | assumption | exact Ne.symm (by assumption)) _ _ | exact Blk.far2 f2 (by first | assumption | exact Ne.symm (by assumption)) _ _ | exact ne_lt f0.lt | exact ne_gt f0.lt), by (first | assumption | with_reducible exact Blk.new _ _ _ | exact hHeld.lt | exact f0.below hb9 | exact f2.below hb9 | with_reducible exact f0.alloc _ | with_reducible exact f2.alloc _ | with_reducible exact Blk.set2 f0 _ _ | with_reducible exact Blk.set2 f2 _ _ | exact Blk.far2 f0 (by first | assumption | exact Ne.symm (by assumption)) _ _ | exact Blk.far2 f2 (by first | assumption | exact Ne.symm (by assumption)) _ _ | exact ne_lt f0.lt | exact ne_gt f0.lt), trivial⟩
          (try clear f0 f1 f2 f3 f4 f5 f6 f7 f8 f9 f10 f11)
          obtain ⟨hHeld, f0, f1, f2, f3, f4, -⟩ := hT
          refine wpAnyH_ready (rs := [7]) (by kernel_rfl) (by simp) ?_
          refine AllReadyH.cons (o := ⟨none, _, _, _, _, _⟩) rfl (fun K hK => ?_) AllReadyH.nil
          (first | (obtain ⟨m0, m1, mf0, mf1⟩ := f0.two) | skip); (first | (obtain ⟨n0, n1, nf0, nf1⟩ := f2.two) | skip)
          go_simp
          refine hK.out _ _ ?_ (fun _ => ?_)
          · ((try dsimp only); (first | exact hst | assumption | exact hHeld.below hb9 | exact hHeld.alloc _ | exact hHeld.set2 (by omega) _ _))
          clear hK K
          (try simp only [Act.put, List.setIfInBounds_toArray, List.set_cons_zero, List.set_cons_succ])
          refine gen0 (T := fun W => ((fun W => CK w W k1 k2 A1 A2 c1 c2 d1.length d2.length)) W ∧ Blk W wq22.heap.size 29 #[.int .i64 k1, .string ⟨d1.toArray⟩] ∧ w.heap.size + 1 < wq22.heap.size ∧ Blk W wq2.heap.size 29 #[.int .i64 k2, .string ⟨d2.toArray⟩] ∧ w.heap.size + 1 < wq2.heap.size ∧ wq22.heap.size ≠ wq2.heap.size ∧ True) ?_ (fun wq25 hT => ?_)
          · exact ⟨by (first | exact hst | assumption | exact hHeld.below hb9 | exact hHeld.alloc _ | exact hHeld.set2 (by omega) _ _), by (first | assumption | with_reducible exact Blk.new _ _ _ | exact hHeld.lt | exact f0.below hb9 | exact f2.below hb9 | with_reducible exact f0.alloc _ | with_reducible exact f2.alloc _ | with_reducible exact Blk.set2 f0 _ _ | with_reducible exact Blk.set2 f2 _ _ | exact Blk.far2 f0 (by first | assumption | exact Ne.symm (by assumption)) _ _ | exact Blk.far2 f2 (by first | assumption | exact Ne.symm (by assumption)) _ _ | exact ne_lt f0.lt | exact ne_gt f0.lt), by (first | assumption | with_reducible exact Blk.new _ _ _ | exact hHeld.lt | exact f0.below hb9 | exact f2.below hb9 | with_reducible exact f0.alloc _ | with_reducible exact f2.alloc _ | with_reducible exact Blk.set2 f0 _ _ | with_reducible exact Blk.set2 f2 _ _ | exact Blk.far2 f0 (by first | assumption | exact Ne.symm (by assumption)) _ _ | exact Blk.far2 f2 (by first | assumption | exact Ne.symm (by assumption)) _ _ | exact ne_lt f0.lt | exact ne_gt f0.lt), by (first | assumption | with_reducible exact Blk.new _ _ _ | exact hHeld.lt | exact f0.below hb9 | exact f2.below hb9 | with_reducible exact f0.alloc _ | with_reducible exact f2.alloc _ | with_reducible exact Blk.set2 f0 _ _ | with_reducible exact Blk.set2 f2 _ _ | exact Blk.far2 f0 (by first | assumption | exact Ne.symm (by assumption)) _ _ | exact Blk.far2 f2 (by first | assumption | exact Ne.symm (by assumption)) _ _ | exact ne_lt f0.lt | exact ne_gt f0.lt), by (first | assumption | with_reducible exact Blk.new _ _ _ | exact hHeld.lt | exact f0.below hb9 | exact f2.below hb9 | with_reducible exact f0.alloc _ | with_reducible exact f2.alloc _ | with_reducible exact Blk.set2 f0 _ _ | with_reducible exact Blk.set2 f2 _ _ | exact Blk.far2 f0 (by first | assumption | exact Ne.symm (by assumption)) _ _ | exact Blk.far2 f2 (by first | assumption | exact Ne.symm (by assumption)) _ _ | exact ne_lt f0.lt | exact ne_gt f0.lt), by (first | assumption | with_reducible exact Blk.new _ _ _ | exact hHeld.lt | exact f0.below hb9 | exact f2.below hb9 | with_reducible exact f0.alloc _ | with_reducible exact f2.alloc _ | with_reducible exact Blk.set2 f0 _ _ | with_reducible exact Blk.set2 f2 _ _ | exact Blk.far2 f0 (by first | assumption | exact Ne.symm (by assumption)) _ _ | exact Blk.far2 f2 (by first | assumption | exact Ne.symm (by assumption)) _ _ | exact ne_lt f0.lt | exact ne_gt f0.lt), trivial⟩
          (try clear f0 f1 f2 f3 f4 f5 f6 f7 f8 f9 f10 f11)
          obtain ⟨hHeld, f0, f1, f2, f3, f4, -⟩ := hT
          refine wpAnyH_done (by kernel_rfl) ?_ _
          (go_wp2_with fail; go_meet; exact ⟨_, _, rfl, rfl, ⟨hHeld.bel, hHeld.a, hHeld.b, by assumption, by assumption⟩⟩)
        refine AllReadyH.cons (o := ⟨some 7, _, _, _, _, _⟩) rfl (fun K hK => ?_) ?_
        · go_simp
          refine hK.out _ _ ?_ (fun _ => ?_)
          · ((try dsimp only); (first | exact hst | assumption | exact hHeld.below hb9 | exact hHeld.alloc _ | exact hHeld.set2 (by omega) _ _))
          clear hK K
          (try simp only [Act.put, List.setIfInBounds_toArray, List.set_cons_zero, List.set_cons_succ])
          refine gen0 (T := fun W => ((fun W => CK w W k1 k2 A1 A2 c1 c2 d1.length d2.length)) W ∧ Blk W wq21.heap.size 29 #[.int .i64 0, .string ⟨#[]⟩] ∧ w.heap.size + 1 < wq21.heap.size ∧ Blk W wq2.heap.size 29 #[.int .i64 0, .string ⟨#[]⟩] ∧ w.heap.size + 1 < wq2.heap.size ∧ wq21.heap.size ≠ wq2.heap.size ∧ True) ?_ (fun wq26 hT => ?_)
          · exact ⟨by (first | exact hst | assumption | exact hHeld.below hb9 | exact hHeld.alloc _ | exact hHeld.set2 (by omega) _ _), by (first | assumption | with_reducible exact Blk.new _ _ _ | exact hHeld.lt | exact f0.below hb9 | exact f2.below hb9 | with_reducible exact f0.alloc _ | with_reducible exact f2.alloc _ | with_reducible exact Blk.set2 f0 _ _ | with_reducible exact Blk.set2 f2 _ _ | exact Blk.far2 f0 (by first | assumption | exact Ne.symm (by assumption)) _ _ | exact Blk.far2 f2 (by first | assumption | exact Ne.symm (by assumption)) _ _ | exact ne_lt f0.lt | exact ne_gt f0.lt), by (first | assumption | with_reducible exact Blk.new _ _ _ | exact hHeld.lt | exact f0.below hb9 | exact f2.below hb9 | with_reducible exact f0.alloc _ | with_reducible exact f2.alloc _ | with_reducible exact Blk.set2 f0 _ _ | with_reducible exact Blk.set2 f2 _ _ | exact Blk.far2 f0 (by first | assumption | exact Ne.symm (by assumption)) _ _ | exact Blk.far2 f2 (by first | assumption | exact Ne.symm (by assumption)) _ _ | exact ne_lt f0.lt | exact ne_gt f0.lt), by (first | assumption | with_reducible exact Blk.new _ _ _ | exact hHeld.lt | exact f0.below hb9 | exact f2.below hb9 | with_reducible exact f0.alloc _ | with_reducible exact f2.alloc _ | with_reducible exact Blk.set2 f0 _ _ | with_reducible exact Blk.set2 f2 _ _ | exact Blk.far2 f0 (by first | assumption | exact Ne.symm (by assumption)) _ _ | exact Blk.far2 f2 (by first | assumption | exact Ne.symm (by assumption)) _ _ | exact ne_lt f0.lt | exact ne_gt f0.lt), by (first | assumption | with_reducible exact Blk.new _ _ _ | exact hHeld.lt | exact f0.below hb9 | exact f2.below hb9 | with_reducible exact f0.alloc _ | with_reducible exact f2.alloc _ | with_reducible exact Blk.set2 f0 _ _ | with_reducible exact Blk.set2 f2 _ _ | exact Blk.far2 f0 (by first | assumption | exact Ne.symm (by assumption)) _ _ | exact Blk.far2 f2 (by first | assumption | exact Ne.symm (by assumption)) _ _ | exact ne_lt f0.lt | exact ne_gt f0.lt), by (first | assumption | with_reducible exact Blk.new _ _ _ | exact hHeld.lt | exact f0.below hb9 | exact f2.below hb9 | with_reducible exact f0.alloc _ | with_reducible exact f2.alloc _ | with_reducible exact Blk.set2 f0 _ _ | with_reducible exact Blk.set2 f2 _ _ | exact Blk.far2 f0 (by first | assumption | exact Ne.symm (by assumption)) _ _ | exact Blk.far2 f2 (by first | assumption | exact Ne.symm (by assumption)) _ _ | exact ne_lt f0.lt | exact ne_gt f0.lt), trivial⟩
          (try clear f0 f1 f2 f3 f4 f5 f6 f7 f8 f9 f10 f11)
          obtain ⟨hHeld, f0, f1, f2, f3, f4, -⟩ := hT
          refine wpAnyH_ready (rs := [3]) (by kernel_rfl) (by simp) ?_
          refine AllReadyH.cons (o := ⟨some 28, _, _, _, _, _⟩) rfl (fun K hK => ?_) AllReadyH.nil
          go_simp
          (refine (Document_any _ _ _ ?_).mono ?_; (first | exact ha.below hHeld.bel | exact hb.below hHeld.bel); rintro e w9 ⟨rfl, hb9⟩)
          go_wp2_with fail
          refine hK.out _ _ ?_ (fun _ => ?_)
          · ((try dsimp only); (first | exact hst | assumption | exact hHeld.below hb9 | exact hHeld.alloc _ | exact hHeld.set2 (by omega) _ _))
          clear hK K
          (try simp only [Act.put, List.setIfInBounds_toArray, List.set_cons_zero, List.set_cons_succ])
          refine gen0 (T := fun W => ((fun W => CK w W k1 k2 A1 A2 c1 c2 d1.length d2.length)) W ∧ Blk W wq21.heap.size 29 #[.int .i64 0, .string ⟨#[]⟩] ∧ w.heap.size + 1 < wq21.heap.size ∧ Blk W wq2.heap.size 29 #[.int .i64 0, .string ⟨#[]⟩] ∧ w.heap.size + 1 < wq2.heap.size ∧ wq21.heap.size ≠ wq2.heap.size ∧ True) ?_ (fun wq27 hT => ?_)
          · exact ⟨by (first | exact hst | assumption | exact hHeld.below hb9 | exact hHeld.alloc _ | exact hHeld.set2 (by omega) _ _), by (first | assumption | with_reducible exact Blk.new _ _ _ | exact hHeld.lt | exact f0.below hb9 | exact f2.below hb9 | with_reducible exact f0.alloc _ | with_reducible exact f2.alloc _ | with_reducible exact Blk.set2 f0 _ _ | with_reducible exact Blk.set2 f2 _ _ | exact Blk.far2 f0 (by first | assumption | exact Ne.symm (by assumption)) _ _ | exact Blk.far2 f2 (by first | assumption | exact Ne.symm (by assumption)) _ _ | exact ne_lt f0.lt | exact ne_gt f0.lt), by (first | assumption | with_reducible exact Blk.new _ _ _ | exact hHeld.lt | exact f0.below hb9 | exact f2.below hb9 | with_reducible exact f0.alloc _ | with_reducible exact f2.alloc _ | with_reducible exact Blk.set2 f0 _ _ | with_reducible exact Blk.set2 f2 _ _ | exact Blk.far2 f0 (by first | assumption | exact Ne.symm (by assumption)) _ _ | exact Blk.far2 f2 (by first | assumption | exact Ne.symm (by assumption)) _ _ | exact ne_lt f0.lt | exact ne_gt f0.lt), by (first | assumption | with_reducible exact Blk.new _ _ _ | exact hHeld.lt | exact f0.below hb9 | exact f2.below hb9 | with_reducible exact f0.alloc _ | with_reducible exact f2.alloc _ | with_reducible exact Blk.set2 f0 _ _ | with_reducible exact Blk.set2 f2 _ _ | exact Blk.far2 f0 (by first | assumption | exact Ne.symm (by assumption)) _ _ | exact Blk.far2 f2 (by first | assumption | exact Ne.symm (by assumption)) _ _ | exact ne_lt f0.lt | exact ne_gt f0.lt), by (first | assumption | with_reducible exact Blk.new _ _ _ | exact hHeld.lt | exact f0.below hb9 | exact f2.below hb9 | with_reducible exact f0.alloc _ | with_reducible exact f2.alloc _ | with_reducible exact Blk.set2 f0 _ _ | with_reducible exact Blk.set2 f2 _ _ | exact Blk.far2 f0 (by first | assumption | exact Ne.symm (by assumption)) _ _ | exact Blk.far2 f2 (by first | assumption | exact Ne.symm (by assumption)) _ _ | exact ne_lt f0.lt | exact ne_gt f0.lt), by (first | assumption | with_reducible exact Blk.new _ _ _ | exact hHeld.lt | exact f0.below hb9 | exact f2.below hb9 | with_reducible exact f0.alloc _ | with_reducible exact f2.alloc _ | with_reducible exact Blk.set2 f0 _ _ | with_reducible exact Blk.set2 f2 _ _ | exact Blk.far2 f0 (by first | assumption | exact Ne.symm (by assumption)) _ _ | exact Blk.far2 f2 (by first | assumption | exact Ne.symm (by assumption)) _ _ | exact ne_lt f0.lt | exact ne_gt f0.lt), trivial⟩
          (try clear f0 f1 f2 f3 f4 f5 f6 f7 f8 f9 f10 f11)
          obtain ⟨hHeld, f0, f1, f2, f3, f4, -⟩ := hT
          refine wpAnyH_ready (rs := [6]) (by kernel_rfl) (by simp) ?_
          refine AllReadyH.cons (o := ⟨none, _, _, _, _, _⟩) rfl (fun K hK => ?_) AllReadyH.nil
          (first | (obtain ⟨m0, m1, mf0, mf1⟩ := f0.two) | skip); (first | (obtain ⟨n0, n1, nf0, nf1⟩ := f2.two) | skip)
          go_simp
          refine hK.out _ _ ?_ (fun _ => ?_)
          · ((try dsimp only); (first | exact hst | assumption | exact hHeld.below hb9 | exact hHeld.alloc _ | exact hHeld.set2 (by omega) _ _))
          clear hK K
          (try simp only [Act.put, List.setIfInBounds_toArray, List.set_cons_zero, List.set_cons_succ])
          refine gen0 (T := fun W => ((fun W => CK w W k1 k2 A1 A2 c1 c2 d1.length d2.length)) W ∧ Blk W wq21.heap.size 29 #[.int .i64 k1, .string ⟨d1.toArray⟩] ∧ w.heap.size + 1 < wq21.heap.size ∧ Blk W wq2.heap.size 29 #[.int .i64 0, .string ⟨#[]⟩] ∧ w.heap.size + 1 < wq2.heap.size ∧ wq21.heap.size ≠ wq2.heap.size ∧ True) ?_ (fun wq28 hT => ?_)
          · exact ⟨by (first | exact hst | assumption | exact hHeld.below hb9 | exact hHeld.alloc _ | exact hHeld.set2 (by omega) _ _), by (first | assumption | with_reducible exact Blk.new _ _ _ | exact hHeld.lt | exact f0.below hb9 | exact f2.below hb9 | with_reducible exact f0.alloc _ | with_reducible exact f2.alloc _ | with_reducible exact Blk.set2 f0 _ _ | with_reducible exact Blk.set2 f2 _ _ | exact Blk.far2 f0 (by first | assumption | exact Ne.symm (by assumption)) _ _ | exact Blk.far2 f2 (by first | assumption | exact Ne.symm (by assumption)) _ _ | exact ne_lt f0.lt | exact ne_gt f0.lt), by (first | assumption | with_reducible exact Blk.new _ _ _ | exact hHeld.lt | exact f0.below hb9 | exact f2.below hb9 | with_reducible exact f0.alloc _ | with_reducible exact f2.alloc _ | with_reducible exact Blk.set2 f0 _ _ | with_reducible exact Blk.set2 f2 _ _ | exact Blk.far2 f0 (by first | assumption | exact Ne.symm (by assumption)) _ _ | exact Blk.far2 f2 (by first | assumption | exact Ne.symm (by assumption)) _ _ | exact ne_lt f0.lt | exact ne_gt f0.lt), by (first | assumption | with_reducible exact Blk.new _ _ _ | exact hHeld.lt | exact f0.below hb9 | exact f2.below hb9 | with_reducible exact f0.alloc _ | with_reducible exact f2.alloc _ | with_reducible exact Blk.set2 f0 _ _ | with_reducible exact Blk.set2 f2 _ _ | exact Blk.far2 f0 (by first | assumption | exact Ne.symm (by assumption)) _ _ | exact Blk.far2 f2 (by first | assumption | exact Ne.symm (by assumption)) _ _ | exact ne_lt f0.lt | exact ne_gt f0.lt), by (first | assumption | with_reducible exact Blk.new _ _ _ | exact hHeld.lt | exact f0.below hb9 | exact f2.below hb9 | with_reducible exact f0.alloc _ | with_reducible exact f2.alloc _ | with_reducible exact Blk.set2 f0 _ _ | with_reducible exact Blk.set2 f2 _ _ | exact Blk.far2 f0 (by first | assumption | exact Ne.symm (by assumption)) _ _ | exact Blk.far2 f2 (by first | assumption | exact Ne.symm (by assumption)) _ _ | exact ne_lt f0.lt | exact ne_gt f0.lt), by (first | assumption | with_reducible exact Blk.new _ _ _ | exact hHeld.lt | exact f0.below hb9 | exact f2.below hb9 | with_reducible exact f0.alloc _ | with_reducible exact f2.alloc _ | with_reducible exact Blk.set2 f0 _ _ | with_reducible exact Blk.set2 f2 _ _ | exact Blk.far2 f0 (by first | assumption | exact Ne.symm (by assumption)) _ _ | exact Blk.far2 f2 (by first | assumption | exact Ne.symm (by assumption)) _ _ | exact ne_lt f0.lt | exact ne_gt f0.lt), trivial⟩
          (try clear f0 f1 f2 f3 f4 f5 f6 f7 f8 f9 f10 f11)
          obtain ⟨hHeld, f0, f1, f2, f3, f4, -⟩ := hT
          refine wpAnyH_ready (rs := [7]) (by kernel_rfl) (by simp) ?_
          refine AllReadyH.cons (o := ⟨none, _, _, _, _, _⟩) rfl (fun K hK => ?_) AllReadyH.nil
          (first | (obtain ⟨m0, m1, mf0, mf1⟩ := f0.two) | skip); (first | (obtain ⟨n0, n1, nf0, nf1⟩ := f2.two) | skip)
          go_simp
          refine hK.out _ _ ?_ (fun _ => ?_)
          · ((try dsimp only); (first | exact hst | assumption | exact hHeld.below hb9 | exact hHeld.alloc _ | exact hHeld.set2 (by omega) _ _))
          clear hK K
          (try simp only [Act.put, List.setIfInBounds_toArray, List.set_cons_zero, List.set_cons_succ])
          refine gen0 (T := fun W => ((fun W => CK w W k1 k2 A1 A2 c1 c2 d1.length d2.length)) W ∧ Blk W wq21.heap.size 29 #[.int .i64 k1, .string ⟨d1.toArray⟩] ∧ w.heap.size + 1 < wq21.heap.size ∧ Blk W wq2.heap.size 29 #[.int .i64 k2, .string ⟨d2.toArray⟩] ∧ w.heap.size + 1 < wq2.heap.size ∧ wq21.heap.size ≠ wq2.heap.size ∧ True) ?_ (fun wq29 hT => ?_)
          · exact ⟨by (first | exact hst | assumption | exact hHeld.below hb9 | exact hHeld.alloc _ | exact hHeld.set2 (by omega) _ _), by (first | assumption | with_reducible exact Blk.new _ _ _ | exact hHeld.lt | exact f0.below hb9 | exact f2.below hb9 | with_reducible exact f0.alloc _ | with_reducible exact f2.alloc _ | with_reducible exact Blk.set2 f0 _ _ | with_reducible exact Blk.set2 f2 _ _ | exact Blk.far2 f0 (by first | assumption | exact Ne.symm (by assumption)) _ _ | exact Blk.far2 f2 (by first | assumption | exact Ne.symm (by assumption)) _ _ | exact ne_lt f0.lt | exact ne_gt f0.lt), by (first | assumption | with_reducible exact Blk.new _ _ _ | exact hHeld.lt | exact f0.below hb9 | exact f2.below hb9 | with_reducible exact f0.alloc _ | with_reducible exact f2.alloc _ | with_reducible exact Blk.set2 f0 _ _ | with_reducible exact Blk.set2 f2 _ _ | exact Blk.far2 f0 (by first | assumption | exact Ne.symm (by assumption)) _ _ | exact Blk.far2 f2 (by first | assumption | exact Ne.symm (by assumption)) _ _ | exact ne_lt f0.lt | exact ne_gt f0.lt), by (first | assumption | with_reducible exact Blk.new _ _ _ | exact hHeld.lt | exact f0.below hb9 | exact f2.below hb9 | with_reducible exact f0.alloc _ | with_reducible exact f2.alloc _ | with_reducible exact Blk.set2 f0 _ _ | with_reducible exact Blk.set2 f2 _ _ | exact Blk.far2 f0 (by first | assumption | exact Ne.symm (by assumption)) _ _ | exact Blk.far2 f2 (by first | assumption | exact Ne.symm (by assumption)) _ _ | exact ne_lt f0.lt | exact ne_gt f0.lt), by (first | assumption | with_reducible exact Blk.new _ _ _ | exact hHeld.lt | exact f0.below hb9 | exact f2.below hb9 | with_reducible exact f0.alloc _ | with_reducible exact f2.alloc _ | with_reducible exact Blk.set2 f0 _ _ | with_reducible exact Blk.set2 f2 _ _ | exact Blk.far2 f0 (by first | assumption | exact Ne.symm (by assumption)) _ _ | exact Blk.far2 f2 (by first | assumption | exact Ne.symm (by assumption)) _ _ | exact ne_lt f0.lt | exact ne_gt f0.lt), by (first | assumption | with_reducible exact Blk.new _ _ _ | exact hHeld.lt | exact f0.below hb9 | exact f2.below hb9 | with_reducible exact f0.alloc _ | with_reducible exact f2.alloc _ | with_reducible exact Blk.set2 f0 _ _ | with_reducible exact Blk.set2 f2 _ _ | exact Blk.far2 f0 (by first | assumption | exact Ne.symm (by assumption)) _ _ | exact Blk.far2 f2 (by first | assumption | exact Ne.symm (by assumption)) _ _ | exact ne_lt f0.lt | exact ne_gt f0.lt), trivial⟩
          (try clear f0 f1 f2 f3 f4 f5 f6 f7 f8 f9 f10 f11)
          obtain ⟨hHeld, f0, f1, f2, f3, f4, -⟩ := hT
          refine wpAnyH_done (by kernel_rfl) ?_ _
          (go_wp2_with fail; go_meet; exact ⟨_, _, rfl, rfl, ⟨hHeld.bel, hHeld.a, hHeld.b, by assumption, by assumption⟩⟩)
        exact AllReadyH.nil
      exact AllReadyH.nil
    refine AllReadyH.cons (o := ⟨some 7, _, _, _, _, _⟩) rfl (fun K hK => ?_) ?_
    · go_simp
      refine hK.out _ _ ?_ (fun _ => ?_)
      · ((try dsimp only); (first | exact hst | assumption | exact hHeld.below hb9 | exact hHeld.alloc _ | exact hHeld.set2 (by omega) _ _))
      clear hK K
      (try simp only [Act.put, List.setIfInBounds_toArray, List.set_cons_zero, List.set_cons_succ])
      refine gen0 (T := fun W => ((fun W => CK w W k1 k2 A1 A2 c1 c2 d1.length d2.length)) W ∧ Blk W wq1.heap.size 29 #[.int .i64 0, .string ⟨#[]⟩] ∧ w.heap.size + 1 < wq1.heap.size ∧ True) ?_ (fun wq30 hT => ?_)
      · exact ⟨by (first | exact hst | assumption | exact hHeld.below hb9 | exact hHeld.alloc _ | exact hHeld.set2 (by omega) _ _), by (first | assumption | with_reducible exact Blk.new _ _ _ | exact hHeld.lt | exact f0.below hb9 | exact f2.below hb9 | with_reducible exact f0.alloc _ | with_reducible exact f2.alloc _ | with_reducible exact Blk.set2 f0 _ _ | with_reducible exact Blk.set2 f2 _ _ | exact Blk.far2 f0 (by first | assumption | exact Ne.symm (by assumption)) _ _ | exact Blk.far2 f2 (by first | assumption | exact Ne.symm (by assumption)) _ _ | exact ne_lt f0.lt | exact ne_gt f0.lt), by (first | assumption | with_reducible exact Blk.new _ _ _ | exact hHeld.lt | exact f0.below hb9 | exact f2.below hb9 | with_reducible exact f0.alloc _ | with_reducible exact f2.alloc _ | with_reducible exact Blk.set2 f0 _ _ | with_reducible exact Blk.set2 f2 _ _ | exact Blk.far2 f0 (by first | assumption | exact Ne.symm (by assumption)) _ _ | exact Blk.far2 f2 (by first | assumption | exact Ne.symm (by assumption)) _ _ | exact ne_lt f0.lt | exact ne_gt f0.lt), trivial⟩
      (try clear f0 f1 f2 f3 f4 f5 f6 f7 f8 f9 f10 f11)
      obtain ⟨hHeld, f0, f1, -⟩ := hT
      refine wpAnyH_ready (rs := [1, 5]) (by kernel_rfl) (by simp) ?_
      refine AllReadyH.cons (o := ⟨some 26, _, _, _, _, _⟩) rfl (fun K hK => ?_) ?_
      · go_simp
        (refine (Document_any _ _ _ ?_).mono ?_; (first | exact ha.below hHeld.bel | exact hb.below hHeld.bel); rintro e w9 ⟨rfl, hb9⟩)
        go_wp2_with fail
        refine hK.out _ _ ?_ (fun _ => ?_)
        · ((try dsimp only); (first | exact hst | assumption | exact hHeld.below hb9 | exact hHeld.alloc _ | exact hHeld.set2 (by omega) _ _))
        clear hK K
        (try simp only [Act.put, List.setIfInBounds_toArray, List.set_cons_zero, List.set_cons_succ])
        refine gen0 (T := fun W => ((fun W => CK w W k1 k2 A1 A2 c1 c2 d1.length d2.length)) W ∧ Blk W wq1.heap.size 29 #[.int .i64 0, .string ⟨#[]⟩] ∧ w.heap.size + 1 < wq1.heap.size ∧ True) ?_ (fun wq31 hT => ?_)
        · exact ⟨by (first | exact hst | assumption | exact hHeld.below hb9 | exact hHeld.alloc _ | exact hHeld.set2 (by omega) _ _), by (first | assumption | with_reducible exact Blk.new _ _ _ | exact hHeld.lt | exact f0.below hb9 | exact f2.below hb9 | with_reducible exact f0.alloc _ | with_reducible exact f2.alloc _ | with_reducible exact Blk.set2 f0 _ _ | with_reducible exact Blk.set2 f2 _ _ | exact Blk.far2 f0 (by first | assumption | exact Ne.symm (by assumption)) _ _ | exact Blk.far2 f2 (by first | assumption | exact Ne.symm (by assumption)) _ _ | exact ne_lt f0.lt | exact ne_gt f0.lt), by (first | assumption | with_reducible exact Blk.new _ _ _ | exact hHeld.lt | exact f0.below hb9 | exact f2.below hb9 | with_reducible exact f0.alloc _ | with_reducible exact f2.alloc _ | with_reducible exact Blk.set2 f0 _ _ | with_reducible exact Blk.set2 f2 _ _ | exact Blk.far2 f0 (by first | assumption | exact Ne.symm (by assumption)) _ _ | exact Blk.far2 f2 (by first | assumption | exact Ne.symm (by assumption)) _ _ | exact ne_lt f0.lt | exact ne_gt f0.lt), trivial⟩
        (try clear f0 f1 f2 f3 f4 f5 f6 f7 f8 f9 f10 f11)
        obtain ⟨hHeld, f0, f1, -⟩ := hT
        refine wpAnyH_ready (rs := [3, 5]) (by kernel_rfl) (by simp) ?_
        refine AllReadyH.cons (o := ⟨some 28, _, _, _, _, _⟩) rfl (fun K hK => ?_) ?_
        · go_simp
          (refine (Document_any _ _ _ ?_).mono ?_; (first | exact ha.below hHeld.bel | exact hb.below hHeld.bel); rintro e w9 ⟨rfl, hb9⟩)
          go_wp2_with fail
          refine hK.out _ _ ?_ (fun _ => ?_)
          · ((try dsimp only); (first | exact hst | assumption | exact hHeld.below hb9 | exact hHeld.alloc _ | exact hHeld.set2 (by omega) _ _))
          clear hK K
          (try simp only [Act.put, List.setIfInBounds_toArray, List.set_cons_zero, List.set_cons_succ])
          refine gen0 (T := fun W => ((fun W => CK w W k1 k2 A1 A2 c1 c2 d1.length d2.length)) W ∧ Blk W wq1.heap.size 29 #[.int .i64 0, .string ⟨#[]⟩] ∧ w.heap.size + 1 < wq1.heap.size ∧ True) ?_ (fun wq32 hT => ?_)
          · exact ⟨by (first | exact hst | assumption | exact hHeld.below hb9 | exact hHeld.alloc _ | exact hHeld.set2 (by omega) _ _), by (first | assumption | with_reducible exact Blk.new _ _ _ | exact hHeld.lt | exact f0.below hb9 | exact f2.below hb9 | with_reducible exact f0.alloc _ | with_reducible exact f2.alloc _ | with_reducible exact Blk.set2 f0 _ _ | with_reducible exact Blk.set2 f2 _ _ | exact Blk.far2 f0 (by first | assumption | exact Ne.symm (by assumption)) _ _ | exact Blk.far2 f2 (by first | assumption | exact Ne.symm (by assumption)) _ _ | exact ne_lt f0.lt | exact ne_gt f0.lt), by (first | assumption | with_reducible exact Blk.new _ _ _ | exact hHeld.lt | exact f0.below hb9 | exact f2.below hb9 | with_reducible exact f0.alloc _ | with_reducible exact f2.alloc _ | with_reducible exact Blk.set2 f0 _ _ | with_reducible exact Blk.set2 f2 _ _ | exact Blk.far2 f0 (by first | assumption | exact Ne.symm (by assumption)) _ _ | exact Blk.far2 f2 (by first | assumption | exact Ne.symm (by assumption)) _ _ | exact ne_lt f0.lt | exact ne_gt f0.lt), trivial⟩
          (try clear f0 f1 f2 f3 f4 f5 f6 f7 f8 f9 f10 f11)
          obtain ⟨hHeld, f0, f1, -⟩ := hT
          refine wpAnyH_ready (rs := [5]) (by kernel_rfl) (by simp) ?_
          refine AllReadyH.cons (o := ⟨some 8, _, _, _, _, _⟩) rfl (fun K hK => ?_) AllReadyH.nil
          go_simp
          refine hK.out _ _ ?_ (fun _ => ?_)
          · ((try dsimp only); (first | exact hst | assumption | exact hHeld.below hb9 | exact hHeld.alloc _ | exact hHeld.set2 (by omega) _ _))
          clear hK K
          (try simp only [Act.put, List.setIfInBounds_toArray, List.set_cons_zero, List.set_cons_succ])
          refine gen0 (T := fun W => ((fun W => CK w W k1 k2 A1 A2 c1 c2 d1.length d2.length)) W ∧ Blk W wq1.heap.size 29 #[.int .i64 0, .string ⟨#[]⟩] ∧ w.heap.size + 1 < wq1.heap.size ∧ Blk W wq32.heap.size 29 #[.int .i64 0, .string ⟨#[]⟩] ∧ w.heap.size + 1 < wq32.heap.size ∧ wq1.heap.size ≠ wq32.heap.size ∧ True) ?_ (fun wq33 hT => ?_)
          · exact ⟨by (first | exact hst | assumption | exact hHeld.below hb9 | exact hHeld.alloc _ | exact hHeld.set2 (by omega) _ _), by (first | assumption | with_reducible exact Blk.new _ _ _ | exact hHeld.lt | exact f0.below hb9 | exact f2.below hb9 | with_reducible exact f0.alloc _ | with_reducible exact f2.alloc _ | with_reducible exact Blk.set2 f0 _ _ | with_reducible exact Blk.set2 f2 _ _ | exact Blk.far2 f0 (by first | assumption | exact Ne.symm (by assumption)) _ _ | exact Blk.far2 f2 (by first | assumption | exact Ne.symm (by assumption)) _ _ | exact ne_lt f0.lt | exact ne_gt f0.lt), by (first | assumption | with_reducible exact Blk.new _ _ _ | exact hHeld.lt | exact f0.below hb9 | exact f2.below hb9 | with_reducible exact f0.alloc _ | with_reducible exact f2.alloc _ | with_reducible exact Blk.set2 f0 _ _ | with_reducible exact Blk.set2 f2 _ _ | exact Blk.far2 f0 (by first | assumption | exact Ne.symm (by assumption)) _ _ | exact Blk.far2 f2 (by first | assumption | exact Ne.symm (by assumption)) _ _ | exact ne_lt f0.lt | exact ne_gt f0.lt), by (first | assumption | with_reducible exact Blk.new _ _ _ | exact hHeld.lt | exact f0.below hb9 | exact f2.below hb9 | with_reducible exact f0.alloc _ | with_reducible exact f2.alloc _ | with_reducible exact Blk.set2 f0 _ _ | with_reducible exact Blk.set2 f2 _ _ | exact Blk.far2 f0 (by first | assumption | exact Ne.symm (by assumption)) _ _ | exact Blk.far2 f2 (by first | assumption | exact Ne.symm (by assumption)) _ _ | exact ne_lt f0.lt | exact ne_gt f0.lt), by (first | assumption | with_reducible exact Blk.new _ _ _ | exact hHeld.lt | exact f0.below hb9 | exact f2.below hb9 | with_reducible exact f0.alloc _ | with_reducible exact f2.alloc _ | with_reducible exact Blk.set2 f0 _ _ | with_reducible exact Blk.set2 f2 _ _ | exact Blk.far2 f0 (by first | assumption | exact Ne.symm (by assumption)) _ _ | exact Blk.far2 f2 (by first | assumption | exact Ne.symm (by assumption)) _ _ | exact ne_lt f0.lt | exact ne_gt f0.lt), by (first | assumption | with_reducible exact Blk.new _ _ _ | exact hHeld.lt | exact f0.below hb9 | exact f2.below hb9 | with_reducible exact f0.alloc _ | with_reducible exact f2.alloc _ | with_reducible exact Blk.set2 f0 _ _ | with_reducible exact Blk.set2 f2 _ _ | exact Blk.far2 f0 (by first | assumption | exact Ne.symm (by assumption)) _ _ | exact Blk.far2 f2 (by first | assumption | exact Ne.symm (by assumption)) _ _ | exact ne_lt f0.lt | exact ne_gt f0.lt), trivial⟩
          (try clear f0 f1 f2 f3 f4 f5 f6 f7 f8 f9 f10 f11)
          obtain ⟨hHeld, f0, f1, f2, f3, f4, -⟩ := hT
          refine wpAnyH_ready (rs := [6]) (by kernel_rfl) (by simp) ?_
          refine AllReadyH.cons (o := ⟨none, _, _, _, _, _⟩) rfl (fun K hK => ?_) AllReadyH.nil
          (first | (obtain ⟨m0, m1, mf0, mf1⟩ := f0.two) | skip); (first | (obtain ⟨n0, n1, nf0, nf1⟩ := f2.two) | skip)
          go_simp
          refine hK.out _ _ ?_ (fun _ => ?_)
          · ((try dsimp only); (first | exact hst | assumption | exact hHeld.below hb9 | exact hHeld.alloc _ | exact hHeld.set2 (by omega) _ _))
          clear hK K
          (try simp only [Act.put, List.setIfInBounds_toArray, List.set_cons_zero, List.set_cons_succ])
          refine gen0 (T := fun W => ((fun W => CK w W k1 k2 A1 A2 c1 c2 d1.length d2.length)) W ∧ Blk W wq1.heap.size 29 #[.int .i64 k1, .string ⟨d1.toArray⟩] ∧ w.heap.size + 1 < wq1.heap.size ∧ Blk W wq32.heap.size 29 #[.int .i64 0, .string ⟨#[]⟩] ∧ w.heap.size + 1 < wq32.heap.size ∧ wq1.heap.size ≠ wq32.heap.size ∧ True) ?_ (fun wq34 hT => ?_)
          · exact ⟨by (first | exact hst | assumption | exact hHeld.below hb9 | exact hHeld.alloc _ | exact hHeld.set2 (by omega) _ _), by (first | assumption | with_reducible exact Blk.new _ _ _ | exact hHeld.lt | exact f0.below hb9 | exact f2.below hb9 | with_reducible exact f0.alloc _ | with_reducible exact f2.alloc _ | with_reducible exact Blk.set2 f0 _ _ | with_reducible exact Blk.set2 f2 _ _ | exact Blk.far2 f0 (by first | assumption | exact Ne.symm (by assumption)) _ _ | exact Blk.far2 f2 (by first | assumption | exact Ne.symm (by assumption)) _ _ | exact ne_lt f0.lt | exact ne_gt f0.lt), by (first | assumption | with_reducible exact Blk.new _ _ _ | exact hHeld.lt | exact f0.below hb9 | exact f2.below hb9 | with_reducible exact f0.alloc _ | with_reducible exact f2.alloc _ | with_reducible exact Blk.set2 f0 _ _ | with_reducible exact Blk.set2 f2 _ _ | exact Blk.far2 f0 (by first | assumption | exact Ne.symm (by assumption)) _ _ | exact Blk.far2 f2 (by first | assumption | exact Ne.symm (by assumption)) _ _ | exact ne_lt f0.lt | exact ne_gt f0.lt), by (first | assumption | with_reducible exact Blk.new _ _ _ | exact hHeld.lt | exact f0.below hb9 | exact f2.below hb9 | with_reducible exact f0.alloc _ | with_reducible exact f2.alloc _ | with_reducible exact Blk.set2 f0 _ _ | with_reducible exact Blk.set2 f2 _ _ | exact Blk.far2 f0 (by first | assumption | exact Ne.symm (by assumption)) _ _ | exact Blk.far2 f2 (by first | assumption | exact Ne.symm (by assumption)) _ _ | exact ne_lt f0.lt | exact ne_gt f0.lt), by (first | assumption | with_reducible exact Blk.new _ _ _ | exact hHeld.lt | exact f0.below hb9 | exact f2.below hb9 | with_reducible exact f0.alloc _ | with_reducible exact f2.alloc _ | with_reducible exact Blk.set2 f0 _ _ | with_reducible exact Blk.set2 f2 _ _ | exact Blk.far2 f0 (by first | assumption | exact Ne.symm (by assumption)) _ _ | exact Blk.far2 f2 (by first | assumption | exact Ne.symm (by assumption)) _ _ | exact ne_lt f0.lt | exact ne_gt f0.lt), by (first | assumption | with_reducible exact Blk.new _ _ _ | exact hHeld.lt | exact f0.below hb9 | exact f2.below hb9 | with_reducible exact f0.alloc _ | with_reducible exact f2.alloc _ | with_reducible exact Blk.set2 f0 _ _ | with_reducible exact Blk.set2 f2 _ _ | exact Blk.far2 f0 (by first | assumption | exact Ne.symm (by assumption)) _ _ | exact Blk.far2 f2 (by first | assumption | exact Ne.symm (by assumption)) _ _ | exact ne_lt f0.lt | exact ne_gt f0.lt), trivial⟩
          (try clear f0 f1 f2 f3 f4 f5 f6 f7 f8 f9 f10 f11)
          obtain ⟨hHeld, f0, f1, f2, f3, f4, -⟩ := hT
          refine wpAnyH_ready (rs := [7]) (by kernel_rfl) (by simp) ?_
          refine AllReadyH.cons (o := ⟨none, _, _, _, _, _⟩) rfl (fun K hK => ?_) AllReadyH.nil
          (first | (obtain ⟨m0, m1, mf0, mf1⟩ := f0.two) | skip); (first | (obtain ⟨n0, n1, nf0, nf1⟩ := f2.two) | skip)
          go_simp
          refine hK.out _ _ ?_ (fun _ => ?_)
          · ((try dsimp only); (first | exact hst | assumption | exact hHeld.below hb9 | exact hHeld.alloc _ | exact hHeld.set2 (by omega) _ _))
          clear hK K
          (try simp only [Act.put, List.setIfInBounds_toArray, List.set_cons_zero, List.set_cons_succ])
          refine gen0 (T := fun W => ((fun W => CK w W k1 k2 A1 A2 c1 c2 d1.length d2.length)) W ∧ Blk W wq1.heap.size 29 #[.int .i64 k1, .string ⟨d1.toArray⟩] ∧ w.heap.size + 1 < wq1.heap.size ∧ Blk W wq32.heap.size 29 #[.int .i64 k2, .string ⟨d2.toArray⟩] ∧ w.heap.size + 1 < wq32.heap.size ∧ wq1.heap.size ≠ wq32.heap.size ∧ True) ?_ (fun wq35 hT => ?_)
          · exact ⟨by (first | exact hst | assumption | exact hHeld.below hb9 | exact hHeld.alloc _ | exact hHeld.set2 (by omega) _ _), by (first | assumption | with_reducible exact Blk.new _ _ _ | exact hHeld.lt | exact f0.below hb9 | exact f2.below hb9 | with_reducible exact f0.alloc _ | with_reducible exact f2.alloc _ | with_reducible exact Blk.set2 f0 _ _ | with_reducible exact Blk.set2 f2 _ _ | exact Blk.far2 f0 (by first | assumption | exact Ne.symm (by assumption)) _ _ | exact Blk.far2 f2 (by first | assumption | exact Ne.symm (by assumption)) _ _ | exact ne_lt f0.lt | exact ne_gt f0.lt), by (first | assumption | with_reducible exact Blk.new _ _ _ | exact hHeld.lt | exact f0.below hb9 | exact f2.below hb9 | with_reducible exact f0.alloc _ | with_reducible exact f2.alloc _ | with_reducible exact Blk.set2 f0 _ _ | with_reducible exact Blk.set2 f2 _ _ | exact Blk.far2 f0 (by first | assumption | exact Ne.symm (by assumption)) _ _ | exact Blk.far2 f2 (by first | assumption | exact Ne.symm (by assumption)) _ _ | exact ne_lt f0.lt | exact ne_gt f0.lt), by (first | assumption | with_reducible exact Blk.new _ _ _ | exact hHeld.lt | exact f0.below hb9 | exact f2.below hb9 | with_reducible exact f0.alloc _ | with_reducible exact f2.alloc _ | with_reducible exact Blk.set2 f0 _ _ | with_reducible exact Blk.set2 f2 _ _ | exact Blk.far2 f0 (by first | assumption | exact Ne.symm (by assumption)) _ _ | exact Blk.far2 f2 (by first | assumption | exact Ne.symm (by assumption)) _ _ | exact ne_lt f0.lt | exact ne_gt f0.lt), by (first | assumption | with_reducible exact Blk.new _ _ _ | exact hHeld.lt | exact f0.below hb9 | exact f2.below hb9 | with_reducible exact f0.alloc _ | with_reducible exact f2.alloc _ | with_reducible exact Blk.set2 f0 _ _ | with_reducible exact Blk.set2 f2 _ _ | exact Blk.far2 f0 (by first | assumption | exact Ne.symm (by assumption)) _ _ | exact Blk.far2 f2 (by first | assumption | exact Ne.symm (by assumption)) _ _ | exact ne_lt f0.lt | exact ne_gt f0.lt), by (first | assumption | with_reducible exact Blk.new _ _ _ | exact hHeld.lt | exact f0.below hb9 | exact f2.below hb9 | with_reducible exact f0.alloc _ | with_reducible exact f2.alloc _ | with_reducible exact Blk.set2 f0 _ _ | with_reducible exact Blk.set2 f2 _ _ | exact Blk.far2 f0 (by first | assumption | exact Ne.symm (by assumption)) _ _ | exact Blk.far2 f2 (by first | assumption | exact Ne.symm (by assumption)) _ _ | exact ne_lt f0.lt | exact ne_gt f0.lt), trivial⟩
          (try clear f0 f1 f2 f3 f4 f5 f6 f7 f8 f9 f10 f11)
          obtain ⟨hHeld, f0, f1, f2, f3, f4, -⟩ := hT
          refine wpAnyH_done (by kernel_rfl) ?_ _
          (go_wp2_with fail; go_meet; exact ⟨_, _, rfl, rfl, ⟨hHeld.bel, hHeld.a, hHeld.b, by assumption, by assumption⟩⟩)
        refine AllReadyH.cons (o := ⟨some 8, _, _, _, _, _⟩) rfl (fun K hK => ?_) ?_
        · go_simp
          refine hK.out _ _ ?_ (fun _ => ?_)
          · ((try dsimp only); (first | exact hst | assumption | exact hHeld.below hb9 | exact hHeld.alloc _ | exact hHeld.set2 (by omega) _ _))
          clear hK K
          (try simp only [Act.put, List.setIfInBounds_toArray, List.set_cons_zero, List.set_cons_succ])
          refine gen0 (T := fun W => ((fun W => CK w W k1 k2 A1 A2 c1 c2 d1.length d2.length)) W ∧ Blk W wq1.heap.size 29 #[.int .i64 0, .string ⟨#[]⟩] ∧ w.heap.size + 1 < wq1.heap.size ∧ Blk W wq31.heap.size 29 #[.int .i64 0, .string ⟨#[]⟩] ∧ w.heap.size + 1 < wq31.heap.size ∧ wq1.heap.size ≠ wq31.heap.size ∧ True) ?_ (fun wq36 hT => ?_)
          · exact ⟨by (first | exact hst | assumption | exact hHeld.below hb9 | exact hHeld.alloc _ | exact hHeld.set2 (by omega) _ _), by (first | assumption | with_reducible exact Blk.new _ _ _ | exact hHeld.lt | exact f0.below hb9 | exact f2.below hb9 | with_reducible exact f0.alloc _ | with_reducible exact f2.alloc _ | with_reducible exact Blk.set2 f0 _ _ | with_reducible exact Blk.set2 f2 _ _ | exact Blk.far2 f0 (by first | assumption | exact Ne.symm (by assumption)) _ _ | exact Blk.far2 f2 (by first | assumption | exact Ne.symm (by assumption)) _ _ | exact ne_lt f0.lt | exact ne_gt f0.lt), by (first | assumption | with_reducible exact Blk.new _ _ _ | exact hHeld.lt | exact f0.below hb9 | exact f2.below hb9 | with_reducible exact f0.alloc _ | with_reducible exact f2.alloc _ | with_reducible exact Blk.set2 f0 _ _ | with_reducible exact Blk.set2 f2 _ _ | exact Blk.far2 f0 (by first | assumption | exact Ne.symm (by assumption)) _ _ | exact Blk.far2 f2 (by first | assumption | exact Ne.symm (by assumption)) _ _ | exact ne_lt f0.lt | exact ne_gt f0.lt), by (first | assumption | with_reducible exact Blk.new _ _ _ | exact hHeld.lt | exact f0.below hb9 | exact f2.below hb9 | with_reducible exact f0.alloc _ | with_reducible exact f2.alloc _ | with_reducible exact Blk.set2 f0 _ _ | with_reducible exact Blk.set2 f2 _ _ | exact Blk.far2 f0 (by first | assumption | exact Ne.symm (by assumption)) _ _ | exact Blk.far2 f2 (by first | assumption | exact Ne.symm (by assumption)) _ _ | exact ne_lt f0.lt | exact ne_gt f0.lt), by (first | assumption | with_reducible exact Blk.new _ _ _ | exact hHeld.lt | exact f0.below hb9 | exact f2.below hb9 | with_reducible exact f0.alloc _ | with_reducible exact f2.alloc _ | with_reducible exact Blk.set2 f0 _ _ | with_reducible exact Blk.set2 f2 _ _ | exact Blk.far2 f0 (by first | assumption | exact Ne.symm (by assumption)) _ _ | exact Blk.far2 f2 (by first | assumption | exact Ne.symm (by assumption)) _ _ | exact ne_lt f0.lt | exact ne_gt f0.lt), by (first | assumption | with_reducible exact Blk.new _ _ _ | exact hHeld.lt | exact f0.below hb9 | exact f2.below hb9 | with_reducible exact f0.alloc _ | with_reducible exact f2.alloc _ | with_reducible exact Blk.set2 f0 _ _ | with_reducible exact Blk.set2 f2 _ _ | exact Blk.far2 f0 (by first | assumption | exact Ne.symm (by assumption)) _ _ | exact Blk.far2 f2 (by first | assumption | exact Ne.symm (by assumption)) _ _ | exact ne_lt f0.lt | exact ne_gt f0.lt), trivial⟩
          (try clear f0 f1 f2 f3 f4 f5 f6 f7 f8 f9 f10 f11)
          obtain ⟨hHeld, f0, f1, f2, f3, f4, -⟩ := hT
          refine wpAnyH_ready (rs := [3]) (by kernel_rfl) (by simp) ?_
          refine AllReadyH.cons (o := ⟨some 28, _, _, _, _, _⟩) rfl (fun K hK => ?_) AllReadyH.nil
          go_simp
          (refine (Document_any _ _ _ ?_).mono ?_; (first | exact ha.below hHeld.bel | exact hb.below hHeld.bel); rintro e w9 ⟨rfl, hb9⟩)
          go_wp2_with fail
          refine hK.out _ _ ?_ (fun _ => ?_)
          · ((try dsimp only); (first | exact hst | assumption | exact hHeld.below hb9 | exact hHeld.alloc _ | exact hHeld.set2 (by omega) _ _))
          clear hK K
          (try simp only [Act.put, List.setIfInBounds_toArray, List.set_cons_zero, List.set_cons_succ])
          refine gen0 (T := fun W => ((fun W => CK w W k1 k2 A1 A2 c1 c2 d1.length d2.length)) W ∧ Blk W wq1.heap.size 29 #[.int .i64 0, .string ⟨#[]⟩] ∧ w.heap.size + 1 < wq1.heap.size ∧ Blk W wq31.heap.size 29 #[.int .i64 0, .string ⟨#[]⟩] ∧ w.heap.size + 1 < wq31.heap.size ∧ wq1.heap.size ≠ wq31.heap.size ∧ True) ?_ (fun wq37 hT => ?_)
          · exact ⟨by (first | exact hst | assumption | exact hHeld.below hb9 | exact hHeld.alloc _ | exact hHeld.set2 (by omega) _ _), by (first | assumption | with_reducible exact Blk.new _ _ _ | exact hHeld.lt | exact f0.below hb9 | exact f2.below hb9 | with_reducible exact f0.alloc _ | with_reducible exact f2.alloc _ | with_reducible exact Blk.set2 f0 _ _ | with_reducible exact Blk.set2 f2 _ _ | exact Blk.far2 f0 (by first | assumption | exact Ne.symm (by assumption)) _ _ | exact Blk.far2 f2 (by first | assumption | exact Ne.symm (by assumption)) _ _ | exact ne_lt f0.lt | exact ne_gt f0.lt), by (first | assumption | with_reducible exact Blk.new _ _ _ | exact hHeld.lt | exact f0.below hb9 | exact f2.below hb9 | with_reducible exact f0.alloc _ | with_reducible exact f2.alloc _ | with_reducible exact Blk.set2 f0 _ _ | with_reducible exact Blk.set2 f2 _ _ | exact Blk.far2 f0 (by first | assumption | exact Ne.symm (by assumption)) _ _ | exact Blk.far2 f2 (by first | assumption | exact Ne.symm (by assumption)) _ _ | exact ne_lt f0.lt | exact ne_gt f0.lt), by (first | assumption | with_reducible exact Blk.new _ _ _ | exact hHeld.lt | exact f0.below hb9 | exact f2.below hb9 | with_reducible exact f0.alloc _ | with_reducible exact f2.alloc _ | with_reducible exact Blk.set2 f0 _ _ | with_reducible exact Blk.set2 f2 _ _ | exact Blk.far2 f0 (by first | assumption | exact Ne.symm (by assumption)) _ _ | exact Blk.far2 f2 (by first | assumption | exact Ne.symm (by assumption)) _ _ | exact ne_lt f0.lt | exact ne_gt f0.lt), by (first | assumption | with_reducible exact Blk.new _ _ _ | exact hHeld.lt | exact f0.below hb9 | exact f2.below hb9 | with_reducible exact f0.alloc _ | with_reducible exact f2.alloc _ | with_reducible exact Blk.set2 f0 _ _ | with_reducible exact Blk.set2 f2 _ _ | exact Blk.far2 f0 (by first | assumption | exact Ne.symm (by assumption)) _ _ | exact Blk.far2 f2 (by first | assumption | exact Ne.symm (by assumption)) _ _ | exact ne_lt f0.lt | exact ne_gt f0.lt), by (first | assumption | with_reducible exact Blk.new _ _ _ | exact hHeld.lt | exact f0.below hb9 | exact f2.below hb9 | with_reducible exact f0.alloc _ | with_reducible exact f2.alloc _ | with_reducible exact Blk.set2 f0 _ _ | with_reducible exact Blk.set2 f2 _ _ | exact Blk.far2 f0 (by first | assumption | exact Ne.symm (by assumption)) _ _ | exact Blk.far2 f2 (by first | assumption | exact Ne.symm (by assumption)) _ _ | exact ne_lt f0.lt | exact ne_gt f0.lt), trivial⟩
          (try clear f0 f1 f2 f3 f4 f5 f6 f7 f8 f9 f10 f11)
          obtain ⟨hHeld, f0, f1, f2, f3, f4, -⟩ := hT
          refine wpAnyH_ready (rs := [6]) (by kernel_rfl) (by simp) ?_
          refine AllReadyH.cons (o := ⟨none, _, _, _, _, _⟩) rfl (fun K hK => ?_) AllReadyH.nil
          (first | (obtain ⟨m0, m1, mf0, mf1⟩ := f0.two) | skip); (first | (obtain ⟨n0, n1, nf0, nf1⟩ := f2.two) | skip)
          go_simp
          refine hK.out _ _ ?_ (fun _ => ?_)
          · ((try dsimp only); (first | exact hst | assumption | exact hHeld.below hb9 | exact hHeld.alloc _ | exact hHeld.set2 (by omega) _ _))
          clear hK K
          (try simp only [Act.put, List.setIfInBounds_toArray, List.set_cons_zero, List.set_cons_succ])
          refine gen0 (T := fun W => ((fun W => CK w W k1 k2 A1 A2 c1 c2 d1.length d2.length)) W ∧ Blk W wq1.heap.size 29 #[.int .i64 k1, .string ⟨d1.toArray⟩] ∧ w.heap.size + 1 < wq1.heap.size ∧ Blk W wq31.heap.size 29 #[.int .i64 0, .string ⟨#[]⟩] ∧ w.heap.size + 1 < wq31.heap.size ∧ wq1.heap.size ≠ wq31.heap.size ∧ True) ?_ (fun wq38 hT => ?_)
          · exact ⟨by (first | exact hst | assumption | exact hHeld.below hb9 | exact hHeld.alloc _ | exact hHeld.set2 (by omega) _ _), by (first | assumption | with_reducible exact Blk.new _ _ _ | exact hHeld.lt | exact f0.below hb9 | exact f2.below hb9 | with_reducible exact f0.alloc _ | with_reducible exact f2.alloc _ | with_reducible exact Blk.set2 f0 _ _ | with_reducible exact Blk.set2 f2 _ _ | exact Blk.far2 f0 (by first | assumption | exact Ne.symm (by assumption)) _ _ | exact Blk.far2 f2 (by first | assumption | exact Ne.symm (by assumption)) _ _ | exact ne_lt f0.lt | exact ne_gt f0.lt), by (first | assumption | with_reducible exact Blk.new _ _ _ | exact hHeld.lt | exact f0.below hb9 | exact f2.below hb9 | with_reducible exact f0.alloc _ | with_reducible exact f2.alloc _ | with_reducible exact Blk.set2 f0 _ _ | with_reducible exact Blk.set2 f2 _ _ | exact Blk.far2 f0 (by first | assumption | exact Ne.symm (by assumption)) _ _ | exact Blk.far2 f2 (by first | assumption | exact Ne.symm (by assumption)) _ _ | exact ne_lt f0.lt | exact ne_gt f0.lt), by (first | assumption | with_reducible exact Blk.new _ _ _ | exact hHeld.lt | exact f0.below hb9 | exact f2.below hb9 | with_reducible exact f0.alloc _ | with_reducible exact f2.alloc _ | with_reducible exact Blk.set2 f0 _ _ | with_reducible exact Blk.set2 f2 _ _ | exact Blk.far2 f0 (by first | assumption | exact Ne.symm (by assumption)) _ _ | exact Blk.far2 f2 (by first | assumption | exact Ne.symm (by assumption)) _ _ | exact ne_lt f0.lt | exact ne_gt f0.lt), by (first | assumption | with_reducible exact Blk.new _ _ _ | exact hHeld.lt | exact f0.below hb9 | exact f2.below hb9 | with_reducible exact f0.alloc _ | with_reducible exact f2.alloc _ | with_reducible exact Blk.set2 f0 _ _ | with_reducible exact Blk.set2 f2 _ _ | exact Blk.far2 f0 (by first | assumption | exact Ne.symm (by assumption)) _ _ | exact Blk.far2 f2 (by first | assumption | exact Ne.symm (by assumption)) _ _ | exact ne_lt f0.lt | exact ne_gt f0.lt), by (first | assumption | with_reducible exact Blk.new _ _ _ | exact hHeld.lt | exact f0.below hb9 | exact f2.below hb9 | with_reducible exact f0.alloc _ | with_reducible exact f2.alloc _ | with_reducible exact Blk.set2 f0 _ _ | with_reducible exact Blk.set2 f2 _ _ | exact Blk.far2 f0 (by first | assumption | exact Ne.symm (by assumption)) _ _ | exact Blk.far2 f2 (by first | assumption | exact Ne.symm (by assumption)) _ _ | exact ne_lt f0.lt | exact ne_gt f0.lt), trivial⟩
          (try clear f0 f1 f2 f3 f4 f5 f6 f7 f8 f9 f10 f11)
          obtain ⟨hHeld, f0, f1, f2, f3, f4, -⟩ := hT
          refine wpAnyH_ready (rs := [7]) (by kernel_rfl) (by simp) ?_
          refine AllReadyH.cons (o := ⟨none, _, _, _, _, _⟩) rfl (fun K hK => ?_) AllReadyH.nil
          (first | (obtain ⟨m0, m1, mf0, mf1⟩ := f0.two) | skip); (first | (obtain ⟨n0, n1, nf0, nf1⟩ := f2.two) | skip)
          go_simp
          refine hK.out _ _ ?_ (fun _ => ?_)
          · ((try dsimp only); (first | exact hst | assumption | exact hHeld.below hb9 | exact hHeld.alloc _ | exact hHeld.set2 (by omega) _ _))
          clear hK K
          (try simp only [Act.put, List.setIfInBounds_toArray, List.set_cons_zero, List.set_cons_succ])
          refine gen0 (T := fun W => ((fun W => CK w W k1 k2 A1 A2 c1 c2 d1.length d2.length)) W ∧ Blk W wq1.heap.size 29 #[.int .i64 k1, .string ⟨d1.toArray⟩] ∧ w.heap.size + 1 < wq1.heap.size ∧ Blk W wq31.heap.size 29 #[.int .i64 k2, .string ⟨d2.toArray⟩] ∧ w.heap.size + 1 < wq31.heap.size ∧ wq1.heap.size ≠ wq31.heap.size ∧ True) ?_ (fun wq39 hT => ?_)
          · exact ⟨by (first | exact hst | assumption | exact hHeld.below hb9 | exact hHeld.alloc _ | exact hHeld.set2 (by omega) _ _), by (first | assumption | with_reducible exact Blk.new _ _ _ | exact hHeld.lt | exact f0.below hb9 | exact f2.below hb9 | with_reducible exact f0.alloc _ | with_reducible exact f2.alloc _ | with_reducible exact Blk.set2 f0 _ _ | with_reducible exact Blk.set2 f2 _ _ | exact Blk.far2 f0 (by first | assumption | exact Ne.symm (by assumption)) _ _ | exact Blk.far2 f2 (by first | assumption | exact Ne.symm (by assumption)) _ _ | exact ne_lt f0.lt | exact ne_gt f0.lt), by (first | assumption | with_reducible exact Blk.new _ _ _ | exact hHeld.lt | exact f0.below hb9 | exact f2.below hb9 | with_reducible exact f0.alloc _ | with_reducible exact f2.alloc _ | with_reducible exact Blk.set2 f0 _ _ | with_reducible exact Blk.set2 f2 _ _ | exact Blk.far2 f0 (by first | assumption | exact Ne.symm (by assumption)) _ _ | exact Blk.far2 f2 (by first | assumption | exact Ne.symm (by assumption)) _ _ | exact ne_lt f0.lt | exact ne_gt f0.lt), by (first | assumption | with_reducible exact Blk.new _ _ _ | exact hHeld.lt | exact f0.below hb9 | exact f2.below hb9 | with_reducible exact f0.alloc _ | with_reducible exact f2.alloc _ | with_reducible exact Blk.set2 f0 _ _ | with_reducible exact Blk.set2 f2 _ _ | exact Blk.far2 f0 (by first | assumption | exact Ne.symm (by assumption)) _ _ | exact Blk.far2 f2 (by first | assumption | exact Ne.symm (by assumption)) _ _ | exact ne_lt f0.lt | exact ne_gt f0.lt), by (first | assumption | with_reducible exact Blk.new _ _ _ | exact hHeld.lt | exact f0.below hb9 | exact f2.below hb9 | with_reducible exact f0.alloc _ | with_reducible exact f2.alloc _ | with_reducible exact Blk.set2 f0 _ _ | with_reducible exact Blk.set2 f2 _ _ | exact Blk.far2 f0 (by first | assumption | exact Ne.symm (by assumption)) _ _ | exact Blk.far2 f2 (by first | assumption | exact Ne.symm (by assumption)) _ _ | exact ne_lt f0.lt | exact ne_gt f0.lt), by (first | assumption | with_reducible exact Blk.new _ _ _ | exact hHeld.lt | exact f0.below hb9 | exact f2.below hb9 | with_reducible exact f0.alloc _ | with_reducible exact f2.alloc _ | with_reducible exact Blk.set2 f0 _ _ | with_reducible exact Blk.set2 f2 _ _ | exact Blk.far2 f0 (by first | assumption | exact Ne.symm (by assumption)) _ _ | exact Blk.far2 f2 (by first | assumption | exact Ne.symm (by assumption)) _ _ | exact ne_lt f0.lt | exact ne_gt f0.lt), trivial⟩
          (try clear f0 f1 f2 f3 f4 f5 f6 f7 f8 f9 f10 f11)
          obtain ⟨hHeld, f0, f1, f2, f3, f4, -⟩ := hT
          refine wpAnyH_done (by kernel_rfl) ?_ _
          (go_wp2_with fail; go_meet; exact ⟨_, _, rfl, rfl, ⟨hHeld.bel, hHeld.a, hHeld.b, by assumption, by assumption⟩⟩)
        exact AllReadyH.nil
      refine AllReadyH.cons (o := ⟨some 8, _, _, _, _, _⟩) rfl (fun K hK => ?_) ?_
      · go_simp
        refine hK.out _ _ ?_ (fun _ => ?_)
        · ((try dsimp only); (first | exact hst | assumption | exact hHeld.below hb9 | exact hHeld.alloc _ | exact hHeld.set2 (by omega) _ _))
        clear hK K
        (try simp only [Act.put, List.setIfInBounds_toArray, List.set_cons_zero, List.set_cons_succ])
        refine gen0 (T := fun W => ((fun W => CK w W k1 k2 A1 A2 c1 c2 d1.length d2.length)) W ∧ Blk W wq1.heap.size 29 #[.int .i64 0, .string ⟨#[]⟩] ∧ w.heap.size + 1 < wq1.heap.size ∧ Blk W wq30.heap.size 29 #[.int .i64 0, .string ⟨#[]⟩] ∧ w.heap.size + 1 < wq30.heap.size ∧ wq1.heap.size ≠ wq30.heap.size ∧ True) ?_ (fun wq40 hT => ?_)
        · exact ⟨by (first | exact hst | assumption | exact hHeld.below hb9 | exact hHeld.alloc _ | exact hHeld.set2 (by omega) _ _), by (first | assumption | with_reducible exact Blk.new _ _ _ | exact hHeld.lt | exact f0.below hb9 | exact f2.below hb9 | with_reducible exact f0.alloc _ | with_reducible exact f2.alloc _ | with_reducible exact Blk.set2 f0 _ _ | with_reducible exact Blk.set2 f2 _ _ | exact Blk.far2 f0 (by first | assumption | exact Ne.symm (by assumption)) _ _ | exact Blk.far2 f2 (by first | assumption | exact Ne.symm (by assumption)) _ _ | exact ne_lt f0.lt | exact ne_gt f0.lt), by (first | assumption | with_reducible exact Blk.new _ _ _ | exact hHeld.lt | exact f0.below hb9 | exact f2.below hb9 | with_reducible exact f0.alloc _ | with_reducible exact f2.alloc _ | with_reducible exact Blk.set2 f0 _ _ | with_reducible exact Blk.set2 f2 _ _ | exact Blk.far2 f0 (by first | assumption | exact Ne.symm (by assumption)) _ _ | exact Blk.far2 f2 (by first | assumption | exact Ne.symm (by assumption)) _ _ | exact ne_lt f0.lt | exact ne_gt f0.lt), by (first | assumption | with_reducible exact Blk.new _ _ _ | exact hHeld.lt | exact f0.below hb9 | exact f2.below hb9 | with_reducible exact f0.alloc _ | with_reducible exact f2.alloc _ | with_reducible exact Blk.set2 f0 _ _ | with_reducible exact Blk.set2 f2 _ _ | exact Blk.far2 f0 (by first | assumption | exact Ne.symm (by assumption)) _ _ | exact Blk.far2 f2 (by first | assumption | exact Ne.symm (by assumption)) _ _ | exact ne_lt f0.lt | exact ne_gt f0.lt), by (first | assumption | with_reducible exact Blk.new _ _ _ | exact hHeld.lt | exact f0.below hb9 | exact f2.below hb9 | with_reducible exact f0.alloc _ | with_reducible exact f2.alloc _ | with_reducible exact Blk.set2 f0 _ _ | with_reducible exact Blk.set2 f2 _ _ | exact Blk.far2 f0 (by first | assumption | exact Ne.symm (by assumption)) _ _ | exact Blk.far2 f2 (by first | assumption | exact Ne.symm (by assumption)) _ _ | exact ne_lt f0.lt | exact ne_gt f0.lt), by (first | assumption | with_reducible exact Blk.new _ _ _ | exact hHeld.lt | exact f0.below hb9 | exact f2.below hb9 | with_reducible exact f0.alloc _ | with_reducible exact f2.alloc _ | with_reducible exact Blk.set2 f0 _ _ | with_reducible exact Blk.set2 f2 _ _ | exact Blk.far2 f0 (by first | assumption | exact Ne.symm (by assumption)) _ _ | exact Blk.far2 f2 (by first | assumption | exact Ne.symm (by assumption)) _ _ | exact ne_lt f0.lt | exact ne_gt f0.lt), trivial⟩
        (try clear f0 f1 f2 f3 f4 f5 f6 f7 f8 f9 f10 f11)
        obtain ⟨hHeld, f0, f1, f2, f3, f4, -⟩ := hT
        refine wpAnyH_ready (rs := [1]) (by kernel_rfl) (by simp) ?_
        refine AllReadyH.cons (o := ⟨some 26, _, _, _, _, _⟩) rfl (fun K hK => ?_) AllReadyH.nil
        go_simp
        (refine (Document_any _ _ _ ?_).mono ?_; (first | exact ha.below hHeld.bel | exact hb.below hHeld.bel); rintro e w9 ⟨rfl, hb9⟩)
        go_wp2_with fail
        refine hK.out _ _ ?_ (fun _ => ?_)
        · ((try dsimp only); (first | exact hst | assumption | exact hHeld.below hb9 | exact hHeld.alloc _ | exact hHeld.set2 (by omega) _ _))
        clear hK K
        (try simp only [Act.put, List.setIfInBounds_toArray, List.set_cons_zero, List.set_cons_succ])
        refine gen0 (T := fun W => ((fun W => CK w W k1 k2 A1 A2 c1 c2 d1.length d2.length)) W ∧ Blk W wq1.heap.size 29 #[.int .i64 0, .string ⟨#[]⟩] ∧ w.heap.size + 1 < wq1.heap.size ∧ Blk W wq30.heap.size 29 #[.int .i64 0, .string ⟨#[]⟩] ∧ w.heap.size + 1 < wq30.heap.size ∧ wq1.heap.size ≠ wq30.heap.size ∧ True) ?_ (fun wq41 hT => ?_)
        · exact ⟨by (first | exact hst | assumption | exact hHeld.below hb9 | exact hHeld.alloc _ | exact hHeld.set2 (by omega) _ _), by (first | assumption | with_reducible exact Blk.new _ _ _ | exact hHeld.lt | exact f0.below hb9 | exact f2.below hb9 | with_reducible exact f0.alloc _ | with_reducible exact f2.alloc _ | with_reducible exact Blk.set2 f0 _ _ | with_reducible exact Blk.set2 f2 _ _ | exact Blk.far2 f0 (by first | assumption | exact Ne.symm (by assumption)) _ _ | exact Blk.far2 f2 (by first | assumption | exact Ne.symm (by assumption)) _ _ | exact ne_lt f0.lt | exact ne_gt f0.lt), by (first | assumption | with_reducible exact Blk.new _ _ _ | exact hHeld.lt | exact f0.below hb9 | exact f2.below hb9 | with_reducible exact f0.alloc _ | with_reducible exact f2.alloc _ | with_reducible exact Blk.set2 f0 _ _ | with_reducible exact Blk.set2 f2 _ _ | exact Blk.far2 f0 (by first | assumption | exact Ne.symm (by assumption)) _ _ | exact Blk.far2 f2 (by first | assumption | exact Ne.symm (by assumption)) _ _ | exact ne_lt f0.lt | exact ne_gt f0.lt), by (first | assumption | with_reducible exact Blk.new _ _ _ | exact hHeld.lt | exact f0.below hb9 | exact f2.below hb9 | with_reducible exact f0.alloc _ | with_reducible exact f2.alloc _ | with_reducible exact Blk.set2 f0 _ _ | with_reducible exact Blk.set2 f2 _ _ | exact Blk.far2 f0 (by first | assumption | exact Ne.symm (by assumption)) _ _ | exact Blk.far2 f2 (by first | assumption | exact Ne.symm (by assumption)) _ _ | exact ne_lt f0.lt | exact ne_gt f0.lt), by (first | assumption | with_reducible exact Blk.new _ _ _ | exact hHeld.lt | exact f0.below hb9 | exact f2.below hb9 | with_reducible exact f0.alloc _ | with_reducible exact f2.alloc _ | with_reducible exact Blk.set2 f0 _ _ | with_reducible exact Blk.set2 f2 _ _ | exact Blk.far2 f0 (by first | assumption | exact Ne.symm (by assumption)) _ _ | exact Blk.far2 f2 (by first | assumption | exact Ne.symm (by assumption)) _ _ | exact ne_lt f0.lt | exact ne_gt f0.lt), by (first | assumption | with_reducible exact Blk.new _ _ _ | exact hHeld.lt | exact f0.below hb9 | exact f2.below hb9 | with_reducible exact f0.alloc _ | with_reducible exact f2.alloc _ | with_reducible exact Blk.set2 f0 _ _ | with_reducible exact Blk.set2 f2 _ _ | exact Blk.far2 f0 (by first | assumption | exact Ne.symm (by assumption)) _ _ | exact Blk.far2 f2 (by first | assumption | exact Ne.symm (by assumption)) _ _ | exact ne_lt f0.lt | exact ne_gt f0.lt), trivial⟩
        (try clear f0 f1 f2 f3 f4 f5 f6 f7 f8 f9 f10 f11)
        obtain ⟨hHeld, f0, f1, f2, f3, f4, -⟩ := hT
        refine wpAnyH_ready (rs := [3]) (by kernel_rfl) (by simp) ?_
        refine AllReadyH.cons (o := ⟨some 28, _, _, _, _, _⟩) rfl (fun K hK => ?_) AllReadyH.nil
        go_simp
        (refine (Document_any _ _ _ ?_).mono ?_; (first | exact ha.below hHeld.bel | exact hb.below hHeld.bel); rintro e w9 ⟨rfl, hb9⟩)
        go_wp2_with fail
        refine hK.out _ _ ?_ (fun _ => ?_)
        · ((try dsimp only); (first | exact hst | assumption | exact hHeld.below hb9 | exact hHeld.alloc _ | exact hHeld.set2 (by omega) _ _))
        clear hK K
        (try simp only [Act.put, List.setIfInBounds_toArray, List.set_cons_zero, List.set_cons_succ])
        refine gen0 (T := fun W => ((fun W => CK w W k1 k2 A1 A2 c1 c2 d1.length d2.length)) W ∧ Blk W wq1.heap.size 29 #[.int .i64 0, .string ⟨#[]⟩] ∧ w.heap.size + 1 < wq1.heap.size ∧ Blk W wq30.heap.size 29 #[.int .i64 0, .string ⟨#[]⟩] ∧ w.heap.size + 1 < wq30.heap.size ∧ wq1.heap.size ≠ wq30.heap.size ∧ True) ?_ (fun wq42 hT => ?_)
        · exact ⟨by (first | exact hst | assumption | exact hHeld.below hb9 | exact hHeld.alloc _ | exact hHeld.set2 (by omega) _ _), by (first | assumption | with_reducible exact Blk.new _ _ _ | exact hHeld.lt | exact f0.below hb9 | exact f2.below hb9 | with_reducible exact f0.alloc _ | with_reducible exact f2.alloc _ | with_reducible exact Blk.set2 f0 _ _ | with_reducible exact Blk.set2 f2 _ _ | exact Blk.far2 f0 (by first | assumption | exact Ne.symm (by assumption)) _ _ | exact Blk.far2 f2 (by first | assumption | exact Ne.symm (by assumption)) _ _ | exact ne_lt f0.lt | exact ne_gt f0.lt), by (first | assumption | with_reducible exact Blk.new _ _ _ | exact hHeld.lt | exact f0.below hb9 | exact f2.below hb9 | with_reducible exact f0.alloc _ | with_reducible exact f2.alloc _ | with_reducible exact Blk.set2 f0 _ _ | with_reducible exact Blk.set2 f2 _ _ | exact Blk.far2 f0 (by first | assumption | exact Ne.symm (by assumption)) _ _ | exact Blk.far2 f2 (by first | assumption | exact Ne.symm (by assumption)) _ _ | exact ne_lt f0.lt | exact ne_gt f0.lt), by (first | assumption | with_reducible exact Blk.new _ _ _ | exact hHeld.lt | exact f0.below hb9 | exact f2.below hb9 | with_reducible exact f0.alloc _ | with_reducible exact f2.alloc _ | with_reducible exact Blk.set2 f0 _ _ | with_reducible exact Blk.set2 f2 _ _ | exact Blk.far2 f0 (by first | assumption | exact Ne.symm (by assumption)) _ _ | exact Blk.far2 f2 (by first | assumption | exact Ne.symm (by assumption)) _ _ | exact ne_lt f0.lt | exact ne_gt f0.lt), by (first | assumption | with_reducible exact Blk.new _ _ _ | exact hHeld.lt | exact f0.below hb9 | exact f2.below hb9 | with_reducible exact f0.alloc _ | with_reducible exact f2.alloc _ | with_reducible exact Blk.set2 f0 _ _ | with_reducible exact Blk.set2 f2 _ _ | exact Blk.far2 f0 (by first | assumption | exact Ne.symm (by assumption)) _ _ | exact Blk.far2 f2 (by first | assumption | exact Ne.symm (by assumption)) _ _ | exact ne_lt f0.lt | exact ne_gt f0.lt), by (first | assumption | with_reducible exact Blk.new _ _ _ | exact hHeld.lt | exact f0.below hb9 | exact f2.below hb9 | with_reducible exact f0.alloc _ | with_reducible exact f2.alloc _ | with_reducible exact Blk.set2 f0 _ _ | with_reducible exact Blk.set2 f2 _ _ | exact Blk.far2 f0 (by first | assumption | exact Ne.symm (by assumption)) _ _ | exact Blk.far2 f2 (by first | assumption | exact Ne.symm (by assumption)) _ _ | exact ne_lt f0.lt | exact ne_gt f0.lt), trivial⟩
        (try clear f0 f1 f2 f3 f4 f5 f6 f7 f8 f9 f10 f11)
        obtain ⟨hHeld, f0, f1, f2, f3, f4, -⟩ := hT
        refine wpAnyH_ready (rs := [6]) (by kernel_rfl) (by simp) ?_
        refine AllReadyH.cons (o := ⟨none, _, _, _, _, _⟩) rfl (fun K hK => ?_) AllReadyH.nil
        (first | (obtain ⟨m0, m1, mf0, mf1⟩ := f0.two) | skip); (first | (obtain ⟨n0, n1, nf0, nf1⟩ := f2.two) | skip)
        go_simp
        refine hK.out _ _ ?_ (fun _ => ?_)
        · ((try dsimp only); (first | exact hst | assumption | exact hHeld.below hb9 | exact hHeld.alloc _ | exact hHeld.set2 (by omega) _ _))
        clear hK K
        (try simp only [Act.put, List.setIfInBounds_toArray, List.set_cons_zero, List.set_cons_succ])
        refine gen0 (T := fun W => ((fun W => CK w W k1 k2 A1 A2 c1 c2 d1.length d2.length)) W ∧ Blk W wq1.heap.size 29 #[.int .i64 k1, .string ⟨d1.toArray⟩] ∧ w.heap.size + 1 < wq1.heap.size ∧ Blk W wq30.heap.size 29 #[.int .i64 0, .string ⟨#[]⟩] ∧ w.heap.size + 1 < wq30.heap.size ∧ wq1.heap.size ≠ wq30.heap.size ∧ True) ?_ (fun wq43 hT => ?_)
        · exact ⟨by (first | exact hst | assumption | exact hHeld.below hb9 | exact hHeld.alloc _ | exact hHeld.set2 (by omega) _ _), by (first | assumption | with_reducible exact Blk.new _ _ _ | exact hHeld.lt | exact f0.below hb9 | exact f2.below hb9 | with_reducible exact f0.alloc _ | with_reducible exact f2.alloc _ | with_reducible exact Blk.set2 f0 _ _ | with_reducible exact Blk.set2 f2 _ _ | exact Blk.far2 f0 (by first | assumption | exact Ne.symm (by assumption)) _ _ | exact Blk.far2 f2 (by first | assumption | exact Ne.symm (by assumption)) _ _ | exact ne_lt f0.lt | exact ne_gt f0.lt), by (first | assumption | with_reducible exact Blk.new _ _ _ | exact hHeld.lt | exact f0.below hb9 | exact f2.below hb9 | with_reducible exact f0.alloc _ | with_reducible exact f2.alloc _ | with_reducible exact Blk.set2 f0 _ _ | with_reducible exact Blk.set2 f2 _ _ | exact Blk.far2 f0 (by first | assumption | exact Ne.symm (by assumption)) _ _ | exact Blk.far2 f2 (by first | assumption | exact Ne.symm (by assumption)) _ _ | exact ne_lt f0.lt | exact ne_gt f0.lt), by (first | assumption | with_reducible exact Blk.new _ _ _ | exact hHeld.lt | exact f0.below hb9 | exact f2.below hb9 | with_reducible exact f0.alloc _ | with_reducible exact f2.alloc _ | with_reducible exact Blk.set2 f0 _ _ | with_reducible exact Blk.set2 f2 _ _ | exact Blk.far2 f0 (by first | assumption | exact Ne.symm (by assumption)) _ _ | exact Blk.far2 f2 (by first | assumption | exact Ne.symm (by assumption)) _ _ | exact ne_lt f0.lt | exact ne_gt f0.lt), by (first | assumption | with_reducible exact Blk.new _ _ _ | exact hHeld.lt | exact f0.below hb9 | exact f2.below hb9 | with_reducible exact f0.alloc _ | with_reducible exact f2.alloc _ | with_reducible exact Blk.set2 f0 _ _ | with_reducible exact Blk.set2 f2 _ _ | exact Blk.far2 f0 (by first | assumption | exact Ne.symm (by assumption)) _ _ | exact Blk.far2 f2 (by first | assumption | exact Ne.symm (by assumption)) _ _ | exact ne_lt f0.lt | exact ne_gt f0.lt), by (first | assumption | with_reducible exact Blk.new _ _ _ | exact hHeld.lt | exact f0.below hb9 | exact f2.below hb9 | with_reducible exact f0.alloc _ | with_reducible exact f2.alloc _ | with_reducible exact Blk.set2 f0 _ _ | with_reducible exact Blk.set2 f2 _ _ | exact Blk.far2 f0 (by first | assumption | exact Ne.symm (by assumption)) _ _ | exact Blk.far2 f2 (by first | assumption | exact Ne.symm (by assumption)) _ _ | exact ne_lt f0.lt | exact ne_gt f0.lt), trivial⟩
        (try clear f0 f1 f2 f3 f4 f5 f6 f7 f8 f9 f10 f11)
        obtain ⟨hHeld, f0, f1, f2, f3, f4, -⟩ := hT
        refine wpAnyH_ready (rs := [7]) (by kernel_rfl) (by simp) ?_
        refine AllReadyH.cons (o := ⟨none, _, _, _, _, _⟩) rfl (fun K hK => ?_) AllReadyH.nil
        (first | (obtain ⟨m0, m1, mf0, mf1⟩ := f0.two) | skip); (first | (obtain ⟨n0, n1, nf0, nf1⟩ := f2.two) | skip)
        go_simp
        refine hK.out _ _ ?_ (fun _ => ?_)
        · ((try dsimp only); (first | exact hst | assumption | exact hHeld.below hb9 | exact hHeld.alloc _ | exact hHeld.set2 (by omega) _ _))
        clear hK K
        (try simp only [Act.put, List.setIfInBounds_toArray, List.set_cons_zero, List.set_cons_succ])
        refine gen0 (T := fun W => ((fun W => CK w W k1 k2 A1 A2 c1 c2 d1.length d2.length)) W ∧ Blk W wq1.heap.size 29 #[.int .i64 k1, .string ⟨d1.toArray⟩] ∧ w.heap.size + 1 < wq1.heap.size ∧ Blk W wq30.heap.size 29 #[.int .i64 k2, .string ⟨d2.toArray⟩] ∧ w.heap.size + 1 < wq30.heap.size ∧ wq1.heap.size ≠ wq30.heap.size ∧ True) ?_ (fun wq44 hT => ?_)
        · exact ⟨by (first | exact hst | assumption | exact hHeld.below hb9 | exact hHeld.alloc _ | exact hHeld.set2 (by omega) _ _), by (first | assumption | with_reducible exact Blk.new _ _ _ | exact hHeld.lt | exact f0.below hb9 | exact f2.below hb9 | with_reducible exact f0.alloc _ | with_reducible exact f2.alloc _ | with_reducible exact Blk.set2 f0 _ _ | with_reducible exact Blk.set2 f2 _ _ | exact Blk.far2 f0 (by first | assumption | exact Ne.symm (by assumption)) _ _ | exact Blk.far2 f2 (by first | assumption | exact Ne.symm (by assumption)) _ _ | exact ne_lt f0.lt | exact ne_gt f0.lt), by (first | assumption | with_reducible exact Blk.new _ _ _ | exact hHeld.lt | exact f0.below hb9 | exact f2.below hb9 | with_reducible exact f0.alloc _ | with_reducible exact f2.alloc _ | with_reducible exact Blk.set2 f0 _ _ | with_reducible exact Blk.set2 f2 _ _ | exact Blk.far2 f0 (by first | assumption | exact Ne.symm (by assumption)) _ _ | exact Blk.far2 f2 (by first | assumption | exact Ne.symm (by assumption)) _ _ | exact ne_lt f0.lt | exact ne_gt f0.lt), by (first | assumption | with_reducible exact Blk.new _ _ _ | exact hHeld.lt | exact f0.below hb9 | exact f2.below hb9 | with_reducible exact f0.alloc _ | with_reducible exact f2.alloc _ | with_reducible exact Blk.set2 f0 _ _ | with_reducible exact Blk.set2 f2 _ _ | exact Blk.far2 f0 (by first | assumption | exact Ne.symm (by assumption)) _ _ | exact Blk.far2 f2 (by first | assumption | exact Ne.symm (by assumption)) _ _ | exact ne_lt f0.lt | exact ne_gt f0.lt), by (first | assumption | with_reducible exact Blk.new _ _ _ | exact hHeld.lt | exact f0.below hb9 | exact f2.below hb9 | with_reducible exact f0.alloc _ | with_reducible exact f2.alloc _ | with_reducible exact Blk.set2 f0 _ _ | with_reducible exact Blk.set2 f2 _ _ | exact Blk.far2 f0 (by first | assumption | exact Ne.symm (by assumption)) _ _ | exact Blk.far2 f2 (by first | assumption | exact Ne.symm (by assumption)) _ _ | exact ne_lt f0.lt | exact ne_gt f0.lt), by (first | assumption | with_reducible exact Blk.new _ _ _ | exact hHeld.lt | exact f0.below hb9 | exact f2.below hb9 | with_reducible exact f0.alloc _ | with_reducible exact f2.alloc _ | with_reducible exact Blk.set2 f0 _ _ | with_reducible exact Blk.set2 f2 _ _ | exact Blk.far2 f0 (by first | assumption | exact Ne.symm (by assumption)) _ _ | exact Blk.far2 f2 (by first | assumption | exact Ne.symm (by assumption)) _ _ | exact ne_lt f0.lt | exact ne_gt f0.lt), trivial⟩
        (try clear f0 f1 f2 f3 f4 f5 f6 f7 f8 f9 f10 f11)
        obtain ⟨hHeld, f0, f1, f2, f3, f4, -⟩ := hT
        refine wpAnyH_done (by kernel_rfl) ?_ _
        (go_wp2_with fail; go_meet; exact ⟨_, _, rfl, rfl, ⟨hHeld.bel, hHeld.a, hHeld.b, by assumption, by assumption⟩⟩)
      exact AllReadyH.nil
    refine AllReadyH.cons (o := ⟨some 8, _, _, _, _, _⟩) rfl (fun K hK => ?_) ?_
    · go_simp
      refine hK.out _ _ ?_ (fun _ => ?_)
      · ((try dsimp only); (first | exact hst | assumption | exact hHeld.below hb9 | exact hHeld.alloc _ | exact hHeld.set2 (by omega) _ _))
      clear hK K
      (try simp only [Act.put, List.setIfInBounds_toArray, List.set_cons_zero, List.set_cons_succ])
      refine gen0 (T := fun W => ((fun W => CK w W k1 k2 A1 A2 c1 c2 d1.length d2.length)) W ∧ Blk W wq1.heap.size 29 #[.int .i64 0, .string ⟨#[]⟩] ∧ w.heap.size + 1 < wq1.heap.size ∧ True) ?_ (fun wq45 hT => ?_)
      · exact ⟨by (first | exact hst | assumption | exact hHeld.below hb9 | exact hHeld.alloc _ | exact hHeld.set2 (by omega) _ _), by (first | assumption | with_reducible exact Blk.new _ _ _ | exact hHeld.lt | exact f0.below hb9 | exact f2.below hb9 | with_reducible exact f0.alloc _ | with_reducible exact f2.alloc _ | with_reducible exact Blk.set2 f0 _ _ | with_reducible exact Blk.set2 f2 _ _ | exact Blk.far2 f0 (by first | assumption | exact Ne.symm (by assumption)) _ _ | exact Blk.far2 f2 (by first | assumption | exact Ne.symm (by assumption)) _ _ | exact ne_lt f0.lt | exact ne_gt f0.lt), by (first | assumption | with_reducible exact Blk.new _ _ _ | exact hHeld.lt | exact f0.below hb9 | exact f2.below hb9 | with_reducible exact f0.alloc _ | with_reducible exact f2.alloc _ | with_reducible exact Blk.set2 f0 _ _ | with_reducible exact Blk.set2 f2 _ _ | exact Blk.far2 f0 (by first | assumption | exact Ne.symm (by assumption)) _ _ | exact Blk.far2 f2 (by first | assumption | exact Ne.symm (by assumption)) _ _ | exact ne_lt f0.lt | exact ne_gt f0.lt), trivial⟩
      (try clear f0 f1 f2 f3 f4 f5 f6 f7 f8 f9 f10 f11)
      obtain ⟨hHeld, f0, f1, -⟩ := hT
      refine wpAnyH_ready (rs := [1, 4]) (by kernel_rfl) (by simp) ?_
      refine AllReadyH.cons (o := ⟨some 26, _, _, _, _, _⟩) rfl (fun K hK => ?_) ?_
      · go_simp
        (refine (Document_any _ _ _ ?_).mono ?_; (first | exact ha.below hHeld.bel | exact hb.below hHeld.bel); rintro e w9 ⟨rfl, hb9⟩)
        go_wp2_with fail
        refine hK.out _ _ ?_ (fun _ => ?_)
        · ((try dsimp only); (first | exact hst | assumption | exact hHeld.below hb9 | exact hHeld.alloc _ | exact hHeld.set2 (by omega) _ _))
        clear hK K
        (try simp only [Act.put, List.setIfInBounds_toArray, List.set_cons_zero, List.set_cons_succ])
        refine gen0 (T := fun W => ((fun W => CK w W k1 k2 A1 A2 c1 c2 d1.length d2.length)) W ∧ Blk W wq1.heap.size 29 #[.int .i64 0, .string ⟨#[]⟩] ∧ w.heap.size + 1 < wq1.heap.size ∧ True) ?_ (fun wq46 hT => ?_)
        · exact ⟨by (first | exact hst | assumption | exact hHeld.below hb9 | exact hHeld.alloc _ | exact hHeld.set2 (by omega) _ _), by (first | assumption | with_reducible exact Blk.new _ _ _ | exact hHeld.lt | exact f0.below hb9 | exact f2.below hb9 | with_reducible exact f0.alloc _ | with_reducible exact f2.alloc _ | with_reducible exact Blk.set2 f0 _ _ | with_reducible exact Blk.set2 f2 _ _ | exact Blk.far2 f0 (by first | assumption | exact Ne.symm (by assumption)) _ _ | exact Blk.far2 f2 (by first | assumption | exact Ne.symm (by assumption)) _ _ | exact ne_lt f0.lt | exact ne_gt f0.lt), by (first | assumption | with_reducible exact Blk.new _ _ _ | exact hHeld.lt | exact f0.below hb9 | exact f2.below hb9 | with_reducible exact f0.alloc _ | with_reducible exact f2.alloc _ | with_reducible exact Blk.set2 f0 _ _ | with_reducible exact Blk.set2 f2 _ _ | exact Blk.far2 f0 (by first | assumption | exact Ne.symm (by assumption)) _ _ | exact Blk.far2 f2 (by first | assumption | exact Ne.symm (by assumption)) _ _ | exact ne_lt f0.lt | exact ne_gt f0.lt), trivial⟩
        (try clear f0 f1 f2 f3 f4 f5 f6 f7 f8 f9 f10 f11)
        obtain ⟨hHeld, f0, f1, -⟩ := hT
        refine wpAnyH_ready (rs := [3, 4]) (by kernel_rfl) (by simp) ?_
        refine AllReadyH.cons (o := ⟨some 28, _, _, _, _, _⟩) rfl (fun K hK => ?_) ?_
        · go_simp
          (refine (Document_any _ _ _ ?_).mono ?_; (first | exact ha.below hHeld.bel | exact hb.below hHeld.bel); rintro e w9 ⟨rfl, hb9⟩)
          go_wp2_with fail
          refine hK.out _ _ ?_ (fun _ => ?_)
          · ((try dsimp only); (first | exact hst | assumption | exact hHeld.below hb9 | exact hHeld.alloc _ | exact hHeld.set2 (by omega) _ _))
          clear hK K
          (try simp only [Act.put, List.setIfInBounds_toArray, List.set_cons_zero, List.set_cons_succ])
          refine gen0 (T := fun W => ((fun W => CK w W k1 k2 A1 A2 c1 c2 d1.length d2.length)) W ∧ Blk W wq1.heap.size 29 #[.int .i64 0, .string ⟨#[]⟩] ∧ w.heap.size + 1 < wq1.heap.size ∧ True) ?_ (fun wq47 hT => ?_)
          · exact ⟨by (first | exact hst | assumption | exact hHeld.below hb9 | exact hHeld.alloc _ | exact hHeld.set2 (by omega) _ _), by (first | assumption | with_reducible exact Blk.new _ _ _ | exact hHeld.lt | exact f0.below hb9 | exact f2.below hb9 | with_reducible exact f0.alloc _ | with_reducible exact f2.alloc _ | with_reducible exact Blk.set2 f0 _ _ | with_reducible exact Blk.set2 f2 _ _ | exact Blk.far2 f0 (by first | assumption | exact Ne.symm (by assumption)) _ _ | exact Blk.far2 f2 (by first | assumption | exact Ne.symm (by assumption)) _ _ | exact ne_lt f0.lt | exact ne_gt f0.lt), by (first | assumption | with_reducible exact Blk.new _ _ _ | exact hHeld.lt | exact f0.below hb9 | exact f2.below hb9 | with_reducible exact f0.alloc _ | with_reducible exact f2.alloc _ | with_reducible exact Blk.set2 f0 _ _ | with_reducible exact Blk.set2 f2 _ _ | exact Blk.far2 f0 (by first | assumption | exact Ne.symm (by assumption)) _ _ | exact Blk.far2 f2 (by first | assumption | exact Ne.symm (by assumption)) _ _ | exact ne_lt f0.lt | exact ne_gt f0.lt), trivial⟩
          (try clear f0 f1 f2 f3 f4 f5 f6 f7 f8 f9 f10 f11)
          obtain ⟨hHeld, f0, f1, -⟩ := hT
          refine wpAnyH_ready (rs := [4]) (by kernel_rfl) (by simp) ?_
          refine AllReadyH.cons (o := ⟨some 7, _, _, _, _, _⟩) rfl (fun K hK => ?_) AllReadyH.nil
          go_simp
          refine hK.out _ _ ?_ (fun _ => ?_)
          · ((try dsimp only); (first | exact hst | assumption | exact hHeld.below hb9 | exact hHeld.alloc _ | exact hHeld.set2 (by omega) _ _))
          clear hK K
          (try simp only [Act.put, List.setIfInBounds_toArray, List.set_cons_zero, List.set_cons_succ])
          refine gen0 (T := fun W => ((fun W => CK w W k1 k2 A1 A2 c1 c2 d1.length d2.length)) W ∧ Blk W wq47.heap.size 29 #[.int .i64 0, .string ⟨#[]⟩] ∧ w.heap.size + 1 < wq47.heap.size ∧ Blk W wq1.heap.size 29 #[.int .i64 0, .string ⟨#[]⟩] ∧ w.heap.size + 1 < wq1.heap.size ∧ wq47.heap.size ≠ wq1.heap.size ∧ True) ?_ (fun wq48 hT => ?_)
          · exact ⟨by (first | exact hst | assumption | exact hHeld.below hb9 | exact hHeld.alloc _ | exact hHeld.set2 (by omega) _ _), by (first | assumption | with_reducible exact Blk.new _ _ _ | exact hHeld.lt | exact f0.below hb9 | exact f2.below hb9 | with_reducible exact f0.alloc _ | with_reducible exact f2.alloc _ | with_reducible exact Blk.set2 f0 _ _ | with_reducible exact Blk.set2 f2 _ _ | exact Blk.far2 f0 (by first | assumption | exact Ne.symm (by assumption)) _ _ | exact Blk.far2 f2 (by first | assumption | exact Ne.symm (by assumption)) _ _ | exact ne_lt f0.lt | exact ne_gt f0.lt), by (first | assumption | with_reducible exact Blk.new _ _ _ | exact hHeld.lt | exact f0.below hb9 | exact f2.below hb9 | with_reducible exact f0.alloc _ | with_reducible exact f2.alloc _ | with_reducible exact Blk.set2 f0 _ _ | with_reducible exact Blk.set2 f2 _ _ | exact Blk.far2 f0 (by first | assumption | exact Ne.symm (by assumption)) _ _ | exact Blk.far2 f2 (by first | assumption | exact Ne.symm (by assumption)) _ _ | exact ne_lt f0.lt | exact ne_gt f0.lt), by (first | assumption | with_reducible exact Blk.new _ _ _ | exact hHeld.lt | exact f0.below hb9 | exact f2.below hb9 | with_reducible exact f0.alloc _ | with_reducible exact f2.alloc _ | with_reducible exact Blk.set2 f0 _ _ | with_reducible exact Blk.set2 f2 _ _ | exact Blk.far2 f0 (by first | assumption | exact Ne.symm (by assumption)) _ _ | exact Blk.far2 f2 (by first | assumption | exact Ne.symm (by assumption)) _ _ | exact ne_lt f0.lt | exact ne_gt f0.lt), by (first | assumption | with_reducible exact Blk.new _ _ _ | exact hHeld.lt | exact f0.below hb9 | exact f2.below hb9 | with_reducible exact f0.alloc _ | with_reducible exact f2.alloc _ | with_reducible exact Blk.set2 f0 _ _ | with_reducible exact Blk.set2 f2 _ _ | exact Blk.far2 f0 (by first | assumption | exact Ne.symm (by assumption)) _ _ | exact Blk.far2 f2 (by first | assumption | exact Ne.symm (by assumption)) _ _ | exact ne_lt f0.lt | exact ne_gt f0.lt), by (first | assumption | with_reducible exact Blk.new _ _ _ | exact hHeld.lt | exact f0.below hb9 | exact f2.below hb9 | with_reducible exact f0.alloc _ | with_reducible exact f2.alloc _ | with_reducible exact Blk.set2 f0 _ _ | with_reducible exact Blk.set2 f2 _ _ | exact Blk.far2 f0 (by first | assumption | exact Ne.symm (by assumption)) _ _ | exact Blk.far2 f2 (by first | assumption | exact Ne.symm (by assumption)) _ _ | exact ne_lt f0.lt | exact ne_gt f0.lt), trivial⟩
          (try clear f0 f1 f2 f3 f4 f5 f6 f7 f8 f9 f10 f11)
          obtain ⟨hHeld, f0, f1, f2, f3, f4, -⟩ := hT
          refine wpAnyH_ready (rs := [6]) (by kernel_rfl) (by simp) ?_
          refine AllReadyH.cons (o := ⟨none, _, _, _, _, _⟩) rfl (fun K hK => ?_) AllReadyH.nil
          (first | (obtain ⟨m0, m1, mf0, mf1⟩ := f0.two) | skip); (first | (obtain ⟨n0, n1, nf0, nf1⟩ := f2.two) | skip)
          go_simp
          refine hK.out _ _ ?_ (fun _ => ?_)
          · ((try dsimp only); (first | exact hst | assumption | exact hHeld.below hb9 | exact hHeld.alloc _ | exact hHeld.set2 (by omega) _ _))
          clear hK K
          (try simp only [Act.put, List.setIfInBounds_toArray, List.set_cons_zero, List.set_cons_succ])
          refine gen0 (T := fun W => ((fun W => CK w W k1 k2 A1 A2 c1 c2 d1.length d2.length)) W ∧ Blk W wq47.heap.size 29 #[.int .i64 k1, .string ⟨d1.toArray⟩] ∧ w.heap.size + 1 < wq47.heap.size ∧ Blk W wq1.heap.size 29 #[.int .i64 0, .string ⟨#[]⟩] ∧ w.heap.size + 1 < wq1.heap.size ∧ wq47.heap.size ≠ wq1.heap.size ∧ True) ?_ (fun wq49 hT => ?_)
          · exact ⟨by (first | exact hst | assumption | exact hHeld.below hb9 | exact hHeld.alloc _ | exact hHeld.set2 (by omega) _ _), by (first | assumption | with_reducible exact Blk.new _ _ _ | exact hHeld.lt | exact f0.below hb9 | exact f2.below hb9 | with_reducible exact f0.alloc _ | with_reducible exact f2.alloc _ | with_reducible exact Blk.set2 f0 _ _ | with_reducible exact Blk.set2 f2 _ _ | exact Blk.far2 f0 (by first | assumption | exact Ne.symm (by assumption)) _ _ | exact Blk.far2 f2 (by first | assumption | exact Ne.symm (by assumption)) _ _ | exact ne_lt f0.lt | exact ne_gt f0.lt), by (first | assumption | with_reducible exact Blk.new _ _ _ | exact hHeld.lt | exact f0.below hb9 | exact f2.below hb9 | with_reducible exact f0.alloc _ | with_reducible exact f2.alloc _ | with_reducible exact Blk.set2 f0 _ _ | with_reducible exact Blk.set2 f2 _ _ | exact Blk.far2 f0 (by first | assumption | exact Ne.symm (by assumption)) _ _ | exact Blk.far2 f2 (by first | assumption | exact Ne.symm (by assumption)) _ _ | exact ne_lt f0.lt | exact ne_gt f0.lt), by (first | assumption | with_reducible exact Blk.new _ _ _ | exact hHeld.lt | exact f0.below hb9 | exact f2.below hb9 | with_reducible exact f0.alloc _ | with_reducible exact f2.alloc _ | with_reducible exact Blk.set2 f0 _ _ | with_reducible exact Blk.set2 f2 _ _ | exact Blk.far2 f0 (by first | assumption | exact Ne.symm (by assumption)) _ _ | exact Blk.far2 f2 (by first | assumption | exact Ne.symm (by assumption)) _ _ | exact ne_lt f0.lt | exact ne_gt f0.lt), by (first | assumption | with_reducible exact Blk.new _ _ _ | exact hHeld.lt | exact f0.below hb9 | exact f2.below hb9 | with_reducible exact f0.alloc _ | with_reducible exact f2.alloc _ | with_reducible exact Blk.set2 f0 _ _ | with_reducible exact Blk.set2 f2 _ _ | exact Blk.far2 f0 (by first | assumption | exact Ne.symm (by assumption)) _ _ | exact Blk.far2 f2 (by first | assumption | exact Ne.symm (by assumption)) _ _ | exact ne_lt f0.lt | exact ne_gt f0.lt), by (first | assumption | with_reducible exact Blk.new _ _ _ | exact hHeld.lt | exact f0.below hb9 | exact f2.below hb9 | with_reducible exact f0.alloc _ | with_reducible exact f2.alloc _ | with_reducible exact Blk.set2 f0 _ _ | with_reducible exact Blk.set2 f2 _ _ | exact Blk.far2 f0 (by first | assumption | exact Ne.symm (by assumption)) _ _ | exact Blk.far2 f2 (by first | assumption | exact Ne.symm (by assumption)) _ _ | exact ne_lt f0.lt | exact ne_gt f0.lt), trivial⟩
          (try clear f0 f1 f2 f3 f4 f5 f6 f7 f8 f9 f10 f11)
          obtain ⟨hHeld, f0, f1, f2, f3, f4, -⟩ := hT
          refine wpAnyH_ready (rs := [7]) (by kernel_rfl) (by simp) ?_
          refine AllReadyH.cons (o := ⟨none, _, _, _, _, _⟩) rfl (fun K hK => ?_) AllReadyH.nil
          (first | (obtain ⟨m0, m1, mf0, mf1⟩ := f0.two) | skip); (first | (obtain ⟨n0, n1, nf0, nf1⟩ := f2.two) | skip)
          go_simp
          refine hK.out _ _ ?_ (fun _ => ?_)
          · ((try dsimp only); (first | exact hst | assumption | exact hHeld.below hb9 | exact hHeld.alloc _ | exact hHeld.set2 (by omega) _ _))
          clear hK K
          (try simp only [Act.put, List.setIfInBounds_toArray, List.set_cons_zero, List.set_cons_succ])
          refine gen0 (T := fun W => ((fun W => CK w W k1 k2 A1 A2 c1 c2 d1.length d2.length)) W ∧ Blk W wq47.heap.size 29 #[.int .i64 k1, .string ⟨d1.toArray⟩] ∧ w.heap.size + 1 < wq47.heap.size ∧ Blk W wq1.heap.size 29 #[.int .i64 k2, .string ⟨d2.toArray⟩] ∧ w.heap.size + 1 < wq1.heap.size ∧ wq47.heap.size ≠ wq1.heap.size ∧ True) ?_ (fun wq50 hT => ?_)
          · exact ⟨by (first | exact hst | assumption | exact hHeld.below hb9 | exact hHeld.alloc _ | exact hHeld.set2 (by omega) _ _), by (first | assumption | with_reducible exact Blk.new _ _ _ | exact hHeld.lt | exact f0.below hb9 | exact f2.below hb9 | with_reducible exact f0.alloc _ | with_reducible exact f2.alloc _ | with_reducible exact Blk.set2 f0 _ _ | with_reducible exact Blk.set2 f2 _ _ | exact Blk.far2 f0 (by first | assumption | exact Ne.symm (by assumption)) _ _ | exact Blk.far2 f2 (by first | assumption | exact Ne.symm (by assumption)) _ _ | exact ne_lt f0.lt | exact ne_gt f0.lt), by (first | assumption | with_reducible exact Blk.new _ _ _ | exact hHeld.lt | exact f0.below hb9 | exact f2.below hb9 | with_reducible exact f0.alloc _ | with_reducible exact f2.alloc _ | with_reducible exact Blk.set2 f0 _ _ | with_reducible exact Blk.set2 f2 _ _ | exact Blk.far2 f0 (by first | assumption | exact Ne.symm (by assumption)) _ _ | exact Blk.far2 f2 (by first | assumption | exact Ne.symm (by assumption)) _ _ | exact ne_lt f0.lt | exact ne_gt f0.lt), by (first | assumption | with_reducible exact Blk.new _ _ _ | exact hHeld.lt | exact f0.below hb9 | exact f2.below hb9 | with_reducible exact f0.alloc _ | with_reducible exact f2.alloc _ | with_reducible exact Blk.set2 f0 _ _ | with_reducible exact Blk.set2 f2 _ _ | exact Blk.far2 f0 (by first | assumption | exact Ne.symm (by assumption)) _ _ | exact Blk.far2 f2 (by first | assumption | exact Ne.symm (by assumption)) _ _ | exact ne_lt f0.lt | exact ne_gt f0.lt), by (first | assumption | with_reducible exact Blk.new _ _ _ | exact hHeld.lt | exact f0.below hb9 | exact f2.below hb9 | with_reducible exact f0.alloc _ | with_reducible exact f2.alloc _ | with_reducible exact Blk.set2 f0 _ _ | with_reducible exact Blk.set2 f2 _ _ | exact Blk.far2 f0 (by first | assumption | exact Ne.symm (by assumption)) _ _ | exact Blk.far2 f2 (by first | assumption | exact Ne.symm (by assumption)) _ _ | exact ne_lt f0.lt | exact ne_gt f0.lt), by (first | assumption | with_reducible exact Blk.new _ _ _ | exact hHeld.lt | exact f0.below hb9 | exact f2.below hb9 | with_reducible exact f0.alloc _ | with_reducible exact f2.alloc _ | with_reducible exact Blk.set2 f0 _ _ | with_reducible exact Blk.set2 f2 _ _ | exact Blk.far2 f0 (by first | assumption | exact Ne.symm (by assumption)) _ _ | exact Blk.far2 f2 (by first | assumption | exact Ne.symm (by assumption)) _ _ | exact ne_lt f0.lt | exact ne_gt f0.lt), trivial⟩
          (try clear f0 f1 f2 f3 f4 f5 f6 f7 f8 f9 f10 f11)
          obtain ⟨hHeld, f0, f1, f2, f3, f4, -⟩ := hT
          refine wpAnyH_done (by kernel_rfl) ?_ _
          (go_wp2_with fail; go_meet; exact ⟨_, _, rfl, rfl, ⟨hHeld.bel, hHeld.a, hHeld.b, by assumption, by assumption⟩⟩)
        refine AllReadyH.cons (o := ⟨some 7, _, _, _, _, _⟩) rfl (fun K hK => ?_) ?_
        · go_simp
          refine hK.out _ _ ?_ (fun _ => ?_)
          · ((try dsimp only); (first | exact hst | assumption | exact hHeld.below hb9 | exact hHeld.alloc _ | exact hHeld.set2 (by omega) _ _))
          clear hK K
          (try simp only [Act.put, List.setIfInBounds_toArray, List.set_cons_zero, List.set_cons_succ])
          refine gen0 (T := fun W => ((fun W => CK w W k1 k2 A1 A2 c1 c2 d1.length d2.length)) W ∧ Blk W wq46.heap.size 29 #[.int .i64 0, .string ⟨#[]⟩] ∧ w.heap.size + 1 < wq46.heap.size ∧ Blk W wq1.heap.size 29 #[.int .i64 0, .string ⟨#[]⟩] ∧ w.heap.size + 1 < wq1.heap.size ∧ wq46.heap.size ≠ wq1.heap.size ∧ True) ?_ (fun wq51 hT => ?_)
          · exact ⟨by (first | exact hst | assumption | exact hHeld.below hb9 | exact hHeld.alloc _ | exact hHeld.set2 (by omega) _ _), by (first | assumption | with_reducible exact Blk.new _ _ _ | exact hHeld.lt | exact f0.below hb9 | exact f2.below hb9 | with_reducible exact f0.alloc _ | with_reducible exact f2.alloc _ | with_reducible exact Blk.set2 f0 _ _ | with_reducible exact Blk.set2 f2 _ _ | exact Blk.far2 f0 (by first | assumption | exact Ne.symm (by assumption)) _ _ | exact Blk.far2 f2 (by first | assumption | exact Ne.symm (by assumption)) _ _ | exact ne_lt f0.lt | exact ne_gt f0.lt), by (first | assumption | with_reducible exact Blk.new _ _ _ | exact hHeld.lt | exact f0.below hb9 | exact f2.below hb9 | with_reducible exact f0.alloc _ | with_reducible exact f2.alloc _ | with_reducible exact Blk.set2 f0 _ _ | with_reducible exact Blk.set2 f2 _ _ | exact Blk.far2 f0 (by first | assumption | exact Ne.symm (by assumption)) _ _ | exact Blk.far2 f2 (by first | assumption | exact Ne.symm (by assumption)) _ _ | exact ne_lt f0.lt | exact ne_gt f0.lt), by (first | assumption | with_reducible exact Blk.new _ _ _ | exact hHeld.lt | exact f0.below hb9 | exact f2.below hb9 | with_reducible exact f0.alloc _ | with_reducible exact f2.alloc _ | with_reducible exact Blk.set2 f0 _ _ | with_reducible exact Blk.set2 f2 _ _ | exact Blk.far2 f0 (by first | assumption | exact Ne.symm (by assumption)) _ _ | exact Blk.far2 f2 (by first | assumption | exact Ne.symm (by assumption)) _ _ | exact ne_lt f0.lt | exact ne_gt f0.lt), by (first | assumption | with_reducible exact Blk.new _ _ _ | exact hHeld.lt | exact f0.below hb9 | exact f2.below hb9 | with_reducible exact f0.alloc _ | with_reducible exact f2.alloc _ | with_reducible exact Blk.set2 f0 _ _ | with_reducible exact Blk.set2 f2 _ _ | exact Blk.far2 f0 (by first | assumption | exact Ne.symm (by assumption)) _ _ | exact Blk.far2 f2 (by first | assumption | exact Ne.symm (by assumption)) _ _ | exact ne_lt f0.lt | exact ne_gt f0.lt), by (first | assumption | with_reducible exact Blk.new _ _ _ | exact hHeld.lt | exact f0.below hb9 | exact f2.below hb9 | with_reducible exact f0.alloc _ | with_reducible exact f2.alloc _ | with_reducible exact Blk.set2 f0 _ _ | with_reducible exact Blk.set2 f2 _ _ | exact Blk.far2 f0 (by first | assumption | exact Ne.symm (by assumption)) _ _ | exact Blk.far2 f2 (by first | assumption | exact Ne.symm (by assumption)) _ _ | exact ne_lt f0.lt | exact ne_gt f0.lt), trivial⟩
          (try clear f0 f1 f2 f3 f4 f5 f6 f7 f8 f9 f10 f11)
          obtain ⟨hHeld, f0, f1, f2, f3, f4, -⟩ := hT
          refine wpAnyH_ready (rs := [3]) (by kernel_rfl) (by simp) ?_
          refine AllReadyH.cons (o := ⟨some 28, _, _, _, _, _⟩) rfl (fun K hK => ?_) AllReadyH.nil
          go_simp
          (refine (Document_any _ _ _ ?_).mono ?_; (first | exact ha.below hHeld.bel | exact hb.below hHeld.bel); rintro e w9 ⟨rfl, hb9⟩)
          go_wp2_with fail
          refine hK.out _ _ ?_ (fun _ => ?_)
          · ((try dsimp only); (first | exact hst | assumption | exact hHeld.below hb9 | exact hHeld.alloc _ | exact hHeld.set2 (by omega) _ _))
          clear hK K
          (try simp only [Act.put, List.setIfInBounds_toArray, List.set_cons_zero, List.set_cons_succ])
          refine gen0 (T := fun W => ((fun W => CK w W k1 k2 A1 A2 c1 c2 d1.length d2.length)) W ∧ Blk W wq46.heap.size 29 #[.int .i64 0, .string ⟨#[]⟩] ∧ w.heap.size + 1 < wq46.heap.size ∧ Blk W wq1.heap.size 29 #[.int .i64 0, .string ⟨#[]⟩] ∧ w.heap.size + 1 < wq1.heap.size ∧ wq46.heap.size ≠ wq1.heap.size ∧ True) ?_ (fun wq52 hT => ?_)
          · exact ⟨by (first | exact hst | assumption | exact hHeld.below hb9 | exact hHeld.alloc _ | exact hHeld.set2 (by omega) _ _), by (first | assumption | with_reducible exact Blk.new _ _ _ | exact hHeld.lt | exact f0.below hb9 | exact f2.below hb9 | with_reducible exact f0.alloc _ | with_reducible exact f2.alloc _ | with_reducible exact Blk.set2 f0 _ _ | with_reducible exact Blk.set2 f2 _ _ | exact Blk.far2 f0 (by first | assumption | exact Ne.symm (by assumption)) _ _ | exact Blk.far2 f2 (by first | assumption | exact Ne.symm (by assumption)) _ _ | exact ne_lt f0.lt | exact ne_gt f0.lt), by (first | assumption | with_reducible exact Blk.new _ _ _ | exact hHeld.lt | exact f0.below hb9 | exact f2.below hb9 | with_reducible exact f0.alloc _ | with_reducible exact f2.alloc _ | with_reducible exact Blk.set2 f0 _ _ | with_reducible exact Blk.set2 f2 _ _ | exact Blk.far2 f0 (by first | assumption | exact Ne.symm (by assumption)) _ _ | exact Blk.far2 f2 (by first | assumption | exact Ne.symm (by assumption)) _ _ | exact ne_lt f0.lt | exact ne_gt f0.lt), by (first | assumption | with_reducible exact Blk.new _ _ _ | exact hHeld.lt | exact f0.below hb9 | exact f2.below hb9 | with_reducible exact f0.alloc _ | with_reducible exact f2.alloc _ | with_reducible exact Blk.set2 f0 _ _ | with_reducible exact Blk.set2 f2 _ _ | exact Blk.far2 f0 (by first | assumption | exact Ne.symm (by assumption)) _ _ | exact Blk.far2 f2 (by first | assumption | exact Ne.symm (by assumption)) _ _ | exact ne_lt f0.lt | exact ne_gt f0.lt), by (first | assumption | with_reducible exact Blk.new _ _ _ | exact hHeld.lt | exact f0.below hb9 | exact f2.below hb9 | with_reducible exact f0.alloc _ | with_reducible exact f2.alloc _ | with_reducible exact Blk.set2 f0 _ _ | with_reducible exact Blk.set2 f2 _ _ | exact Blk.far2 f0 (by first | assumption | exact Ne.symm (by assumption)) _ _ | exact Blk.far2 f2 (by first | assumption | exact Ne.symm (by assumption)) _ _ | exact ne_lt f0.lt | exact ne_gt f0.lt), by (first | assumption | with_reducible exact Blk.new _ _ _ | exact hHeld.lt | exact f0.below hb9 | exact f2.below hb9 | with_reducible exact f0.alloc _ | with_reducible exact f2.alloc _ | with_reducible exact Blk.set2 f0 _ _ | with_reducible exact Blk.set2 f2 _ _ | exact Blk.far2 f0 (by first | assumption | exact Ne.symm (by assumption)) _ _ | exact Blk.far2 f2 (by first | assumption | exact Ne.symm (by assumption)) _ _ | exact ne_lt f0.lt | exact ne_gt f0.lt), trivial⟩
          (try clear f0 f1 f2 f3 f4 f5 f6 f7 f8 f9 f10 f11)
          obtain ⟨hHeld, f0, f1, f2, f3, f4, -⟩ := hT
          refine wpAnyH_ready (rs := [6]) (by kernel_rfl) (by simp) ?_
          refine AllReadyH.cons (o := ⟨none, _, _, _, _, _⟩) rfl (fun K hK => ?_) AllReadyH.nil
          (first | (obtain ⟨m0, m1, mf0, mf1⟩ := f0.two) | skip); (first | (obtain ⟨n0, n1, nf0, nf1⟩ := f2.two) | skip)
          go_simp
          refine hK.out _ _ ?_ (fun _ => ?_)
          · ((try dsimp only); (first | exact hst | assumption | exact hHeld.below hb9 | exact hHeld.alloc _ | exact hHeld.set2 (by omega) _ _))
          clear hK K
          (try simp only [Act.put, List.setIfInBounds_toArray, List.set_cons_zero, List.set_cons_succ])
          refine gen0 (T := fun W => ((fun W => CK w W k1 k2 A1 A2 c1 c2 d1.length d2.length)) W ∧ Blk W wq46.heap.size 29 #[.int .i64 k1, .string ⟨d1.toArray⟩] ∧ w.heap.size + 1 < wq46.heap.size ∧ Blk W wq1.heap.size 29 #[.int .i64 0, .string ⟨#[]⟩] ∧ w.heap.size + 1 < wq1.heap.size ∧ wq46.heap.size ≠ wq1.heap.size ∧ True) ?_ (fun wq53 hT => ?_)
          · exact ⟨by (first | exact hst | assumption | exact hHeld.below hb9 | exact hHeld.alloc _ | exact hHeld.set2 (by omega) _ _), by (first | assumption | with_reducible exact Blk.new _ _ _ | exact hHeld.lt | exact f0.below hb9 | exact f2.below hb9 | with_reducible exact f0.alloc _ | with_reducible exact f2.alloc _ | with_reducible exact Blk.set2 f0 _ _ | with_reducible exact Blk.set2 f2 _ _ | exact Blk.far2 f0 (by first | assumption | exact Ne.symm (by assumption)) _ _ | exact Blk.far2 f2 (by first | assumption | exact Ne.symm (by assumption)) _ _ | exact ne_lt f0.lt | exact ne_gt f0.lt), by (first | assumption | with_reducible exact Blk.new _ _ _ | exact hHeld.lt | exact f0.below hb9 | exact f2.below hb9 | with_reducible exact f0.alloc _ | with_reducible exact f2.alloc _ | with_reducible exact Blk.set2 f0 _ _ | with_reducible exact Blk.set2 f2 _ _ | exact Blk.far2 f0 (by first | assumption | exact Ne.symm (by assumption)) _ _ | exact Blk.far2 f2 (by first | assumption | exact Ne.symm (by assumption)) _ _ | exact ne_lt f0.lt | exact ne_gt f0.lt), by (first | assumption | with_reducible exact Blk.new _ _ _ | exact hHeld.lt | exact f0.below hb9 | exact f2.below hb9 | with_reducible exact f0.alloc _ | with_reducible exact f2.alloc _ | with_reducible exact Blk.set2 f0 _ _ | with_reducible exact Blk.set2 f2 _ _ | exact Blk.far2 f0 (by first | assumption | exact Ne.symm (by assumption)) _ _ | exact Blk.far2 f2 (by first | assumption | exact Ne.symm (by assumption)) _ _ | exact ne_lt f0.lt | exact ne_gt f0.lt), by (first | assumption | with_reducible exact Blk.new _ _ _ | exact hHeld.lt | exact f0.below hb9 | exact f2.below hb9 | with_reducible exact f0.alloc _ | with_reducible exact f2.alloc _ | with_reducible exact Blk.set2 f0 _ _ | with_reducible exact Blk.set2 f2 _ _ | exact Blk.far2 f0 (by first | assumption | exact Ne.symm (by assumption)) _ _ | exact Blk.far2 f2 (by first | assumption | exact Ne.symm (by assumption)) _ _ | exact ne_lt f0.lt | exact ne_gt f0.lt), by (first | assumption | with_reducible exact Blk.new _ _ _ | exact hHeld.lt | exact f0.below hb9 | exact f2.below hb9 | with_reducible exact f0.alloc _ | with_reducible exact f2.alloc _ | with_reducible exact Blk.set2 f0 _ _ | with_reducible exact Blk.set2 f2 _ _ | exact Blk.far2 f0 (by first | assumption | exact Ne.symm (by assumption)) _ _ | exact Blk.far2 f2 (by first | assumption | exact Ne.symm (by assumption)) _ _ | exact ne_lt f0.lt | exact ne_gt f0.lt), trivial⟩
          (try clear f0 f1 f2 f3 f4 f5 f6 f7 f8 f9 f10 f11)
          obtain ⟨hHeld, f0, f1, f2, f3, f4, -⟩ := hT
          refine wpAnyH_ready (rs := [7]) (by kernel_rfl) (by simp) ?_
          refine AllReadyH.cons (o := ⟨none, _, _, _, _, _⟩) rfl (fun K hK => ?_) AllReadyH.nil
          (first | (obtain ⟨m0, m1, mf0, mf1⟩ := f0.two) | skip); (first | (obtain ⟨n0, n1, nf0, nf1⟩ := f2.two) | skip)
          go_simp
          refine hK.out _ _ ?_ (fun _ => ?_)
          · ((try dsimp only); (first | exact hst | assumption | exact hHeld.below hb9 | exact hHeld.alloc _ | exact hHeld.set2 (by omega) _ _))
          clear hK K
          (try simp only [Act.put, List.setIfInBounds_toArray, List.set_cons_zero, List.set_cons_succ])
          refine gen0 (T := fun W => ((fun W => CK w W k1 k2 A1 A2 c1 c2 d1.length d2.length)) W ∧ Blk W wq46.heap.size 29 #[.int .i64 k1, .string ⟨d1.toArray⟩] ∧ w.heap.size + 1 < wq46.heap.size ∧ Blk W wq1.heap.size 29 #[.int .i64 k2, .string ⟨d2.toArray⟩] ∧ w.heap.size + 1 < wq1.heap.size ∧ wq46.heap.size ≠ wq1.heap.size ∧ True) ?_ (fun wq54 hT => ?_)
          · exact ⟨by (first | exact hst | assumption | exact hHeld.below hb9 | exact hHeld.alloc _ | exact hHeld.set2 (by omega) _ _), by (first | assumption | with_reducible exact Blk.new _ _ _ | exact hHeld.lt | exact f0.below hb9 | exact f2.below hb9 | with_reducible exact f0.alloc _ | with_reducible exact f2.alloc _ | with_reducible exact Blk.set2 f0 _ _ | with_reducible exact Blk.set2 f2 _ _ | exact Blk.far2 f0 (by first | assumption | exact Ne.symm (by assumption)) _ _ | exact Blk.far2 f2 (by first | assumption | exact Ne.symm (by assumption)) _ _ | exact ne_lt f0.lt | exact ne_gt f0.lt), by (first | assumption | with_reducible exact Blk.new _ _ _ | exact hHeld.lt | exact f0.below hb9 | exact f2.below hb9 | with_reducible exact f0.alloc _ | with_reducible exact f2.alloc _ | with_reducible exact Blk.set2 f0 _ _ | with_reducible exact Blk.set2 f2 _ _ | exact Blk.far2 f0 (by first | assumption | exact Ne.symm (by assumption)) _ _ | exact Blk.far2 f2 (by first | assumption | exact Ne.symm (by assumption)) _ _ | exact ne_lt f0.lt | exact ne_gt f0.lt), by (first | assumption | with_reducible exact Blk.new _ _ _ | exact hHeld.lt | exact f0.below hb9 | exact f2.below hb9 | with_reducible exact f0.alloc _ | with_reducible exact f2.alloc _ | with_reducible exact Blk.set2 f0 _ _ | with_reducible exact Blk.set2 f2 _ _ | exact Blk.far2 f0 (by first | assumption | exact Ne.symm (by assumption)) _ _ | exact Blk.far2 f2 (by first | assumption | exact Ne.symm (by assumption)) _ _ | exact ne_lt f0.lt | exact ne_gt f0.lt), by (first | assumption | with_reducible exact Blk.new _ _ _ | exact hHeld.lt | exact f0.below hb9 | exact f2.below hb9 | with_reducible exact f0.alloc _ | with_reducible exact f2.alloc _ | with_reducible exact Blk.set2 f0 _ _ | with_reducible exact Blk.set2 f2 _ _ | exact Blk.far2 f0 (by first | assumption | exact Ne.symm (by assumption)) _ _ | exact Blk.far2 f2 (by first | assumption | exact Ne.symm (by assumption)) _ _ | exact ne_lt f0.lt | exact ne_gt f0.lt), by (first | assumption | with_reducible exact Blk.new _ _ _ | exact hHeld.lt | exact f0.below hb9 | exact f2.below hb9 | with_reducible exact f0.alloc _ | with_reducible exact f2.alloc _ | with_reducible exact Blk.set2 f0 _ _ | with_reducible exact Blk.set2 f2 _ _ | exact Blk.far2 f0 (by first | assumption | exact Ne.symm (by assumption)) _ _ | exact Blk.far2 f2 (by first | assumption | exact Ne.symm (by assumption)) _ _ | exact ne_lt f0.lt | exact ne_gt f0.lt), trivial⟩
          (try clear f0 f1 f2 f3 f4 f5 f6 f7 f8 f9 f10 f11)
          obtain ⟨hHeld, f0, f1, f2, f3, f4, -⟩ := hT
          refine wpAnyH_done (by kernel_rfl) ?_ _
          (go_wp2_with fail; go_meet; exact ⟨_, _, rfl, rfl, ⟨hHeld.bel, hHeld.a, hHeld.b, by assumption, by assumption⟩⟩)
        exact AllReadyH.nil
      refine AllReadyH.cons (o := ⟨some 7, _, _, _, _, _⟩) rfl (fun K hK => ?_) ?_
      · go_simp
        refine hK.out _ _ ?_ (fun _ => ?_)
        · ((try dsimp only); (first | exact hst | assumption | exact hHeld.below hb9 | exact hHeld.alloc _ | exact hHeld.set2 (by omega) _ _))
        clear hK K
        (try simp only [Act.put, List.setIfInBounds_toArray, List.set_cons_zero, List.set_cons_succ])
        refine gen0 (T := fun W => ((fun W => CK w W k1 k2 A1 A2 c1 c2 d1.length d2.length)) W ∧ Blk W wq45.heap.size 29 #[.int .i64 0, .string ⟨#[]⟩] ∧ w.heap.size + 1 < wq45.heap.size ∧ Blk W wq1.heap.size 29 #[.int .i64 0, .string ⟨#[]⟩] ∧ w.heap.size + 1 < wq1.heap.size ∧ wq45.heap.size ≠ wq1.heap.size ∧ True) ?_ (fun wq55 hT => ?_)
        · exact ⟨by (first | exact hst | assumption | exact hHeld.below hb9 | exact hHeld.alloc _ | exact hHeld.set2 (by omega) _ _), by (first | assumption | with_reducible exact Blk.new _ _ _ | exact hHeld.lt | exact f0.below hb9 | exact f2.below hb9 | with_reducible exact f0.alloc _ | with_reducible exact f2.alloc _ | with_reducible exact Blk.set2 f0 _ _ | with_reducible exact Blk.set2 f2 _ _ | exact Blk.far2 f0 (by first | assumption | exact Ne.symm (by assumption)) _ _ | exact Blk.far2 f2 (by first | assumption | exact Ne.symm (by assumption)) _ _ | exact ne_lt f0.lt | exact ne_gt f0.lt), by (first | assumption | with_reducible exact Blk.new _ _ _ | exact hHeld.lt | exact f0.below hb9 | exact f2.below hb9 | with_reducible exact f0.alloc _ | with_reducible exact f2.alloc _ | with_reducible exact Blk.set2 f0 _ _ | with_reducible exact Blk.set2 f2 _ _ | exact Blk.far2 f0 (by first | assumption | exact Ne.symm (by assumption)) _ _ | exact Blk.far2 f2 (by first | assumption | exact Ne.symm (by assumption)) _ _ | exact ne_lt f0.lt | exact ne_gt f0.lt), by (first | assumption | with_reducible exact Blk.new _ _ _ | exact hHeld.lt | exact f0.below hb9 | exact f2.below hb9 | with_reducible exact f0.alloc _ | with_reducible exact f2.alloc _ | with_reducible exact Blk.set2 f0 _ _ | with_reducible exact Blk.set2 f2 _ _ | exact Blk.far2 f0 (by first | assumption | exact Ne.symm (by assumption)) _ _ | exact Blk.far2 f2 (by first | assumption | exact Ne.symm (by assumption)) _ _ | exact ne_lt f0.lt | exact ne_gt f0.lt), by (first | assumption | with_reducible exact Blk.new _ _ _ | exact hHeld.lt | exact f0.below hb9 | exact f2.below hb9 | with_reducible exact f0.alloc _ | with_reducible exact f2.alloc _ | with_reducible exact Blk.set2 f0 _ _ | with_reducible exact Blk.set2 f2 _ _ | exact Blk.far2 f0 (by first | assumption | exact Ne.symm (by assumption)) _ _ | exact Blk.far2 f2 (by first | assumption | exact Ne.symm (by assumption)) _ _ | exact ne_lt f0.lt | exact ne_gt f0.lt), by (first | assumption | with_reducible exact Blk.new _ _ _ | exact hHeld.lt | exact f0.below hb9 | exact f2.below hb9 | with_reducible exact f0.alloc _ | with_reducible exact f2.alloc _ | with_reducible exact Blk.set2 f0 _ _ | with_reducible exact Blk.set2 f2 _ _ | exact Blk.far2 f0 (by first | assumption | exact Ne.symm (by assumption)) _ _ | exact Blk.far2 f2 (by first | assumption | exact Ne.symm (by assumption)) _ _ | exact ne_lt f0.lt | exact ne_gt f0.lt), trivial⟩
        (try clear f0 f1 f2 f3 f4 f5 f6 f7 f8 f9 f10 f11)
        obtain ⟨hHeld, f0, f1, f2, f3, f4, -⟩ := hT
        refine wpAnyH_ready (rs := [1]) (by kernel_rfl) (by simp) ?_
        refine AllReadyH.cons (o := ⟨some 26, _, _, _, _, _⟩) rfl (fun K hK => ?_) AllReadyH.nil
        go_simp
        (refine (Document_any _ _ _ ?_).mono ?_; (first | exact ha.below hHeld.bel | exact hb.below hHeld.bel); rintro e w9 ⟨rfl, hb9⟩)
        go_wp2_with fail
        refine hK.out _ _ ?_ (fun _ => ?_)
        · ((try dsimp only); (first | exact hst | assumption | exact hHeld.below hb9 | exact hHeld.alloc _ | exact hHeld.set2 (by omega) _ _))
        clear hK K
        (try simp only [Act.put, List.setIfInBounds_toArray, List.set_cons_zero, List.set_cons_succ])
        refine gen0 (T := fun W => ((fun W => CK w W k1 k2 A1 A2 c1 c2 d1.length d2.length)) W ∧ Blk W wq45.heap.size 29 #[.int .i64 0, .string ⟨#[]⟩] ∧ w.heap.size + 1 < wq45.heap.size ∧ Blk W wq1.heap.size 29 #[.int .i64 0, .string ⟨#[]⟩] ∧ w.heap.size + 1 < wq1.heap.size ∧ wq45.heap.size ≠ wq1.heap.size ∧ True) ?_ (fun wq56 hT => ?_)
        · exact ⟨by (first | exact hst | assumption | exact hHeld.below hb9 | exact hHeld.alloc _ | exact hHeld.set2 (by omega) _ _), by (first | assumption | with_reducible exact Blk.new _ _ _ | exact hHeld.lt | exact f0.below hb9 | exact f2.below hb9 | with_reducible exact f0.alloc _ | with_reducible exact f2.alloc _ | with_reducible exact Blk.set2 f0 _ _ | with_reducible exact Blk.set2 f2 _ _ | exact Blk.far2 f0 (by first | assumption | exact Ne.symm (by assumption)) _ _ | exact Blk.far2 f2 (by first | assumption | exact Ne.symm (by assumption)) _ _ | exact ne_lt f0.lt | exact ne_gt f0.lt), by (first | assumption | with_reducible exact Blk.new _ _ _ | exact hHeld.lt | exact f0.below hb9 | exact f2.below hb9 | with_reducible exact f0.alloc _ | with_reducible exact f2.alloc _ | with_reducible exact Blk.set2 f0 _ _ | with_reducible exact Blk.set2 f2 _ _ | exact Blk.far2 f0 (by first | assumption | exact Ne.symm (by assumption)) _ _ | exact Blk.far2 f2 (by first | assumption | exact Ne.symm (by assumption)) _ _ | exact ne_lt f0.lt | exact ne_gt f0.lt), by (first | assumption | with_reducible exact Blk.new _ _ _ | exact hHeld.lt | exact f0.below hb9 | exact f2.below hb9 | with_reducible exact f0.alloc _ | with_reducible exact f2.alloc _ | with_reducible exact Blk.set2 f0 _ _ | with_reducible exact Blk.set2 f2 _ _ | exact Blk.far2 f0 (by first | assumption | exact Ne.symm (by assumption)) _ _ | exact Blk.far2 f2 (by first | assumption | exact Ne.symm (by assumption)) _ _ | exact ne_lt f0.lt | exact ne_gt f0.lt), by (first | assumption | with_reducible exact Blk.new _ _ _ | exact hHeld.lt | exact f0.below hb9 | exact f2.below hb9 | with_reducible exact f0.alloc _ | with_reducible exact f2.alloc _ | with_reducible exact Blk.set2 f0 _ _ | with_reducible exact Blk.set2 f2 _ _ | exact Blk.far2 f0 (by first | assumption | exact Ne.symm (by assumption)) _ _ | exact Blk.far2 f2 (by first | assumption | exact Ne.symm (by assumption)) _ _ | exact ne_lt f0.lt | exact ne_gt f0.lt), by (first | assumption | with_reducible exact Blk.new _ _ _ | exact hHeld.lt | exact f0.below hb9 | exact f2.below hb9 | with_reducible exact f0.alloc _ | with_reducible exact f2.alloc _ | with_reducible exact Blk.set2 f0 _ _ | with_reducible exact Blk.set2 f2 _ _ | exact Blk.far2 f0 (by first | assumption | exact Ne.symm (by assumption)) _ _ | exact Blk.far2 f2 (by first | assumption | exact Ne.symm (by assumption)) _ _ | exact ne_lt f0.lt | exact ne_gt f0.lt), trivial⟩
        (try clear f0 f1 f2 f3 f4 f5 f6 f7 f8 f9 f10 f11)
        obtain ⟨hHeld, f0, f1, f2, f3, f4, -⟩ := hT
        refine wpAnyH_ready (rs := [3]) (by kernel_rfl) (by simp) ?_
        refine AllReadyH.cons (o := ⟨some 28, _, _, _, _, _⟩) rfl (fun K hK => ?_) AllReadyH.nil
        go_simp
        (refine (Document_any _ _ _ ?_).mono ?_; (first | exact ha.below hHeld.bel | exact hb.below hHeld.bel); rintro e w9 ⟨rfl, hb9⟩)
        go_wp2_with fail
        refine hK.out _ _ ?_ (fun _ => ?_)
        · ((try dsimp only); (first | exact hst | assumption | exact hHeld.below hb9 | exact hHeld.alloc _ | exact hHeld.set2 (by omega) _ _))
        clear hK K
        (try simp only [Act.put, List.setIfInBounds_toArray, List.set_cons_zero, List.set_cons_succ])
        refine gen0 (T := fun W => ((fun W => CK w W k1 k2 A1 A2 c1 c2 d1.length d2.length)) W ∧ Blk W wq45.heap.size 29 #[.int .i64 0, .string ⟨#[]⟩] ∧ w.heap.size + 1 < wq45.heap.size ∧ Blk W wq1.heap.size 29 #[.int .i64 0, .string ⟨#[]⟩] ∧ w.heap.size + 1 < wq1.heap.size ∧ wq45.heap.size ≠ wq1.heap.size ∧ True) ?_ (fun wq57 hT => ?_)
        · exact ⟨by (first | exact hst | assumption | exact hHeld.below hb9 | exact hHeld.alloc _ | exact hHeld.set2 (by omega) _ _), by (first | assumption | with_reducible exact Blk.new _ _ _ | exact hHeld.lt | exact f0.below hb9 | exact f2.below hb9 | with_reducible exact f0.alloc _ | with_reducible exact f2.alloc _ | with_reducible exact Blk.set2 f0 _ _ | with_reducible exact Blk.set2 f2 _ _ | exact Blk.far2 f0 (by first | assumption | exact Ne.symm (by assumption)) _ _ | exact Blk.far2 f2 (by first | assumption | exact Ne.symm (by assumption)) _ _ | exact ne_lt f0.lt | exact ne_gt f0.lt), by (first | assumption | with_reducible exact Blk.new _ _ _ | exact hHeld.lt | exact f0.below hb9 | exact f2.below hb9 | with_reducible exact f0.alloc _ | with_reducible exact f2.alloc _ | with_reducible exact Blk.set2 f0 _ _ | with_reducible exact Blk.set2 f2 _ _ | exact Blk.far2 f0 (by first | assumption | exact Ne.symm (by assumption)) _ _ | exact Blk.far2 f2 (by first | assumption | exact Ne.symm (by assumption)) _ _ | exact ne_lt f0.lt | exact ne_gt f0.lt), by (first | assumption | with_reducible exact Blk.new _ _ _ | exact hHeld.lt | exact f0.below hb9 | exact f2.below hb9 | with_reducible exact f0.alloc _ | with_reducible exact f2.alloc _ | with_reducible exact Blk.set2 f0 _ _ | with_reducible exact Blk.set2 f2 _ _ | exact Blk.far2 f0 (by first | assumption | exact Ne.symm (by assumption)) _ _ | exact Blk.far2 f2 (by first | assumption | exact Ne.symm (by assumption)) _ _ | exact ne_lt f0.lt | exact ne_gt f0.lt), by (first | assumption | with_reducible exact Blk.new _ _ _ | exact hHeld.lt | exact f0.below hb9 | exact f2.below hb9 | with_reducible exact f0.alloc _ | with_reducible exact f2.alloc _ | with_reducible exact Blk.set2 f0 _ _ | with_reducible exact Blk.set2 f2 _ _ | exact Blk.far2 f0 (by first | assumption | exact Ne.symm (by assumption)) _ _ | exact Blk.far2 f2 (by first | assumption | exact Ne.symm (by assumption)) _ _ | exact ne_lt f0.lt | exact ne_gt f0.lt), by (first | assumption | with_reducible exact Blk.new _ _ _ | exact hHeld.lt | exact f0.below hb9 | exact f2.below hb9 | with_reducible exact f0.alloc _ | with_reducible exact f2.alloc _ | with_reducible exact Blk.set2 f0 _ _ | with_reducible exact Blk.set2 f2 _ _ | exact Blk.far2 f0 (by first | assumption | exact Ne.symm (by assumption)) _ _ | exact Blk.far2 f2 (by first | assumption | exact Ne.symm (by assumption)) _ _ | exact ne_lt f0.lt | exact ne_gt f0.lt), trivial⟩
        (try clear f0 f1 f2 f3 f4 f5 f6 f7 f8 f9 f10 f11)
        obtain ⟨hHeld, f0, f1, f2, f3, f4, -⟩ := hT
        refine wpAnyH_ready (rs := [6]) (by kernel_rfl) (by simp) ?_
        refine AllReadyH.cons (o := ⟨none, _, _, _, _, _⟩) rfl (fun K hK => ?_) AllReadyH.nil
        (first | (obtain ⟨m0, m1, mf0, mf1⟩ := f0.two) | skip); (first | (obtain ⟨n0, n1, nf0, nf1⟩ := f2.two) | skip)
        go_simp
        refine hK.out _ _ ?_ (fun _ => ?_)
        · ((try dsimp only); (first | exact hst | assumption | exact hHeld.below hb9 | exact hHeld.alloc _ | exact hHeld.set2 (by omega) _ _))
        clear hK K
        (try simp only [Act.put, List.setIfInBounds_toArray, List.set_cons_zero, List.set_cons_succ])
        refine gen0 (T := fun W => ((fun W => CK w W k1 k2 A1 A2 c1 c2 d1.length d2.length)) W ∧ Blk W wq45.heap.size 29 #[.int .i64 k1, .string ⟨d1.toArray⟩] ∧ w.heap.size + 1 < wq45.heap.size ∧ Blk W wq1.heap.size 29 #[.int .i64 0, .string ⟨#[]⟩] ∧ w.heap.size + 1 < wq1.heap.size ∧ wq45.heap.size ≠ wq1.heap.size ∧ True) ?_ (fun wq58 hT => ?_)
        · exact ⟨by (first | exact hst | assumption | exact hHeld.below hb9 | exact hHeld.alloc _ | exact hHeld.set2 (by omega) _ _), by (first | assumption | with_reducible exact Blk.new _ _ _ | exact hHeld.lt | exact f0.below hb9 | exact f2.below hb9 | with_reducible exact f0.alloc _ | with_reducible exact f2.alloc _ | with_reducible exact Blk.set2 f0 _ _ | with_reducible exact Blk.set2 f2 _ _ | exact Blk.far2 f0 (by first | assumption | exact Ne.symm (by assumption)) _ _ | exact Blk.far2 f2 (by first | assumption | exact Ne.symm (by assumption)) _ _ | exact ne_lt f0.lt | exact ne_gt f0.lt), by (first | assumption | with_reducible exact Blk.new _ _ _ | exact hHeld.lt | exact f0.below hb9 | exact f2.below hb9 | with_reducible exact f0.alloc _ | with_reducible exact f2.alloc _ | with_reducible exact Blk.set2 f0 _ _ | with_reducible exact Blk.set2 f2 _ _ | exact Blk.far2 f0 (by first | assumption | exact Ne.symm (by assumption)) _ _ | exact Blk.far2 f2 (by first | assumption | exact Ne.symm (by assumption)) _ _ | exact ne_lt f0.lt | exact ne_gt f0.lt), by (first | assumption | with_reducible exact Blk.new _ _ _ | exact hHeld.lt | exact f0.below hb9 | exact f2.below hb9 | with_reducible exact f0.alloc _ | with_reducible exact f2.alloc _ | with_reducible exact Blk.set2 f0 _ _ | with_reducible exact Blk.set2 f2 _ _ | exact Blk.far2 f0 (by first | assumption | exact Ne.symm (by assumption)) _ _ | exact Blk.far2 f2 (by first | assumption | exact Ne.symm (by assumption)) _ _ | exact ne_lt f0.lt | exact ne_gt f0.lt), by (first | assumption | with_reducible exact Blk.new _ _ _ | exact hHeld.lt | exact f0.below hb9 | exact f2.below hb9 | with_reducible exact f0.alloc _ | with_reducible exact f2.alloc _ | with_reducible exact Blk.set2 f0 _ _ | with_reducible exact Blk.set2 f2 _ _ | exact Blk.far2 f0 (by first | assumption | exact Ne.symm (by assumption)) _ _ | exact Blk.far2 f2 (by first | assumption | exact Ne.symm (by assumption)) _ _ | exact ne_lt f0.lt | exact ne_gt f0.lt), by (first | assumption | with_reducible exact Blk.new _ _ _ | exact hHeld.lt | exact f0.below hb9 | exact f2.below hb9 | with_reducible exact f0.alloc _ | with_reducible exact f2.alloc _ | with_reducible exact Blk.set2 f0 _ _ | with_reducible exact Blk.set2 f2 _ _ | exact Blk.far2 f0 (by first | assumption | exact Ne.symm (by assumption)) _ _ | exact Blk.far2 f2 (by first | assumption | exact Ne.symm (by assumption)) _ _ | exact ne_lt f0.lt | exact ne_gt f0.lt), trivial⟩
        (try clear f0 f1 f2 f3 f4 f5 f6 f7 f8 f9 f10 f11)
        obtain ⟨hHeld, f0, f1, f2, f3, f4, -⟩ := hT
        refine wpAnyH_ready (rs := [7]) (by kernel_rfl) (by simp) ?_
        refine AllReadyH.cons (o := ⟨none, _, _, _, _, _⟩) rfl (fun K hK => ?_) AllReadyH.nil
        (first | (obtain ⟨m0, m1, mf0, mf1⟩ := f0.two) | skip); (first | (obtain ⟨n0, n1, nf0, nf1⟩ := f2.two) | skip)
        go_simp
        refine hK.out _ _ ?_ (fun _ => ?_)
        · ((try dsimp only); (first | exact hst | assumption | exact hHeld.below hb9 | exact hHeld.alloc _ | exact hHeld.set2 (by omega) _ _))
        clear hK K
        (try simp only [Act.put, List.setIfInBounds_toArray, List.set_cons_zero, List.set_cons_succ])
        refine gen0 (T := fun W => ((fun W => CK w W k1 k2 A1 A2 c1 c2 d1.length d2.length)) W ∧ Blk W wq45.heap.size 29 #[.int .i64 k1, .string ⟨d1.toArray⟩] ∧ w.heap.size + 1 < wq45.heap.size ∧ Blk W wq1.heap.size 29 #[.int .i64 k2, .string ⟨d2.toArray⟩] ∧ w.heap.size + 1 < wq1.heap.size ∧ wq45.heap.size ≠ wq1.heap.size ∧ True) ?_ (fun wq59 hT => ?_)
        · exact ⟨by (first | exact hst | assumption | exact hHeld.below hb9 | exact hHeld.alloc _ | exact hHeld.set2 (by omega) _ _), by (first | assumption | with_reducible exact Blk.new _ _ _ | exact hHeld.lt | exact f0.below hb9 | exact f2.below hb9 | with_reducible exact f0.alloc _ | with_reducible exact f2.alloc _ | with_reducible exact Blk.set2 f0 _ _ | with_reducible exact Blk.set2 f2 _ _ | exact Blk.far2 f0 (by first | assumption | exact Ne.symm (by assumption)) _ _ | exact Blk.far2 f2 (by first | assumption | exact Ne.symm (by assumption)) _ _ | exact ne_lt f0.lt | exact ne_gt f0.lt), by (first | assumption | with_reducible exact Blk.new _ _ _ | exact hHeld.lt | exact f0.below hb9 | exact f2.below hb9 | with_reducible exact f0.alloc _ | with_reducible exact f2.alloc _ | with_reducible exact Blk.set2 f0 _ _ | with_reducible exact Blk.set2 f2 _ _ | exact Blk.far2 f0 (by first | assumption | exact Ne.symm (by assumption)) _ _ | exact Blk.far2 f2 (by first | assumption | exact Ne.symm (by assumption)) _ _ | exact ne_lt f0.lt | exact ne_gt f0.lt), by (first | assumption | with_reducible exact Blk.new _ _ _ | exact hHeld.lt | exact f0.below hb9 | exact f2.below hb9 | with_reducible exact f0.alloc _ | with_reducible exact f2.alloc _ | with_reducible exact Blk.set2 f0 _ _ | with_reducible exact Blk.set2 f2 _ _ | exact Blk.far2 f0 (by first | assumption | exact Ne.symm (by assumption)) _ _ | exact Blk.far2 f2 (by first | assumption | exact Ne.symm (by assumption)) _ _ | exact ne_lt f0.lt | exact ne_gt f0.lt), by (first | assumption | with_reducible exact Blk.new _ _ _ | exact hHeld.lt | exact f0.below hb9 | exact f2.below hb9 | with_reducible exact f0.alloc _ | with_reducible exact f2.alloc _ | with_reducible exact Blk.set2 f0 _ _ | with_reducible exact Blk.set2 f2 _ _ | exact Blk.far2 f0 (by first | assumption | exact Ne.symm (by assumption)) _ _ | exact Blk.far2 f2 (by first | assumption | exact Ne.symm (by assumption)) _ _ | exact ne_lt f0.lt | exact ne_gt f0.lt), by (first | assumption | with_reducible exact Blk.new _ _ _ | exact hHeld.lt | exact f0.below hb9 | exact f2.below hb9 | with_reducible exact f0.alloc _ | with_reducible exact f2.alloc _ | with_reducible exact Blk.set2 f0 _ _ | with_reducible exact Blk.set2 f2 _ _ | exact Blk.far2 f0 (by first | assumption | exact Ne.symm (by assumption)) _ _ | exact Blk.far2 f2 (by first | assumption | exact Ne.symm (by assumption)) _ _ | exact ne_lt f0.lt | exact ne_gt f0.lt), trivial⟩
        (try clear f0 f1 f2 f3 f4 f5 f6 f7 f8 f9 f10 f11)
        obtain ⟨hHeld, f0, f1, f2, f3, f4, -⟩ := hT
        refine wpAnyH_done (by kernel_rfl) ?_ _
        (go_wp2_with fail; go_meet; exact ⟨_, _, rfl, rfl, ⟨hHeld.bel, hHeld.a, hHeld.b, by assumption, by assumption⟩⟩)
      exact AllReadyH.nil
    exact AllReadyH.nil
  case rest =>
    obtain ⟨g1, g2, rfl, rfl, hI⟩ := hcut
    clear hst
    obtain ⟨x0, x1, _, _⟩ := hI.x.two
    have hHK := fun W => rCheck_any k1 d1 W
    have hCK := fun W => CCheck_any (A := A1) (c := c1) k1 d1 W
    have hPK := fun W (hs : SlB W (some ⟨W.heap.size, 0, none⟩) 1 [9]) => hs
    obtain ⟨bad, hbad⟩ : ∃ n, cchk (k1, d1) = n := ⟨_, rfl⟩
    have HBAD := Lib.hid hbad
    rw [hbad] at hHK
    rw [hbad] at hCK
    have HHK := Lib.hid hHK
    have HCK := Lib.hid hCK
    clear hHK hCK hbad hPK
    go_wp2_with fail
    refine (HHK.out _).mono ?_
    rintro e w4 ⟨rfl, hb4⟩
    replace hI := hI.below hb4
    clear hb4 x0 x1 HHK
    go_upto_region 8 with (fail)
    obtain ⟨kb, hkb⟩ : ∃ kb, kb = (decide (0 ≤ kind) && decide (kind ≤ 3)) := ⟨_, rfl⟩
    have HKB := Lib.hid hkb
    clear hkb
    go_cut [36] (fun s36 wx => s36 = .bool kb ∧ wx = w4)
    case first =>
      by_cases h1 : 0 ≤ kind
      · have h1b : decide (0 ≤ kind) = true := by simpa using h1
        go_wp2_with fail
        go_meet
        exact ⟨by rw [HKB.out]; simp [h1], rfl⟩
      · have h1b : decide (0 ≤ kind) = false := by simpa using h1
        go_wp2_with fail
        go_meet
        exact ⟨by rw [HKB.out, h1b]; rfl, rfl⟩
    case rest =>
      obtain ⟨rfl, rfl⟩ := hcut
      go_upto_if 36 with (fail)
      go_cut [10] (fun s10 wx => s10 = .string ⟨(cword kind).toArray⟩ ∧ Below wc.heap.size wc wx)
      case first =>
        cases kb
        case true =>
          have h2 := HKB.out
          simp only [Bool.and_eq_true, decide_eq_true_eq, eq_comm (a := true)] at h2
          obtain rfl | rfl | rfl | rfl : kind = 0 ∨ kind = 1 ∨ kind = 2 ∨ kind = 3 := by omega
          all_goals
            clear HKB h2
            go_wp2_with fail
            go_meet
            exact ⟨rfl, below_new _ _⟩
        case false =>
          have h2 := HKB.out
          have hkw : Hid (cword kind = []) := (show _ = _ from by
            unfold cword
            simp only [Bool.and_eq_false_iff, decide_eq_false_iff_not, eq_comm (a := false)] at h2
            rw [if_neg (by omega), if_neg (by omega), if_neg (by omega), if_neg (by omega)])
          clear HKB h2
          go_wp2_with fail
          go_meet
          exact ⟨by rw [hkw.out], Below.refl _ _⟩
      case rest =>
        obtain ⟨rfl, hbz⟩ := hcut
        replace hI := hI.below hbz
        clear hbz HKB
        have hS := fun W h1 h2 => CSame_any (A := A1) (A2 := A2) (c := c1) (c2 := c2) k1 k2 d1 d2 W h1 h2
        have hE := eq_dv k1 k2 d1 d2
        have hM := fun W h1 h2 => CMay_any (A := A1) (A2 := A2) (c := c1) (c2 := c2) k1 k2 d1 d2 W h1 h2
        have hRM := fun W => rMay_any k1 k2 d1 d2 W
        have hWd := fun W => CWord_any kind W
        rw [rmay_eq] at hRM
        have hL := fun W h1 h2 => CLater_any (A := A1) (A2 := A2) (c := c1) (c2 := c2) k1 k2 d1 d2 W h1 h2 (by omega) (by omega)
        have hRM2 := fun W => rMay_any k2 k1 d2 d1 W
        rw [rmay_eq] at hRM2
        have HLA : Hid (later (k1, d1) (k2, d2) = if mayb (k1, d1) (k2, d2) = true then ((k2, d2), true) else if mayb (k2, d2) (k1, d1) = true then ((k1, d1), true) else ((0, []), false)) := (rfl : _ = _)
        generalize same (k1, d1) (k2, d2) = sb at *
        generalize mayb (k1, d1) (k2, d2) = mb at *
        generalize mayb (k2, d2) (k1, d1) = mb2 at *
        generalize later (k1, d1) (k2, d2) = la at *
        have hkw1 : ((⟨(cword kind).toArray⟩ : ByteArray) == ⟨(cword kind).toArray⟩) = true := by rw [beq_arr]; simp
        have hkw : ((⟨(cword kind).toArray⟩ : ByteArray) != ⟨(cword kind).toArray⟩) = false := by rw [bne, hkw1]; rfl
        generalize ByteArray.mk (cword kind).toArray = kw at *
        have HS := Lib.hid hS
        have HM := Lib.hid hM
        have HRM := Lib.hid hRM
        have HRM2 := Lib.hid hRM2
        have HW := Lib.hid hWd
        have HL := Lib.hid hL
        clear hS hM hRM hRM2 hWd hL
        have hst := hI.drew
        go_upto_region 10 with (fail)
        refine wp_region_held_drew (S := (fun W => In4 w W g1 g2 k1 k2 A1 A2 c1 c2 d1 d2)) (by kernel_rfl) ?_ (fun hHeld => ?_)
        · exact hst
        refine gen0 (T := fun W => ((fun W => In4 w W g1 g2 k1 k2 A1 A2 c1 c2 d1 d2)) W ∧ True) ?_ (fun wq1 hT => ?_)
        · exact ⟨by (first | exact hst | exact hHeld | exact hHeld.below hb5), trivial⟩
        (try clear f0 f1 f2 f3 f4 f5 f6 f7 f8 f9 f10 f11)
        obtain ⟨hHeld, -⟩ := hT
        refine wpAnyH_take (i := 0) (oi := ⟨some 41, _, _, _, _, _⟩) (v := ?_) rfl (by kernel_rfl) (by kernel_rfl) (by kernel_rfl) (fun _ _ _ h => h) (Or.inl ⟨by kernel_rfl, ?_⟩) (by assumption) ?_
        rotate_left
        · (intro wS hSw; (try dsimp only at hSw); obtain ⟨q0, q1⟩ := hSw.a.cells2; obtain ⟨r0, r1⟩ := hSw.b.cells2; obtain ⟨x0, x1⟩ := hSw.x.cells2; obtain ⟨y0, y1⟩ := hSw.y.cells2; clear hSw; go_simp; (try with_reducible rfl))
        (try simp only [Act.put, List.setIfInBounds_toArray, List.set_cons_zero, List.set_cons_succ])
        refine wpAnyH_take (i := 3) (oi := ⟨some 44, _, _, _, _, _⟩) (v := ?_) rfl (by kernel_rfl) (by kernel_rfl) (by kernel_rfl) (fun _ _ _ h => h) (Or.inl ⟨by kernel_rfl, ?_⟩) (by assumption) ?_
        rotate_left
        · (intro wS hSw; (try dsimp only at hSw); obtain ⟨q0, q1⟩ := hSw.a.cells2; obtain ⟨r0, r1⟩ := hSw.b.cells2; obtain ⟨x0, x1⟩ := hSw.x.cells2; obtain ⟨y0, y1⟩ := hSw.y.cells2; clear hSw; go_simp; (try with_reducible rfl))
        (try simp only [Act.put, List.setIfInBounds_toArray, List.set_cons_zero, List.set_cons_succ])
        refine wpAnyH_ready (rs := [1]) (by kernel_rfl) (by simp) ?_
        refine AllReadyH.cons (o := ⟨some 42, _, _, _, _, _⟩) rfl (fun K hK => ?_) AllReadyH.nil
        go_simp
        (refine (HCK.out _).mono ?_; rintro e w5 ⟨rfl, hb5⟩)
        go_wp2_with fail
        refine hK.out _ _ ?_ (fun _ => ?_)
        · ((try dsimp only); (first | exact hst | exact hHeld | exact hHeld.below hb5))
        clear hK K
        (try simp only [Act.put, List.setIfInBounds_toArray, List.set_cons_zero, List.set_cons_succ])
        refine gen0 (T := fun W => ((fun W => In4 w W g1 g2 k1 k2 A1 A2 c1 c2 d1 d2)) W ∧ True) ?_ (fun wq2 hT => ?_)
        · exact ⟨by (first | exact hst | exact hHeld | exact hHeld.below hb5), trivial⟩
        (try clear f0 f1 f2 f3 f4 f5 f6 f7 f8 f9 f10 f11)
        obtain ⟨hHeld, -⟩ := hT
        refine wpAnyH_ready (rs := [2]) (by kernel_rfl) (by simp) ?_
        refine AllReadyH.cons (o := ⟨some 43, _, _, _, _, _⟩) rfl (fun K hK => ?_) AllReadyH.nil
        go_simp
        (refine (num_any bad _).mono ?_; rintro e w6 ⟨rfl, rfl⟩)
        go_wp2_with fail
        refine hK.out _ _ ?_ (fun _ => ?_)
        · ((try dsimp only); (first | exact hst | exact hHeld | exact hHeld.below hb5))
        clear hK K
        (try simp only [Act.put, List.setIfInBounds_toArray, List.set_cons_zero, List.set_cons_succ])
        refine gen0 (T := fun W => ((fun W => In4 w W g1 g2 k1 k2 A1 A2 c1 c2 d1 d2)) W ∧ True) ?_ (fun wq3 hT => ?_)
        · exact ⟨by (first | exact hst | exact hHeld | exact hHeld.below hb5), trivial⟩
        (try clear f0 f1 f2 f3 f4 f5 f6 f7 f8 f9 f10 f11)
        obtain ⟨hHeld, -⟩ := hT
        refine wpAnyH_take (i := 4) (oi := ⟨some 45, _, _, _, _, _⟩) (v := ?_) rfl (by kernel_rfl) (by kernel_rfl) (by kernel_rfl) (fun _ _ _ h => h) (Or.inl ⟨by kernel_rfl, ?_⟩) (by assumption) ?_
        rotate_left
        · (intro wS hSw; (try dsimp only at hSw); obtain ⟨q0, q1⟩ := hSw.a.cells2; obtain ⟨r0, r1⟩ := hSw.b.cells2; obtain ⟨x0, x1⟩ := hSw.x.cells2; obtain ⟨y0, y1⟩ := hSw.y.cells2; clear hSw; go_simp; (try with_reducible rfl))
        (try simp only [Act.put, List.setIfInBounds_toArray, List.set_cons_zero, List.set_cons_succ])
        refine wpAnyH_take (i := 5) (oi := ⟨some 46, _, _, _, _, _⟩) (v := ?_) rfl (by kernel_rfl) (by kernel_rfl) (by kernel_rfl) (fun _ _ _ h => h) (Or.inl ⟨by kernel_rfl, ?_⟩) (by assumption) ?_
        rotate_left
        · (intro wS hSw; (try dsimp only at hSw); obtain ⟨q0, q1⟩ := hSw.a.cells2; obtain ⟨r0, r1⟩ := hSw.b.cells2; obtain ⟨x0, x1⟩ := hSw.x.cells2; obtain ⟨y0, y1⟩ := hSw.y.cells2; clear hSw; go_simp; (try with_reducible rfl))
        (try simp only [Act.put, List.setIfInBounds_toArray, List.set_cons_zero, List.set_cons_succ])
        refine wpAnyH_take (i := 6) (oi := ⟨some 47, _, _, _, _, _⟩) (v := ?_) rfl (by kernel_rfl) (by kernel_rfl) (by kernel_rfl) (fun _ _ _ h => h) (Or.inl ⟨by kernel_rfl, ?_⟩) (by assumption) ?_
        rotate_left
        · (intro wS hSw; (try dsimp only at hSw); obtain ⟨q0, q1⟩ := hSw.a.cells2; obtain ⟨r0, r1⟩ := hSw.b.cells2; obtain ⟨x0, x1⟩ := hSw.x.cells2; obtain ⟨y0, y1⟩ := hSw.y.cells2; clear hSw; go_simp; (try with_reducible rfl))
        (try simp only [Act.put, List.setIfInBounds_toArray, List.set_cons_zero, List.set_cons_succ])
        refine wpAnyH_take (i := 7) (oi := ⟨some 48, _, _, _, _, _⟩) (v := ?_) rfl (by kernel_rfl) (by kernel_rfl) (by kernel_rfl) (fun _ _ _ h => h) (Or.inl ⟨by kernel_rfl, ?_⟩) (by assumption) ?_
        rotate_left
        · (intro wS hSw; (try dsimp only at hSw); obtain ⟨q0, q1⟩ := hSw.a.cells2; obtain ⟨r0, r1⟩ := hSw.b.cells2; obtain ⟨x0, x1⟩ := hSw.x.cells2; obtain ⟨y0, y1⟩ := hSw.y.cells2; clear hSw; go_simp; (try with_reducible rfl))
        (try simp only [Act.put, List.setIfInBounds_toArray, List.set_cons_zero, List.set_cons_succ])
        refine wpAnyH_take (i := 9) (oi := ⟨some 50, _, _, _, _, _⟩) (v := ?_) rfl (by kernel_rfl) (by kernel_rfl) (by kernel_rfl) (fun _ _ _ h => h) (Or.inl ⟨by kernel_rfl, ?_⟩) (by assumption) ?_
        rotate_left
        · (intro wS hSw; (try dsimp only at hSw); obtain ⟨q0, q1⟩ := hSw.a.cells2; obtain ⟨r0, r1⟩ := hSw.b.cells2; obtain ⟨x0, x1⟩ := hSw.x.cells2; obtain ⟨y0, y1⟩ := hSw.y.cells2; clear hSw; go_simp; (try with_reducible rfl))
        (try simp only [Act.put, List.setIfInBounds_toArray, List.set_cons_zero, List.set_cons_succ])
        refine wpAnyH_take (i := 10) (oi := ⟨some 51, _, _, _, _, _⟩) (v := ?_) rfl (by kernel_rfl) (by kernel_rfl) (by kernel_rfl) (fun _ _ _ h => h) (Or.inl ⟨by kernel_rfl, ?_⟩) (by assumption) ?_
        rotate_left
        · (intro wS hSw; (try dsimp only at hSw); obtain ⟨q0, q1⟩ := hSw.a.cells2; obtain ⟨r0, r1⟩ := hSw.b.cells2; obtain ⟨x0, x1⟩ := hSw.x.cells2; obtain ⟨y0, y1⟩ := hSw.y.cells2; clear hSw; go_simp; (try with_reducible rfl))
        (try simp only [Act.put, List.setIfInBounds_toArray, List.set_cons_zero, List.set_cons_succ])
        refine wpAnyH_take (i := 11) (oi := ⟨some 52, _, _, _, _, _⟩) (v := ?_) rfl (by kernel_rfl) (by kernel_rfl) (by kernel_rfl) (fun _ _ _ h => h) (Or.inl ⟨by kernel_rfl, ?_⟩) (by assumption) ?_
        rotate_left
        · (intro wS hSw; (try dsimp only at hSw); obtain ⟨q0, q1⟩ := hSw.a.cells2; obtain ⟨r0, r1⟩ := hSw.b.cells2; obtain ⟨x0, x1⟩ := hSw.x.cells2; obtain ⟨y0, y1⟩ := hSw.y.cells2; clear hSw; go_simp; (try with_reducible rfl))
        (try simp only [Act.put, List.setIfInBounds_toArray, List.set_cons_zero, List.set_cons_succ])
        refine wpAnyH_ready (rs := [8]) (by kernel_rfl) (by simp) ?_
        refine AllReadyH.cons (o := ⟨some 49, _, _, _, _, _⟩) rfl (fun K hK => ?_) AllReadyH.nil
        go_simp
        (refine (HS.out _ (ha.below hHeld.bel) (hb.below hHeld.bel)).mono ?_; rintro e w5 ⟨rfl, hb5⟩)
        go_wp2_with fail
        refine hK.out _ _ ?_ (fun _ => ?_)
        · ((try dsimp only); (first | exact hst | exact hHeld | exact hHeld.below hb5))
        clear hK K
        (try simp only [Act.put, List.setIfInBounds_toArray, List.set_cons_zero, List.set_cons_succ])
        refine gen0 (T := fun W => ((fun W => In4 w W g1 g2 k1 k2 A1 A2 c1 c2 d1 d2)) W ∧ True) ?_ (fun wq4 hT => ?_)
        · exact ⟨by (first | exact hst | exact hHeld | exact hHeld.below hb5), trivial⟩
        (try clear f0 f1 f2 f3 f4 f5 f6 f7 f8 f9 f10 f11)
        obtain ⟨hHeld, -⟩ := hT
        refine wpAnyH_take (i := 12) (oi := ⟨some 53, _, _, _, _, _⟩) (v := ?_) rfl (by kernel_rfl) (by kernel_rfl) (by kernel_rfl) (fun _ _ _ h => h) (Or.inl ⟨by kernel_rfl, ?_⟩) (by assumption) ?_
        rotate_left
        · (intro wS hSw; (try dsimp only at hSw); obtain ⟨q0, q1⟩ := hSw.a.cells2; obtain ⟨r0, r1⟩ := hSw.b.cells2; obtain ⟨x0, x1⟩ := hSw.x.cells2; obtain ⟨y0, y1⟩ := hSw.y.cells2; clear hSw; go_simp; (try with_reducible rfl))
        (try simp only [Act.put, List.setIfInBounds_toArray, List.set_cons_zero, List.set_cons_succ])
        refine wpAnyH_take (i := 13) (oi := ⟨some 54, _, _, _, _, _⟩) (v := ?_) rfl (by kernel_rfl) (by kernel_rfl) (by kernel_rfl) (fun _ _ _ h => h) (Or.inl ⟨by kernel_rfl, ?_⟩) (by assumption) ?_
        rotate_left
        · (intro wS hSw; (try dsimp only at hSw); obtain ⟨q0, q1⟩ := hSw.a.cells2; obtain ⟨r0, r1⟩ := hSw.b.cells2; obtain ⟨x0, x1⟩ := hSw.x.cells2; obtain ⟨y0, y1⟩ := hSw.y.cells2; clear hSw; go_simp; (try with_reducible rfl))
        (try simp only [Act.put, List.setIfInBounds_toArray, List.set_cons_zero, List.set_cons_succ])
        refine wpAnyH_take (i := 14) (oi := ⟨some 55, _, _, _, _, _⟩) (v := ?_) rfl (by kernel_rfl) (by kernel_rfl) (by kernel_rfl) (fun _ _ _ h => h) (Or.inl ⟨by kernel_rfl, ?_⟩) (by assumption) ?_
        rotate_left
        · (intro wS hSw; (try dsimp only at hSw); obtain ⟨q0, q1⟩ := hSw.a.cells2; obtain ⟨r0, r1⟩ := hSw.b.cells2; obtain ⟨x0, x1⟩ := hSw.x.cells2; obtain ⟨y0, y1⟩ := hSw.y.cells2; clear hSw; go_simp; (try with_reducible rfl))
        (try simp only [Act.put, List.setIfInBounds_toArray, List.set_cons_zero, List.set_cons_succ])
        refine wpAnyH_take (i := 15) (oi := ⟨some 56, _, _, _, _, _⟩) (v := ?_) rfl (by kernel_rfl) (by kernel_rfl) (by kernel_rfl) (fun _ _ _ h => h) (Or.inl ⟨by kernel_rfl, ?_⟩) (by assumption) ?_
        rotate_left
        · (intro wS hSw; (try dsimp only at hSw); obtain ⟨q0, q1⟩ := hSw.a.cells2; obtain ⟨r0, r1⟩ := hSw.b.cells2; obtain ⟨x0, x1⟩ := hSw.x.cells2; obtain ⟨y0, y1⟩ := hSw.y.cells2; clear hSw; go_simp; (try with_reducible rfl))
        (try simp only [Act.put, List.setIfInBounds_toArray, List.set_cons_zero, List.set_cons_succ])
        refine wpAnyH_take (i := 16) (oi := ⟨some 57, _, _, _, _, _⟩) (v := ?_) rfl (by kernel_rfl) (by kernel_rfl) (by kernel_rfl) (fun _ _ _ h => h) (Or.inl ⟨by kernel_rfl, ?_⟩) (by assumption) ?_
        rotate_left
        · (intro wS hSw; (try dsimp only at hSw); obtain ⟨q0, q1⟩ := hSw.a.cells2; obtain ⟨r0, r1⟩ := hSw.b.cells2; obtain ⟨x0, x1⟩ := hSw.x.cells2; obtain ⟨y0, y1⟩ := hSw.y.cells2; clear hSw; go_simp; (try with_reducible rfl))
        (try simp only [Act.put, List.setIfInBounds_toArray, List.set_cons_zero, List.set_cons_succ])
        refine wpAnyH_take (i := 18) (oi := ⟨some 59, _, _, _, _, _⟩) (v := ?_) rfl (by kernel_rfl) (by kernel_rfl) (by kernel_rfl) (fun _ _ _ h => h) (Or.inl ⟨by kernel_rfl, ?_⟩) (by assumption) ?_
        rotate_left
        · (intro wS hSw; (try dsimp only at hSw); obtain ⟨q0, q1⟩ := hSw.a.cells2; obtain ⟨r0, r1⟩ := hSw.b.cells2; obtain ⟨x0, x1⟩ := hSw.x.cells2; obtain ⟨y0, y1⟩ := hSw.y.cells2; clear hSw; go_simp; (try with_reducible rfl))
        (try simp only [Act.put, List.setIfInBounds_toArray, List.set_cons_zero, List.set_cons_succ])
        refine wpAnyH_take (i := 19) (oi := ⟨some 60, _, _, _, _, _⟩) (v := ?_) rfl (by kernel_rfl) (by kernel_rfl) (by kernel_rfl) (fun _ _ _ h => h) (Or.inl ⟨by kernel_rfl, ?_⟩) (by assumption) ?_
        rotate_left
        · (intro wS hSw; (try dsimp only at hSw); obtain ⟨q0, q1⟩ := hSw.a.cells2; obtain ⟨r0, r1⟩ := hSw.b.cells2; obtain ⟨x0, x1⟩ := hSw.x.cells2; obtain ⟨y0, y1⟩ := hSw.y.cells2; clear hSw; go_simp; (try with_reducible rfl))
        (try simp only [Act.put, List.setIfInBounds_toArray, List.set_cons_zero, List.set_cons_succ])
        refine wpAnyH_ready (rs := [17]) (by kernel_rfl) (by simp) ?_
        refine AllReadyH.cons (o := ⟨some 58, _, _, _, _, _⟩) rfl (fun K hK => ?_) AllReadyH.nil
        go_simp
        (refine (HM.out _ (ha.below hHeld.bel) (hb.below hHeld.bel)).mono ?_; rintro e w5 ⟨rfl, hb5⟩)
        go_wp2_with fail
        refine hK.out _ _ ?_ (fun _ => ?_)
        · ((try dsimp only); (first | exact hst | exact hHeld | exact hHeld.below hb5))
        clear hK K
        (try simp only [Act.put, List.setIfInBounds_toArray, List.set_cons_zero, List.set_cons_succ])
        refine gen0 (T := fun W => ((fun W => In4 w W g1 g2 k1 k2 A1 A2 c1 c2 d1 d2)) W ∧ True) ?_ (fun wq5 hT => ?_)
        · exact ⟨by (first | exact hst | exact hHeld | exact hHeld.below hb5), trivial⟩
        (try clear f0 f1 f2 f3 f4 f5 f6 f7 f8 f9 f10 f11)
        obtain ⟨hHeld, -⟩ := hT
        refine wpAnyH_ready (rs := [20]) (by kernel_rfl) (by simp) ?_
        refine AllReadyH.cons (o := ⟨some 61, _, _, _, _, _⟩) rfl (fun K hK => ?_) AllReadyH.nil
        go_simp
        (refine (HRM.out _).mono ?_; rintro e w5 ⟨rfl, hb5⟩)
        go_wp2_with fail
        refine hK.out _ _ ?_ (fun _ => ?_)
        · ((try dsimp only); (first | exact hst | exact hHeld | exact hHeld.below hb5))
        clear hK K
        (try simp only [Act.put, List.setIfInBounds_toArray, List.set_cons_zero, List.set_cons_succ])
        refine gen0 (T := fun W => ((fun W => In4 w W g1 g2 k1 k2 A1 A2 c1 c2 d1 d2)) W ∧ True) ?_ (fun wq6 hT => ?_)
        · exact ⟨by (first | exact hst | exact hHeld | exact hHeld.below hb5), trivial⟩
        (try clear f0 f1 f2 f3 f4 f5 f6 f7 f8 f9 f10 f11)
        obtain ⟨hHeld, -⟩ := hT
        refine wpAnyH_take (i := 21) (oi := ⟨some 62, _, _, _, _, _⟩) (v := ?_) rfl (by kernel_rfl) (by kernel_rfl) (by kernel_rfl) (fun _ _ _ h => h) (Or.inl ⟨by kernel_rfl, ?_⟩) (by assumption) ?_
        rotate_left
        · (intro wS hSw; (try dsimp only at hSw); obtain ⟨q0, q1⟩ := hSw.a.cells2; obtain ⟨r0, r1⟩ := hSw.b.cells2; obtain ⟨x0, x1⟩ := hSw.x.cells2; obtain ⟨y0, y1⟩ := hSw.y.cells2; clear hSw; go_simp; (try with_reducible rfl))
        (try simp only [Act.put, List.setIfInBounds_toArray, List.set_cons_zero, List.set_cons_succ])
        refine wpAnyH_take (i := 22) (oi := ⟨some 63, _, _, _, _, _⟩) (v := ?_) rfl (by kernel_rfl) (by kernel_rfl) (by kernel_rfl) (fun _ _ _ h => h) (Or.inl ⟨by kernel_rfl, ?_⟩) (by assumption) ?_
        rotate_left
        · (intro wS hSw; (try dsimp only at hSw); obtain ⟨q0, q1⟩ := hSw.a.cells2; obtain ⟨r0, r1⟩ := hSw.b.cells2; obtain ⟨x0, x1⟩ := hSw.x.cells2; obtain ⟨y0, y1⟩ := hSw.y.cells2; clear hSw; go_simp; (try with_reducible rfl))
        (try simp only [Act.put, List.setIfInBounds_toArray, List.set_cons_zero, List.set_cons_succ])
        refine wpAnyH_take (i := 23) (oi := ⟨some 64, _, _, _, _, _⟩) (v := ?_) rfl (by kernel_rfl) (by kernel_rfl) (by kernel_rfl) (fun _ _ _ h => h) (Or.inl ⟨by kernel_rfl, ?_⟩) (by assumption) ?_
        rotate_left
        · (intro wS hSw; (try dsimp only at hSw); obtain ⟨q0, q1⟩ := hSw.a.cells2; obtain ⟨r0, r1⟩ := hSw.b.cells2; obtain ⟨x0, x1⟩ := hSw.x.cells2; obtain ⟨y0, y1⟩ := hSw.y.cells2; clear hSw; go_simp; (try with_reducible rfl))
        (try simp only [Act.put, List.setIfInBounds_toArray, List.set_cons_zero, List.set_cons_succ])
        refine wpAnyH_take (i := 24) (oi := ⟨some 65, _, _, _, _, _⟩) (v := ?_) rfl (by kernel_rfl) (by kernel_rfl) (by kernel_rfl) (fun _ _ _ h => h) (Or.inl ⟨by kernel_rfl, ?_⟩) (by assumption) ?_
        rotate_left
        · (intro wS hSw; (try dsimp only at hSw); obtain ⟨q0, q1⟩ := hSw.a.cells2; obtain ⟨r0, r1⟩ := hSw.b.cells2; obtain ⟨x0, x1⟩ := hSw.x.cells2; obtain ⟨y0, y1⟩ := hSw.y.cells2; clear hSw; go_simp; (try with_reducible rfl))
        (try simp only [Act.put, List.setIfInBounds_toArray, List.set_cons_zero, List.set_cons_succ])
        refine wpAnyH_take (i := 26) (oi := ⟨some 67, _, _, _, _, _⟩) (v := ?_) rfl (by kernel_rfl) (by kernel_rfl) (by kernel_rfl) (fun _ _ _ h => h) (Or.inl ⟨by kernel_rfl, ?_⟩) (by assumption) ?_
        rotate_left
        · (intro wS hSw; (try dsimp only at hSw); obtain ⟨q0, q1⟩ := hSw.a.cells2; obtain ⟨r0, r1⟩ := hSw.b.cells2; obtain ⟨x0, x1⟩ := hSw.x.cells2; obtain ⟨y0, y1⟩ := hSw.y.cells2; clear hSw; go_simp; (try with_reducible rfl))
        (try simp only [Act.put, List.setIfInBounds_toArray, List.set_cons_zero, List.set_cons_succ])
        refine wpAnyH_ready (rs := [25]) (by kernel_rfl) (by simp) ?_
        refine AllReadyH.cons (o := ⟨some 66, _, _, _, _, _⟩) rfl (fun K hK => ?_) AllReadyH.nil
        go_simp
        (refine (HW.out _).mono ?_; rintro e w6 ⟨rfl, rfl⟩)
        go_wp2_with fail
        refine hK.out _ _ ?_ (fun _ => ?_)
        · ((try dsimp only); (first | exact hst | exact hHeld | exact hHeld.below hb5))
        clear hK K
        (try simp only [Act.put, List.setIfInBounds_toArray, List.set_cons_zero, List.set_cons_succ])
        refine gen0 (T := fun W => ((fun W => In4 w W g1 g2 k1 k2 A1 A2 c1 c2 d1 d2)) W ∧ True) ?_ (fun wq7 hT => ?_)
        · exact ⟨by (first | exact hst | exact hHeld | exact hHeld.below hb5), trivial⟩
        (try clear f0 f1 f2 f3 f4 f5 f6 f7 f8 f9 f10 f11)
        obtain ⟨hHeld, -⟩ := hT
        refine wpAnyH_take (i := 27) (oi := ⟨some 68, _, _, _, _, _⟩) (v := ?_) rfl (by kernel_rfl) (by kernel_rfl) (by kernel_rfl) (fun _ _ _ h => h) (Or.inl ⟨by kernel_rfl, ?_⟩) (by assumption) ?_
        rotate_left
        · (intro wS hSw; (try dsimp only at hSw); obtain ⟨q0, q1⟩ := hSw.a.cells2; obtain ⟨r0, r1⟩ := hSw.b.cells2; obtain ⟨x0, x1⟩ := hSw.x.cells2; obtain ⟨y0, y1⟩ := hSw.y.cells2; clear hSw; go_simp; (try with_reducible rfl))
        (try simp only [Act.put, List.setIfInBounds_toArray, List.set_cons_zero, List.set_cons_succ])
        refine wpAnyH_take (i := 28) (oi := ⟨some 69, _, _, _, _, _⟩) (v := ?_) rfl (by kernel_rfl) (by kernel_rfl) (by kernel_rfl) (fun _ _ _ h => h) (Or.inl ⟨by kernel_rfl, ?_⟩) (by assumption) ?_
        rotate_left
        · (intro wS hSw; (try dsimp only at hSw); obtain ⟨q0, q1⟩ := hSw.a.cells2; obtain ⟨r0, r1⟩ := hSw.b.cells2; obtain ⟨x0, x1⟩ := hSw.x.cells2; obtain ⟨y0, y1⟩ := hSw.y.cells2; clear hSw; go_simp; (try with_reducible rfl))
        (try simp only [Act.put, List.setIfInBounds_toArray, List.set_cons_zero, List.set_cons_succ])
        refine wpAnyH_done (by kernel_rfl) ?_ _
        replace hI := hHeld
        clear hst hE hkw1 hkw HS HM HW hHeld HCK
        try clear hb5
        generalize hWe : wq5 = w5 at *
        clear hWe
        obtain ⟨q0, q1⟩ := hI.a.cells2
        obtain ⟨r0, r1⟩ := hI.b.cells2
        go_wp2_with fail
        refine (HL.out _ (ha.below hI.bel) (hb.below hI.bel)).mono ?_
        rintro e w6 ⟨A6, c6, m6, rfl, hm6, hs6, hb6⟩
        replace hI := hI.below hb6
        clear q0 q1 r0 r1 hb6 HL
        obtain ⟨⟨lk, ld⟩, lb⟩ := la
        dsimp only at hm6 ⊢
        obtain rfl := hm6.out
        clear hm6
        go_upto_block 0 with (fail)
        have hX := (Blk.new w6 24 #[.int .i64 lk, .slice A6 m6.length c6]).alloc (.cells #[.int .i64 0, .string ⟨#[]⟩] 29)
        have hY := Blk.newAt (w := w6.alloc (.cells #[.int .i64 lk, .slice A6 m6.length c6] 24)) (g := w6.heap.size + 1) (by simp) 29 #[.int .i64 0, .string ⟨#[]⟩]
        have hbx := bel_alloc (below_new w6 (.cells #[.int .i64 lk, .slice A6 m6.length c6] 24)) (.cells #[.int .i64 0, .string ⟨#[]⟩] 29)
        have hz1 := hI.x.lt
        have hz2 := hI.y.lt
        have hz3 := hI.b.lt
        replace hI := hI.below hbx
        replace hs6 := Sl.below hs6 hbx
        clear hbx
        generalize hWe : (w6.alloc (.cells #[.int .i64 lk, .slice A6 m6.length c6] 24)).alloc (.cells #[.int .i64 0, .string ⟨#[]⟩] 29) = w7 at *
        clear hWe
        generalize hge : w6.heap.size = gx at *
        clear hge
        go_cut [14] (fun s14 wz => s14 = .bool lb ∧ In4 w wz g1 g2 k1 k2 A1 A2 c1 c2 d1 d2 ∧ Blk wz gx 24 #[.int .i64 lk, .slice A6 m6.length c6] ∧ Blk wz (gx + 1) 29 #[.int .i64 lk, .string ⟨m6.toArray⟩] ∧ SlB wz A6 c6 m6)
        case first =>
          obtain ⟨x0, x1⟩ := hI.x.cells2
          obtain ⟨y0, y1⟩ := hI.y.cells2
          go_wp2_with fail
          refine (HRM.out _).mono ?_
          rintro e w8 ⟨rfl, hb8⟩
          replace hI := hI.below hb8
          replace hX := hX.below hb8
          replace hY := hY.below hb8
          replace hs6 := Sl.below hs6 hb8
          clear hb8 x0 x1 y0 y1 HRM
          obtain ⟨x0, x1⟩ := hI.x.cells2
          obtain ⟨y0, y1⟩ := hI.y.cells2
          obtain ⟨z0, z1, zf0, zf1⟩ := hY.two
          cases mb
          case true =>
            have hla := HLA.out
            rw [if_pos rfl] at hla
            injection hla with hl3 hl4
            injection hl3 with hl5 hl6
            subst hl4 hl5 hl6
            clear HLA
            go_wp2_with fail
            go_meet
            exact ⟨rfl, hI.set2 (by omega) (by omega) (by omega) _ _, hX.far2 (by omega) _ _, hY.set2 _ _, (show SlB _ _ _ _ from SlB.wr hs6 hY (int_neb _) (str_neb _) ((((Wr.refl _ _).set_ 0 _)).set_ 1 _))⟩
          case false =>
            go_wp2_with fail
            refine (HRM2.out _).mono ?_
            rintro e w9 ⟨rfl, hb9⟩
            replace hI := hI.below hb9
            replace hX := hX.below hb9
            replace hY := hY.below hb9
            replace hs6 := Sl.below hs6 hb9
            clear hb9 x0 x1 y0 y1 z0 z1 zf0 zf1
            obtain ⟨x0, x1⟩ := hI.x.cells2
            obtain ⟨z0, z1, zf0, zf1⟩ := hY.two
            have hla := HLA.out
            rw [if_neg (by simp)] at hla
            cases mb2
            case true =>
              rw [if_pos rfl] at hla
              injection hla with hl3 hl4
              injection hl3 with hl5 hl6
              subst hl4 hl5 hl6
              clear HLA
              go_wp2_with fail
              go_meet
              exact ⟨rfl, hI.set2 (by omega) (by omega) (by omega) _ _, hX.far2 (by omega) _ _, hY.set2 _ _, (show SlB _ _ _ _ from SlB.wr hs6 hY (int_neb _) (str_neb _) ((((Wr.refl _ _).set_ 0 _)).set_ 1 _))⟩
            case false =>
              rw [if_neg (by simp)] at hla
              injection hla with hl3 hl4
              injection hl3 with hl5 hl6
              subst hl4 hl5 hl6
              clear HLA
              go_wp2_with fail
              go_meet
              exact ⟨rfl, hI, hX, hY, hs6⟩
        case rest =>
          clear hI hX hY hs6 HLA HRM2
          obtain ⟨rfl, hI, hX, hY, hs6⟩ := hcut
          obtain ⟨q0, q1⟩ := hI.a.cells2
          have hbx := below_new wc (.cells #[.int .u8 9] 5)
          have hL9 : SlB (wc.alloc (.cells #[.int .u8 9] 5)) (some ⟨wc.heap.size, 0, none⟩) 1 [9] := Sl.lits wc [bv 9] 5 (by simp [maxLen])
          have HL9 := Lib.hid hL9
          have hz0 := hI.a.lt
          have hnum := fun W => num_any bad W
          clear hL9
          go_wp2_with fail
          refine (CPut_any (l := [9]) k1 d1 _ HL9.out (ha.below (bel_call hI.bel hbx)) (by simp)).mono ?_
          rintro e w9 ⟨hb9, hor⟩
          have hbx9 := bel_call hbx hb9
          replace hI := hI.below hbx9
          replace hX := hX.below hbx9
          replace hY := hY.below hbx9
          replace hs6 := Sl.below hs6 hbx9
          clear hbx hbx9 q0 q1 HL9
          have hst : Below w9.heap.size w9 w9.drew := (Below.refl _ _).drew
          have hnn := neq_dv lk lk m6 m6
          rw [show same (lk, m6) (lk, m6) = true from by unfold same; simp] at hnn
          rcases hor with ⟨A9, c9, m9, hck, rfl, hm9, ho9⟩ | ⟨hck, rfl⟩
          · have hb0 : bad = 0 := HBAD.out.symm.trans hck
            have hbz : ((bad : Int) != 0) = false := by rw [hb0]; rfl
            have hnum0 : ∀ W, Calls Try.prog 14 #[.nilIface] W fun e w' => e = .returned (.int .i64 (bad : Nat)) ∧ W = w' := fun W => by rw [hb0]; exact num_any 0 W
            have HN := Lib.hid hnum0
            have hck2 := cchk_ok hck
            dsimp only at hck2
            obtain ⟨hk0, hk3, -, -⟩ := hck2
            have ho9' : SlB w9 A9 c9 m9 := ho9.sl
            clear hnum hnum0 hck hb0 hb9 HBAD ho9
            go_upto_region 20 with (fail)
            refine wp_region_held_drew (S := (fun W => Below w9.heap.size w9 W)) (by kernel_rfl) ?_ (fun hHeld => ?_)
            · exact hst
            refine gen0 (T := fun W => ((fun W => Below w9.heap.size w9 W)) W ∧ True) ?_ (fun wq1 hT => ?_)
            · exact ⟨by (first | exact hst | exact hHeld | exact bel_call hHeld hb10), trivial⟩
            (try clear f0 f1 f2 f3 f4 f5 f6 f7 f8 f9 f10 f11)
            obtain ⟨hHeld, -⟩ := hT
            refine wpAnyH_take (i := 0) (oi := ⟨some 93, _, _, _, _, _⟩) (v := ?_) rfl (by kernel_rfl) (by kernel_rfl) (by kernel_rfl) (fun _ _ _ h => h) (Or.inl ⟨by kernel_rfl, ?_⟩) (by assumption) ?_
            rotate_left
            · (intro wS hSw; (try dsimp only at hSw); obtain ⟨q0, q1⟩ := (hX.below hSw).cells2; obtain ⟨r0, r1⟩ := (hY.below hSw).cells2; clear hSw; go_simp; (try with_reducible rfl))
            (try simp only [Act.put, List.setIfInBounds_toArray, List.set_cons_zero, List.set_cons_succ])
            refine wpAnyH_take (i := 2) (oi := ⟨some 95, _, _, _, _, _⟩) (v := ?_) rfl (by kernel_rfl) (by kernel_rfl) (by kernel_rfl) (fun _ _ _ h => h) (Or.inl ⟨by kernel_rfl, ?_⟩) (by assumption) ?_
            rotate_left
            · (intro wS hSw; (try dsimp only at hSw); obtain ⟨q0, q1⟩ := (hX.below hSw).cells2; obtain ⟨r0, r1⟩ := (hY.below hSw).cells2; clear hSw; go_simp; (try with_reducible rfl))
            (try simp only [Act.put, List.setIfInBounds_toArray, List.set_cons_zero, List.set_cons_succ])
            refine wpAnyH_ready (rs := [1]) (by kernel_rfl) (by simp) ?_
            refine AllReadyH.cons (o := ⟨some 94, _, _, _, _, _⟩) rfl (fun K hK => ?_) AllReadyH.nil
            go_simp
            (refine (Document_any lk m6 _ (Sl.below hs6 hHeld)).mono ?_; rintro e w10 ⟨rfl, hb10⟩)
            go_wp2_with fail
            refine hK.out _ _ ?_ (fun _ => ?_)
            · ((try dsimp only); (first | exact hst | exact hHeld | exact bel_call hHeld hb10))
            clear hK K
            (try simp only [Act.put, List.setIfInBounds_toArray, List.set_cons_zero, List.set_cons_succ])
            refine gen0 (T := fun W => ((fun W => Below w9.heap.size w9 W)) W ∧ True) ?_ (fun wq2 hT => ?_)
            · exact ⟨by (first | exact hst | exact hHeld | exact bel_call hHeld hb10), trivial⟩
            (try clear f0 f1 f2 f3 f4 f5 f6 f7 f8 f9 f10 f11)
            obtain ⟨hHeld, -⟩ := hT
            refine wpAnyH_take (i := 3) (oi := ⟨some 96, _, _, _, _, _⟩) (v := ?_) rfl (by kernel_rfl) (by kernel_rfl) (by kernel_rfl) (fun _ _ _ h => h) (Or.inl ⟨by kernel_rfl, ?_⟩) (by assumption) ?_
            rotate_left
            · (intro wS hSw; (try dsimp only at hSw); obtain ⟨q0, q1⟩ := (hX.below hSw).cells2; obtain ⟨r0, r1⟩ := (hY.below hSw).cells2; clear hSw; go_simp; (try with_reducible rfl))
            (try simp only [Act.put, List.setIfInBounds_toArray, List.set_cons_zero, List.set_cons_succ])
            refine wpAnyH_take (i := 4) (oi := ⟨some 97, _, _, _, _, _⟩) (v := ?_) rfl (by kernel_rfl) (by kernel_rfl) (by kernel_rfl) (fun _ _ _ h => h) (Or.inl ⟨by kernel_rfl, ?_⟩) (by assumption) ?_
            rotate_left
            · (intro wS hSw; (try dsimp only at hSw); obtain ⟨q0, q1⟩ := (hX.below hSw).cells2; obtain ⟨r0, r1⟩ := (hY.below hSw).cells2; clear hSw; go_simp; (try with_reducible rfl))
            (try simp only [Act.put, List.setIfInBounds_toArray, List.set_cons_zero, List.set_cons_succ])
            refine wpAnyH_take (i := 5) (oi := ⟨some 98, _, _, _, _, _⟩) (v := ?_) rfl (by kernel_rfl) (by kernel_rfl) (by kernel_rfl) (fun _ _ _ h => h) (Or.inl ⟨by kernel_rfl, ?_⟩) (by assumption) ?_
            rotate_left
            · (intro wS hSw; (try dsimp only at hSw); obtain ⟨q0, q1⟩ := (hX.below hSw).cells2; obtain ⟨r0, r1⟩ := (hY.below hSw).cells2; clear hSw; go_simp; (try with_reducible rfl))
            (try simp only [Act.put, List.setIfInBounds_toArray, List.set_cons_zero, List.set_cons_succ])
            refine wpAnyH_take (i := 6) (oi := ⟨some 99, _, _, _, _, _⟩) (v := ?_) rfl (by kernel_rfl) (by kernel_rfl) (by kernel_rfl) (fun _ _ _ h => h) (Or.inl ⟨by kernel_rfl, ?_⟩) (by assumption) ?_
            rotate_left
            · (intro wS hSw; (try dsimp only at hSw); obtain ⟨q0, q1⟩ := (hX.below hSw).cells2; obtain ⟨r0, r1⟩ := (hY.below hSw).cells2; clear hSw; go_simp; (try with_reducible rfl))
            (try simp only [Act.put, List.setIfInBounds_toArray, List.set_cons_zero, List.set_cons_succ])
            refine wpAnyH_take (i := 7) (oi := ⟨some 100, _, _, _, _, _⟩) (v := ?_) rfl (by kernel_rfl) (by kernel_rfl) (by kernel_rfl) (fun _ _ _ h => h) (Or.inl ⟨by kernel_rfl, ?_⟩) (by assumption) ?_
            rotate_left
            · (intro wS hSw; (try dsimp only at hSw); obtain ⟨q0, q1⟩ := (hX.below hSw).cells2; obtain ⟨r0, r1⟩ := (hY.below hSw).cells2; clear hSw; go_simp; (try with_reducible rfl))
            (try simp only [Act.put, List.setIfInBounds_toArray, List.set_cons_zero, List.set_cons_succ])
            refine wpAnyH_take (i := 8) (oi := ⟨some 101, _, _, _, _, _⟩) (v := ?_) rfl (by kernel_rfl) (by kernel_rfl) (by kernel_rfl) (fun _ _ _ h => h) (Or.inl ⟨by kernel_rfl, ?_⟩) (by assumption) ?_
            rotate_left
            · (intro wS hSw; (try dsimp only at hSw); obtain ⟨q0, q1⟩ := (hX.below hSw).cells2; obtain ⟨r0, r1⟩ := (hY.below hSw).cells2; clear hSw; go_simp; (try with_reducible rfl))
            (try simp only [Act.put, List.setIfInBounds_toArray, List.set_cons_zero, List.set_cons_succ])
            refine wpAnyH_take (i := 9) (oi := ⟨some 102, _, _, _, _, _⟩) (v := ?_) rfl (by kernel_rfl) (by kernel_rfl) (by kernel_rfl) (fun _ _ _ h => h) (Or.inl ⟨by kernel_rfl, ?_⟩) (by assumption) ?_
            rotate_left
            · (intro wS hSw; (try dsimp only at hSw); obtain ⟨q0, q1⟩ := (hX.below hSw).cells2; obtain ⟨r0, r1⟩ := (hY.below hSw).cells2; clear hSw; go_simp; (try with_reducible rfl))
            (try simp only [Act.put, List.setIfInBounds_toArray, List.set_cons_zero, List.set_cons_succ])
            refine wpAnyH_take (i := 10) (oi := ⟨some 103, _, _, _, _, _⟩) (v := ?_) rfl (by kernel_rfl) (by kernel_rfl) (by kernel_rfl) (fun _ _ _ h => h) (Or.inl ⟨by kernel_rfl, ?_⟩) (by assumption) ?_
            rotate_left
            · (intro wS hSw; (try dsimp only at hSw); obtain ⟨q0, q1⟩ := (hX.below hSw).cells2; obtain ⟨r0, r1⟩ := (hY.below hSw).cells2; clear hSw; go_simp; (try with_reducible rfl))
            (try simp only [Act.put, List.setIfInBounds_toArray, List.set_cons_zero, List.set_cons_succ])
            refine wpAnyH_take (i := 12) (oi := ⟨some 105, _, _, _, _, _⟩) (v := ?_) rfl (by kernel_rfl) (by kernel_rfl) (by kernel_rfl) (fun _ _ _ h => h) (Or.inl ⟨by kernel_rfl, ?_⟩) (by assumption) ?_
            rotate_left
            · (intro wS hSw; (try dsimp only at hSw); obtain ⟨q0, q1⟩ := (hX.below hSw).cells2; obtain ⟨r0, r1⟩ := (hY.below hSw).cells2; clear hSw; go_simp; (try with_reducible rfl))
            (try simp only [Act.put, List.setIfInBounds_toArray, List.set_cons_zero, List.set_cons_succ])
            refine wpAnyH_ready (rs := [11]) (by kernel_rfl) (by simp) ?_
            refine AllReadyH.cons (o := ⟨some 104, _, _, _, _, _⟩) rfl (fun K hK => ?_) AllReadyH.nil
            go_simp
            (refine (HN.out _).mono ?_; rintro e w11 ⟨rfl, rfl⟩)
            go_wp2_with fail
            refine hK.out _ _ ?_ (fun _ => ?_)
            · ((try dsimp only); (first | exact hst | exact hHeld | exact bel_call hHeld hb10))
            clear hK K
            (try simp only [Act.put, List.setIfInBounds_toArray, List.set_cons_zero, List.set_cons_succ])
            refine gen0 (T := fun W => ((fun W => Below w9.heap.size w9 W)) W ∧ True) ?_ (fun wq3 hT => ?_)
            · exact ⟨by (first | exact hst | exact hHeld | exact bel_call hHeld hb10), trivial⟩
            (try clear f0 f1 f2 f3 f4 f5 f6 f7 f8 f9 f10 f11)
            obtain ⟨hHeld, -⟩ := hT
            refine wpAnyH_take (i := 13) (oi := ⟨some 106, _, _, _, _, _⟩) (v := ?_) rfl (by kernel_rfl) (by kernel_rfl) (by kernel_rfl) (fun _ _ _ h => h) (Or.inl ⟨by kernel_rfl, ?_⟩) (by assumption) ?_
            rotate_left
            · (intro wS hSw; (try dsimp only at hSw); obtain ⟨q0, q1⟩ := (hX.below hSw).cells2; obtain ⟨r0, r1⟩ := (hY.below hSw).cells2; clear hSw; go_simp; (try with_reducible rfl))
            (try simp only [Act.put, List.setIfInBounds_toArray, List.set_cons_zero, List.set_cons_succ])
            refine wpAnyH_take (i := 14) (oi := ⟨some 107, _, _, _, _, _⟩) (v := ?_) rfl (by kernel_rfl) (by kernel_rfl) (by kernel_rfl) (fun _ _ _ h => h) (Or.inl ⟨by kernel_rfl, ?_⟩) (by assumption) ?_
            rotate_left
            · (intro wS hSw; (try dsimp only at hSw); obtain ⟨q0, q1⟩ := (hX.below hSw).cells2; obtain ⟨r0, r1⟩ := (hY.below hSw).cells2; clear hSw; go_simp; (try with_reducible rfl))
            (try simp only [Act.put, List.setIfInBounds_toArray, List.set_cons_zero, List.set_cons_succ])
            refine wpAnyH_done (by kernel_rfl) ?_ _
            replace hI := hI.below hHeld
            replace ho9' := Sl.below ho9' hHeld
            clear hst hX hY hs6 hnn hHeld HN
            try clear hb10
            generalize hWe : wq3 = w11 at *
            clear hWe
            obtain ⟨q0, q1⟩ := hI.a.cells2
            go_wp2_with fail
            refine (CCopy_any k1 d1 _ (ha.below hI.bel) (by omega)).mono ?_
            rintro e w12 ⟨A12, c12, m12, rfl, hm12, ho12, hb12⟩
            dsimp only at hm12 ⊢
            have hml : m12.length ≤ 100 := by rw [hm12.out]; exact hl1
            clear q0 q1
            go_upto_region 25 with (fail)
            have hbx := below_new w12 (.cells #[.int .i64 k1, .slice A12 m12.length c12] 24)
            have hZ := Blk.new w12 24 #[.int .i64 k1, .slice A12 m12.length c12]
            have hoZ := Own.below ho12 hbx
            have hlow := Own.ltB ho12
            have hbW := bel_call hb12 hbx
            have hzz : w11.heap.size ≤ w12.heap.size := hb12.size
            clear hbx hb12 ho12
            generalize hWe : w12.alloc (.cells #[.int .i64 k1, .slice A12 m12.length c12] 24) = w13 at *
            clear hWe
            generalize hge : w12.heap.size = gz at *
            clear hge
            obtain ⟨z0, z1⟩ := hZ.cells2
            go_wp2_with fail
            clear z0 z1
            go_loopw [118] (fun x wr => ∃ (k : Nat) (mm : List UInt8), k ≤ m12.length ∧ x = .int .i64 k ∧ Hid (mm.length = m12.length) ∧ Below w11.heap.size w11 wr ∧ Own wr w11.heap.size 5 1 A12 m12.length c12 (bvs mm) ∧ Blk wr gz 24 #[.int .i64 k1, .slice A12 m12.length c12]) (fun x w => m12.length - (intOf x).toNat)
            case atStart => exact ⟨0, m12, Nat.zero_le _, rfl, (show _ = _ from rfl), hbW, hoZ, hZ⟩
            case round =>
              obtain ⟨k, mm, hk, rfl, hmm, hbr, hO, hB⟩ := hrel
              clear hoZ hZ hbW
              by_cases hlt : k < m12.length
              · have hkm : k < mm.length := by rw [hmm.out]; exact hlt
                obtain ⟨g, cur, hA, hg, -⟩ := hO.row (by simp; omega)
                subst hA
                have hgz : g ≠ gz := by have := hlow g rfl; omega
                have hc := hO.cellAt (j := k) (by simpa using hkm)
                rw [show (bvs mm)[k]'(by simpa using hkm) = bv mm[k] from by simp] at hc
                have hf := hO.frz k
                generalize mm[k] = bb at *
                obtain ⟨y, hy⟩ : ∃ y : UInt8, IntKind.u8.wrap ((bb.toNat : Int) + 1) = (y.toNat : Int) := ⟨UInt8.ofNat (bb.toNat + 1), by rw [IntKind.wrap_u8]; simp⟩
                have hset := hO.setAt (j := k) (by simpa using hkm) (bv y)
                rw [show (bvs mm).set k (bv y) = bvs (mm.set k y) from by simp [bvs, List.map_set]] at hset
                have hmm2 : Hid ((mm.set k y).length = m12.length) := (show _ = _ from by rw [List.length_set]; exact hmm.out)
                obtain ⟨z0, z1⟩ := hB.cells2
                clear hO hmm
                go_wp2_with fail
                go_roundw
                case rel => exact ⟨k + 1, mm.set k y, hlt, by go_num, hmm2, bel_set hbr hg _, hset, hB.far (Ne.symm hgz) _⟩
                case measure => simp [intOf]; omega
              · clear hO hB hlow hmm
                replace hI := hI.below hbr
                replace ho9' := Sl.below ho9' hbr
                clear hbr
                go_upto_region 30 with (fail)
                have hst : Below wr.heap.size wr wr.drew := (Below.refl _ _).drew
                have hE := eq_dv k1 k1 d1 d1
                rw [show same (k1, d1) (k1, d1) = true from by unfold same; simp] at hE
                refine wp_region_held_drew (S := (fun W => Below wr.heap.size wr W)) (by kernel_rfl) ?_ (fun hHeld => ?_)
                · exact hst
                refine gen0 (T := fun W => ((fun W => Below wr.heap.size wr W)) W ∧ True) ?_ (fun wq1 hT => ?_)
                · exact ⟨by (first | exact hst | exact hHeld | exact bel_call hHeld hb15 | exact bel_call hHeld hb18 | exact bel_alloc hHeld _ | exact hHeld.trans hb16), trivial⟩
                (try clear f0 f1 f2 f3 f4 f5 f6 f7 f8 f9 f10 f11)
                obtain ⟨hHeld, -⟩ := hT
                refine wpAnyH_take (i := 0) (oi := ⟨some 129, _, _, _, _, _⟩) (v := ?_) rfl (by kernel_rfl) (by kernel_rfl) (by kernel_rfl) (fun _ _ _ h => h) (Or.inl ⟨by kernel_rfl, ?_⟩) (by assumption) ?_
                rotate_left
                · (intro wS hSw; (try dsimp only at hSw); obtain ⟨q0, q1⟩ := (hI.a.below hSw).cells2; obtain ⟨r0, r1⟩ := (hI.x.below hSw).cells2; clear hSw; go_simp; (try with_reducible rfl))
                (try simp only [Act.put, List.setIfInBounds_toArray, List.set_cons_zero, List.set_cons_succ])
                refine wpAnyH_take (i := 2) (oi := ⟨some 131, _, _, _, _, _⟩) (v := ?_) rfl (by kernel_rfl) (by kernel_rfl) (by kernel_rfl) (fun _ _ _ h => h) (Or.inl ⟨by kernel_rfl, ?_⟩) (by assumption) ?_
                rotate_left
                · (intro wS hSw; (try dsimp only at hSw); obtain ⟨q0, q1⟩ := (hI.a.below hSw).cells2; obtain ⟨r0, r1⟩ := (hI.x.below hSw).cells2; clear hSw; go_simp; (try with_reducible rfl))
                (try simp only [Act.put, List.setIfInBounds_toArray, List.set_cons_zero, List.set_cons_succ])
                refine wpAnyH_ready (rs := [1, 3]) (by kernel_rfl) (by simp) ?_
                refine AllReadyH.cons (o := ⟨some 130, _, _, _, _, _⟩) rfl (fun K hK => ?_) ?_
                · go_simp
                  refine hK.out _ _ ?_ (fun _ => ?_)
                  · ((try dsimp only); (first | exact hst | exact hHeld | exact bel_call hHeld hb15 | exact bel_call hHeld hb18 | exact bel_alloc hHeld _ | exact hHeld.trans hb16))
                  clear hK K
                  (try simp only [Act.put, List.setIfInBounds_toArray, List.set_cons_zero, List.set_cons_succ])
                  refine gen0 (T := fun W => ((fun W => Below wr.heap.size wr W)) W ∧ OwnB W wr.heap.size 5 (some ⟨wq1.heap.size, 0, none⟩) 1 [9] ∧ True) ?_ (fun wq2 hT => ?_)
                  · exact ⟨by (first | exact hst | exact hHeld | exact bel_call hHeld hb15 | exact bel_call hHeld hb18 | exact bel_alloc hHeld _ | exact hHeld.trans hb16), by (first | assumption | exact (Own.lits1 rfl 5 9).more hHeld.size | exact Sl.below f0 (below_new _ _) | exact Own.below f0 hb15 | exact ho15.sl | exact ho16.sl), trivial⟩
                  (try clear f0 f1 f2 f3 f4 f5 f6 f7 f8 f9 f10 f11)
                  obtain ⟨hHeld, f0, -⟩ := hT
                  refine wpAnyH_ready (rs := [3]) (by kernel_rfl) (by simp) ?_
                  refine AllReadyH.cons (o := ⟨some 132, _, _, _, _, _⟩) rfl (fun K hK => ?_) AllReadyH.nil
                  go_simp
                  (refine (rBytes5_any k1 d1 _ ⟨hk0, hk3⟩ (by omega)).mono ?_; rintro e w15 ⟨A15, c15, m15, rfl, hm15, ho15, hb15⟩; have hml15 : m15.length ≤ 1000 := (by rw [hm15.out]; exact cbytes_len hl1))
                  go_wp2_with fail
                  refine hK.out _ _ ?_ (fun _ => ?_)
                  · ((try dsimp only); (first | exact hst | exact hHeld | exact bel_call hHeld hb15 | exact bel_call hHeld hb18 | exact bel_alloc hHeld _ | exact hHeld.trans hb16))
                  clear hK K
                  (try simp only [Act.put, List.setIfInBounds_toArray, List.set_cons_zero, List.set_cons_succ])
                  refine gen0 (T := fun W => ((fun W => Below wr.heap.size wr W)) W ∧ OwnB W wr.heap.size 5 (some ⟨wq1.heap.size, 0, none⟩) 1 [9] ∧ SlB W A15 c15 m15 ∧ True) ?_ (fun wq3 hT => ?_)
                  · exact ⟨by (first | exact hst | exact hHeld | exact bel_call hHeld hb15 | exact bel_call hHeld hb18 | exact bel_alloc hHeld _ | exact hHeld.trans hb16), by (first | assumption | exact (Own.lits1 rfl 5 9).more hHeld.size | exact Sl.below f0 (below_new _ _) | exact Own.below f0 hb15 | exact ho15.sl | exact ho16.sl), by (first | assumption | exact (Own.lits1 rfl 5 9).more hHeld.size | exact Sl.below f0 (below_new _ _) | exact Own.below f0 hb15 | exact ho15.sl | exact ho16.sl), trivial⟩
                  (try clear f0 f1 f2 f3 f4 f5 f6 f7 f8 f9 f10 f11)
                  obtain ⟨hHeld, f0, f1, -⟩ := hT
                  refine wpAnyH_ready (rs := [4]) (by kernel_rfl) (by simp) ?_
                  refine AllReadyH.cons (o := ⟨some 133, _, _, _, _, _⟩) rfl (fun K hK => ?_) AllReadyH.nil
                  (refine step_bytes 22 5 Try.underlying22 u8_info (by kernel_rfl) (.tmp 130) (.tmp 132) rfl wr.heap.size (some ⟨_, 0, none⟩) 1 [9] rfl f0 A15 c15 m15.length m15 rfl rfl f1 (by simp; omega) hHeld.size ?_; intro A16 c16 m16 w16 hm16 ho16 hb16)
                  refine hK.out _ _ ?_ (fun _ => ?_)
                  · ((try dsimp only); (first | exact hst | exact hHeld | exact bel_call hHeld hb15 | exact bel_call hHeld hb18 | exact bel_alloc hHeld _ | exact hHeld.trans hb16))
                  clear hK K
                  (try simp only [Act.put, List.setIfInBounds_toArray, List.set_cons_zero, List.set_cons_succ])
                  refine gen0 (T := fun W => ((fun W => Below wr.heap.size wr W)) W ∧ SlB W A16 c16 m16 ∧ True) ?_ (fun wq4 hT => ?_)
                  · exact ⟨by (first | exact hst | exact hHeld | exact bel_call hHeld hb15 | exact bel_call hHeld hb18 | exact bel_alloc hHeld _ | exact hHeld.trans hb16), by (first | assumption | exact (Own.lits1 rfl 5 9).more hHeld.size | exact Sl.below f0 (below_new _ _) | exact Own.below f0 hb15 | exact ho15.sl | exact ho16.sl), trivial⟩
                  (try clear f0 f1 f2 f3 f4 f5 f6 f7 f8 f9 f10 f11)
                  obtain ⟨hHeld, f0, -⟩ := hT
                  refine wpAnyH_ready (rs := [5]) (by kernel_rfl) (by simp) ?_
                  refine AllReadyH.cons (o := ⟨some 134, _, _, _, _, _⟩) rfl (fun K hK => ?_) AllReadyH.nil
                  go_simp
                  (refine (nBytes_any A9 A16 c9 c16 m9 m16 _ (Sl.below ho9' hHeld) f0).mono ?_; rintro e w17 ⟨rfl, rfl⟩; rw [show (m9 == m16) = true from by rw [hm9.out, hm16.out, hm15.out]; simp])
                  go_wp2_with fail
                  refine hK.out _ _ ?_ (fun _ => ?_)
                  · ((try dsimp only); (first | exact hst | exact hHeld | exact bel_call hHeld hb15 | exact bel_call hHeld hb18 | exact bel_alloc hHeld _ | exact hHeld.trans hb16))
                  clear hK K
                  (try simp only [Act.put, List.setIfInBounds_toArray, List.set_cons_zero, List.set_cons_succ])
                  refine gen0 (T := fun W => ((fun W => Below wr.heap.size wr W)) W ∧ True) ?_ (fun wq5 hT => ?_)
                  · exact ⟨by (first | exact hst | exact hHeld | exact bel_call hHeld hb15 | exact bel_call hHeld hb18 | exact bel_alloc hHeld _ | exact hHeld.trans hb16), trivial⟩
                  (try clear f0 f1 f2 f3 f4 f5 f6 f7 f8 f9 f10 f11)
                  obtain ⟨hHeld, -⟩ := hT
                  refine wpAnyH_take (i := 6) (oi := ⟨some 135, _, _, _, _, _⟩) (v := ?_) rfl (by kernel_rfl) (by kernel_rfl) (by kernel_rfl) (fun _ _ _ h => h) (Or.inl ⟨by kernel_rfl, ?_⟩) (by assumption) ?_
                  rotate_left
                  · (intro wS hSw; (try dsimp only at hSw); obtain ⟨q0, q1⟩ := (hI.a.below hSw).cells2; obtain ⟨r0, r1⟩ := (hI.x.below hSw).cells2; clear hSw; go_simp; (try with_reducible rfl))
                  (try simp only [Act.put, List.setIfInBounds_toArray, List.set_cons_zero, List.set_cons_succ])
                  refine wpAnyH_take (i := 7) (oi := ⟨some 136, _, _, _, _, _⟩) (v := ?_) rfl (by kernel_rfl) (by kernel_rfl) (by kernel_rfl) (fun _ _ _ h => h) (Or.inl ⟨by kernel_rfl, ?_⟩) (by assumption) ?_
                  rotate_left
                  · (intro wS hSw; (try dsimp only at hSw); obtain ⟨q0, q1⟩ := (hI.a.below hSw).cells2; obtain ⟨r0, r1⟩ := (hI.x.below hSw).cells2; clear hSw; go_simp; (try with_reducible rfl))
                  (try simp only [Act.put, List.setIfInBounds_toArray, List.set_cons_zero, List.set_cons_succ])
                  refine wpAnyH_take (i := 9) (oi := ⟨some 138, _, _, _, _, _⟩) (v := ?_) rfl (by kernel_rfl) (by kernel_rfl) (by kernel_rfl) (fun _ _ _ h => h) (Or.inl ⟨by kernel_rfl, ?_⟩) (by assumption) ?_
                  rotate_left
                  · (intro wS hSw; (try dsimp only at hSw); obtain ⟨q0, q1⟩ := (hI.a.below hSw).cells2; obtain ⟨r0, r1⟩ := (hI.x.below hSw).cells2; clear hSw; go_simp; (try with_reducible rfl))
                  (try simp only [Act.put, List.setIfInBounds_toArray, List.set_cons_zero, List.set_cons_succ])
                  refine wpAnyH_ready (rs := [8]) (by kernel_rfl) (by simp) ?_
                  refine AllReadyH.cons (o := ⟨some 137, _, _, _, _, _⟩) rfl (fun K hK => ?_) AllReadyH.nil
                  go_simp
                  (refine (Document_any k1 d1 _ (ha.below (bel_call hI.bel hHeld))).mono ?_; rintro e w18 ⟨rfl, hb18⟩)
                  go_wp2_with fail
                  refine hK.out _ _ ?_ (fun _ => ?_)
                  · ((try dsimp only); (first | exact hst | exact hHeld | exact bel_call hHeld hb15 | exact bel_call hHeld hb18 | exact bel_alloc hHeld _ | exact hHeld.trans hb16))
                  clear hK K
                  (try simp only [Act.put, List.setIfInBounds_toArray, List.set_cons_zero, List.set_cons_succ])
                  refine gen0 (T := fun W => ((fun W => Below wr.heap.size wr W)) W ∧ True) ?_ (fun wq6 hT => ?_)
                  · exact ⟨by (first | exact hst | exact hHeld | exact bel_call hHeld hb15 | exact bel_call hHeld hb18 | exact bel_alloc hHeld _ | exact hHeld.trans hb16), trivial⟩
                  (try clear f0 f1 f2 f3 f4 f5 f6 f7 f8 f9 f10 f11)
                  obtain ⟨hHeld, -⟩ := hT
                  refine wpAnyH_take (i := 10) (oi := ⟨some 139, _, _, _, _, _⟩) (v := ?_) rfl (by kernel_rfl) (by kernel_rfl) (by kernel_rfl) (fun _ _ _ h => h) (Or.inl ⟨by kernel_rfl, ?_⟩) (by assumption) ?_
                  rotate_left
                  · (intro wS hSw; (try dsimp only at hSw); obtain ⟨q0, q1⟩ := (hI.a.below hSw).cells2; obtain ⟨r0, r1⟩ := (hI.x.below hSw).cells2; clear hSw; go_simp; (try with_reducible rfl))
                  (try simp only [Act.put, List.setIfInBounds_toArray, List.set_cons_zero, List.set_cons_succ])
                  refine wpAnyH_take (i := 11) (oi := ⟨some 140, _, _, _, _, _⟩) (v := ?_) rfl (by kernel_rfl) (by kernel_rfl) (by kernel_rfl) (fun _ _ _ h => h) (Or.inl ⟨by kernel_rfl, ?_⟩) (by assumption) ?_
                  rotate_left
                  · (intro wS hSw; (try dsimp only at hSw); obtain ⟨q0, q1⟩ := (hI.a.below hSw).cells2; obtain ⟨r0, r1⟩ := (hI.x.below hSw).cells2; clear hSw; go_simp; (try with_reducible rfl))
                  (try simp only [Act.put, List.setIfInBounds_toArray, List.set_cons_zero, List.set_cons_succ])
                  refine wpAnyH_take (i := 12) (oi := ⟨some 6, _, _, _, _, _⟩) (v := ?_) rfl (by kernel_rfl) (by kernel_rfl) (by kernel_rfl) (fun _ _ _ h => h) (Or.inl ⟨by kernel_rfl, ?_⟩) (by assumption) ?_
                  rotate_left
                  · (intro wS hSw; (try dsimp only at hSw); obtain ⟨q0, q1⟩ := (hI.a.below hSw).cells2; obtain ⟨r0, r1⟩ := (hI.x.below hSw).cells2; clear hSw; go_simp; (try with_reducible rfl))
                  (try simp only [Act.put, List.setIfInBounds_toArray, List.set_cons_zero, List.set_cons_succ])
                  refine wpAnyH_done (by kernel_rfl) ?_ _
                  (go_wp2_with fail; go_ret; exact ⟨rfl, bel_call hI.bel hHeld⟩)
                refine AllReadyH.cons (o := ⟨some 132, _, _, _, _, _⟩) rfl (fun K hK => ?_) ?_
                · go_simp
                  (refine (rBytes5_any k1 d1 _ ⟨hk0, hk3⟩ (by omega)).mono ?_; rintro e w15 ⟨A15, c15, m15, rfl, hm15, ho15, hb15⟩; have hml15 : m15.length ≤ 1000 := (by rw [hm15.out]; exact cbytes_len hl1))
                  go_wp2_with fail
                  refine hK.out _ _ ?_ (fun _ => ?_)
                  · ((try dsimp only); (first | exact hst | exact hHeld | exact bel_call hHeld hb15 | exact bel_call hHeld hb18 | exact bel_alloc hHeld _ | exact hHeld.trans hb16))
                  clear hK K
                  (try simp only [Act.put, List.setIfInBounds_toArray, List.set_cons_zero, List.set_cons_succ])
                  refine gen0 (T := fun W => ((fun W => Below wr.heap.size wr W)) W ∧ SlB W A15 c15 m15 ∧ True) ?_ (fun wq7 hT => ?_)
                  · exact ⟨by (first | exact hst | exact hHeld | exact bel_call hHeld hb15 | exact bel_call hHeld hb18 | exact bel_alloc hHeld _ | exact hHeld.trans hb16), by (first | assumption | exact (Own.lits1 rfl 5 9).more hHeld.size | exact Sl.below f0 (below_new _ _) | exact Own.below f0 hb15 | exact ho15.sl | exact ho16.sl), trivial⟩
                  (try clear f0 f1 f2 f3 f4 f5 f6 f7 f8 f9 f10 f11)
                  obtain ⟨hHeld, f0, -⟩ := hT
                  refine wpAnyH_ready (rs := [1]) (by kernel_rfl) (by simp) ?_
                  refine AllReadyH.cons (o := ⟨some 130, _, _, _, _, _⟩) rfl (fun K hK => ?_) AllReadyH.nil
                  go_simp
                  refine hK.out _ _ ?_ (fun _ => ?_)
                  · ((try dsimp only); (first | exact hst | exact hHeld | exact bel_call hHeld hb15 | exact bel_call hHeld hb18 | exact bel_alloc hHeld _ | exact hHeld.trans hb16))
                  clear hK K
                  (try simp only [Act.put, List.setIfInBounds_toArray, List.set_cons_zero, List.set_cons_succ])
                  refine gen0 (T := fun W => ((fun W => Below wr.heap.size wr W)) W ∧ OwnB W wr.heap.size 5 (some ⟨wq7.heap.size, 0, none⟩) 1 [9] ∧ SlB W A15 c15 m15 ∧ True) ?_ (fun wq8 hT => ?_)
                  · exact ⟨by (first | exact hst | exact hHeld | exact bel_call hHeld hb15 | exact bel_call hHeld hb18 | exact bel_alloc hHeld _ | exact hHeld.trans hb16), by (first | assumption | exact (Own.lits1 rfl 5 9).more hHeld.size | exact Sl.below f0 (below_new _ _) | exact Own.below f0 hb15 | exact ho15.sl | exact ho16.sl), by (first | assumption | exact (Own.lits1 rfl 5 9).more hHeld.size | exact Sl.below f0 (below_new _ _) | exact Own.below f0 hb15 | exact ho15.sl | exact ho16.sl), trivial⟩
                  (try clear f0 f1 f2 f3 f4 f5 f6 f7 f8 f9 f10 f11)
                  obtain ⟨hHeld, f0, f1, -⟩ := hT
                  refine wpAnyH_ready (rs := [4]) (by kernel_rfl) (by simp) ?_
                  refine AllReadyH.cons (o := ⟨some 133, _, _, _, _, _⟩) rfl (fun K hK => ?_) AllReadyH.nil
                  (refine step_bytes 22 5 Try.underlying22 u8_info (by kernel_rfl) (.tmp 130) (.tmp 132) rfl wr.heap.size (some ⟨_, 0, none⟩) 1 [9] rfl f0 A15 c15 m15.length m15 rfl rfl f1 (by simp; omega) hHeld.size ?_; intro A16 c16 m16 w16 hm16 ho16 hb16)
                  refine hK.out _ _ ?_ (fun _ => ?_)
                  · ((try dsimp only); (first | exact hst | exact hHeld | exact bel_call hHeld hb15 | exact bel_call hHeld hb18 | exact bel_alloc hHeld _ | exact hHeld.trans hb16))
                  clear hK K
                  (try simp only [Act.put, List.setIfInBounds_toArray, List.set_cons_zero, List.set_cons_succ])
                  refine gen0 (T := fun W => ((fun W => Below wr.heap.size wr W)) W ∧ SlB W A16 c16 m16 ∧ True) ?_ (fun wq9 hT => ?_)
                  · exact ⟨by (first | exact hst | exact hHeld | exact bel_call hHeld hb15 | exact bel_call hHeld hb18 | exact bel_alloc hHeld _ | exact hHeld.trans hb16), by (first | assumption | exact (Own.lits1 rfl 5 9).more hHeld.size | exact Sl.below f0 (below_new _ _) | exact Own.below f0 hb15 | exact ho15.sl | exact ho16.sl), trivial⟩
                  (try clear f0 f1 f2 f3 f4 f5 f6 f7 f8 f9 f10 f11)
                  obtain ⟨hHeld, f0, -⟩ := hT
                  refine wpAnyH_ready (rs := [5]) (by kernel_rfl) (by simp) ?_
                  refine AllReadyH.cons (o := ⟨some 134, _, _, _, _, _⟩) rfl (fun K hK => ?_) AllReadyH.nil
                  go_simp
                  (refine (nBytes_any A9 A16 c9 c16 m9 m16 _ (Sl.below ho9' hHeld) f0).mono ?_; rintro e w17 ⟨rfl, rfl⟩; rw [show (m9 == m16) = true from by rw [hm9.out, hm16.out, hm15.out]; simp])
                  go_wp2_with fail
                  refine hK.out _ _ ?_ (fun _ => ?_)
                  · ((try dsimp only); (first | exact hst | exact hHeld | exact bel_call hHeld hb15 | exact bel_call hHeld hb18 | exact bel_alloc hHeld _ | exact hHeld.trans hb16))
                  clear hK K
                  (try simp only [Act.put, List.setIfInBounds_toArray, List.set_cons_zero, List.set_cons_succ])
                  refine gen0 (T := fun W => ((fun W => Below wr.heap.size wr W)) W ∧ True) ?_ (fun wq10 hT => ?_)
                  · exact ⟨by (first | exact hst | exact hHeld | exact bel_call hHeld hb15 | exact bel_call hHeld hb18 | exact bel_alloc hHeld _ | exact hHeld.trans hb16), trivial⟩
                  (try clear f0 f1 f2 f3 f4 f5 f6 f7 f8 f9 f10 f11)
                  obtain ⟨hHeld, -⟩ := hT
                  refine wpAnyH_take (i := 6) (oi := ⟨some 135, _, _, _, _, _⟩) (v := ?_) rfl (by kernel_rfl) (by kernel_rfl) (by kernel_rfl) (fun _ _ _ h => h) (Or.inl ⟨by kernel_rfl, ?_⟩) (by assumption) ?_
                  rotate_left
                  · (intro wS hSw; (try dsimp only at hSw); obtain ⟨q0, q1⟩ := (hI.a.below hSw).cells2; obtain ⟨r0, r1⟩ := (hI.x.below hSw).cells2; clear hSw; go_simp; (try with_reducible rfl))
                  (try simp only [Act.put, List.setIfInBounds_toArray, List.set_cons_zero, List.set_cons_succ])
                  refine wpAnyH_take (i := 7) (oi := ⟨some 136, _, _, _, _, _⟩) (v := ?_) rfl (by kernel_rfl) (by kernel_rfl) (by kernel_rfl) (fun _ _ _ h => h) (Or.inl ⟨by kernel_rfl, ?_⟩) (by assumption) ?_
                  rotate_left
                  · (intro wS hSw; (try dsimp only at hSw); obtain ⟨q0, q1⟩ := (hI.a.below hSw).cells2; obtain ⟨r0, r1⟩ := (hI.x.below hSw).cells2; clear hSw; go_simp; (try with_reducible rfl))
                  (try simp only [Act.put, List.setIfInBounds_toArray, List.set_cons_zero, List.set_cons_succ])
                  refine wpAnyH_take (i := 9) (oi := ⟨some 138, _, _, _, _, _⟩) (v := ?_) rfl (by kernel_rfl) (by kernel_rfl) (by kernel_rfl) (fun _ _ _ h => h) (Or.inl ⟨by kernel_rfl, ?_⟩) (by assumption) ?_
                  rotate_left
                  · (intro wS hSw; (try dsimp only at hSw); obtain ⟨q0, q1⟩ := (hI.a.below hSw).cells2; obtain ⟨r0, r1⟩ := (hI.x.below hSw).cells2; clear hSw; go_simp; (try with_reducible rfl))
                  (try simp only [Act.put, List.setIfInBounds_toArray, List.set_cons_zero, List.set_cons_succ])
                  refine wpAnyH_ready (rs := [8]) (by kernel_rfl) (by simp) ?_
                  refine AllReadyH.cons (o := ⟨some 137, _, _, _, _, _⟩) rfl (fun K hK => ?_) AllReadyH.nil
                  go_simp
                  (refine (Document_any k1 d1 _ (ha.below (bel_call hI.bel hHeld))).mono ?_; rintro e w18 ⟨rfl, hb18⟩)
                  go_wp2_with fail
                  refine hK.out _ _ ?_ (fun _ => ?_)
                  · ((try dsimp only); (first | exact hst | exact hHeld | exact bel_call hHeld hb15 | exact bel_call hHeld hb18 | exact bel_alloc hHeld _ | exact hHeld.trans hb16))
                  clear hK K
                  (try simp only [Act.put, List.setIfInBounds_toArray, List.set_cons_zero, List.set_cons_succ])
                  refine gen0 (T := fun W => ((fun W => Below wr.heap.size wr W)) W ∧ True) ?_ (fun wq11 hT => ?_)
                  · exact ⟨by (first | exact hst | exact hHeld | exact bel_call hHeld hb15 | exact bel_call hHeld hb18 | exact bel_alloc hHeld _ | exact hHeld.trans hb16), trivial⟩
                  (try clear f0 f1 f2 f3 f4 f5 f6 f7 f8 f9 f10 f11)
                  obtain ⟨hHeld, -⟩ := hT
                  refine wpAnyH_take (i := 10) (oi := ⟨some 139, _, _, _, _, _⟩) (v := ?_) rfl (by kernel_rfl) (by kernel_rfl) (by kernel_rfl) (fun _ _ _ h => h) (Or.inl ⟨by kernel_rfl, ?_⟩) (by assumption) ?_
                  rotate_left
                  · (intro wS hSw; (try dsimp only at hSw); obtain ⟨q0, q1⟩ := (hI.a.below hSw).cells2; obtain ⟨r0, r1⟩ := (hI.x.below hSw).cells2; clear hSw; go_simp; (try with_reducible rfl))
                  (try simp only [Act.put, List.setIfInBounds_toArray, List.set_cons_zero, List.set_cons_succ])
                  refine wpAnyH_take (i := 11) (oi := ⟨some 140, _, _, _, _, _⟩) (v := ?_) rfl (by kernel_rfl) (by kernel_rfl) (by kernel_rfl) (fun _ _ _ h => h) (Or.inl ⟨by kernel_rfl, ?_⟩) (by assumption) ?_
                  rotate_left
                  · (intro wS hSw; (try dsimp only at hSw); obtain ⟨q0, q1⟩ := (hI.a.below hSw).cells2; obtain ⟨r0, r1⟩ := (hI.x.below hSw).cells2; clear hSw; go_simp; (try with_reducible rfl))
                  (try simp only [Act.put, List.setIfInBounds_toArray, List.set_cons_zero, List.set_cons_succ])
                  refine wpAnyH_take (i := 12) (oi := ⟨some 6, _, _, _, _, _⟩) (v := ?_) rfl (by kernel_rfl) (by kernel_rfl) (by kernel_rfl) (fun _ _ _ h => h) (Or.inl ⟨by kernel_rfl, ?_⟩) (by assumption) ?_
                  rotate_left
                  · (intro wS hSw; (try dsimp only at hSw); obtain ⟨q0, q1⟩ := (hI.a.below hSw).cells2; obtain ⟨r0, r1⟩ := (hI.x.below hSw).cells2; clear hSw; go_simp; (try with_reducible rfl))
                  (try simp only [Act.put, List.setIfInBounds_toArray, List.set_cons_zero, List.set_cons_succ])
                  refine wpAnyH_done (by kernel_rfl) ?_ _
                  (go_wp2_with fail; go_ret; exact ⟨rfl, bel_call hI.bel hHeld⟩)
                exact AllReadyH.nil
          · have hbz : ((bad : Int) != 0) = true := by rw [← HBAD.out]; simpa using hck
            have HN := Lib.hid hnum
            rw [HBAD.out]
            clear hnum hck hb9 HBAD
            go_upto_region 20 with (fail)
            refine wp_region_held_drew (S := (fun W => Below w9.heap.size w9 W)) (by kernel_rfl) ?_ (fun hHeld => ?_)
            · exact hst
            refine gen0 (T := fun W => ((fun W => Below w9.heap.size w9 W)) W ∧ True) ?_ (fun wq1 hT => ?_)
            · exact ⟨by (first | exact hst | exact hHeld | exact bel_call hHeld hb10), trivial⟩
            (try clear f0 f1 f2 f3 f4 f5 f6 f7 f8 f9 f10 f11)
            obtain ⟨hHeld, -⟩ := hT
            refine wpAnyH_take (i := 0) (oi := ⟨some 93, _, _, _, _, _⟩) (v := ?_) rfl (by kernel_rfl) (by kernel_rfl) (by kernel_rfl) (fun _ _ _ h => h) (Or.inl ⟨by kernel_rfl, ?_⟩) (by assumption) ?_
            rotate_left
            · (intro wS hSw; (try dsimp only at hSw); obtain ⟨q0, q1⟩ := (hX.below hSw).cells2; obtain ⟨r0, r1⟩ := (hY.below hSw).cells2; clear hSw; go_simp; (try with_reducible rfl))
            (try simp only [Act.put, List.setIfInBounds_toArray, List.set_cons_zero, List.set_cons_succ])
            refine wpAnyH_take (i := 2) (oi := ⟨some 95, _, _, _, _, _⟩) (v := ?_) rfl (by kernel_rfl) (by kernel_rfl) (by kernel_rfl) (fun _ _ _ h => h) (Or.inl ⟨by kernel_rfl, ?_⟩) (by assumption) ?_
            rotate_left
            · (intro wS hSw; (try dsimp only at hSw); obtain ⟨q0, q1⟩ := (hX.below hSw).cells2; obtain ⟨r0, r1⟩ := (hY.below hSw).cells2; clear hSw; go_simp; (try with_reducible rfl))
            (try simp only [Act.put, List.setIfInBounds_toArray, List.set_cons_zero, List.set_cons_succ])
            refine wpAnyH_ready (rs := [1]) (by kernel_rfl) (by simp) ?_
            refine AllReadyH.cons (o := ⟨some 94, _, _, _, _, _⟩) rfl (fun K hK => ?_) AllReadyH.nil
            go_simp
            (refine (Document_any lk m6 _ (Sl.below hs6 hHeld)).mono ?_; rintro e w10 ⟨rfl, hb10⟩)
            go_wp2_with fail
            refine hK.out _ _ ?_ (fun _ => ?_)
            · ((try dsimp only); (first | exact hst | exact hHeld | exact bel_call hHeld hb10))
            clear hK K
            (try simp only [Act.put, List.setIfInBounds_toArray, List.set_cons_zero, List.set_cons_succ])
            refine gen0 (T := fun W => ((fun W => Below w9.heap.size w9 W)) W ∧ True) ?_ (fun wq2 hT => ?_)
            · exact ⟨by (first | exact hst | exact hHeld | exact bel_call hHeld hb10), trivial⟩
            (try clear f0 f1 f2 f3 f4 f5 f6 f7 f8 f9 f10 f11)
            obtain ⟨hHeld, -⟩ := hT
            refine wpAnyH_take (i := 3) (oi := ⟨some 96, _, _, _, _, _⟩) (v := ?_) rfl (by kernel_rfl) (by kernel_rfl) (by kernel_rfl) (fun _ _ _ h => h) (Or.inl ⟨by kernel_rfl, ?_⟩) (by assumption) ?_
            rotate_left
            · (intro wS hSw; (try dsimp only at hSw); obtain ⟨q0, q1⟩ := (hX.below hSw).cells2; obtain ⟨r0, r1⟩ := (hY.below hSw).cells2; clear hSw; go_simp; (try with_reducible rfl))
            (try simp only [Act.put, List.setIfInBounds_toArray, List.set_cons_zero, List.set_cons_succ])
            refine wpAnyH_take (i := 4) (oi := ⟨some 97, _, _, _, _, _⟩) (v := ?_) rfl (by kernel_rfl) (by kernel_rfl) (by kernel_rfl) (fun _ _ _ h => h) (Or.inl ⟨by kernel_rfl, ?_⟩) (by assumption) ?_
            rotate_left
            · (intro wS hSw; (try dsimp only at hSw); obtain ⟨q0, q1⟩ := (hX.below hSw).cells2; obtain ⟨r0, r1⟩ := (hY.below hSw).cells2; clear hSw; go_simp; (try with_reducible rfl))
            (try simp only [Act.put, List.setIfInBounds_toArray, List.set_cons_zero, List.set_cons_succ])
            refine wpAnyH_take (i := 5) (oi := ⟨some 98, _, _, _, _, _⟩) (v := ?_) rfl (by kernel_rfl) (by kernel_rfl) (by kernel_rfl) (fun _ _ _ h => h) (Or.inl ⟨by kernel_rfl, ?_⟩) (by assumption) ?_
            rotate_left
            · (intro wS hSw; (try dsimp only at hSw); obtain ⟨q0, q1⟩ := (hX.below hSw).cells2; obtain ⟨r0, r1⟩ := (hY.below hSw).cells2; clear hSw; go_simp; (try with_reducible rfl))
            (try simp only [Act.put, List.setIfInBounds_toArray, List.set_cons_zero, List.set_cons_succ])
            refine wpAnyH_take (i := 6) (oi := ⟨some 99, _, _, _, _, _⟩) (v := ?_) rfl (by kernel_rfl) (by kernel_rfl) (by kernel_rfl) (fun _ _ _ h => h) (Or.inl ⟨by kernel_rfl, ?_⟩) (by assumption) ?_
            rotate_left
            · (intro wS hSw; (try dsimp only at hSw); obtain ⟨q0, q1⟩ := (hX.below hSw).cells2; obtain ⟨r0, r1⟩ := (hY.below hSw).cells2; clear hSw; go_simp; (try with_reducible rfl))
            (try simp only [Act.put, List.setIfInBounds_toArray, List.set_cons_zero, List.set_cons_succ])
            refine wpAnyH_take (i := 7) (oi := ⟨some 100, _, _, _, _, _⟩) (v := ?_) rfl (by kernel_rfl) (by kernel_rfl) (by kernel_rfl) (fun _ _ _ h => h) (Or.inl ⟨by kernel_rfl, ?_⟩) (by assumption) ?_
            rotate_left
            · (intro wS hSw; (try dsimp only at hSw); obtain ⟨q0, q1⟩ := (hX.below hSw).cells2; obtain ⟨r0, r1⟩ := (hY.below hSw).cells2; clear hSw; go_simp; (try with_reducible rfl))
            (try simp only [Act.put, List.setIfInBounds_toArray, List.set_cons_zero, List.set_cons_succ])
            refine wpAnyH_take (i := 8) (oi := ⟨some 101, _, _, _, _, _⟩) (v := ?_) rfl (by kernel_rfl) (by kernel_rfl) (by kernel_rfl) (fun _ _ _ h => h) (Or.inl ⟨by kernel_rfl, ?_⟩) (by assumption) ?_
            rotate_left
            · (intro wS hSw; (try dsimp only at hSw); obtain ⟨q0, q1⟩ := (hX.below hSw).cells2; obtain ⟨r0, r1⟩ := (hY.below hSw).cells2; clear hSw; go_simp; (try with_reducible rfl))
            (try simp only [Act.put, List.setIfInBounds_toArray, List.set_cons_zero, List.set_cons_succ])
            refine wpAnyH_take (i := 9) (oi := ⟨some 102, _, _, _, _, _⟩) (v := ?_) rfl (by kernel_rfl) (by kernel_rfl) (by kernel_rfl) (fun _ _ _ h => h) (Or.inl ⟨by kernel_rfl, ?_⟩) (by assumption) ?_
            rotate_left
            · (intro wS hSw; (try dsimp only at hSw); obtain ⟨q0, q1⟩ := (hX.below hSw).cells2; obtain ⟨r0, r1⟩ := (hY.below hSw).cells2; clear hSw; go_simp; (try with_reducible rfl))
            (try simp only [Act.put, List.setIfInBounds_toArray, List.set_cons_zero, List.set_cons_succ])
            refine wpAnyH_take (i := 10) (oi := ⟨some 103, _, _, _, _, _⟩) (v := ?_) rfl (by kernel_rfl) (by kernel_rfl) (by kernel_rfl) (fun _ _ _ h => h) (Or.inl ⟨by kernel_rfl, ?_⟩) (by assumption) ?_
            rotate_left
            · (intro wS hSw; (try dsimp only at hSw); obtain ⟨q0, q1⟩ := (hX.below hSw).cells2; obtain ⟨r0, r1⟩ := (hY.below hSw).cells2; clear hSw; go_simp; (try with_reducible rfl))
            (try simp only [Act.put, List.setIfInBounds_toArray, List.set_cons_zero, List.set_cons_succ])
            refine wpAnyH_take (i := 12) (oi := ⟨some 105, _, _, _, _, _⟩) (v := ?_) rfl (by kernel_rfl) (by kernel_rfl) (by kernel_rfl) (fun _ _ _ h => h) (Or.inl ⟨by kernel_rfl, ?_⟩) (by assumption) ?_
            rotate_left
            · (intro wS hSw; (try dsimp only at hSw); obtain ⟨q0, q1⟩ := (hX.below hSw).cells2; obtain ⟨r0, r1⟩ := (hY.below hSw).cells2; clear hSw; go_simp; (try with_reducible rfl))
            (try simp only [Act.put, List.setIfInBounds_toArray, List.set_cons_zero, List.set_cons_succ])
            refine wpAnyH_ready (rs := [11]) (by kernel_rfl) (by simp) ?_
            refine AllReadyH.cons (o := ⟨some 104, _, _, _, _, _⟩) rfl (fun K hK => ?_) AllReadyH.nil
            go_simp
            (refine (HN.out _).mono ?_; rintro e w11 ⟨rfl, rfl⟩)
            go_wp2_with fail
            refine hK.out _ _ ?_ (fun _ => ?_)
            · ((try dsimp only); (first | exact hst | exact hHeld | exact bel_call hHeld hb10))
            clear hK K
            (try simp only [Act.put, List.setIfInBounds_toArray, List.set_cons_zero, List.set_cons_succ])
            refine gen0 (T := fun W => ((fun W => Below w9.heap.size w9 W)) W ∧ True) ?_ (fun wq3 hT => ?_)
            · exact ⟨by (first | exact hst | exact hHeld | exact bel_call hHeld hb10), trivial⟩
            (try clear f0 f1 f2 f3 f4 f5 f6 f7 f8 f9 f10 f11)
            obtain ⟨hHeld, -⟩ := hT
            refine wpAnyH_take (i := 13) (oi := ⟨some 106, _, _, _, _, _⟩) (v := ?_) rfl (by kernel_rfl) (by kernel_rfl) (by kernel_rfl) (fun _ _ _ h => h) (Or.inl ⟨by kernel_rfl, ?_⟩) (by assumption) ?_
            rotate_left
            · (intro wS hSw; (try dsimp only at hSw); obtain ⟨q0, q1⟩ := (hX.below hSw).cells2; obtain ⟨r0, r1⟩ := (hY.below hSw).cells2; clear hSw; go_simp; (try with_reducible rfl))
            (try simp only [Act.put, List.setIfInBounds_toArray, List.set_cons_zero, List.set_cons_succ])
            refine wpAnyH_take (i := 14) (oi := ⟨some 107, _, _, _, _, _⟩) (v := ?_) rfl (by kernel_rfl) (by kernel_rfl) (by kernel_rfl) (fun _ _ _ h => h) (Or.inl ⟨by kernel_rfl, ?_⟩) (by assumption) ?_
            rotate_left
            · (intro wS hSw; (try dsimp only at hSw); obtain ⟨q0, q1⟩ := (hX.below hSw).cells2; obtain ⟨r0, r1⟩ := (hY.below hSw).cells2; clear hSw; go_simp; (try with_reducible rfl))
            (try simp only [Act.put, List.setIfInBounds_toArray, List.set_cons_zero, List.set_cons_succ])
            refine wpAnyH_done (by kernel_rfl) ?_ _
            replace hI := hI.below hHeld
            go_wp2_with fail
            go_ret
            exact ⟨rfl, hI.bel⟩
theorem checks_all {A1 A2 : Option Addr} {c1 c2 : Nat} {k1 k2 kind : Int} {d1 d2 : List UInt8} (w : World) (ha : SlB w A1 c1 d1) (hb : SlB w A2 c2 d2) :
    Calls Try.prog 3 #[cv k1 A1 d1.length c1, cv k2 A2 d2.length c2, .int .i64 kind] w fun e w' => e = .returned (.bool true) ∧ Below w.heap.size w w' := by
  cases hl : longb [(k1, d1), (k2, d2)] 2
  · have h := longb_len hl
    exact checks_walk k1 k2 kind d1 d2 w ha hb hl (h _ (.head _)) (h _ (.tail _ (.head _)))
  · exact checks_early k1 k2 kind d1 d2 w ha hb hl
end Go.Proofs.Ytgipfenjachpnaa
