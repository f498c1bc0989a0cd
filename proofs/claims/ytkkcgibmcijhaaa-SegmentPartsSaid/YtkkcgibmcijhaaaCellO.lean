/- WHAT IT HOLDS: the law CellOrder, walked. -/
import Derived.Test.YtkkcgibmcijhaaaCellX
import Derived.Deep.DeepCutAuto
import Derived.Lib.SlBytesConst
namespace Go.Proofs.Ytkkcgibmcijhaaa
open Go.ChangeShapes Go.WideShapes Go.ChangeAt Go.RowKit
attribute [local go_sem ↓] Go.wp_at_zero Go.wp_at_succ

theorem hole_ok : cchk (2, []) = 0 := by decide
theorem ab_ok : cchk (1, [97, 98]) = 0 := by decide
theorem hole_bytes : [] ++ cbytes (2, []) = [2] := by decide
theorem ab_bytes : [] ++ cbytes (1, [97, 98]) = [1, 2, 97, 98] := by
  simp [cbytes, vb_small]

set_option maxRecDepth 100000 in
set_option maxHeartbeats 1000000 in
theorem alive05_any (w : World) : Calls Try.prog 20 #[] w fun e w' => e = .returned (.bool true) ∧ Below w.heap.size w w' := by
  go_enter Try.func20, Try.ntmps20
  go_wp2_with fail
  refine (CPut_any (A := none) (c := 0) (E := none) (f := 0) (l := []) 2 [] _ (SlB.nil _ _ _ (by simp [maxLen]) (fun _ => rfl)) (SlB.nil _ _ _ (by simp [maxLen]) (fun _ => rfl)) (by simp)).mono ?_
  rintro e w1 ⟨hb1, ⟨A1, c1, m1, _, rfl, hm1, ho1⟩ | ⟨h, _⟩⟩
  rotate_left
  · exact absurd hole_ok h
  obtain rfl : m1 = [2] := hm1.out.trans hole_bytes
  have hcv := Go.Lib.run_convert_bytes_const (P := Try.prog) w1 40 5 #[.int .u8 97, .int .u8 98] 2 2 Try.underlying40 Try.underlying5
  go_wp2_with fail
  refine (CPut_any (A := some ⟨w1.heap.size, 0, none⟩) (c := 2) (E := none) (f := 0) (l := []) 1 [97, 98] _ (SlB.nil _ _ _ (by simp [maxLen]) (fun _ => rfl)) (Sl.litsM w1 [bv 97, bv 98] 5 (2, 3) (by simp [maxLen])) (by simp)).mono ?_
  rintro e w2 ⟨hb2, ⟨A2, c2, m2, _, rfl, hm2, ho2⟩ | ⟨h, _⟩⟩
  rotate_left
  · exact absurd ab_ok h
  obtain rfl : m2 = [1, 2, 97, 98] := hm2.out.trans ab_bytes
  have hs1 := (ho1.sl.below (below_new w1 (.cells #[bv 97, bv 98] 5 (2, 3)))).below hb2
  have hc1 := conv_str (P := Try.prog) 40 9 5 Try.underlying40 Try.underlying5 Try.underlying9 (n := 1) hs1 rfl
  have hc2 := conv_str (P := Try.prog) 40 9 5 Try.underlying40 Try.underlying5 Try.underlying9 (n := 4) ho2.sl rfl
  go_wp2_with fail
  go_ret
  exact ⟨rfl, bel_call (bel_alloc hb1 _) hb2⟩

theorem Sl.litsS (w : World) (size n : Nat) (cs : List Value) (t : TypeId) (hl : cs.length = n * size) (h : n ≤ maxLen) : Sl (w.alloc (.cells cs.toArray t)) size (some ⟨w.heap.size, 0, none⟩) n n cs :=
  ⟨hl, by omega, h, (fun h => by cases h), fun j u hj => ⟨_, rfl, by
    rw [addr_lit, cell_of_row _ _ _ _ t (0, 0) (heap_alloc_new w _)]
    simpa using hj⟩⟩
theorem six {w : World} {g1 g2 g3 : Nat} {t : TypeId} {a b c d e f : Value} (h1 : Blk w g1 t #[a, b]) (h2 : Blk w g2 t #[c, d]) (h3 : Blk w g3 t #[e, f]) :
    w.cell? ⟨g1, 0, none⟩ = some a ∧ w.cell? ⟨g1, 1, none⟩ = some b ∧ w.cell? ⟨g2, 0, none⟩ = some c ∧ w.cell? ⟨g2, 1, none⟩ = some d ∧ w.cell? ⟨g3, 0, none⟩ = some e ∧ w.cell? ⟨g3, 1, none⟩ = some f :=
  ⟨h1.cell 0, h1.cell 1, h2.cell 0, h2.cell 1, h3.cell 0, h3.cell 1⟩

theorem longb_len {l : List Ce} {n : Int} (h : longb l n = false) : ∀ c ∈ l, c.2.length ≤ 100 := by
  unfold longb at h
  rw [Bool.or_eq_false_iff] at h
  intro c hc
  have := List.any_eq_false.1 h.1 c hc
  simpa using this
end Go.Proofs.Ytkkcgibmcijhaaa
