/- WHAT IT HOLDS: segments, plainly (no program). -/
import Derived.Test.YtkkcgibmcijhaaaRuns
namespace Go.Proofs.Ytkkcgibmcijhaaa
open Go.RowKit

/-- a segment: its first address, its cells -/
abbrev Sg := Int × List Ce
/-- an error's number -/
def schk (s : Sg) : Nat := if s.1 < 0 ∨ 1048576 < s.1 then 1 else if 64 < s.2.length then 3 else if 1048576 < s.1 + s.2.length then 1 else rchk s.2
def sjoin (a b : Sg) : Sg × Nat := if schk a ≠ 0 then ((0, []), schk a) else if schk b ≠ 0 then ((0, []), schk b) else if b.1 ≠ a.1 + a.2.length then ((0, []), 13)
  else if schk (a.1, a.2 ++ b.2) ≠ 0 then ((0, []), schk (a.1, a.2 ++ b.2)) else ((a.1, a.2 ++ b.2), 0)
def spart (s : Sg) (f t : Int) : Sg × Nat := if schk s ≠ 0 then ((0, []), schk s) else if f < s.1 ∨ s.1 + s.2.length < t ∨ t < f then ((0, []), 1)
  else ((f, (s.2.drop (f - s.1).toNat).take (t - f).toNat), 0)
theorem schk_ok {s : Sg} (h : schk s = 0) : 0 ≤ s.1 ∧ s.1 ≤ 1048576 ∧ s.2.length ≤ 64 ∧ s.1 + s.2.length ≤ 1048576 ∧ rchk s.2 = 0 := by
  unfold schk at h
  by_cases h1 : s.1 < 0 ∨ 1048576 < s.1
  · rw [if_pos h1] at h; simp at h
  rw [if_neg h1] at h
  by_cases h2 : 64 < s.2.length
  · rw [if_pos h2] at h; simp at h
  rw [if_neg h2] at h
  by_cases h3 : 1048576 < s.1 + s.2.length
  · rw [if_pos h3] at h; simp at h
  rw [if_neg h3] at h
  exact ⟨by omega, by omega, by omega, by omega, h⟩
theorem schk_range {s : Sg} (h : s.1 < 0 ∨ 1048576 < s.1) : schk s = 1 := by unfold schk; rw [if_pos h]
theorem schk_long {s : Sg} (h : ¬ (s.1 < 0 ∨ 1048576 < s.1)) (h2 : 64 < s.2.length) : schk s = 3 := by unfold schk; rw [if_neg h, if_pos h2]
theorem schk_far {s : Sg} (h : ¬ (s.1 < 0 ∨ 1048576 < s.1)) (h2 : ¬ 64 < s.2.length) (h3 : 1048576 < s.1 + s.2.length) : schk s = 1 := by unfold schk; rw [if_neg h, if_neg h2, if_pos h3]
theorem schk_cells {s : Sg} (h : ¬ (s.1 < 0 ∨ 1048576 < s.1)) (h2 : ¬ 64 < s.2.length) (h3 : ¬ 1048576 < s.1 + s.2.length) : schk s = rchk s.2 := by unfold schk; rw [if_neg h, if_neg h2, if_neg h3]
theorem rchk_part {l : List Ce} (h : rchk l = 0) (i n : Nat) : rchk ((l.drop i).take n) = 0 := rchk_ok fun c hc => rchk_zero h c (List.mem_of_mem_drop (List.mem_of_mem_take hc))
end Go.Proofs.Ytkkcgibmcijhaaa
