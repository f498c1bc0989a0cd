/- WHAT IT HOLDS: cells, plainly (no program): which there are, which may become which. -/
import Derived.Test.YtkkcgibmcijhaaaVarP
namespace Go.Proofs.Ytkkcgibmcijhaaa
open Go.RowKit

/-- a cell: its kind, its bytes -/
abbrev Ce := Int × List UInt8
def cchk (c : Ce) : Nat := if c.1 < 0 ∨ 3 < c.1 then 1 else if 64 < c.2.length then 3 else if 0 < c.2.length ∧ c.1 ≠ 1 then 2 else 0
def same (a b : Ce) : Bool := decide (a = b)
def mayb (a b : Ce) : Bool := decide (cchk a = 0 ∧ cchk b = 0 ∧ (a.1 = 0 ∨ a = b ∨ b.1 = 3))
def later (a b : Ce) : Ce × Bool := if mayb a b then (b, true) else if mayb b a then (a, true) else ((0, []), false)

theorem cchk_cases (c : Ce) : (c.1 < 0 ∧ cchk c = 1) ∨ (0 ≤ c.1 ∧ 3 < c.1 ∧ cchk c = 1) ∨ (0 ≤ c.1 ∧ c.1 ≤ 3 ∧ 64 < c.2.length ∧ cchk c = 3) ∨ (0 ≤ c.1 ∧ c.1 ≤ 3 ∧ c.2.length ≤ 64 ∧ 0 < c.2.length ∧ c.1 ≠ 1 ∧ cchk c = 2) ∨
    (0 ≤ c.1 ∧ c.1 ≤ 3 ∧ c.2.length = 0 ∧ cchk c = 0) ∨ (c.2.length ≤ 64 ∧ 0 < c.2.length ∧ c.1 = 1 ∧ cchk c = 0) := by
  unfold cchk
  by_cases h1 : c.1 < 0
  · exact .inl ⟨h1, by rw [if_pos (Or.inl h1)]⟩
  by_cases h2 : 3 < c.1
  · exact .inr (.inl ⟨by omega, h2, by rw [if_pos (Or.inr h2)]⟩)
  rw [if_neg (by omega)]
  by_cases h3 : 64 < c.2.length
  · exact .inr (.inr (.inl ⟨by omega, by omega, h3, by rw [if_pos h3]⟩))
  rw [if_neg h3]
  by_cases h4 : 0 < c.2.length
  · by_cases h5 : c.1 = 1
    · exact .inr (.inr (.inr (.inr (.inr ⟨by omega, h4, h5, by rw [if_neg (by omega)]⟩))))
    · exact .inr (.inr (.inr (.inl ⟨by omega, by omega, by omega, h4, h5, by rw [if_pos ⟨h4, h5⟩]⟩)))
  · exact .inr (.inr (.inr (.inr (.inl ⟨by omega, by omega, by omega, by rw [if_neg (by omega)]⟩))))
theorem cchk_ok {c : Ce} (h : cchk c = 0) : 0 ≤ c.1 ∧ c.1 ≤ 3 ∧ c.2.length ≤ 64 ∧ (c.1 ≠ 1 → c.2 = []) := by
  rcases cchk_cases c with h1 | h1 | h1 | h1 | h1 | h1
  · omega
  · omega
  · omega
  · omega
  · exact ⟨by omega, by omega, by omega, fun _ => List.eq_nil_of_length_eq_zero h1.2.2.1⟩
  · exact ⟨by omega, by omega, by omega, fun h => absurd h1.2.2.1 h⟩
theorem cchk_no {c : Ce} (h : cchk c ≠ 0) : cchk c = 1 ∨ cchk c = 2 ∨ cchk c = 3 := by
  rcases cchk_cases c with h1 | h1 | h1 | h1 | h1 | h1 <;> omega
theorem mayb_iff {a b : Ce} : mayb a b = true ↔ cchk a = 0 ∧ cchk b = 0 ∧ (a.1 = 0 ∨ a = b ∨ b.1 = 3) := by unfold mayb; exact decide_eq_true_iff
theorem three_eq {a b : Ce} (ha : cchk a = 0) (hb : cchk b = 0) (h : a.1 = b.1) (h1 : a.1 ≠ 1) : a = b := by
  have h2 := (cchk_ok ha).2.2.2 h1
  have h3 := (cchk_ok hb).2.2.2 (by omega)
  exact Prod.ext h (by rw [h2, h3])
theorem mayb_trans {a b c : Ce} (h : mayb a b = true) (k : mayb b c = true) : mayb a c = true := by
  rw [mayb_iff] at *
  obtain ⟨ha, hb, h1⟩ := h
  obtain ⟨_, hc, h2⟩ := k
  refine ⟨ha, hc, ?_⟩
  rcases h1 with h1 | rfl | h1
  · exact .inl h1
  · exact h2
  · rcases h2 with h2 | rfl | h2
    · omega
    · exact .inr (.inr h1)
    · exact .inr (.inr h2)
theorem mayb_anti {a b : Ce} (h : mayb a b = true) (k : mayb b a = true) : a = b := by
  rw [mayb_iff] at *
  obtain ⟨ha, hb, h1⟩ := h
  obtain ⟨_, _, h2⟩ := k
  rcases h1 with h1 | h1 | h1
  · rcases h2 with h2 | h2 | h2
    · exact three_eq ha hb (by omega) (by omega)
    · exact h2.symm
    · omega
  · exact h1
  · rcases h2 with h2 | h2 | h2
    · omega
    · exact h2.symm
    · exact three_eq ha hb (by omega) (by omega)
theorem mayb_refl (a : Ce) : mayb a a = decide (cchk a = 0) := by unfold mayb; simp
theorem later_comm (a b : Ce) : later a b = later b a := by
  unfold later
  cases h : mayb a b <;> cases k : mayb b a <;> simp
  exact (mayb_anti h k).symm
theorem later_yes {a b : Ce} (h : (later a b).2 = true) : mayb a (later a b).1 = true ∧ mayb b (later a b).1 = true ∧ ((later a b).1 = a ∨ (later a b).1 = b) := by
  unfold later at h ⊢
  cases h1 : mayb a b
  · cases h2 : mayb b a
    · rw [h1, h2] at h; simp at h
    · have h3 := (mayb_iff.1 h2).2.1
      simp [mayb_refl, h3, h2]
  · have h3 := (mayb_iff.1 h1).2.1
    simp [mayb_refl, h3, h1]
/-- the document's 'may' -/
def rmay (a b : Ce) : Bool := decide (cchk a = 0 ∧ cchk b = 0 ∧ (a = b ∨ a.1 = 0 ∨ (a.1 = 1 ∨ a.1 = 2) ∧ b.1 = 3))
theorem rmay_eq (a b : Ce) : rmay a b = mayb a b := by
  unfold rmay mayb
  congr 1
  rw [eq_iff_iff]
  constructor
  · rintro ⟨h1, h2, h3⟩
    exact ⟨h1, h2, by rcases h3 with h | h | h <;> simp_all⟩
  · rintro ⟨h1, h2, h3⟩
    refine ⟨h1, h2, ?_⟩
    rcases h3 with h | h | h
    · exact .inr (.inl h)
    · exact .inl h
    · have h4 := cchk_ok h1
      by_cases h5 : a.1 = 0
      · exact .inr (.inl h5)
      by_cases h6 : a.1 = 3
      · exact .inl (three_eq h1 h2 (by omega) (by omega))
      · exact .inr (.inr ⟨by omega, h⟩)
/-- the bytes of a right cell -/
def cbytes (c : Ce) : List UInt8 := if c.1 = 1 then 1 :: (vb c.2.length ++ c.2) else [UInt8.ofNat c.1.toNat]
end Go.Proofs.Ytkkcgibmcijhaaa
