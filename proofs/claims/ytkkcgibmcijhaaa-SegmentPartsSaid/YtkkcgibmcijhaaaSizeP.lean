/- WHAT IT HOLDS: how many bits and bytes a number has, plainly (no program). -/
import Derived.Test.YtkkcgibmcijhaaaVarP
namespace Go.Proofs.Ytkkcgibmcijhaaa
open Go.RowKit

/-- how many bits a number has -/
def blen (n : Nat) : Nat := if h : n = 0 then 0 else blen (n / 2) + 1
  termination_by n
theorem blen_zero : blen 0 = 0 := by rw [blen, dif_pos rfl]
theorem blen_pos {n : Nat} (h : n ≠ 0) : blen n = blen (n / 2) + 1 := by rw [blen, dif_neg h]
theorem blen_div (k : Nat) : ∀ n, 2 ^ k ≤ n → blen n = blen (n / 2 ^ k) + k := by
  induction k with
  | zero => intro n _; simp
  | succ k ih =>
    intro n h
    have hp : 0 < 2 ^ k := Nat.pow_pos (by decide)
    rw [Nat.pow_succ] at h
    rw [ih n (by omega)]
    have hq : n / 2 ^ k ≠ 0 := by
      have : 0 < n / 2 ^ k := Nat.div_pos (by omega) hp
      omega
    rw [blen_pos hq, Nat.div_div_eq_div_mul, ← Nat.pow_succ]
    show blen (n / 2 ^ (k + 1)) + 1 + k = blen (n / 2 ^ (k + 1)) + (k + 1)
    omega
theorem size_vb (n : Nat) : (vb n).length = max ((blen n + 6) / 7) 1 := by
  induction n using Nat.strongRecOn with
  | _ n ih =>
    by_cases h : n < 128
    · rw [vb_small h]
      have hb : blen n ≤ 7 := by
        have h1 : ∀ j : Fin 128, blen j.val ≤ 7 := by decide +kernel
        exact h1 ⟨n, h⟩
      simp only [List.length_cons, List.length_nil]
      omega
    · rw [vb_step (by omega), List.length_cons, ih (n / 128) (by omega), blen_div 7 n (by omega)]
      have : n / 128 ≠ 0 := by omega
      have := blen_pos this
      rw [show n / 2 ^ 7 = n / 128 from rfl]
      omega
end Go.Proofs.Ytkkcgibmcijhaaa
