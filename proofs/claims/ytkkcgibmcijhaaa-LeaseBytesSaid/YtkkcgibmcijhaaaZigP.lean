/- WHAT IT HOLDS: signed numbers' numbers, plainly (no program). -/
import Derived.Test.YtkkcgibmcijhaaaFrame
import Derived.Lib.Zigzag
namespace Go.Proofs.Ytkkcgibmcijhaaa
open Go.RowKit

/-- a signed number's number, and back -/
def zz (n : Int) : Nat := if 0 ≤ n then (2 * n).toNat else (-2 * n - 1).toNat
def zb (u : Nat) : Int := if u % 2 = 0 then (u / 2 : Nat) else -((u / 2 : Nat) : Int) - 1
theorem zz_u64 {n : Int} (h : I64 n) : U64 (zz n) := by
  unfold I64 at h
  unfold U64 zz
  split <;> omega
theorem zz_zb (u : Nat) : zz (zb u) = u := by
  unfold zz zb
  split <;> split <;> omega
theorem zig_val {n : Int} (h : I64 n) : bits BinOp.xor IntKind.u64 (IntKind.u64.wrap (IntKind.u64.wrap n * 2)) (IntKind.u64.wrap (n / 9223372036854775808)) = ((zz n : Nat) : Int) := by
  unfold I64 at h
  unfold zz
  rw [IntKind.wrap_u64, IntKind.wrap_u64, IntKind.wrap_u64]
  by_cases h0 : 0 ≤ n
  · rw [if_pos h0, show n % 18446744073709551616 * 2 % 18446744073709551616 = (((2 * n).toNat : Nat) : Int) from by omega, show n / 9223372036854775808 % 18446744073709551616 = ((0 : Nat) : Int) from by omega,
      bits_xor_u64_nat _ _ (by omega) (by omega), Nat.xor_zero]
  · rw [if_neg h0, show n % 18446744073709551616 * 2 % 18446744073709551616 = (((2 * n + 18446744073709551616).toNat : Nat) : Int) from by omega,
      show n / 9223372036854775808 % 18446744073709551616 = ((18446744073709551615 : Nat) : Int) from by omega, bits_xor_u64_nat _ _ (by omega) (by omega), Nat.xor_comm]
    have := Lib.xor_ones64 (2 * n + 18446744073709551616).toNat (by omega)
    rw [show (18446744073709551615 : Nat) = 2 ^ 64 - 1 from by decide, this]
    omega
theorem wrap64_of {n : Int} (h : I64 n) : wrap64 n = n := IntWalk.wrap64_in n h
theorem zag_val {n : Nat} (h : U64 n) : bits BinOp.xor IntKind.i64 (wrap64 ((n : Int) / 2)) (wrap64 (-wrap64 (bits BinOp.and IntKind.u64 (n : Int) 1))) = zb n := by
  unfold U64 at h
  unfold zb
  rw [Lib.u64_and1 _ (by omega) (by omega), wrap64_of (n := (n : Int) / 2) (by unfold I64; omega), wrap64_of (n := (n : Int) % 2) (by unfold I64; omega), wrap64_of (n := -((n : Int) % 2)) (by unfold I64; omega)]
  by_cases h0 : n % 2 = 0
  · rw [if_pos h0, show -((n : Int) % 2) = 0 from by omega]
    show IntKind.i64.wrap ((BitVec.ofInt 64 ((n : Int) / 2) ^^^ BitVec.ofInt 64 0).toNat : Int) = _
    rw [show BitVec.ofInt 64 0 = 0#64 from rfl, BitVec.xor_zero, show (n : Int) / 2 = ((n / 2 : Nat) : Int) from by omega, BitVec.ofInt_natCast, BitVec.toNat_ofNat, IntKind.wrap_i64]
    omega
  · rw [if_neg h0, show -((n : Int) % 2) = -1 from by omega]
    have e := Lib.i64_not (n / 2) (by omega)
    have hc : bits .xor .i64 ((n : Int) / 2) (-1) = bits .xor .i64 (-1) ((n / 2 : Nat) : Int) := by
      show IntKind.i64.wrap ((BitVec.ofInt 64 ((n : Int) / 2) ^^^ BitVec.ofInt 64 (-1)).toNat : Int) = IntKind.i64.wrap ((BitVec.ofInt 64 (-1) ^^^ BitVec.ofInt 64 ((n / 2 : Nat) : Int)).toNat : Int)
      rw [BitVec.xor_comm, show (n : Int) / 2 = ((n / 2 : Nat) : Int) from by omega]
    rw [hc, e]
theorem zig_pos {n : Int} (h : I64 n) (h0 : 0 ≤ n) : IntKind.u64.wrap (2 * IntKind.u64.wrap n) = ((zz n : Nat) : Int) := by
  unfold I64 at h
  unfold zz
  rw [if_pos h0, IntKind.wrap_u64, IntKind.wrap_u64]
  omega
theorem zig_neg {n : Int} (h : I64 n) (h0 : n < 0) : ∃ p q r s, wrap64 (n + 1) = p ∧ wrap64 (-p) = q ∧ IntKind.u64.wrap q = r ∧ IntKind.u64.wrap (2 * r) = s ∧ IntKind.u64.wrap (s + 1) = ((zz n : Nat) : Int) := by
  refine ⟨_, _, _, _, rfl, rfl, rfl, rfl, ?_⟩
  unfold I64 at h
  unfold zz
  rw [if_neg (by omega), wrap64_of (n := n + 1) (by unfold I64; omega), wrap64_of (n := -(n + 1)) (by unfold I64; omega), IntKind.wrap_u64, IntKind.wrap_u64, IntKind.wrap_u64]
  omega
theorem zag_even {u : Nat} (h : U64 u) (h0 : u % 2 = 0) : ∃ a, IntKind.u64.wrap ((u : Int) / 2) = a ∧ wrap64 a = zb u := by
  refine ⟨_, rfl, ?_⟩
  unfold U64 at h
  unfold zb
  rw [if_pos h0, IntKind.wrap_u64, wrap64_of (by unfold I64; omega)]
  omega
theorem zag_odd {u : Nat} (h : U64 u) (h0 : ¬ u % 2 = 0) : ∃ a b d, IntKind.u64.wrap ((u : Int) / 2) = a ∧ wrap64 a = b ∧ wrap64 (-b) = d ∧ wrap64 (d - 1) = zb u := by
  refine ⟨_, _, _, rfl, rfl, rfl, ?_⟩
  unfold U64 at h
  unfold zb
  rw [if_neg h0, IntKind.wrap_u64, wrap64_of (n := (u : Int) / 2 % 18446744073709551616) (by unfold I64; omega), wrap64_of (n := -((u : Int) / 2 % 18446744073709551616)) (by unfold I64; omega),
    wrap64_of (n := -((u : Int) / 2 % 18446744073709551616) - 1) (by unfold I64; omega)]
  omega
end Go.Proofs.Ytkkcgibmcijhaaa
