/- WHAT IT HOLDS: what the document's functions of layer 1 compute, walked. -/
import Derived.Test.YtajfnmohlnkncaaGreatDoorVaultAgreesG01
import Derived.Deep.RegionWith
namespace Go.Proofs.YtajfnmohlnkncaaGreatDoor
open Go.RowKit
def errv : Nat → Value
 | 0 => .nilIface
 | n + 1 => .iface 60 (.int .i64 ((n + 1 : Nat) : Int))
set_option maxRecDepth 100000 in
set_option maxHeartbeats 400000 in
theorem num_nil (w : World) : Calls Tryz.prog 47 #[.nilIface] w fun e w' => e = .returned (.int .i64 0) ∧ w = w' := by
 go_enter Tryz.func47, Tryz.ntmps47
 go_wp2_with fail
 go_ret
 exact ⟨rfl, rfl⟩
theorem assert_errno (k : Int) (w : World) : (Instr.typeAssert (.iface 60 (.int .i64 k)) 26 60 true).run Tryz.prog w = .ok (.tuple #[.int .i64 k, .bool true]) w := by kernel_rfl
set_option maxRecDepth 100000 in
set_option maxHeartbeats 400000 in
theorem num_err (k : Int) (hk : 0 < k) (w : World) : Calls Tryz.prog 47 #[.iface 60 (.int .i64 k)] w fun e w' => e = .returned (.int .i64 k) ∧ w = w' := by
 have hz : (k == 0) = false := by simp; omega
 have hn : (k != 0) = true := by simp; omega
 have hta := assert_errno
 go_enter Tryz.func47, Tryz.ntmps47
 go_wp2_with fail
 go_ret
 exact ⟨rfl, rfl⟩
theorem errv_cases (n : Nat) : (n = 0 ∧ errv n = .nilIface) ∨ ∃ k : Int, 0 < k ∧ k = n ∧ errv n = .iface 60 (.int .i64 k) := by
 cases n with
 | zero => exact .inl ⟨rfl, rfl⟩
 | succ n => exact .inr ⟨((n + 1 : Nat) : Int), by omega, rfl, rfl⟩
theorem num_any (n : Nat) (w : World) : Calls Tryz.prog 47 #[errv n] w fun e w' => e = .returned (.int .i64 (n : Nat)) ∧ w = w' := by
 rcases errv_cases n with ⟨rfl, he⟩ | ⟨k, hk, h0, he⟩
 · rw [he]
   exact num_nil w
 · rw [he]
   rw [← h0]
   exact num_err k hk w
theorem isn_any (n : Nat) (k : Int) (w : World) : Calls Tryz.prog 17 #[errv n, .int .i64 k] w fun e w' => e = .returned (.bool ((n : Int) == k)) ∧ w = w' := by
 have h := num_any n w
 generalize errv n = x at h ⊢
 go_enter Tryz.func17, Tryz.ntmps17
 go_wp2_with fail
 refine h.mono ?_
 rintro e w1 ⟨rfl, rfl⟩
 go_wp2_with fail
 go_ret
 exact ⟨rfl, rfl⟩
end Go.Proofs.YtajfnmohlnkncaaGreatDoor
