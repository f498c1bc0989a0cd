/- WHAT IT HOLDS: Size, and the document's bytes of texts and lists, walked. -/
import Derived.Test.YtbgcofgckjdoiaaVarR
import Derived.Test.YtbgcofgckjdoiaaFrame
import Derived.Test.YtbgcofgckjdoiaaSizeP
import Derived.Test.YtbgcofgckjdoiaaShelf
namespace Go.Proofs.Ytbgcofgckjdoiaa
open Go.RowKit

set_option maxRecDepth 100000 in
set_option maxHeartbeats 400000 in
theorem nBytes_any (A B : Option Addr) (c d : Nat) (l m : List UInt8) (w : World) (ha : SlB w A c l) (hb : SlB w B d m) :
    Calls Try.prog 35 #[.slice A l.length c, .slice B m.length d] w fun e w' => e = .returned (.bool (l == m)) ∧ w = w' := by
  have h1 := conv_str (P := Try.prog) 40 9 5 Try.underlying40 Try.underlying5 Try.underlying9 ha rfl
  have h2 := conv_str (P := Try.prog) 40 9 5 Try.underlying40 Try.underlying5 Try.underlying9 hb rfl
  go_enter Try.func35, Try.ntmps35
  go_wp2_with fail
  go_ret
  exact ⟨rfl, rfl⟩

set_option maxRecDepth 100000 in
set_option maxHeartbeats 400000 in
theorem rText_any (A : Option Addr) (c : Nat) (t : List UInt8) (w : World) (hs : SlB w A c t) (ht : t.length ≤ 10000000) :
    Calls Try.prog 86 #[.slice A t.length c] w (GivesB w (vb t.length ++ t)) := by
  have hu : U64 t.length := by unfold U64; omega
  have hw := wrap_u64_of hu
  go_enter Try.func86, Try.ntmps86
  go_wp2_with fail
  refine (rBytes_any t.length hu _).mono ?_
  rintro e w1 ⟨A1, c1, m1, rfl, hm1, ho1, hb1⟩
  have hml : m1.length ≤ 10 := by rw [hm1.out]; exact vb_le10 hu
  go_wp2_with (at_builtin; go_must (refine wpl_bytes 40 5 Try.underlying40 u8_info rfl _ _ rfl w.heap.size A1 c1 m1 rfl ho1 A c t rfl (hs.below hb1) (by omega) hb1.size ?_; intro A3 c3 m3 w3 hm3 ho3 _ _ hb3))
  go_ret
  exact ⟨A3, c3, m3, rfl, by rw [hm3.out, hm1.out]; rfl, ho3, hb1.trans hb3⟩

theorem bl_eq (n : Nat) (h : n < 18446744073709551616) : Lib.bitLen n = blen n := by
  induction n using Nat.strongRecOn with
  | _ n ih =>
    by_cases h0 : n = 0
    · subst h0; rw [blen_zero]; rfl
    · rw [Lib.bitLen_half n h0 h, ih (n / 2) (by omega) (by omega), blen_pos h0]
      omega
theorem Len64_any (n : Nat) (hn : U64 n) (w : World) : Calls Try.prog 118 #[.int .u64 n] w fun e w' => e = .returned (.int .i64 (blen n)) ∧ w' = w := by
  unfold U64 at hn
  have h := Go.Proofs.Try.bits_Len64 (n : Int) w (by omega) (by omega)
  rw [Int.toNat_natCast, bl_eq n (by omega)] at h
  exact h

set_option maxRecDepth 100000 in
set_option maxHeartbeats 400000 in
theorem Size_any (n : Nat) (hn : U64 n) (w : World) : Calls Try.prog 93 #[.int .u64 n] w fun e w' => e = .returned (.int .i64 ((vb n).length : Nat)) ∧ w = w' := by
  have hs := Lib.hid (size_vb n)
  have hl := vb_le10 hn
  have hL := Lib.hid (Len64_any n hn w)
  have hb : blen n ≤ 70 := by have := hs.out; omega
  generalize blen n = b at *
  generalize (vb n).length = v at *
  go_enter Try.func93, Try.ntmps93
  go_wp2_with fail
  refine hL.out.mono ?_
  rintro e w1 ⟨rfl, rfl⟩
  go_wp2_with fail
  go_ret
  have h2 : max (((b : Int) + 7 - 1) / 7) 1 = (v : Int) := by rw [hs.out]; omega
  exact ⟨congrArg (fun z => Ending.returned (Value.int IntKind.i64 z)) h2, rfl⟩
end Go.Proofs.Ytbgcofgckjdoiaa
