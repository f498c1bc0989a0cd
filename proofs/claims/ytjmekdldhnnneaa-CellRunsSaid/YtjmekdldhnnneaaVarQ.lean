/- WHAT IT HOLDS: Size, and the document's bytes of texts and lists, walked. -/
import Derived.Test.YtjmekdldhnnneaaVarR
import Derived.Test.YtjmekdldhnnneaaFrame
import Derived.Test.YtjmekdldhnnneaaSizeP
import Derived.Test.YtjmekdldhnnneaaShelf
namespace Go.Proofs.Ytjmekdldhnnneaa
open Go.RowKit

set_option maxRecDepth 100000 in
set_option maxHeartbeats 400000 in
theorem nBytes_any (A B : Option Addr) (c d : Nat) (l m : List UInt8) (w : World) (ha : SlB w A c l) (hb : SlB w B d m) :
    Calls Try.prog 32 #[.slice A l.length c, .slice B m.length d] w fun e w' => e = .returned (.bool (l == m)) ∧ w = w' := by
  have h1 := conv_str (P := Try.prog) 24 9 5 Try.underlying24 Try.underlying5 Try.underlying9 ha rfl
  have h2 := conv_str (P := Try.prog) 24 9 5 Try.underlying24 Try.underlying5 Try.underlying9 hb rfl
  go_enter Try.func32, Try.ntmps32
  go_wp2_with fail
  go_ret
  exact ⟨rfl, rfl⟩

set_option maxRecDepth 100000 in
set_option maxHeartbeats 400000 in
theorem rText_any (A : Option Addr) (c : Nat) (t : List UInt8) (w : World) (hs : SlB w A c t) (ht : t.length ≤ 10000000) :
    Calls Try.prog 35 #[.slice A t.length c] w (GivesB w (vb t.length ++ t)) := by
  have hu : U64 t.length := by unfold U64; omega
  have hw := wrap_u64_of hu
  go_enter Try.func35, Try.ntmps35
  go_wp2_with fail
  refine (rBytes_any t.length hu _).mono ?_
  rintro e w1 ⟨A1, c1, m1, rfl, hm1, ho1, hb1⟩
  have hml : m1.length ≤ 10 := by rw [hm1.out]; exact vb_le10 hu
  go_wp2_with (at_builtin; go_must (refine wpl_bytes 24 5 Try.underlying24 u8_info rfl _ _ rfl w.heap.size A1 c1 m1 rfl ho1 A c t rfl (hs.below hb1) (by omega) hb1.size ?_; intro A3 c3 m3 w3 hm3 ho3 _ _ hb3))
  go_ret
  exact ⟨A3, c3, m3, rfl, by rw [hm3.out, hm1.out]; rfl, ho3, hb1.trans hb3⟩

set_option maxRecDepth 100000 in
set_option maxHeartbeats 400000 in
theorem rList_any (A : Option Addr) (c : Nat) (ns : List Nat) (w : World) (hn : SlN w A c ns) (hns : ns.length ≤ 1000000) (h64 : ∀ n ∈ ns, U64 n) :
    Calls Try.prog 36 #[.slice A ns.length c] w (GivesB w (lb ns)) := by
  have hu : U64 ns.length := by unfold U64; omega
  have hw := wrap_u64_of hu
  have hmax := hn.len_le
  unfold maxLen at hmax
  go_enter Try.func36, Try.ntmps36
  go_wp2_with fail
  refine (rBytes_any ns.length hu _).mono ?_
  rintro e w1 ⟨A1, c1, m1, rfl, hm1, ho1, hb1⟩
  go_wp2_with fail
  go_loopw [3, 4] (fun v x wr => ∃ (k : Nat) (B : Option Addr) (d : Nat) (m : List UInt8), k ≤ ns.length ∧ x = .int .i64 k ∧ v = .slice B m.length d ∧ Hid (m = vb ns.length ++ vbs (ns.take k)) ∧ OwnB wr w.heap.size 5 B d m ∧ Below w.heap.size w wr) (fun v x w => ns.length - (intOf x).toNat)
  case atStart => exact ⟨0, A1, c1, m1, Nat.zero_le _, rfl, rfl, (show _ = _ by rw [hm1.out]; simp [vbs]), ho1, hb1⟩
  case round =>
    obtain ⟨k, B, d, m, hk, rfl, rfl, hm, hor, hbr⟩ := hrel
    by_cases hlt : k < ns.length
    · obtain ⟨ad, rfl, hc⟩ := (hn.below hbr).at1 hlt
      have hml : m.length ≤ 20000000 := by
        have h2 := vbs_le (l := ns.take k) (fun n hn => h64 n (List.mem_of_mem_take hn))
        have h3 := congrArg List.length hm.out
        have h4 := vb_le10 hu
        simp only [List.length_append, List.length_take] at h3 h2
        omega
      have hn64 := h64 _ (List.getElem_mem hlt)
      have hsn := Lib.hid (vbs_snoc hlt)
      generalize ns[k] = x at *
      go_wp2_with fail
      refine (rBytes_any x hn64 _).mono ?_
      rintro e w2 ⟨A2, c2, m2, rfl, hm2, ho2, hb2⟩
      have hml2 : m2.length ≤ 10 := by rw [hm2.out]; exact vb_le10 hn64
      go_wp2_with (at_builtin; go_must (refine wpl_bytes 24 5 Try.underlying24 u8_info rfl _ _ rfl w.heap.size B d m rfl (hor.below hb2) A2 c2 m2 rfl ho2.sl (by omega) (bel_call hbr hb2).size ?_; intro A3 c3 m3 w3 hm3 ho3 _ _ hb3))
      go_roundw
      case rel => exact ⟨k + 1, A3, c3, m3, hlt, by go_num, rfl, (show _ = _ by rw [hm3.out, hm2.out, hm.out, hsn.out]; simp), ho3, (bel_call hbr hb2).trans hb3⟩
      case measure => simp [intOf]; omega
    · go_wp2_with fail
      go_ret
      exact ⟨B, d, m, rfl, by rw [hm.out, List.take_of_length_le (by omega)]; rfl, hor, hbr⟩

theorem bl_eq (n : Nat) (h : n < 18446744073709551616) : Lib.bitLen n = blen n := by
  induction n using Nat.strongRecOn with
  | _ n ih =>
    by_cases h0 : n = 0
    · subst h0; rw [blen_zero]; rfl
    · rw [Lib.bitLen_half n h0 h, ih (n / 2) (by omega) (by omega), blen_pos h0]
      omega
theorem Len64_any (n : Nat) (hn : U64 n) (w : World) : Calls Try.prog 74 #[.int .u64 n] w fun e w' => e = .returned (.int .i64 (blen n)) ∧ w' = w := by
  unfold U64 at hn
  have h := Go.Proofs.Try.bits_Len64 (n : Int) w (by omega) (by omega)
  rw [Int.toNat_natCast, bl_eq n (by omega)] at h
  exact h

set_option maxRecDepth 100000 in
set_option maxHeartbeats 400000 in
theorem Size_any (n : Nat) (hn : U64 n) (w : World) : Calls Try.prog 30 #[.int .u64 n] w fun e w' => e = .returned (.int .i64 ((vb n).length : Nat)) ∧ w = w' := by
  have hs := Lib.hid (size_vb n)
  have hl := vb_le10 hn
  have hL := Lib.hid (Len64_any n hn w)
  have hb : blen n ≤ 70 := by have := hs.out; omega
  generalize blen n = b at *
  generalize (vb n).length = v at *
  go_enter Try.func30, Try.ntmps30
  go_wp2_with fail
  refine hL.out.mono ?_
  rintro e w1 ⟨rfl, rfl⟩
  go_wp2_with fail
  go_ret
  have h2 : max (((b : Int) + 7 - 1) / 7) 1 = (v : Int) := by rw [hs.out]; omega
  exact ⟨congrArg (fun z => Ending.returned (Value.int IntKind.i64 z)) h2, rfl⟩
end Go.Proofs.Ytjmekdldhnnneaa
