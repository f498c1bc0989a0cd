/- WHAT IT HOLDS: what the document's functions of layer 1 compute, walked. -/
import Derived.Test.YtabnndjdkjkciaaGreatDoorCursorKeepsG01
import Derived.Deep.RegionWith
namespace Go.Proofs.YtabnndjdkjkciaaGreatDoor
open Go.RowKit

set_option maxRecDepth 100000 in
set_option maxHeartbeats 400000 in
theorem rBytes_any (n : Nat) (hn : U64 n) (w : World) : Calls Tryz.prog 109 #[.int .u64 n] w (GivesB w (vb n)) := by
  go_enter Tryz.func109, Tryz.ntmps109
  go_wp2
  go_loopw [0, 3] (fun x v wr => ∃ (k : Nat) (B : Option Addr) (d : Nat) (m : List UInt8), x = .int .u64 k ∧ v = .slice B m.length d ∧ Hid (vb n = m ++ vb k) ∧ Hid (U64 k) ∧ OwnB wr w.heap.size 5 B d m ∧ Below w.heap.size w wr) (fun x v w => (intOf x).toNat)
  case atStart => exact ⟨n, _, 0, [], rfl, rfl, rfl, hn, Own.lit 1 (Nat.le_refl _), below_new _ _⟩
  case round =>
    obtain ⟨k, B, d, m, rfl, rfl, hm, hk, hor, hbr⟩ := hrel
    have hml : m.length ≤ 10 := by
      have h1 := congrArg List.length hm.out
      have h2 := vb_le10 hn
      simp only [List.length_append] at h1
      omega
    have hw : IntKind.u64.wrap ((k : Int) / 128) = (k : Int) / 128 := wrap_div hk.out 128
    by_cases h128 : 128 ≤ k
    · have hs := Lib.hid (vb_step h128)
      have hz : ((k : Int) / 128 == 0) = false := by simp; omega
      go_wp2_with (at_builtin; go_must (refine wpl_byte 29 5 Tryz.underlying29 u8_info rfl _ _ rfl w.heap.size B d m _ (UInt8.ofNat (k % 128 + 128)) (byte_ref k) rfl hor rfl (by omega) hbr.size ?_; intro A1 c1 m1 w1 hm1 ho1 _ _ hb1))
      go_roundw
      case rel => exact ⟨k / 128, A1, c1, m1, rfl, rfl, by rw [hm1.out, hm.out, hs.out]; show _ = _; simp, hk.out.div 128, ho1, hbr.trans hb1⟩
      case measure => simp [intOf]; omega
    · have hs := Lib.hid (vb_small (n := k) (by omega))
      have hz : ((k : Int) / 128 == 0) = true := by simp; omega
      go_wp2_with (at_builtin; go_must (refine wpl_byte 29 5 Tryz.underlying29 u8_info rfl _ _ rfl w.heap.size B d m _ (UInt8.ofNat k) (byte_ref0 (by omega)) rfl hor rfl (by omega) hbr.size ?_; intro A1 c1 m1 w1 hm1 ho1 _ _ hb1))
      go_ret
      exact ⟨A1, c1, m1, rfl, by rw [hm1.out, hm.out, hs.out]; rfl, ho1, hbr.trans hb1⟩

/-- what the document's Take answers -/
def RTakeOut (o : Option (Nat × Nat)) (w : World) (e : Ending) (w' : World) : Prop :=
  Below w.heap.size w w' ∧ ((o = none ∧ e = .returned (.tuple #[.int .u64 0, .int .i64 0, .int .i64 2])) ∨ ∃ n k : Nat, o = some (n, k) ∧ e = .returned (.tuple #[.int .u64 n, .int .i64 k, .int .i64 0]))

set_option maxRecDepth 100000 in
set_option maxHeartbeats 1000000 in
theorem rTake_any (A : Option Addr) (c : Nat) (l : List UInt8) (w : World) (hs : SlB w A c l) :
    Calls Tryz.prog 171 #[.slice A l.length c] w (RTakeOut (take l) w) := by
  have hc1 := hs.2.1
  have hc2 := hs.2.2.1
  unfold maxLen at hc2
  go_enter Tryz.func171, Tryz.ntmps171
  go_wp2_with fail
  go_loopw [5] (fun x wr => ∃ k : Nat, 1 ≤ k ∧ k ≤ 11 ∧ x = .int .i64 k ∧ Hid (∀ j (h : j < l.length), j + 1 < k → 128 ≤ l[j].toNat) ∧ Below w.heap.size w wr) (fun x w => 11 - (intOf x).toNat)
  case atStart => exact ⟨1, by omega, by omega, rfl, (fun j _ hj => by omega), Below.refl _ _⟩
  case round =>
    obtain ⟨k, hk1, hk11, rfl, hall, hbr⟩ := hrel
    by_cases hlt : k ≤ 10 ∧ k ≤ l.length
    · obtain ⟨hk10, hkl⟩ := hlt
      have hlt : k - 1 < l.length := by omega
      obtain ⟨ad, rfl, hc⟩ := (hs.below hbr).at1 hlt
      by_cases hb : 128 ≤ l[k - 1].toNat
      · have hbl := Lib.hid hb
        go_wp2_with fail
        go_roundw
        case rel =>
          refine ⟨k + 1, by omega, by omega, by go_num, (fun j hj hjk => ?_), hbr⟩
          by_cases hj1 : j = k - 1
          · subst hj1; exact hbl.out
          · exact hall.out j hj (by omega)
        case measure => simp [intOf]; omega
      · have hbl := Lib.hid hb
        obtain ⟨wo, rfl⟩ : ∃ wo : World, wo = wr := ⟨_, rfl⟩
        go_wp2_with fail
        go_loop [6, 7] (fun v x => ∃ (q : Int) (n : Nat), -1 ≤ q ∧ q ≤ (k : Int) - 1 ∧ x = .int .i64 q ∧ v = .int .u64 n ∧ Hid (n = val ((l.take k).drop (q + 1).toNat) % 18446744073709551616)) (fun v x => (intOf x + 1).toNat)
        case atStart => exact ⟨(k : Int) - 1, 0, by omega, by omega, rfl, rfl, (show _ = _ by rw [show ((k : Int) - 1 + 1).toNat = k from by omega, val_all])⟩
        case round =>
          obtain ⟨q, n, hq1, hq2, rfl, rfl, hn⟩ := hrel
          by_cases hq : 0 ≤ q
          · obtain ⟨i, rfl⟩ := Int.eq_ofNat_of_zero_le hq
            have hil : i < l.length := by omega
            have hik : i < k := by omega
            obtain ⟨ad2, he, hci⟩ := (hs.below hbr).at1 hil
            obtain rfl : ad = ad2 := by injection he
            clear he
            have hv := Lib.hid (val_take_drop hik hil)
            generalize l[i] = x at *
            go_wp2_with fail
            go_round
            case rel =>
              refine ⟨(i : Int) - 1, (x.toNat % 128 + 128 * val ((l.take k).drop (i + 1))) % 18446744073709551616, by omega, by omega, by go_num, ?_, ?_⟩
              · have h1 := hn.out
                rw [show ((i : Int) + 1).toNat = i + 1 from by omega] at h1
                rw [← val_step h1]
              · have e1 : ((i : Int) - 1 + 1).toNat = i := by omega
                show _ = _
                rw [e1, hv.out]
            case measure => first | (simp [intOf]; omega) | simp [intOf]
          · obtain rfl : q = -1 := by omega
            have hn1 := hn
            rw [show ((-1 : Int) + 1).toNat = 0 from rfl, List.drop_zero] at hn1
            have hun : U64 n := by have := hn1.out; unfold U64; omega
            have hcb := fun (W : World) (hW : Keep wo W) => conv_str (P := Tryz.prog) (w := W) 29 9 5 Tryz.underlying29 Tryz.underlying5 Tryz.underlying9 (n := k) (((hs.below hbr).takeB k).keep hW) (by simp; omega)
            have hk0 : Keep wo wo := Keep.refl wo
            have hkd : ∀ W, Keep wo W → Keep wo W.drew := fun W h => h
            go_wp2_with fail
            go_region_with (go_at_call 109; refine (rBytes_any n hun _).mono ?_; rintro e w1 ⟨A1, c1, m1, rfl, hm1, ho1, hb1⟩; have hk1 : Keep wo w1 := Keep.of_drew (keep_of_below hb1); have hbw := (below_of_drew hb1).mono hbr.size; have hcm := conv_str (P := Tryz.prog) (w := w1) 29 9 5 Tryz.underlying29 Tryz.underlying5 Tryz.underlying9 ho1.sl rfl)
            all_goals go_wp2_with fail
            all_goals
              have htr := take_ref (l := l) (k := k - 1) (n := n) hlt (fun j hj hjk => hall.out j hj (by omega)) (by omega) (by rw [show k - 1 + 1 = k from by omega]; exact hn1.out)
              rw [show k - 1 + 1 = k from by omega] at htr
              go_ret3
              first
                | (have hx : (!m1 == List.take k l) = true := by assumption
                   exact ⟨hbr.trans hbw, .inl ⟨htr.2 (by rw [← hm1.out]; simpa using hx), rfl⟩⟩)
                | (have hx : (!m1 == List.take k l) = false := by assumption
                   exact ⟨hbr.trans hbw, .inr ⟨n, k, htr.1 (by rw [← hm1.out]; simpa using hx), rfl⟩⟩)
    · by_cases hk : k = 11
      · go_wp2_with fail
        go_ret3
        exact ⟨hbr, .inl ⟨take_ref_none fun j hj hj10 => hall.out j hj (by omega), rfl⟩⟩
      · have hkl : ¬ k ≤ l.length := by omega
        have hk10 : k ≤ 10 := by omega
        go_wp2_with fail
        go_ret3
        exact ⟨hbr, .inl ⟨take_ref_none fun j hj hj10 => hall.out j hj (by omega), rfl⟩⟩

/-- an error by its number; 0: none -/
def errv : Nat → Value
  | 0 => .nilIface
  | n + 1 => .iface 68 (.int .i64 ((n + 1 : Nat) : Int))

set_option maxRecDepth 100000 in
set_option maxHeartbeats 400000 in
theorem num_nil (w : World) : Calls Tryz.prog 11 #[.nilIface] w fun e w' => e = .returned (.int .i64 0) ∧ w = w' := by
  go_enter Tryz.func11, Tryz.ntmps11
  go_wp2_with fail
  go_ret
  exact ⟨rfl, rfl⟩
theorem assert_errno (k : Int) (w : World) : (Instr.typeAssert (.iface 68 (.int .i64 k)) 37 68 true).run Tryz.prog w = .ok (.tuple #[.int .i64 k, .bool true]) w := by kernel_rfl
set_option maxRecDepth 100000 in
set_option maxHeartbeats 400000 in
theorem num_err (k : Int) (hk : 0 < k) (w : World) : Calls Tryz.prog 11 #[.iface 68 (.int .i64 k)] w fun e w' => e = .returned (.int .i64 k) ∧ w = w' := by
  have hz : (k == 0) = false := by simp; omega
  have hn : (k != 0) = true := by simp; omega
  have hta := assert_errno
  go_enter Tryz.func11, Tryz.ntmps11
  go_wp2_with fail
  go_ret
  exact ⟨rfl, rfl⟩

theorem errv_cases (n : Nat) : (n = 0 ∧ errv n = .nilIface) ∨ ∃ k : Int, 0 < k ∧ k = n ∧ errv n = .iface 68 (.int .i64 k) := by
  cases n with
  | zero => exact .inl ⟨rfl, rfl⟩
  | succ n => exact .inr ⟨((n + 1 : Nat) : Int), by omega, rfl, rfl⟩
theorem num_any (n : Nat) (w : World) : Calls Tryz.prog 11 #[errv n] w fun e w' => e = .returned (.int .i64 (n : Nat)) ∧ w = w' := by
  rcases errv_cases n with ⟨rfl, he⟩ | ⟨k, hk, h0, he⟩
  · rw [he]
    exact num_nil w
  · rw [he]
    rw [← h0]
    exact num_err k hk w

theorem isn_any (n : Nat) (k : Int) (w : World) : Calls Tryz.prog 24 #[errv n, .int .i64 k] w fun e w' => e = .returned (.bool ((n : Int) == k)) ∧ w = w' := by
  have h := num_any n w
  generalize errv n = x at h ⊢
  go_enter Tryz.func24, Tryz.ntmps24
  go_wp2_with fail
  refine h.mono ?_
  rintro e w1 ⟨rfl, rfl⟩
  go_wp2_with fail
  go_ret
  exact ⟨rfl, rfl⟩
end Go.Proofs.YtabnndjdkjkciaaGreatDoor
