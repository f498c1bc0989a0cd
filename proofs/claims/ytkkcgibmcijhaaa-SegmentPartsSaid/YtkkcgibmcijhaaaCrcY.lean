/- WHAT IT HOLDS: the sum's four bytes, Sealed, Opened of package crc, and the document's sums, walked. -/
import Derived.Test.YtkkcgibmcijhaaaConcat
import Derived.BigQuiet
namespace Go.Proofs.Ytkkcgibmcijhaaa
open Go.RowKit

/-- bytes that can be read, whole -/
def ReadsB (w0 : World) (l : List UInt8) (e : Ending) (w' : World) : Prop :=
  ∃ A c m, e = .returned (.slice A (List.length m) c) ∧ Hid (m = l) ∧ SlB w' A c m ∧ Below w0.heap.size w0 w'
theorem four_len (x : W32) : (four x).length = 4 := rfl
theorem four0 (x : W32) : HMod.hMod (α := Int) (β := Int) (HDiv.hDiv (α := Int) (β := Int) (wn x) (16777216 : Int)) (256 : Int) = ((UInt8.ofNat (x.toNat / 16777216)).toNat : Int) := by
  have := x.isLt
  unfold wn; rw [UInt8.toNat_ofNat']; omega
theorem four1 (x : W32) : HMod.hMod (α := Int) (β := Int) (HDiv.hDiv (α := Int) (β := Int) (wn x) (65536 : Int)) (256 : Int) = ((UInt8.ofNat (x.toNat / 65536 % 256)).toNat : Int) := by
  have := x.isLt
  unfold wn; rw [UInt8.toNat_ofNat']; omega
theorem four2 (x : W32) : HMod.hMod (α := Int) (β := Int) (HDiv.hDiv (α := Int) (β := Int) (wn x) (256 : Int)) (256 : Int) = ((UInt8.ofNat (x.toNat / 256 % 256)).toNat : Int) := by
  have := x.isLt
  unfold wn; rw [UInt8.toNat_ofNat']; omega
theorem four3 (x : W32) : HMod.hMod (α := Int) (β := Int) (wn x) (256 : Int) = ((UInt8.ofNat (x.toNat % 256)).toNat : Int) := by
  have := x.isLt
  unfold wn; rw [UInt8.toNat_ofNat']; omega
theorem wn_nonneg (x : W32) : 0 ≤ wn x := by unfold wn; omega
theorem wn_tdiv (x : W32) (k : Int) (_ : 0 ≤ k) : (wn x).tdiv k = wn x / k := Int.tdiv_eq_ediv_of_nonneg (wn_nonneg x)
theorem half_tdiv (x : W32) : (wn x).tdiv 2 = wn (x >>> 1) := by rw [wn_tdiv x 2 (by omega), half_wn]
theorem wn_u32 (x : W32) : HMod.hMod (α := Int) (β := Int) (wn x) (4294967296 : Int) = wn x := by
  have := x.isLt
  unfold wn; omega
theorem tmod2 (x : W32) : (wn x).tmod 2 = ((if x.getLsbD 0 then 1 else 0 : Nat) : Int) := by
  rw [Int.tmod_eq_emod_of_nonneg (wn_nonneg x)]
  have : x.getLsbD 0 = decide (x.toNat % 2 = 1) := by rw [← BitVec.testBit_toNat, Nat.testBit_zero]
  rw [this]
  unfold wn
  by_cases h : x.toNat % 2 = 1
  · simp [h]; omega
  · simp [h]; omega

set_option maxRecDepth 100000 in
set_option maxHeartbeats 1000000 in
theorem four_any (x : W32) (w : World) : Calls Try.prog 151 #[wv x] w (ReadsB w (four x)) := by
  go_enter Try.func151, Try.ntmps151
  go_wp2
  go_ret
  exact ⟨_, 4, four x, rfl, rfl, by rw [four0, four1, four2, four3]; exact Sl.lits w (bvs (four x)) 5 (by simp [four, maxLen]), below_new _ _⟩
set_option maxRecDepth 100000 in
set_option maxHeartbeats 1000000 in
theorem rFour_any (x : W32) (w : World) : Calls Try.prog 146 #[wv x] w (ReadsB w (four x)) := by
  go_enter Try.func146, Try.ntmps146
  go_wp2
  go_ret
  exact ⟨_, 4, four x, rfl, rfl, by rw [wn_tdiv x _ (by omega), wn_tdiv x _ (by omega), wn_tdiv x _ (by omega), four0, four1, four2, four3]; exact Sl.lits w (bvs (four x)) 5 (by simp [four, maxLen]), below_new _ _⟩
set_option maxRecDepth 100000 in
set_option maxHeartbeats 1000000 in
theorem rExtend_any (s : W32) (A : Option Addr) (c : Nat) (l : List UInt8) (w : World) (hs : SlB w A c l) (hl : l.length ≤ 1000000000) :
    Calls Try.prog 153 #[wv s, .slice A l.length c] w fun e w' => e = .returned (wv (extW s l)) ∧ w = w' := by
  have hns : bits .xor .u32 (wn s) 4294967295 = wn (~~~ s) := by
    have := xor_wn s (BitVec.allOnes 32); rw [BitVec.xor_allOnes] at this; exact this
  go_enter Try.func153, Try.ntmps153
  go_wp2
  go_loopw [5, 6] (fun v i wr => ∃ (k : Nat) (y : W32), k ≤ l.length ∧ i = .int .i64 k ∧ v = wv y ∧ Hid (crcS (~~~ s) l = crcS y (l.drop k)) ∧ w = wr) (fun v i w => l.length - (intOf i).toNat)
  case atStart => exact ⟨0, ~~~ s, Nat.zero_le _, rfl, rfl, rfl, rfl⟩
  case round =>
    obtain ⟨k, y, hk, rfl, rfl, hy, rfl⟩ := hrel
    by_cases hlt : k < l.length
    · obtain ⟨ad, rfl, hc⟩ := hs.at1 hlt
      have hx : bits .xor .u32 (wn y) (l[k].toNat : Int) = wn (y ^^^ bw l[k]) := by
        rw [← xor_wn]; unfold wn; rw [bw_toNat]
      have hcd := crcS_drop hlt y
      have hb256 := l[k].toNat_lt
      have HY : Hid (crcS (~~~ s) l = crcS (st8 (y ^^^ bw l[k])) (l.drop (k + 1))) := (show _ = _ from by rw [hy.out, hcd])
      generalize y ^^^ bw l[k] = z at *
      generalize hb : l[k] = b at *
      clear hcd hb
      go_wp2
      go_loopw [5, 7] (fun v i wr => ∃ (j : Nat) (q : W32), j ≤ 8 ∧ i = .int .i64 j ∧ v = wv q ∧ Hid (st8 z = stn (8 - j) q) ∧ w = wr) (fun v i w => 8 - (intOf i).toNat)
      case atStart => exact ⟨0, z, by omega, rfl, rfl, rfl, rfl⟩
      case round =>
        obtain ⟨j, q, hj, rfl, rfl, hq, rfl⟩ := hrel
        by_cases h8 : j < 8
        · have hst : stn (8 - j) q = stn (8 - (j + 1)) (st1 q) := by rw [show 8 - j = (8 - (j + 1)) + 1 from by omega]; rfl
          have e1 := half_tdiv q
          have e3 := wn_u32 (q >>> 1)
          have e2 := tmod2 q
          cases hb : q.getLsbD 0
          · rw [hb] at e2
            simp only [Bool.false_eq_true, if_false] at e2
            have hs : st1 q = q >>> 1 := by unfold st1; rw [hb]; simp
            have HS := Lib.hid hs
            have HT := Lib.hid hst
            clear hs hst hb
            go_wp2
            go_roundw
            case rel => exact ⟨j + 1, q >>> 1, h8, by go_num, by first | rfl | rw [e1, e3], (show st8 z = _ from by rw [hq.out, HT.out, HS.out]), by trivial⟩
            case measure => simp [intOf]; omega
          · rw [hb] at e2
            simp only [if_true] at e2
            have hs : st1 q = (q >>> 1) ^^^ P32 := by unfold st1; rw [hb]; simp
            have e4 := xor_P (q >>> 1)
            have HS := Lib.hid hs
            have HT := Lib.hid hst
            clear hs hst hb
            go_wp2
            go_roundw
            case rel => exact ⟨j + 1, (q >>> 1) ^^^ P32, h8, by go_num, by first | rfl | rw [e1, e3, e4], (show st8 z = _ from by rw [hq.out, HT.out, HS.out]), by trivial⟩
            case measure => simp [intOf]; omega
        · obtain rfl : j = 8 := by omega
          have HZ : Hid (st8 z = q) := (show _ = _ from by rw [hq.out]; rfl)
          go_wp2
          go_roundw
          case rel => exact ⟨k + 1, q, hlt, by go_num, rfl, (show crcS (~~~ s) l = _ from by rw [HY.out, HZ.out]), by trivial⟩
          case measure => simp [intOf]; omega
    · obtain rfl : k = l.length := by omega
      have hfin : crcS (~~~ s) l = y := by rw [hy.out, List.drop_length]; rfl
      have HF := Lib.hid hfin
      clear hfin
      have hn2 : bits .xor .u32 (wn y) 4294967295 = wn (~~~ y) := by
        have := xor_wn y (BitVec.allOnes 32); rw [BitVec.xor_allOnes] at this; exact this
      go_wp2
      go_ret
      exact ⟨by unfold extW; rw [HF.out]; rfl, by trivial⟩
set_option maxRecDepth 100000 in
set_option maxHeartbeats 1000000 in
theorem rSum_any (A : Option Addr) (c : Nat) (l : List UInt8) (w : World) (hs : SlB w A c l) (hl : l.length ≤ 1000000000) :
    Calls Try.prog 147 #[.slice A l.length c] w fun e w' => e = .returned (wv (sumW l)) ∧ w = w' := by
  go_enter Try.func147, Try.ntmps147
  go_wp2_with fail
  refine (rExtend_any 0#32 A c l _ hs hl).mono ?_
  rintro e w1 ⟨rfl, rfl⟩
  go_wp2_with fail
  go_ret
  exact ⟨rfl, rfl⟩
set_option maxRecDepth 100000 in
set_option maxHeartbeats 1000000 in
theorem Equal_any (A : Option Addr) (c : Nat) (l : List UInt8) (A2 : Option Addr) (c2 : Nat) (m : List UInt8) (w : World) (hs : SlB w A c l) (ht : SlB w A2 c2 m) :
    Calls Try.prog 159 #[.slice A l.length c, .slice A2 m.length c2] w fun e w' => e = .returned (.bool (decide (l = m))) ∧ Below w.heap.size w w' := by
  have hmax := hs.len_le
  unfold maxLen at hmax
  by_cases hlen : l.length = m.length
  · go_enter Try.func159, Try.ntmps159
    go_wp2
    go_loopw [13] (fun i wr => ∃ k : Nat, k ≤ l.length ∧ i = .int .i64 k ∧ Hid (l.take k = m.take k) ∧ Below w.heap.size w wr) (fun i w => l.length - (intOf i).toNat)
    case atStart => exact ⟨0, Nat.zero_le _, rfl, rfl, Below.refl _ _⟩
    case round =>
      obtain ⟨k, hk, rfl, hq, hbr⟩ := hrel
      by_cases hlt : k < l.length
      · have hlt2 : k < m.length := by omega
        obtain ⟨ad, rfl, hc⟩ := (hs.below hbr).at1 hlt
        obtain ⟨ad2, rfl, hc2⟩ := (ht.below hbr).at1 hlt2
        have hne : ∀ x y : UInt8, ((x.toNat : Int) != (y.toNat : Int)) = !decide (x = y) := by
          intro x y
          by_cases h : x = y
          · subst h; simp
          · have : x.toNat ≠ y.toNat := fun e => h (UInt8.toNat_inj.1 e)
            simp [h]; omega
        by_cases he : l[k] = m[k]
        · have htk : l.take (k + 1) = m.take (k + 1) := by rw [List.take_succ_eq_append_getElem hlt, List.take_succ_eq_append_getElem hlt2, hq.out, he]
          have HT := Lib.hid htk
          rw [he] at hc
          generalize m[k] = x at *
          clear he htk
          have h2 : ((x.toNat : Int) != (x.toNat : Int)) = false := by simp
          go_wp2
          go_quiet (fail)
          go_wp2
          go_roundw
          case rel => exact ⟨k + 1, hlt, by go_num, HT.out, below_drewN hbr _⟩
          case measure => simp [intOf]; omega
        · have hd : decide (l = m) = false := decide_eq_false (fun e => he (by subst e; rfl))
          have h1 : ((l[k].toNat : Int) != (m[k].toNat : Int)) = true := by rw [hne, decide_eq_false he]; rfl
          have h1' : decide (l[k] = m[k]) = false := decide_eq_false he
          clear hne
          have HD := Lib.hid hd
          generalize m[k] = x at *
          generalize l[k] = y at *
          clear hd he
          go_wp2
          go_quiet (fail)
          go_wp2
          go_ret
          exact ⟨by rw [HD.out]; rfl, below_drewN hbr _⟩
      · have hd : decide (l = m) = true := decide_eq_true (by have := hq.out; rw [List.take_of_length_le (by omega), List.take_of_length_le (by omega)] at this; exact this)
        have HD := Lib.hid hd
        clear hd
        go_wp2
        go_ret
        exact ⟨by rw [HD.out]; rfl, hbr⟩
  · have hd : decide (l = m) = false := decide_eq_false (fun e => hlen (by rw [e]))
    have HD := Lib.hid hd
    have hne : ((l.length : Int) != (m.length : Int)) = true := by simp; omega
    clear hd
    go_enter Try.func159, Try.ntmps159
    go_wp2
    go_ret
    exact ⟨by rw [HD.out]; rfl, Below.refl _ _⟩
end Go.Proofs.Ytkkcgibmcijhaaa
