/- WHAT IT HOLDS: slices.Grow of nothing, slices.Concat, slices.Equal over bytes, walked. | WHAT IT HOLDS: the sum's four bytes, Sealed, Opened of package crc, and the document's sums, walked. | WHAT IT HOLDS: Sealed, Opened of package crc, walked. | WHAT IT HOLDS: frames, plainly (no program). | WHAT IT HOLDS: the law CrcSums, walked. | WHAT IT HOLDS: what the package frame computes, walked. | WHAT IT HOLDS: Put of segments, and the law's fixed fact, walked. -/
import Derived.Test.YtabnndjdkjkciaaGreatDoorCursorKeepsG01
import Derived.Test.YtabnndjdkjkciaaGreatDoorCursorKeepsG14
import Derived.Lib.AppendZeros
import Derived.BigQuiet
import Derived.Test.YtabnndjdkjkciaaGreatDoorCursorKeepsG02
import Derived.Deep.DeepCutAuto
import Derived.Test.YtabnndjdkjkciaaGreatDoorCursorKeepsG04
import Derived.Lib.SlBytesConst
namespace Go.Proofs.YtabnndjdkjkciaaGreatDoor
open Go.RowKit

set_option maxRecDepth 100000 in
set_option maxHeartbeats 1000000 in
theorem Grow_nil (n : Nat) (hn : n ≤ 1000000000) (w : World) : Calls Tryz.prog 174 #[.slice none 0 0, .int .i64 n] w fun e w' => ∃ A c, e = .returned (.slice A 0 c) ∧ OwnB w' w.heap.size 5 A c [] ∧ Below w.heap.size w w' := by
  obtain ⟨i0, hi, hz0, hz1, hz2⟩ := info_parts u8_info
  by_cases h0 : n = 0
  · subst h0
    go_enter Tryz.func174, Tryz.ntmps174
    go_wp2
    go_ret
    exact ⟨none, 0, rfl, Own.none_ _ _ _ _, Below.refl _ _⟩
  · have hcap := grownCap_ge w n 0 5
    have hcm := grownCap_le_maxLen w n 0 5 (by unfold maxLen; omega)
    have hr := fun ty => Lib.run_append_nil_zeros (P := Tryz.prog) w 29 3 ty 5 i0 (.int .u8 0) .i64 .i64 Tryz.underlying29 Tryz.underlying3 hi hz0 n (by omega) (by omega) (by omega) (by rw [hz2]; omega)
    generalize grownCap w n 0 5 = k at *
    have hown := World.ownsRow_made (e := 5) (size := 1) (base := w.heap.size) w.drew (Builtin.zeroCells (Value.int .u8 0).cells n ++ Builtin.zeroCells (Value.int .u8 0).cells (k - n)) k (Nat.le_refl _) hcm (by simp [Builtin.zeroCells, Value.cells]; omega)
    have HO := Lib.hid hown
    have HR := Lib.hid hr
    clear hown hr
    have hmk : ¬ ((k : Int) < 0) := by omega
    unfold maxLen at hcm
    go_enter Tryz.func174, Tryz.ntmps174
    go_wp2_with (at_builtin; go_must (refine Lib.wpList_append_run _ rfl _ _ _ _ rfl _ _ rfl rfl _ _ (HR.out _) ?_))
    go_ret
    exact ⟨_, _, rfl, HO.out, bel_alloc ((Below.refl w.heap.size w).drew) _⟩

theorem partsOf_snoc {ps : List Pt} {k : Nat} (hk : k < ps.length) : partsOf (ps.take (k + 1)) = partsOf (ps.take k) ++ ps[k].2.2 := by
  unfold partsOf
  rw [List.take_succ_eq_append_getElem hk, List.flatMap_append]
  simp
theorem partsOf_le {ps : List Pt} (k : Nat) : (partsOf (ps.take k)).length ≤ (partsOf ps).length := by
  have h := List.take_append_drop k ps
  have : partsOf ps = partsOf (ps.take k) ++ partsOf (ps.drop k) := by unfold partsOf; rw [← List.flatMap_append, h]
  rw [this, List.length_append]; omega

set_option maxRecDepth 100000 in
set_option maxHeartbeats 1000000 in
theorem Concat_any (P : Option Addr) (cp : Nat) (ps : List Pt) (w : World) (hP : Sl w 1 P ps.length cp (ps.map pv)) (hs : ∀ x ∈ ps, SlB w x.1 x.2.1 x.2.2) (hl : (partsOf ps).length ≤ 1000000000) :
    Calls Tryz.prog 121 #[.slice P ps.length cp] w (GivesB w (partsOf ps)) := by
  have hmax := hP.len_le
  unfold maxLen at hmax
  go_enter Tryz.func121, Tryz.ntmps121
  go_wp2
  go_loopw [3, 11] (fun v i wr => ∃ k : Nat, k ≤ ps.length ∧ i = .int .i64 k ∧ v = .int .i64 ((partsOf (ps.take k)).length : Nat) ∧ w = wr) (fun v i w => ps.length - (intOf i).toNat)
  case atStart => exact ⟨0, Nat.zero_le _, rfl, rfl, rfl⟩
  case round =>
    obtain ⟨k, hk, rfl, rfl, rfl⟩ := hrel
    by_cases hlt : k < ps.length
    · obtain ⟨ad, rfl, hc⟩ := hP.at1 hlt
      have hsn := congrArg List.length (partsOf_snoc hlt)
      rw [List.length_append] at hsn
      have hle := partsOf_le (ps := ps) (k + 1)
      have q1 := hs ps[k] (List.getElem_mem hlt)
      rw [hsn] at hle
      generalize hx : ps[k] = x at *
      obtain ⟨xa, xc, xl⟩ := x
      dsimp only at hc hsn hle q1
      have HS := Lib.hid hsn
      clear hsn hs q1
      generalize (partsOf (ps.take k)).length = a at *
      go_wp2
      go_roundw
      case rel => exact ⟨k + 1, hlt, by go_num, by rw [HS.out]; go_num, by trivial⟩
      case measure => simp [intOf]; omega
    · obtain rfl : k = ps.length := by omega
      rw [List.take_length]
      go_wp2_with fail
      refine (Grow_nil (partsOf ps).length hl _).mono ?_
      rintro e w1 ⟨A1, c1, rfl, ho1, hb1⟩
      go_wp2_with fail
      go_loopw [6, 27] (fun v i wr => ∃ (j : Nat) (B : Option Addr) (d : Nat) (m : List UInt8), j ≤ ps.length ∧ i = .int .i64 j ∧ v = .slice B m.length d ∧ Hid (m = partsOf (ps.take j)) ∧ OwnB wr w.heap.size 5 B d m ∧ Below w.heap.size w wr) (fun v i w => ps.length - (intOf i).toNat)
      case atStart => exact ⟨0, A1, c1, [], Nat.zero_le _, rfl, rfl, rfl, ho1, hb1⟩
      case round =>
        obtain ⟨j, B, d, m, hj, rfl, rfl, hm, hor, hbr⟩ := hrel
        by_cases hlt2 : j < ps.length
        · obtain ⟨ad, rfl, hc⟩ := (hP.below hbr).at1 hlt2
          have hsn := partsOf_snoc hlt2
          have hle := partsOf_le (ps := ps) (j + 1)
          have q1 := (hs ps[j] (List.getElem_mem hlt2)).below hbr
          rw [hsn, List.length_append, ← hm.out] at hle
          generalize hx : ps[j] = x at *
          obtain ⟨xa, xc, xl⟩ := x
          dsimp only at hc hsn hle q1
          have HS := Lib.hid hsn
          clear hsn
          go_wp2_with (at_builtin; go_must (refine wpl_bytes 29 5 Tryz.underlying29 u8_info rfl _ _ rfl w.heap.size B d m rfl hor xa xc xl rfl q1 (by omega) hbr.size ?_; intro A2 c2 m2 w2 hm2 ho2 _ _ hb2))
          go_roundw
          case rel => exact ⟨j + 1, A2, c2, m2, hlt2, by go_num, rfl, (show _ = _ from by rw [hm2.out, HS.out, hm.out]), ho2, hbr.trans hb2⟩
          case measure => simp [intOf]; omega
        · go_wp2_with fail
          go_ret
          exact ⟨B, d, m, rfl, (show _ = _ from by rw [hm.out, List.take_of_length_le (by omega)]), hor, hbr⟩
end Go.Proofs.YtabnndjdkjkciaaGreatDoor

namespace Go.Proofs.YtabnndjdkjkciaaGreatDoor
open Go.RowKit

/-- bytes that can be read, whole -/
def ReadsB (w0 : World) (l : List UInt8) (e : Ending) (w' : World) : Prop :=
  ∃ A c m, e = .returned (.slice A (List.length m) c) ∧ Hid (m = l) ∧ SlB w' A c m ∧ Below w0.heap.size w0 w'
theorem four_len (x : W32) : (four x).length = 4 := rfl
theorem four0 (x : W32) : HMod.hMod (α := Int) (β := Int) (HDiv.hDiv (α := Int) (β := Int) (wn x) (16777216 : Int)) (256 : Int) = ((UInt8.ofNat (x.toNat / 16777216)).toNat : Int) := by
  have := x.isLt
  unfold wn; rw [UInt8.toNat_ofNat']; omega
theorem four1 (x : W32) : HMod.hMod (α := Int) (β := Int) (HDiv.hDiv (α := Int) (β := Int) (wn x) (65536 : Int)) (256 : Int) = ((UInt8.ofNat (x.toNat / 65536 % 256)).toNat : Int) := by
  have := x.isLt
  unfold wn; rw [UInt8.toNat_ofNat']; omega
theorem four2 (x : W32) : HMod.hMod (α := Int) (β := Int) (HDiv.hDiv (α := Int) (β := Int) (wn x) (256 : Int)) (256 : Int) = ((UInt8.ofNat (x.toNat / 256 % 256)).toNat : Int) := by
  have := x.isLt
  unfold wn; rw [UInt8.toNat_ofNat']; omega
theorem four3 (x : W32) : HMod.hMod (α := Int) (β := Int) (wn x) (256 : Int) = ((UInt8.ofNat (x.toNat % 256)).toNat : Int) := by
  have := x.isLt
  unfold wn; rw [UInt8.toNat_ofNat']; omega
theorem wn_nonneg (x : W32) : 0 ≤ wn x := by unfold wn; omega
theorem wn_tdiv (x : W32) (k : Int) (_ : 0 ≤ k) : (wn x).tdiv k = wn x / k := Int.tdiv_eq_ediv_of_nonneg (wn_nonneg x)
theorem half_tdiv (x : W32) : (wn x).tdiv 2 = wn (x >>> 1) := by rw [wn_tdiv x 2 (by omega), half_wn]
theorem wn_u32 (x : W32) : HMod.hMod (α := Int) (β := Int) (wn x) (4294967296 : Int) = wn x := by
  have := x.isLt
  unfold wn; omega
theorem tmod2 (x : W32) : (wn x).tmod 2 = ((if x.getLsbD 0 then 1 else 0 : Nat) : Int) := by
  rw [Int.tmod_eq_emod_of_nonneg (wn_nonneg x)]
  have : x.getLsbD 0 = decide (x.toNat % 2 = 1) := by rw [← BitVec.testBit_toNat, Nat.testBit_zero]
  rw [this]
  unfold wn
  by_cases h : x.toNat % 2 = 1
  · simp [h]; omega
  · simp [h]; omega

set_option maxRecDepth 100000 in
set_option maxHeartbeats 1000000 in
theorem four_any (x : W32) (w : World) : Calls Tryz.prog 175 #[wv x] w (ReadsB w (four x)) := by
  go_enter Tryz.func175, Tryz.ntmps175
  go_wp2
  go_ret
  exact ⟨_, 4, four x, rfl, rfl, by rw [four0, four1, four2, four3]; exact Sl.lits w (bvs (four x)) 5 (by simp [four, maxLen]), below_new _ _⟩
set_option maxRecDepth 100000 in
set_option maxHeartbeats 1000000 in
theorem rFour_any (x : W32) (w : World) : Calls Tryz.prog 166 #[wv x] w (ReadsB w (four x)) := by
  go_enter Tryz.func166, Tryz.ntmps166
  go_wp2
  go_ret
  exact ⟨_, 4, four x, rfl, rfl, by rw [wn_tdiv x _ (by omega), wn_tdiv x _ (by omega), wn_tdiv x _ (by omega), four0, four1, four2, four3]; exact Sl.lits w (bvs (four x)) 5 (by simp [four, maxLen]), below_new _ _⟩
set_option maxRecDepth 100000 in
set_option maxHeartbeats 1000000 in
theorem rExtend_any (s : W32) (A : Option Addr) (c : Nat) (l : List UInt8) (w : World) (hs : SlB w A c l) (hl : l.length ≤ 1000000000) :
    Calls Tryz.prog 190 #[wv s, .slice A l.length c] w fun e w' => e = .returned (wv (extW s l)) ∧ w = w' := by
  have hns : bits .xor .u32 (wn s) 4294967295 = wn (~~~ s) := by
    have := xor_wn s (BitVec.allOnes 32); rw [BitVec.xor_allOnes] at this; exact this
  go_enter Tryz.func190, Tryz.ntmps190
  go_wp2
  go_loopw [5, 6] (fun v i wr => ∃ (k : Nat) (y : W32), k ≤ l.length ∧ i = .int .i64 k ∧ v = wv y ∧ Hid (crcS (~~~ s) l = crcS y (l.drop k)) ∧ w = wr) (fun v i w => l.length - (intOf i).toNat)
  case atStart => exact ⟨0, ~~~ s, Nat.zero_le _, rfl, rfl, rfl, rfl⟩
  case round =>
    obtain ⟨k, y, hk, rfl, rfl, hy, rfl⟩ := hrel
    by_cases hlt : k < l.length
    · obtain ⟨ad, rfl, hc⟩ := hs.at1 hlt
      have hx : bits .xor .u32 (wn y) (l[k].toNat : Int) = wn (y ^^^ bw l[k]) := by
        rw [← xor_wn]; unfold wn; rw [bw_toNat]
      have hcd := crcS_drop hlt y
      have hb256 := l[k].toNat_lt
      have HY : Hid (crcS (~~~ s) l = crcS (st8 (y ^^^ bw l[k])) (l.drop (k + 1))) := (show _ = _ from by rw [hy.out, hcd])
      generalize y ^^^ bw l[k] = z at *
      generalize hb : l[k] = b at *
      clear hcd hb
      go_wp2
      go_loopw [5, 7] (fun v i wr => ∃ (j : Nat) (q : W32), j ≤ 8 ∧ i = .int .i64 j ∧ v = wv q ∧ Hid (st8 z = stn (8 - j) q) ∧ w = wr) (fun v i w => 8 - (intOf i).toNat)
      case atStart => exact ⟨0, z, by omega, rfl, rfl, rfl, rfl⟩
      case round =>
        obtain ⟨j, q, hj, rfl, rfl, hq, rfl⟩ := hrel
        by_cases h8 : j < 8
        · have hst : stn (8 - j) q = stn (8 - (j + 1)) (st1 q) := by rw [show 8 - j = (8 - (j + 1)) + 1 from by omega]; rfl
          have e1 := half_tdiv q
          have e3 := wn_u32 (q >>> 1)
          have e2 := tmod2 q
          cases hb : q.getLsbD 0
          · rw [hb] at e2
            simp only [Bool.false_eq_true, if_false] at e2
            have hs : st1 q = q >>> 1 := by unfold st1; rw [hb]; simp
            have HS := Lib.hid hs
            have HT := Lib.hid hst
            clear hs hst hb
            go_wp2
            go_roundw
            case rel => exact ⟨j + 1, q >>> 1, h8, by go_num, by first | rfl | rw [e1, e3], (show st8 z = _ from by rw [hq.out, HT.out, HS.out]), by trivial⟩
            case measure => simp [intOf]; omega
          · rw [hb] at e2
            simp only [if_true] at e2
            have hs : st1 q = (q >>> 1) ^^^ P32 := by unfold st1; rw [hb]; simp
            have e4 := xor_P (q >>> 1)
            have HS := Lib.hid hs
            have HT := Lib.hid hst
            clear hs hst hb
            go_wp2
            go_roundw
            case rel => exact ⟨j + 1, (q >>> 1) ^^^ P32, h8, by go_num, by first | rfl | rw [e1, e3, e4], (show st8 z = _ from by rw [hq.out, HT.out, HS.out]), by trivial⟩
            case measure => simp [intOf]; omega
        · obtain rfl : j = 8 := by omega
          have HZ : Hid (st8 z = q) := (show _ = _ from by rw [hq.out]; rfl)
          go_wp2
          go_roundw
          case rel => exact ⟨k + 1, q, hlt, by go_num, rfl, (show crcS (~~~ s) l = _ from by rw [HY.out, HZ.out]), by trivial⟩
          case measure => simp [intOf]; omega
    · obtain rfl : k = l.length := by omega
      have hfin : crcS (~~~ s) l = y := by rw [hy.out, List.drop_length]; rfl
      have HF := Lib.hid hfin
      clear hfin
      have hn2 : bits .xor .u32 (wn y) 4294967295 = wn (~~~ y) := by
        have := xor_wn y (BitVec.allOnes 32); rw [BitVec.xor_allOnes] at this; exact this
      go_wp2
      go_ret
      exact ⟨by unfold extW; rw [HF.out]; rfl, by trivial⟩
set_option maxRecDepth 100000 in
set_option maxHeartbeats 1000000 in
theorem rSum_any (A : Option Addr) (c : Nat) (l : List UInt8) (w : World) (hs : SlB w A c l) (hl : l.length ≤ 1000000000) :
    Calls Tryz.prog 167 #[.slice A l.length c] w fun e w' => e = .returned (wv (sumW l)) ∧ w = w' := by
  go_enter Tryz.func167, Tryz.ntmps167
  go_wp2_with fail
  refine (rExtend_any 0#32 A c l _ hs hl).mono ?_
  rintro e w1 ⟨rfl, rfl⟩
  go_wp2_with fail
  go_ret
  exact ⟨rfl, rfl⟩
set_option maxRecDepth 100000 in
set_option maxHeartbeats 1000000 in
theorem Equal_any (A : Option Addr) (c : Nat) (l : List UInt8) (A2 : Option Addr) (c2 : Nat) (m : List UInt8) (w : World) (hs : SlB w A c l) (ht : SlB w A2 c2 m) :
    Calls Tryz.prog 194 #[.slice A l.length c, .slice A2 m.length c2] w fun e w' => e = .returned (.bool (decide (l = m))) ∧ Below w.heap.size w w' := by
  have hmax := hs.len_le
  unfold maxLen at hmax
  by_cases hlen : l.length = m.length
  · go_enter Tryz.func194, Tryz.ntmps194
    go_wp2
    go_loopw [13] (fun i wr => ∃ k : Nat, k ≤ l.length ∧ i = .int .i64 k ∧ Hid (l.take k = m.take k) ∧ Below w.heap.size w wr) (fun i w => l.length - (intOf i).toNat)
    case atStart => exact ⟨0, Nat.zero_le _, rfl, rfl, Below.refl _ _⟩
    case round =>
      obtain ⟨k, hk, rfl, hq, hbr⟩ := hrel
      by_cases hlt : k < l.length
      · have hlt2 : k < m.length := by omega
        obtain ⟨ad, rfl, hc⟩ := (hs.below hbr).at1 hlt
        obtain ⟨ad2, rfl, hc2⟩ := (ht.below hbr).at1 hlt2
        have hne : ∀ x y : UInt8, ((x.toNat : Int) != (y.toNat : Int)) = !decide (x = y) := by
          intro x y
          by_cases h : x = y
          · subst h; simp
          · have : x.toNat ≠ y.toNat := fun e => h (UInt8.toNat_inj.1 e)
            simp [h]; omega
        by_cases he : l[k] = m[k]
        · have htk : l.take (k + 1) = m.take (k + 1) := by rw [List.take_succ_eq_append_getElem hlt, List.take_succ_eq_append_getElem hlt2, hq.out, he]
          have HT := Lib.hid htk
          rw [he] at hc
          generalize m[k] = x at *
          clear he htk
          have h2 : ((x.toNat : Int) != (x.toNat : Int)) = false := by simp
          go_wp2
          go_quiet (fail)
          go_wp2
          go_roundw
          case rel => exact ⟨k + 1, hlt, by go_num, HT.out, below_drewN hbr _⟩
          case measure => simp [intOf]; omega
        · have hd : decide (l = m) = false := decide_eq_false (fun e => he (by subst e; rfl))
          have h1 : ((l[k].toNat : Int) != (m[k].toNat : Int)) = true := by rw [hne, decide_eq_false he]; rfl
          have h1' : decide (l[k] = m[k]) = false := decide_eq_false he
          clear hne
          have HD := Lib.hid hd
          generalize m[k] = x at *
          generalize l[k] = y at *
          clear hd he
          go_wp2
          go_quiet (fail)
          go_wp2
          go_ret
          exact ⟨by rw [HD.out]; rfl, below_drewN hbr _⟩
      · have hd : decide (l = m) = true := decide_eq_true (by have := hq.out; rw [List.take_of_length_le (by omega), List.take_of_length_le (by omega)] at this; exact this)
        have HD := Lib.hid hd
        clear hd
        go_wp2
        go_ret
        exact ⟨by rw [HD.out]; rfl, hbr⟩
  · have hd : decide (l = m) = false := decide_eq_false (fun e => hlen (by rw [e]))
    have HD := Lib.hid hd
    have hne : ((l.length : Int) != (m.length : Int)) = true := by simp; omega
    clear hd
    go_enter Tryz.func194, Tryz.ntmps194
    go_wp2
    go_ret
    exact ⟨by rw [HD.out]; rfl, Below.refl _ _⟩
end Go.Proofs.YtabnndjdkjkciaaGreatDoor

namespace Go.Proofs.YtabnndjdkjkciaaGreatDoor
open Go.RowKit
attribute [local go_sem ↓] Go.wp_at_zero Go.wp_at_succ

theorem Mkr.below {w w' : World} {g : Nat} {n : Int} (hM : Mkr w g n) (hb : Below w.heap.size w w') : Mkr w' g n := by
  rcases hM with ⟨cs, hB, r⟩ | ⟨cs, hB, r⟩
  · exact .inl ⟨cs, hB.below hb, r⟩
  · exact .inr ⟨cs, hB.below hb, r⟩
theorem But.of_drew {g : Nat} {a b : World} (h : But g a.drew b) : But g a b := ⟨h.os, h.tape, h.output, h.size, h.block⟩
theorem Mkr.drew {w : World} {g : Nat} {n : Int} (hM : Mkr w g n) : Mkr w.drew g n := hM
theorem But.below {g : Nat} {a w w' : World} (h : But g a w) (hb : Below w.heap.size w w') : But g a w' := h.trans (But.of_below hb (Nat.le_refl _))
/-- the bytes, whole, and the maker asked once more -/
def SealsB (g n : Nat) (w0 : World) (l : List UInt8) (e : Ending) (w' : World) : Prop :=
  ∃ A c m, e = .returned (.slice A (List.length m) c) ∧ Hid (m = l) ∧ OwnB w' w0.heap.size 5 A c m ∧ Mkr w' g ((n + 1 : Nat) : Int) ∧ But g w0 w'

set_option maxRecDepth 100000 in
set_option maxHeartbeats 1000000 in
theorem Sealed_at (g n : Nat) (A : Option Addr) (c : Nat) (l : List UInt8) (w : World) (hM : Mkr w g n) (hn : n < 1000000000) (hs : SlB w A c l) (hA : l ≠ [] → A.map (·.block) ≠ some g) (hl : l.length ≤ 100000000) :
    Calls Tryz.prog 123 #[.pointer (some ⟨g, 0, none⟩), .slice A l.length c] w (SealsB g n w (l ++ four (sumW l))) := by
  go_enter Tryz.func123, Tryz.ntmps123
  go_wp2_with fail
  refine (Sum_at g n A c l _ hM hn hs hA (by omega)).mono ?_
  rintro e w1 ⟨rfl, hM1, hB1⟩
  have hs1 := SlB.but hs hB1 hA
  go_wp2_with fail
  refine (four_any (sumW l) _).mono ?_
  rintro e w2 ⟨A2, c2, f, rfl, hf, hs2, hb2⟩
  have hfl := Lib.hid (show f.length = 4 from by rw [hf.out, four_len])
  have hs3 := hs1.below hb2
  have hbn := below_new w2 (.cells #[.slice A l.length c, .slice A2 f.length c2] 29)
  go_wp2_with fail
  refine (Concat_any (some ⟨w2.heap.size, 0, none⟩) 2 [(A, c, l), (A2, c2, f)] _ (Sl.lits w2 [pv (A, c, l), pv (A2, c2, f)] 29 (by simp [maxLen])) ?_ ?_).mono ?_
  · intro q hq
    simp only [List.mem_cons, List.not_mem_nil, or_false] at hq
    rcases hq with rfl | rfl
    · exact hs3.below hbn
    · exact hs2.below hbn
  · have := hfl.out; simp [partsOf]; omega
  rintro e w3 ⟨A3, c3, m3, rfl, hm3, ho3, hb3⟩
  go_wp2_with fail
  go_ret
  refine ⟨A3, c3, m3, rfl, (show _ = _ from by rw [hm3.out, ← hf.out]; simp [partsOf]), ho3.more ?_, ?_, (hB1.below hb2).trans (But.of_below (hbn.trans (hb3.mono hbn.size)) (Nat.le_refl _))⟩
  · exact Nat.le_trans hB1.size (Nat.le_trans hb2.size hbn.size)
  · exact ((hM1.below hb2).below hbn).below hb3

def opened (l : List UInt8) : List UInt8 × Nat := if l.length < 4 then ([], 2) else if four (sumW (l.take (l.length - 4))) = l.drop (l.length - 4) then (l.take (l.length - 4), 0) else ([], 11)
/-- what Opened answers -/
def OpensB (g n : Nat) (w0 : World) (o : List UInt8 × Nat) (e : Ending) (w' : World) : Prop :=
  ∃ A c m, e = .returned (.tuple #[.slice A (List.length m) c, errv o.2]) ∧ Hid (m = o.1) ∧ OwnB w' w0.heap.size 5 A c m ∧ Mkr w' g ((n + 1 : Nat) : Int) ∧ But g w0 w'

set_option maxRecDepth 100000 in
set_option maxHeartbeats 1000000 in
theorem Opened_at (g n : Nat) (A : Option Addr) (c : Nat) (l : List UInt8) (w : World) (hM : Mkr w g n) (hn : n < 1000000000) (hs : SlB w A c l) (hA : l ≠ [] → A.map (·.block) ≠ some g) (hl : l.length ≤ 100000000) :
    Calls Tryz.prog 177 #[.pointer (some ⟨g, 0, none⟩), .slice A l.length c] w (OpensB g n w (opened l)) := by
  have hc1 := hs.2.1
  have hc2 := hs.2.2.1
  unfold maxLen at hc2
  by_cases h4 : l.length < 4
  · have ho := Lib.hid (show opened l = ([], 2) from by unfold opened; rw [if_pos h4])
    go_enter Tryz.func177, Tryz.ntmps177
    go_wp2_with fail
    refine (ask_at g n _ hM hn).mono ?_
    rintro e w1 ⟨rfl, hM1, hB1⟩
    go_wp2_with fail
    go_ret2
    exact ⟨none, 0, [], by rw [ho.out]; rfl, by rw [ho.out]; rfl, Own.none_ _ _ _ _, hM1, hB1⟩
  · obtain ⟨k, hk⟩ : ∃ k, k = l.length - 4 := ⟨_, rfl⟩
    have hki : (l.length : Int) - 4 = (k : Int) := by omega
    have hkn : ¬ ((k : Int) < 0) := by omega
    have hck : ¬ (c = k) := by omega
    have hkc : k ≤ c := by omega
    have hkl : k ≤ l.length := by omega
    have hm := Lib.hid (show opened l = if four (sumW (l.take k)) = l.drop k then (l.take k, 0) else ([], 11) from by unfold opened; rw [if_neg h4, hk])
    have hT := Sl.takeB hs k
    have hD := Sl.cutB hs hkl
    rw [if_neg hck] at hD
    have htl : (l.take k).length = k := by simp; omega
    have hdl' : (l.drop k).length = l.length - k := by simp
    have hdl : (l.drop k).length = 4 := by simp; omega
    clear hk
    have hAk : l.take k ≠ [] → A.map (·.block) ≠ some g := fun h => hA (fun e => h (by rw [e]; simp))
    have hAd : l.drop k ≠ [] → (Option.map (fun x => x.add k) A).map (·.block) ≠ some g := by
      intro h
      have := hA (fun e => h (by rw [e]; simp))
      cases A with
      | none => simp
      | some a => simpa [addr_add_block] using this
    rw [← hdl'] at hD
    generalize hl1 : l.take k = l1 at *
    generalize hl2 : l.drop k = l2 at *
    clear hl1 hl2
    subst htl
    have hsub : l.length - l1.length = l2.length := hdl'.symm
    have hd4 := Lib.hid hdl
    clear hdl hdl'
    go_enter Tryz.func177, Tryz.ntmps177
    go_wp2_with fail
    go_cut [25] (fun s25 wx => s25 = .bool (!decide (four (sumW l1) = l2)) ∧ Mkr wx g ((n + 1 : Nat) : Int) ∧ But g w wx)
    case first =>
      refine wp_region_held_drew (S := (fun _ => True)) (by kernel_rfl) ?_ (fun hHeld => ?_)
      · first | done | trivial
      refine wpAnyH_take (i := 0) (oi := ⟨some 15, _, _, _, _, _⟩) (v := ?_) rfl (by kernel_rfl) (by kernel_rfl) (by kernel_rfl) (fun _ _ _ h => h) (Or.inl ⟨by kernel_rfl, ?_⟩) (by assumption) ?_
      rotate_left
      · (intro wS hSw; (try dsimp only at hSw); go_simp; (try with_reducible rfl))
      (try simp only [Act.put, List.setIfInBounds_toArray, List.set_cons_zero, List.set_cons_succ])
      refine wpAnyH_take (i := 1) (oi := ⟨some 16, _, _, _, _, _⟩) (v := ?_) rfl (by kernel_rfl) (by kernel_rfl) (by kernel_rfl) (fun _ _ _ h => h) (Or.inl ⟨by kernel_rfl, ?_⟩) (by assumption) ?_
      rotate_left
      · (intro wS hSw; (try dsimp only at hSw); go_simp; (try with_reducible rfl))
      (try simp only [Act.put, List.setIfInBounds_toArray, List.set_cons_zero, List.set_cons_succ])
      refine wpAnyH_take (i := 2) (oi := ⟨some 17, _, _, _, _, _⟩) (v := ?_) rfl (by kernel_rfl) (by kernel_rfl) (by kernel_rfl) (fun _ _ _ h => h) (Or.inl ⟨by kernel_rfl, ?_⟩) (by assumption) ?_
      rotate_left
      · (intro wS hSw; (try dsimp only at hSw); go_simp; (try with_reducible rfl))
      (try simp only [Act.put, List.setIfInBounds_toArray, List.set_cons_zero, List.set_cons_succ])
      refine wpAnyH_take (i := 3) (oi := ⟨some 18, _, _, _, _, _⟩) (v := ?_) rfl (by kernel_rfl) (by kernel_rfl) (by kernel_rfl) (fun _ _ _ h => h) (Or.inl ⟨by kernel_rfl, ?_⟩) (by assumption) ?_
      rotate_left
      · (intro wS hSw; (try dsimp only at hSw); go_simp; (try with_reducible rfl))
      (try simp only [Act.put, List.setIfInBounds_toArray, List.set_cons_zero, List.set_cons_succ])
      refine wpAnyH_take (i := 6) (oi := ⟨some 21, _, _, _, _, _⟩) (v := ?_) rfl (by kernel_rfl) (by kernel_rfl) (by kernel_rfl) (fun _ _ _ h => h) (Or.inl ⟨by kernel_rfl, ?_⟩) (by assumption) ?_
      rotate_left
      · (intro wS hSw; (try dsimp only at hSw); go_simp; (try with_reducible rfl))
      (try simp only [Act.put, List.setIfInBounds_toArray, List.set_cons_zero, List.set_cons_succ])
      refine wpAnyH_take (i := 7) (oi := ⟨some 22, _, _, _, _, _⟩) (v := ?_) rfl (by kernel_rfl) (by kernel_rfl) (by kernel_rfl) (fun _ _ _ h => h) (Or.inl ⟨by kernel_rfl, ?_⟩) (by assumption) ?_
      rotate_left
      · (intro wS hSw; (try dsimp only at hSw); go_simp; (try with_reducible rfl))
      (try simp only [Act.put, List.setIfInBounds_toArray, List.set_cons_zero, List.set_cons_succ])
      refine wpAnyH_take (i := 8) (oi := ⟨some 23, _, _, _, _, _⟩) (v := ?_) rfl (by kernel_rfl) (by kernel_rfl) (by kernel_rfl) (fun _ _ _ h => h) (Or.inl ⟨by kernel_rfl, ?_⟩) (by assumption) ?_
      rotate_left
      · (intro wS hSw; (try dsimp only at hSw); go_simp; (try with_reducible rfl))
      (try simp only [Act.put, List.setIfInBounds_toArray, List.set_cons_zero, List.set_cons_succ])
      refine wpAnyH_ready (rs := [4]) (by kernel_rfl) (by simp) ?_
      refine AllReadyH.cons (o := ⟨some 19, _, _, _, _, _⟩) rfl (fun K hK => ?_) AllReadyH.nil
      go_simp
      (refine (Sum_at g n A c l1 _ hM.drew hn hT hAk (by omega)).mono ?_; rintro e w2 ⟨rfl, hM2, hB2⟩; replace hB2 := But.of_drew hB2)
      go_wp2_with fail
      refine hK.out _ _ ?_ (fun hHeld => ?_)
      · ((try dsimp only); (first | done | trivial))
      clear hK K
      (try simp only [Act.put, List.setIfInBounds_toArray, List.set_cons_zero, List.set_cons_succ])
      refine wpAnyH_ready (rs := [5]) (by kernel_rfl) (by simp) ?_
      refine AllReadyH.cons (o := ⟨some 20, _, _, _, _, _⟩) rfl (fun K hK => ?_) AllReadyH.nil
      go_simp
      (refine (four_any (sumW l1) _).mono ?_; rintro e w3 ⟨A3, c3, f, rfl, hf, hs3, hb3⟩)
      go_wp2_with fail
      refine hK.out _ _ ?_ (fun hHeld => ?_)
      · ((try dsimp only); (first | done | trivial))
      clear hK K
      (try simp only [Act.put, List.setIfInBounds_toArray, List.set_cons_zero, List.set_cons_succ])
      refine wpAnyH_ready (rs := [9]) (by kernel_rfl) (by simp) ?_
      refine AllReadyH.cons (o := ⟨some 24, _, _, _, _, _⟩) rfl (fun K hK => ?_) AllReadyH.nil
      go_simp
      (with_reducible refine (Equal_any A3 c3 f (Option.map (fun x => x.add l1.length) A) (c - l1.length) l2 _ hs3 ((SlB.but hD hB2 hAd).below hb3)).mono ?_; rintro e w4 ⟨rfl, hb4⟩)
      go_wp2_with fail
      refine hK.out _ _ ?_ (fun hHeld => ?_)
      · ((try dsimp only); (first | done | trivial))
      clear hK K
      (try simp only [Act.put, List.setIfInBounds_toArray, List.set_cons_zero, List.set_cons_succ])
      refine wpAnyH_take (i := 10) (oi := ⟨some 25, _, _, _, _, _⟩) (v := ?_) rfl (by kernel_rfl) (by kernel_rfl) (by kernel_rfl) (fun _ _ _ h => h) (Or.inl ⟨by kernel_rfl, ?_⟩) (by assumption) ?_
      rotate_left
      · (intro wS hSw; (try dsimp only at hSw); go_simp; (try with_reducible rfl))
      (try simp only [Act.put, List.setIfInBounds_toArray, List.set_cons_zero, List.set_cons_succ])
      refine wpAnyH_done (by kernel_rfl) ?_ _
      go_wp2_with fail
      go_meet
      exact ⟨by rw [hf.out], (hM2.below hb3).below hb4, (hB2.below hb3).below hb4⟩
    case rest =>
      obtain ⟨rfl, hM2, hB2⟩ := hcut
      by_cases he : four (sumW l1) = l2
      · have hm2 := Lib.hid (show opened l = (l1, 0) from by rw [hm.out, if_pos he])
        have hd : decide (four (sumW l1) = l2) = true := decide_eq_true he
        rw [hd]
        clear he hd hm
        have hT2 := SlB.but hT hB2 hAk
        go_wp2_with fail
        refine (clone_any A c l1 _ (by omega) hT2).mono ?_
        rintro e w5 ⟨A5, c5, m5, rfl, hm5, ho5, hb5⟩
        go_wp2_with fail
        go_ret2
        exact ⟨A5, c5, m5, by rw [hm2.out]; rfl, by rw [hm2.out]; exact hm5, ho5.more hB2.size, hM2.below hb5, hB2.below hb5⟩
      · have hm2 := Lib.hid (show opened l = ([], 11) from by rw [hm.out, if_neg he])
        have hd : decide (four (sumW l1) = l2) = false := decide_eq_false he
        rw [hd]
        clear he hd hm
        go_wp2_with fail
        go_ret2
        exact ⟨none, 0, [], by rw [hm2.out]; rfl, by rw [hm2.out]; rfl, Own.none_ _ _ _ _, hM2, hB2⟩
end Go.Proofs.YtabnndjdkjkciaaGreatDoor

namespace Go.Proofs.YtabnndjdkjkciaaGreatDoor
open Go.RowKit

def txb (t : List UInt8) : List UInt8 := vb t.length ++ t
/-- a text's frame -/
def frm (t : List UInt8) : List UInt8 := txb t ++ four (sumW (txb t))
/-- the text, the frame's bytes, an error's number, of the frame that bytes begin with -/
def ftake (l : List UInt8) : List UInt8 × Nat × Nat :=
  match take l with
  | none => ([], 0, 2)
  | some (n, h) => if 65536 < n then ([], 0, 3) else if l.length < h + n + 4 then ([], 0, 2)
    else if four (sumW (l.take (h + n))) = (l.drop (h + n)).take 4 then ((l.take (h + n)).drop h, h + n + 4, 0) else ([], 0, 11)
theorem frm_len (t : List UInt8) : (frm t).length = (vb t.length).length + t.length + 4 := by
  unfold frm txb; simp [four_len]; omega
theorem opened_take {l : List UInt8} {k : Nat} (h : k + 4 ≤ l.length) : opened (l.take (k + 4)) = if four (sumW (l.take k)) = (l.drop k).take 4 then (l.take k, 0) else ([], 11) := by
  have h1 : (l.take (k + 4)).length = k + 4 := by simp; omega
  unfold opened
  rw [if_neg (by omega), h1, Nat.add_sub_cancel, List.take_take, Nat.min_eq_left (by omega), List.drop_take]
  simp
theorem ftake_frm (t l : List UInt8) (h : t.length ≤ 65536) : ftake (frm t ++ l) = (t, (frm t).length, 0) := by
  have hv : take (frm t ++ l) = some (t.length, (vb t.length).length) := by
    unfold frm txb
    rw [List.append_assoc, List.append_assoc]
    exact take_vb (by unfold U64; omega) _
  have e1 : (frm t ++ l).take ((vb t.length).length + t.length) = txb t := by
    unfold frm
    rw [List.append_assoc, List.take_left' (by unfold txb; simp)]
  have e2 : ((frm t ++ l).drop ((vb t.length).length + t.length)).take 4 = four (sumW (txb t)) := by
    unfold frm
    rw [List.append_assoc, List.drop_left' (by unfold txb; simp), List.take_left' (four_len _)]
  have e3 : (txb t).drop (vb t.length).length = t := by unfold txb; rw [List.drop_left]
  unfold ftake
  rw [hv]
  dsimp only
  rw [if_neg (by omega), if_neg (by rw [List.length_append, frm_len]; omega), e1, e2, if_pos rfl, e3, frm_len]
end Go.Proofs.YtabnndjdkjkciaaGreatDoor

namespace Go.Proofs.YtabnndjdkjkciaaGreatDoor
open Go.RowKit
attribute [local go_sem ↓] Go.wp_at_zero Go.wp_at_succ

theorem Own.ne {W : World} {base g n c size : Nat} {e : TypeId} {A : Option Addr} {xs : List Value} (h : Own W base e size A n c xs) (hg : g < base) : A.map (·.block) ≠ some g := by
  intro hA
  have := h.lt g hA
  omega
theorem Opened_len (g n : Nat) (A : Option Addr) (c k : Nat) (l : List UInt8) (w : World) (hk : k = l.length) (hM : Mkr w g n) (hn : n < 1000000000) (hs : SlB w A c l) (hA : l ≠ [] → A.map (·.block) ≠ some g) (hl : l.length ≤ 100000000) :
    Calls Tryz.prog 177 #[.pointer (some ⟨g, 0, none⟩), .slice A k c] w (OpensB g n w (opened l)) := by
  subst hk; exact Opened_at g n A c l w hM hn hs hA hl
end Go.Proofs.YtabnndjdkjkciaaGreatDoor

namespace Go.Proofs.YtabnndjdkjkciaaGreatDoor
open Go.RowKit
attribute [local go_sem ↓] Go.wp_at_zero Go.wp_at_succ

/-- what Put answers -/
def PutsB (w0 : World) (o : List UInt8 × Nat) (e : Ending) (w' : World) : Prop :=
  ∃ A c m, e = .returned (.tuple #[.slice A (List.length m) c, errv o.2]) ∧ Hid (m = o.1) ∧ OwnB w' w0.heap.size 5 A c m ∧ Below w0.heap.size w0 w'
def fput (l t : List UInt8) : List UInt8 × Nat := if 65536 < t.length then ([], 3) else (l ++ frm t, 0)

set_option maxRecDepth 100000 in
set_option maxHeartbeats 1000000 in
theorem FPut_any (A : Option Addr) (c : Nat) (l : List UInt8) (B : Option Addr) (d : Nat) (t : List UInt8) (w : World) (hl : l.length ≤ 10000000) (hs : SlB w A c l) (ht : SlB w B d t) (htl : t.length ≤ 10000000) :
    Calls Tryz.prog 52 #[.slice A l.length c, .slice B t.length d] w (PutsB w (fput l t)) := by
  by_cases h : 65536 < t.length
  · have ho := Lib.hid (show fput l t = ([], 3) from by unfold fput; rw [if_pos h])
    have hi : (65536 : Int) < (t.length : Int) := by omega
    go_enter Tryz.func52, Tryz.ntmps52
    go_wp2_with fail
    go_ret2
    exact ⟨none, 0, [], by rw [ho.out]; rfl, by rw [ho.out]; rfl, Own.none_ _ _ _ _, Below.refl _ _⟩
  · have ho := Lib.hid (show fput l t = (l ++ frm t, 0) from by unfold fput; rw [if_neg h])
    have hi : ¬ (65536 : Int) < (t.length : Int) := by omega
    have hvl := Lib.hid (vb_le10 (n := t.length) (by omega))
    go_enter Tryz.func52, Tryz.ntmps52
    go_wp2_with fail
    refine (CrcNew_any _).mono ?_
    rintro e w1 ⟨rfl, hM1, hb1⟩
    go_wp2_with fail
    refine (PutText_any none 0 [] B d t w1 (by simp) (Sl.none_ w1 1) (ht.below hb1) htl).mono ?_
    rintro e w2 ⟨A2, c2, m2, rfl, hm2, ho2, hb2⟩
    have hm2' := Lib.hid (show m2 = txb t from hm2.out)
    have hml2 := Lib.hid (show m2.length ≤ 10000010 from by rw [hm2'.out]; unfold txb; rw [List.length_append]; have := hvl.out; omega)
    have hw2 := bel_call hb1 hb2
    go_wp2_with fail
    have hM2 : Mkr w2 w.heap.size ((0 : Nat) : Int) := Mkr.below (.inl hM1) hb2
    have hn2 : m2 ≠ [] → A2.map (·.block) ≠ some w.heap.size := fun _ => Own.ne ho2 hM1.lt
    have hl2 : m2.length ≤ 100000000 := by have := hml2.out; omega
    have hq := Sealed_at w.heap.size 0 A2 c2 m2 w2 hM2 (by omega) ho2.sl hn2 hl2
    with_reducible refine hq.mono ?_
    rintro e w3 ⟨A3, c3, m3, rfl, hm3, ho3, hM3, hB3⟩
    have hm3' := Lib.hid (show m3 = frm t from by rw [hm3.out, hm2'.out]; rfl)
    have hml3 := Lib.hid (show m3.length ≤ 10000014 from by rw [hm3.out, List.length_append, four_len]; have := hml2.out; omega)
    have hw3 := below_of_but hB3 hw2 (Nat.le_refl _)
    have hbn := below_new w3 (.cells #[.slice A l.length c, .slice A3 m3.length c3] 29)
    go_wp2_with fail
    refine (Concat_any (some ⟨w3.heap.size, 0, none⟩) 2 [(A, c, l), (A3, c3, m3)] _ (Sl.lits w3 [pv (A, c, l), pv (A3, c3, m3)] 29 (by simp [maxLen])) ?_ ?_).mono ?_
    · intro q hq
      simp only [List.mem_cons, List.not_mem_nil, or_false] at hq
      rcases hq with rfl | rfl
      · exact (hs.below hw3).below hbn
      · exact ho3.sl.below hbn
    · have := hml3.out; simp [partsOf]; omega
    rintro e w4 ⟨A4, c4, m4, rfl, hm4, ho4, hb4⟩
    go_wp2_with fail
    go_ret2
    refine ⟨A4, c4, m4, by rw [ho.out]; rfl, by rw [ho.out]; show m4 = _; rw [hm4.out, hm3'.out]; simp [partsOf], ho4.more ?_, bel_call (bel_call hw3 hbn) hb4⟩
    exact Nat.le_trans hw3.size hbn.size

/-- bytes, in a block of the call's own, from some place on -/
def OwnO (w : World) (base : Nat) (A : Option Addr) (c : Nat) (m : List UInt8) : Prop :=
  SlB w A c m ∧ (m ≠ [] → ∃ (g off : Nat) (cur : Array Value), A = some ⟨g, off, none⟩ ∧ base ≤ g ∧ w.heap[g]? = some (.cells cur 5 (0, 0)))
/-- what Take answers -/
def TakesF (w0 : World) (o : List UInt8 × Nat × Nat) (e : Ending) (w' : World) : Prop :=
  ∃ A c m, e = .returned (.tuple #[.slice A (List.length m) c, .int .i64 (o.2.1 : Nat), errv o.2.2]) ∧ Hid (m = o.1) ∧ OwnO w' w0.heap.size A c m ∧ Below w0.heap.size w0 w'
theorem OwnO.nil (w : World) (base : Nat) : OwnO w base none 0 [] := ⟨Sl.none_ _ _, fun h => absurd rfl h⟩
theorem OwnO.cut {w : World} {base : Nat} {E : Option Addr} {f k : Nat} {m : List UInt8} (ho : OwnB w base 5 E f m) (hk : k ≤ m.length) : OwnO w base (if f = k then E else E.map (·.add k)) (f - k) (m.drop k) := by
  have hc := Sl.cutB ho.sl hk
  rw [show m.length - k = (m.drop k).length from by simp] at hc
  refine ⟨hc, fun hne => ?_⟩
  have hkl : k < m.length := by
    rcases Nat.lt_or_ge k m.length with h | h
    · exact h
    · exact absurd (List.drop_eq_nil_of_le h) hne
  have hf := ho.sl.2.1
  rw [if_neg (by omega)]
  rcases ho.2 with ⟨_, h0⟩ | ⟨g, cap, cur, hv, hb, hh, _⟩
  · omega
  · injection hv with hE _ _
    subst hE
    exact ⟨g, k, cur, by simp [addr_lit], hb, hh⟩
theorem ftake_none {l : List UInt8} (h : take l = none) : ftake l = ([], 0, 2) := by unfold ftake; rw [h]
theorem ftake_long {l : List UInt8} {n k : Nat} (h : take l = some (n, k)) (hn : 65536 < n) : ftake l = ([], 0, 3) := by unfold ftake; rw [h]; dsimp only; rw [if_pos hn]
theorem ftake_short {l : List UInt8} {n k : Nat} (h : take l = some (n, k)) (hn : ¬ 65536 < n) (hs : l.length < k + n + 4) : ftake l = ([], 0, 2) := by unfold ftake; rw [h]; dsimp only; rw [if_neg hn, if_pos hs]
theorem ftake_some {l : List UInt8} {n k : Nat} (h : take l = some (n, k)) (hn : ¬ 65536 < n) (hs : ¬ l.length < k + n + 4) : ftake l = (if (opened (l.take (k + n + 4))).2 = 0 then ((opened (l.take (k + n + 4))).1.drop k, k + n + 4, 0) else ([], 0, 11)) ∧ ((opened (l.take (k + n + 4))).2 = 0 ∨ (opened (l.take (k + n + 4))).2 = 11) ∧ ((opened (l.take (k + n + 4))).2 = 0 → (opened (l.take (k + n + 4))).1.length = k + n) := by
  unfold ftake; rw [h]; dsimp only; rw [if_neg hn, if_neg hs, opened_take (by omega)]
  by_cases he : four (sumW (l.take (k + n))) = (l.drop (k + n)).take 4
  · rw [if_pos he, if_pos he, if_pos rfl]
    exact ⟨rfl, .inl rfl, fun _ => by simp; omega⟩
  · rw [if_neg he, if_neg he, if_neg (by simp)]
    exact ⟨rfl, .inr rfl, fun h => by simp at h⟩

set_option maxRecDepth 100000 in
set_option maxHeartbeats 2000000 in
theorem FTake_any (A : Option Addr) (c : Nat) (l : List UInt8) (w : World) (hs : SlB w A c l) (hl : l.length ≤ 10000000) :
    Calls Tryz.prog 125 #[.slice A l.length c] w (TakesF w (ftake l)) := by
  have hc1 := hs.2.1
  go_enter Tryz.func125, Tryz.ntmps125
  go_wp2_with fail
  refine (Take_any A c l _ hs).mono ?_
  rintro e w1 ⟨rfl, ⟨ht, rfl⟩ | ⟨n, k, ht, rfl⟩⟩
  · have hf := Lib.hid (ftake_none ht)
    clear ht
    go_wp2_with fail
    go_ret3
    exact ⟨none, 0, [], by rw [hf.out]; rfl, by rw [hf.out]; rfl, OwnO.nil _ _, Below.refl _ _⟩
  · obtain ⟨hu, hkl, _⟩ := take_some ht
    by_cases hn : 65536 < n
    · have hf := Lib.hid (ftake_long ht hn)
      have hni : (65536 : Int) < (n : Int) := by omega
      clear ht
      go_wp2_with fail
      go_ret3
      exact ⟨none, 0, [], by rw [hf.out]; rfl, by rw [hf.out]; rfl, OwnO.nil _ _, Below.refl _ _⟩
    · have hni : ¬ (65536 : Int) < (n : Int) := by omega
      have hw1 : IntKind.u64.wrap ((l.length : Int) - (k : Int)) = ((l.length - k : Nat) : Int) := by rw [IntKind.wrap_u64]; omega
      have hw2 : IntKind.u64.wrap ((n : Int) + 4) = ((n + 4 : Nat) : Int) := by rw [IntKind.wrap_u64]; omega
      by_cases hsh : l.length < k + n + 4
      · have hf := Lib.hid (ftake_short ht hn hsh)
        clear ht
        go_wp2_with fail
        go_ret3
        exact ⟨none, 0, [], by rw [hf.out]; rfl, by rw [hf.out]; rfl, OwnO.nil _ _, Below.refl _ _⟩
      · obtain ⟨hf, hor, hlen⟩ := ftake_some ht hn hsh
        have HF := Lib.hid hf
        have HL := Lib.hid hlen
        have hsi : ¬ (((l.length - k : Nat) : Int) < (n : Int) + 4) := by omega
        obtain ⟨q, hq⟩ : ∃ q, q = k + n + 4 := ⟨_, rfl⟩
        have hqi : (k : Int) + (n : Int) + 4 = (q : Int) := by omega
        have hqc : q ≤ c := by omega
        have hql : q ≤ l.length := by omega
        have hw64 : wrap64 (n : Int) = (n : Int) := by simp only [wrap64]; omega
        rw [← hq] at HF HL hor
        have HQ := Lib.hid hq
        have hT := Sl.takeB hs q
        have htl : (l.take q).length = q := by simp; omega
        clear ht hf hlen hq hw2
        generalize hl1 : l.take q = l1 at *
        clear hl1
        have HTL := Lib.hid htl
        clear htl
        have hT1 : SlB w.drew A c l1 := hT
        go_wp2_with fail
        go_cut [7, 4] (fun s7 s4 wx => ∃ (E : Option Addr) (f : Nat) (m : List UInt8), s7 = .slice E m.length f ∧ s4 = errv (opened l1).2 ∧ Hid (m = (opened l1).1) ∧ OwnB wx w.heap.size 5 E f m ∧ Below w.heap.size w wx)
        case first =>
          refine wp_region_held_drew (S := (fun _ => True)) (by kernel_rfl) ?_ (fun hHeld => ?_)
          · first | done | trivial
          refine wpAnyH_take (i := 1) (oi := ⟨some 39, _, _, _, _, _⟩) (v := ?_) rfl (by kernel_rfl) (by kernel_rfl) (by kernel_rfl) (fun _ _ _ h => h) (Or.inl ⟨by kernel_rfl, ?_⟩) (by assumption) ?_
          rotate_left
          · (intro wS hSw; (try dsimp only at hSw); go_simp; (try with_reducible rfl))
          (try simp only [Act.put, List.setIfInBounds_toArray, List.set_cons_zero, List.set_cons_succ])
          refine wpAnyH_take (i := 2) (oi := ⟨some 40, _, _, _, _, _⟩) (v := ?_) rfl (by kernel_rfl) (by kernel_rfl) (by kernel_rfl) (fun _ _ _ h => h) (Or.inl ⟨by kernel_rfl, ?_⟩) (by assumption) ?_
          rotate_left
          · (intro wS hSw; (try dsimp only at hSw); go_simp; (try with_reducible rfl))
          (try simp only [Act.put, List.setIfInBounds_toArray, List.set_cons_zero, List.set_cons_succ])
          refine wpAnyH_take (i := 3) (oi := ⟨some 41, _, _, _, _, _⟩) (v := ?_) rfl (by kernel_rfl) (by kernel_rfl) (by kernel_rfl) (fun _ _ _ h => h) (Or.inl ⟨by kernel_rfl, ?_⟩) (by assumption) ?_
          rotate_left
          · (intro wS hSw; (try dsimp only at hSw); go_simp; (try with_reducible rfl))
          (try simp only [Act.put, List.setIfInBounds_toArray, List.set_cons_zero, List.set_cons_succ])
          refine wpAnyH_ready (rs := [0]) (by kernel_rfl) (by simp) ?_
          refine AllReadyH.cons (o := ⟨some 38, _, _, _, _, _⟩) rfl (fun K hK => ?_) AllReadyH.nil
          go_simp
          (refine (CrcNew_any _).mono ?_; rintro e w9 ⟨rfl, hM9, hb9⟩; have hM9' : Mkr w9 w.heap.size ((0 : Nat) : Int) := .inl hM9; have hT9 : SlB w9 A c l1 := hT1.below hb9; have hn9 : l1 ≠ [] → A.map (·.block) ≠ some w.heap.size := SlB.old hT1 (Nat.le_refl _))
          go_wp2_with fail
          refine hK.out _ _ ?_ (fun hHeld => ?_)
          · ((try dsimp only); (first | done | trivial))
          clear hK K
          (try simp only [Act.put, List.setIfInBounds_toArray, List.set_cons_zero, List.set_cons_succ])
          refine wpAnyH_ready (rs := [4]) (by kernel_rfl) (by simp) ?_
          refine AllReadyH.cons (o := ⟨some 42, _, _, _, _, _⟩) rfl (fun K hK => ?_) AllReadyH.nil
          go_simp
          ((with_reducible refine (Opened_len w.heap.size 0 A c q l1 w9 HTL.out.symm hM9' (by omega) hT9 hn9 (by rw [HTL.out]; omega)).mono ?_); rintro e w10 ⟨A10, c10, m10, rfl, hm10, ho10, hM10, hB10⟩)
          go_wp2_with fail
          refine hK.out _ _ ?_ (fun hHeld => ?_)
          · ((try dsimp only); (first | done | trivial))
          clear hK K
          (try simp only [Act.put, List.setIfInBounds_toArray, List.set_cons_zero, List.set_cons_succ])
          refine wpAnyH_take (i := 5) (oi := ⟨some 37, _, _, _, _, _⟩) (v := ?_) rfl (by kernel_rfl) (by kernel_rfl) (by kernel_rfl) (fun _ _ _ h => h) (Or.inl ⟨by kernel_rfl, ?_⟩) (by assumption) ?_
          rotate_left
          · (intro wS hSw; (try dsimp only at hSw); go_simp; (try with_reducible rfl))
          (try simp only [Act.put, List.setIfInBounds_toArray, List.set_cons_zero, List.set_cons_succ])
          refine wpAnyH_take (i := 6) (oi := ⟨some 43, _, _, _, _, _⟩) (v := ?_) rfl (by kernel_rfl) (by kernel_rfl) (by kernel_rfl) (fun _ _ _ h => h) (Or.inl ⟨by kernel_rfl, ?_⟩) (by assumption) ?_
          rotate_left
          · (intro wS hSw; (try dsimp only at hSw); go_simp; (try with_reducible rfl))
          (try simp only [Act.put, List.setIfInBounds_toArray, List.set_cons_zero, List.set_cons_succ])
          refine wpAnyH_take (i := 7) (oi := ⟨some 44, _, _, _, _, _⟩) (v := ?_) rfl (by kernel_rfl) (by kernel_rfl) (by kernel_rfl) (fun _ _ _ h => h) (Or.inl ⟨by kernel_rfl, ?_⟩) (by assumption) ?_
          rotate_left
          · (intro wS hSw; (try dsimp only at hSw); go_simp; (try with_reducible rfl))
          (try simp only [Act.put, List.setIfInBounds_toArray, List.set_cons_zero, List.set_cons_succ])
          refine wpAnyH_take (i := 8) (oi := ⟨some 7, _, _, _, _, _⟩) (v := ?_) rfl (by kernel_rfl) (by kernel_rfl) (by kernel_rfl) (fun _ _ _ h => h) (Or.inl ⟨by kernel_rfl, ?_⟩) (by assumption) ?_
          rotate_left
          · (intro wS hSw; (try dsimp only at hSw); go_simp; (try with_reducible rfl))
          (try simp only [Act.put, List.setIfInBounds_toArray, List.set_cons_zero, List.set_cons_succ])
          refine wpAnyH_take (i := 9) (oi := ⟨some 4, _, _, _, _, _⟩) (v := ?_) rfl (by kernel_rfl) (by kernel_rfl) (by kernel_rfl) (fun _ _ _ h => h) (Or.inl ⟨by kernel_rfl, ?_⟩) (by assumption) ?_
          rotate_left
          · (intro wS hSw; (try dsimp only at hSw); go_simp; (try with_reducible rfl))
          (try simp only [Act.put, List.setIfInBounds_toArray, List.set_cons_zero, List.set_cons_succ])
          refine wpAnyH_done (by kernel_rfl) ?_ _
          go_wp2_with fail
          go_meet
          exact ⟨A10, c10, m10, rfl, rfl, hm10, ho10.more hb9.size, below_of_drew (below_of_but hB10 hb9 (Nat.le_refl _))⟩
        case rest =>
          obtain ⟨E, f, m, rfl, rfl, hm, ho, hb⟩ := hcut
          have hfc := ho.sl.2.1
          rcases hor with h0 | h11
          · have hm1 := hm.out
            rw [← hm1] at HF HL
            rw [h0] at HF HL
            have hml := Lib.hid (HL.out rfl)
            have hkm : k ≤ m.length := by rw [hml.out]; omega
            have HF2 := Lib.hid (show ftake l = (m.drop k, q, 0) from by rw [HF.out, if_pos rfl])
            have hcut := OwnO.cut ho hkm
            have hdl : (m.drop k).length = m.length - k := by simp
            rw [h0]
            clear HF HL hm hm1 ho
            generalize m.drop k = m2 at *
            have hev : errv 0 = .nilIface := rfl
            rw [hev]
            by_cases hfk : f = k
            · rw [if_pos hfk] at hcut
              subst hfk
              go_wp2_with fail
              go_ret3
              refine ⟨E, f - f, m2, ?_, by rw [HF2.out]; rfl, hcut, hb⟩
              rw [HF2.out, hdl]
              simp [errv]
              omega
            · rw [if_neg hfk] at hcut
              go_wp2_with fail
              go_ret3
              refine ⟨_, f - k, m2, ?_, by rw [HF2.out]; rfl, hcut, hb⟩
              rw [HF2.out, hdl]
              rfl
          · have HF2 := Lib.hid (show ftake l = ([], 0, 11) from by rw [HF.out, if_neg (by rw [h11]; simp)])
            rw [h11]
            have hev : errv 11 = .iface 68 (.int .i64 11) := rfl
            rw [hev]
            clear HF HL hm ho
            go_wp2_with fail
            go_ret3
            exact ⟨none, 0, [], by rw [HF2.out]; rfl, by rw [HF2.out]; rfl, OwnO.nil _ _, hb⟩
end Go.Proofs.YtabnndjdkjkciaaGreatDoor

namespace Go.Proofs.YtabnndjdkjkciaaGreatDoor
open Go.RowKit
attribute [local go_sem ↓] Go.wp_at_zero Go.wp_at_succ

end Go.Proofs.YtabnndjdkjkciaaGreatDoor
