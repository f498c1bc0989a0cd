/- WHAT IT HOLDS: slices.Grow of nothing, slices.Concat, slices.Equal over bytes, walked. -/
import Derived.Test.YtkkcgibmcijhaaaVarW
import Derived.Test.YtkkcgibmcijhaaaCrcX
import Derived.Lib.AppendZeros
namespace Go.Proofs.Ytkkcgibmcijhaaa
open Go.RowKit

set_option maxRecDepth 100000 in
set_option maxHeartbeats 1000000 in
theorem Grow_nil (n : Nat) (hn : n ≤ 1000000000) (w : World) : Calls Try.prog 150 #[.slice none 0 0, .int .i64 n] w fun e w' => ∃ A c, e = .returned (.slice A 0 c) ∧ OwnB w' w.heap.size 5 A c [] ∧ Below w.heap.size w w' := by
  obtain ⟨i0, hi, hz0, hz1, hz2⟩ := info_parts u8_info
  by_cases h0 : n = 0
  · subst h0
    go_enter Try.func150, Try.ntmps150
    go_wp2
    go_ret
    exact ⟨none, 0, rfl, Own.none_ _ _ _ _, Below.refl _ _⟩
  · have hcap := grownCap_ge w n 0 5
    have hcm := grownCap_le_maxLen w n 0 5 (by unfold maxLen; omega)
    have hr := fun ty => Lib.run_append_nil_zeros (P := Try.prog) w 40 3 ty 5 i0 (.int .u8 0) .i64 .i64 Try.underlying40 Try.underlying3 hi hz0 n (by omega) (by omega) (by omega) (by rw [hz2]; omega)
    generalize grownCap w n 0 5 = k at *
    have hown := World.ownsRow_made (e := 5) (size := 1) (base := w.heap.size) w.drew (Builtin.zeroCells (Value.int .u8 0).cells n ++ Builtin.zeroCells (Value.int .u8 0).cells (k - n)) k (Nat.le_refl _) hcm (by simp [Builtin.zeroCells, Value.cells]; omega)
    have HO := Lib.hid hown
    have HR := Lib.hid hr
    clear hown hr
    have hmk : ¬ ((k : Int) < 0) := by omega
    unfold maxLen at hcm
    go_enter Try.func150, Try.ntmps150
    go_wp2_with (at_builtin; go_must (refine Lib.wpList_append_run _ rfl _ _ _ _ rfl _ _ rfl rfl _ _ (HR.out _) ?_))
    go_ret
    exact ⟨_, _, rfl, HO.out, bel_alloc ((Below.refl w.heap.size w).drew) _⟩

theorem partsOf_snoc {ps : List Pt} {k : Nat} (hk : k < ps.length) : partsOf (ps.take (k + 1)) = partsOf (ps.take k) ++ ps[k].2.2 := by
  unfold partsOf
  rw [List.take_succ_eq_append_getElem hk, List.flatMap_append]
  simp
theorem partsOf_le {ps : List Pt} (k : Nat) : (partsOf (ps.take k)).length ≤ (partsOf ps).length := by
  have h := List.take_append_drop k ps
  have : partsOf ps = partsOf (ps.take k) ++ partsOf (ps.drop k) := by unfold partsOf; rw [← List.flatMap_append, h]
  rw [this, List.length_append]; omega

set_option maxRecDepth 100000 in
set_option maxHeartbeats 1000000 in
theorem Concat_any (P : Option Addr) (cp : Nat) (ps : List Pt) (w : World) (hP : Sl w 1 P ps.length cp (ps.map pv)) (hs : ∀ x ∈ ps, SlB w x.1 x.2.1 x.2.2) (hl : (partsOf ps).length ≤ 1000000000) :
    Calls Try.prog 143 #[.slice P ps.length cp] w (GivesB w (partsOf ps)) := by
  have hmax := hP.len_le
  unfold maxLen at hmax
  go_enter Try.func143, Try.ntmps143
  go_wp2
  go_loopw [3, 11] (fun v i wr => ∃ k : Nat, k ≤ ps.length ∧ i = .int .i64 k ∧ v = .int .i64 ((partsOf (ps.take k)).length : Nat) ∧ w = wr) (fun v i w => ps.length - (intOf i).toNat)
  case atStart => exact ⟨0, Nat.zero_le _, rfl, rfl, rfl⟩
  case round =>
    obtain ⟨k, hk, rfl, rfl, rfl⟩ := hrel
    by_cases hlt : k < ps.length
    · obtain ⟨ad, rfl, hc⟩ := hP.at1 hlt
      have hsn := congrArg List.length (partsOf_snoc hlt)
      rw [List.length_append] at hsn
      have hle := partsOf_le (ps := ps) (k + 1)
      have q1 := hs ps[k] (List.getElem_mem hlt)
      rw [hsn] at hle
      generalize hx : ps[k] = x at *
      obtain ⟨xa, xc, xl⟩ := x
      dsimp only at hc hsn hle q1
      have HS := Lib.hid hsn
      clear hsn hs q1
      generalize (partsOf (ps.take k)).length = a at *
      go_wp2
      go_roundw
      case rel => exact ⟨k + 1, hlt, by go_num, by rw [HS.out]; go_num, by trivial⟩
      case measure => simp [intOf]; omega
    · obtain rfl : k = ps.length := by omega
      rw [List.take_length]
      go_wp2_with fail
      refine (Grow_nil (partsOf ps).length hl _).mono ?_
      rintro e w1 ⟨A1, c1, rfl, ho1, hb1⟩
      go_wp2_with fail
      go_loopw [6, 27] (fun v i wr => ∃ (j : Nat) (B : Option Addr) (d : Nat) (m : List UInt8), j ≤ ps.length ∧ i = .int .i64 j ∧ v = .slice B m.length d ∧ Hid (m = partsOf (ps.take j)) ∧ OwnB wr w.heap.size 5 B d m ∧ Below w.heap.size w wr) (fun v i w => ps.length - (intOf i).toNat)
      case atStart => exact ⟨0, A1, c1, [], Nat.zero_le _, rfl, rfl, rfl, ho1, hb1⟩
      case round =>
        obtain ⟨j, B, d, m, hj, rfl, rfl, hm, hor, hbr⟩ := hrel
        by_cases hlt2 : j < ps.length
        · obtain ⟨ad, rfl, hc⟩ := (hP.below hbr).at1 hlt2
          have hsn := partsOf_snoc hlt2
          have hle := partsOf_le (ps := ps) (j + 1)
          have q1 := (hs ps[j] (List.getElem_mem hlt2)).below hbr
          rw [hsn, List.length_append, ← hm.out] at hle
          generalize hx : ps[j] = x at *
          obtain ⟨xa, xc, xl⟩ := x
          dsimp only at hc hsn hle q1
          have HS := Lib.hid hsn
          clear hsn
          go_wp2_with (at_builtin; go_must (refine wpl_bytes 40 5 Try.underlying40 u8_info rfl _ _ rfl w.heap.size B d m rfl hor xa xc xl rfl q1 (by omega) hbr.size ?_; intro A2 c2 m2 w2 hm2 ho2 _ _ hb2))
          go_roundw
          case rel => exact ⟨j + 1, A2, c2, m2, hlt2, by go_num, rfl, (show _ = _ from by rw [hm2.out, HS.out, hm.out]), ho2, hbr.trans hb2⟩
          case measure => simp [intOf]; omega
        · go_wp2_with fail
          go_ret
          exact ⟨B, d, m, rfl, (show _ = _ from by rw [hm.out, List.take_of_length_le (by omega)]), hor, hbr⟩
end Go.Proofs.Ytkkcgibmcijhaaa
