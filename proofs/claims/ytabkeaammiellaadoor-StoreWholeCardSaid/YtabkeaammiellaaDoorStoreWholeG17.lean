/- WHAT IT HOLDS: the law's disk is alive, walked. | WHAT IT HOLDS: the document's names, walked; what a nil disk answers, walked; the law DiskNames, walked. -/
import Derived.Test.YtabkeaammiellaaDoorStoreWholeG14
import Derived.Test.YtabkeaammiellaaDoorStoreWholeG16
import Derived.Test.YtabkeaammiellaaDoorStoreWholeG04
namespace Go.Proofs.YtabkeaammiellaaDoor
open Go.RowKit Go.Maps Go.Sort
attribute [local go_sem ↓] Go.wp_at_zero Go.wp_at_succ

theorem SlB.lit1 (w : World) (b : UInt8) (e : TypeId) (z : Nat × Nat) : SlB (w.alloc (.cells #[bv b] e z)) (some ⟨w.heap.size, 0, none⟩) 1 [b] :=
  ⟨by simp, by simp, by simp [maxLen], (fun h => by cases h), fun j u hj => ⟨_, rfl, by
    rw [addr_lit, cell_of_row _ _ _ _ e z (heap_alloc_new w _)]
    simpa using hj⟩⟩
theorem SlZ.lit1 (w : World) (b : Bool) (e : TypeId) : Sl (w.alloc (.cells #[.bool b] e)) 1 (some ⟨w.heap.size, 0, none⟩) 1 1 ([b].map Value.bool) :=
  ⟨by simp, by simp, by simp [maxLen], (fun h => by cases h), fun j u hj => ⟨_, rfl, by
    rw [addr_lit, cell_of_row _ _ _ _ e (0, 0) (heap_alloc_new w _)]
    simpa using hj⟩⟩
/-- all that a disk may write lies behind the block B; below it the world is as it was -/
def Fro (w0 w : World) (q : Fp) : Prop := Below w0.heap.size w0 w ∧ ∀ i, q.M i → w0.heap.size ≤ i
theorem Fro.frd {w0 w w' : World} {q q' : Fp} (h : Fro w0 w q) (hF : Frd q w w') (hM : ∀ i, q'.M i → q.M i ∨ w.heap.size ≤ i) : Fro w0 w' q' := by
  have hs := h.1.size
  refine ⟨⟨hF.os.trans h.1.os, hF.tape.trans h.1.tape, hF.output.trans h.1.output, by have := hF.size; omega, fun i hi => ?_⟩, fun i hi => ?_⟩
  · rw [hF.block i (by omega) (fun hq => by have := h.2 i hq; omega)]
    exact h.1.block i hi
  · rcases hM i hi with hi | hi
    · exact h.2 i hi
    · omega
theorem Fro.call {w0 w w' : World} {q : Fp} (h : Fro w0 w q) (hb : Below w.heap.size w w') : Fro w0 w' q := ⟨h.1.trans (hb.mono h.1.size), h.2⟩
set_option maxRecDepth 100000 in
set_option maxHeartbeats 1000000 in
theorem Alive_any (w : World) : Calls Tryd.prog 8 #[] w fun e w' => e = .returned (.bool true) ∧ Below w.heap.size w w' := by
  go_enter Tryd.func8, Tryd.ntmps8
  go_wp2_with fail
  refine (New_any 100 w).mono ?_
  rintro e w1 (⟨h, -⟩ | ⟨-, q, rfl, hD, hM, hb⟩)
  · omega
  rw [show errv 0 = Value.nilIface from rfl]
  have hDa := hD.below (below_new w1 (.cells #[bv 120] 5 (1, 2)))
  have hFr : Fro w (w1.alloc (.cells #[bv 120] 5 (1, 2))) q := Fro.call ⟨hb, hM⟩ (below_new _ _)
  have hcv := Go.Lib.run_convert_bytes_const (P := Tryd.prog) w1 33 5 #[.int .u8 120] 1 1 Tryd.underlying33 Tryd.underlying5
  have HFr := Lib.hid hFr
  clear hFr
  go_wp2_with fail
  refine (Write_any (A := some ⟨w1.heap.size, 0, none⟩) (c := 1) hDa (by decide) (by decide) (by decide) (by decide) [97] (by decide) [120] (SlB.lit1 w1 120 5 (1, 2)) (fun _ ad e => by injection e with e; subst e; have := hD.blk.lt; dsimp only; omega) (by decide)).mono ?_
  rintro e w2 ⟨A2, c2, rfl, hG⟩
  rw [show dWrite svl (dk0 100) [97] ⟨A2, c2, [120]⟩ = (dAdd (dk0 100) ⟨0, [97], [], ⟨A2, c2, [120]⟩⟩, 0) from rfl] at *
  rw [show errv 0 = Value.nilIface from rfl]
  obtain ⟨q2, hg2, hD2, hF2, hM2, -⟩ := hG
  have n6 : dRead (dStart (dCut [true] (dAdd (dk0 100) ⟨0, [97], [], ⟨A2, c2, [120]⟩⟩))) [97] = (some ⟨A2, c2, [120]⟩, 0) := rfl
  have n1 : (dAdd (dk0 100) ⟨0, [97], [], ⟨A2, c2, [120]⟩⟩).pend.length ≤ 1000000 := Nat.le_of_ble_eq_true rfl
  have n2 : (dAdd (dk0 100) ⟨0, [97], [], ⟨A2, c2, [120]⟩⟩).sure.length ≤ 1000000 := Nat.le_of_ble_eq_true rfl
  have n3 : (dCut [true] (dAdd (dk0 100) ⟨0, [97], [], ⟨A2, c2, [120]⟩⟩)).pend.length ≤ 1000000 := Nat.le_of_ble_eq_true rfl
  have n4 : (dCut [true] (dAdd (dk0 100) ⟨0, [97], [], ⟨A2, c2, [120]⟩⟩)).sure.length ≤ 1000000 := Nat.le_of_ble_eq_true rfl
  have n5 : (dCut [true] (dAdd (dk0 100) ⟨0, [97], [], ⟨A2, c2, [120]⟩⟩)).down = true := rfl
  have hFb := Fro.call (HFr.out.frd hF2 hM2) (below_new w2 (.cells #[.bool true] 4))
  generalize (dAdd (dk0 100) ⟨0, [97], [], ⟨A2, c2, [120]⟩⟩) = d2 at *
  generalize hd3 : dCut [true] d2 = d3 at *
  generalize hd4 : dStart d3 = d4 at *
  have N3 := Lib.hid hd3
  have N4 := Lib.hid hd4
  have N6 := Lib.hid n6
  have HF2 := Lib.hid hFb
  clear n6 hd3 hd4 hF2 hM2 hD hM hb hcv hFb HFr
  rw [← hg2]
  clear hg2
  have HC := Lib.hid (Cut_any (hD2.below (below_new w2 (.cells #[.bool true] 4))) n1 n2 [true] (SlZ.lit1 w2 true 4) (fun _ ad e => by injection e with e; subst e; have := hD2.sure.lt; dsimp only; omega))
  clear hD2 n1 n2 hDa
  go_wp2_with fail
  refine HC.out.mono ?_
  clear HC
  rintro e w3 ⟨rfl, q3, hg3, hD3, hF3, hM3, -⟩
  rw [N3.out] at hD3
  rw [← hg3]
  clear hg3
  have HF3 := Lib.hid (HF2.out.frd hF3 hM3)
  have HS := Lib.hid (StartDown_any hD3 n3 n4 n5)
  clear hD3 hF3 hM3 HF2 N3 n3 n4 n5
  go_wp2_with fail
  refine HS.out.mono ?_
  clear HS
  rintro e w4 ⟨rfl, q4, hg4, hD4, hF4, hM4, -⟩
  rw [N4.out] at hD4
  rw [← hg4]
  clear hg4
  have HF4 := Lib.hid (HF3.out.frd hF4 hM4)
  have HR := Lib.hid (Read_any hD4 [97] (by decide))
  clear hD4 hF4 hM4 HF3 N4
  go_wp2_with fail
  refine HR.out.mono ?_
  clear HR
  rintro e w5 ⟨A5, c5, m5, rfl, hm5, ho5, hb5⟩
  rw [N6.out] at hm5 ⊢
  rw [show errv 0 = Value.nilIface from rfl]
  obtain rfl : m5 = [120] := hm5.out
  have hb := Own.sl ho5
  have h2 := conv_str (P := Tryd.prog) 33 9 5 Tryd.underlying33 Tryd.underlying5 Tryd.underlying9 (n := 1) hb rfl
  have HB := Lib.hid (HF4.out.call hb5).1
  clear hm5 ho5 hb5 HF4 N6 hb
  go_wp2_with fail
  go_ret
  exact ⟨rfl, HB.out⟩
end Go.Proofs.YtabkeaammiellaaDoor

namespace Go.Proofs.YtabkeaammiellaaDoor
open Go.RowKit Go.Maps Go.Sort
attribute [local go_sem ↓] Go.wp_at_zero Go.wp_at_succ

theorem isSign_int (c : UInt8) : isSign c = (decide (97 ≤ (c.toNat : Int) ∧ (c.toNat : Int) ≤ 122) || decide (48 ≤ (c.toNat : Int) ∧ (c.toNat : Int) ≤ 57) || decide ((c.toNat : Int) = 45) || decide ((c.toNat : Int) = 46) || decide ((c.toNat : Int) = 126)) := by
  have hall : ((List.range 256).all fun n => isSign (UInt8.ofNat n) == (decide (97 ≤ (n : Int) ∧ (n : Int) ≤ 122) || decide (48 ≤ (n : Int) ∧ (n : Int) ≤ 57) || decide ((n : Int) = 45) || decide ((n : Int) = 46) || decide ((n : Int) = 126))) = true := by decide +kernel
  have h := List.all_eq_true.1 hall c.toNat (List.mem_range.2 (UInt8.toNat_lt c))
  rw [UInt8.ofNat_toNat] at h
  simpa using h
theorem ix_str (s : Bs) {k : Nat} (hk : k < s.length) (w : World) : (Instr.index 9 (.string ⟨s.toArray⟩) (.int .i64 k)).run Tryd.prog w = .ok (.int .u8 (s[k].toNat : Int)) w := by
  have h1 : (ByteArray.size ⟨s.toArray⟩) = s.length := by simp [ByteArray.size]
  rw [run_index_string _ _ _ _ _ Tryd.underlying9, dif_pos ⟨by omega, by rw [h1]; omega⟩]
  rfl
set_option maxRecDepth 100000 in
set_option maxHeartbeats 1000000 in
theorem RNamed_any (s : Bs) (w : World) (hl : s.length ≤ 4611686018427387904) : Calls Tryd.prog 29 #[.string ⟨s.toArray⟩] w fun e w' => e = .returned (.bool (named s)) ∧ Below w.heap.size w w' := by
  have hsz : (ByteArray.size ⟨s.toArray⟩) = s.length := by simp [ByteArray.size]
  go_enter Tryd.func29, Tryd.ntmps29
  go_wp2_with fail
  go_loopw [3] (fun x wr => ∃ k : Nat, k ≤ s.length ∧ x = .int .i64 k ∧ (∀ i (hi : i < s.length), i < k → isSign s[i] = true) ∧ Below w.heap.size w wr) (fun x w => s.length - (intOf x).toNat)
  case atStart => exact ⟨0, Nat.zero_le _, rfl, (fun i _ hi => by omega), Below.refl _ _⟩
  case round =>
    obtain ⟨k, hk, rfl, hno, hb⟩ := hrel
    by_cases hlt : k < s.length
    · have hkI : (k : Int) < (s.length : Int) := by omega
      have hix : ∀ W : World, (Instr.index 9 (.string ⟨s.toArray⟩) (.int .i64 k)).run Tryd.prog W = .ok (.int .u8 (s[k].toNat : Int)) W := fun W => ix_str s hlt W
      obtain ⟨c0, hc0⟩ : ∃ c, s[k] = c := ⟨_, rfl⟩
      rw [hc0] at hix
      have he := Lib.hid hc0
      have hs0 := isSign_int c0
      have hr := UInt8.toNat_lt c0
      generalize hx : (c0.toNat : Int) = x at *
      by_cases h1 : 97 ≤ x ∧ x ≤ 122
      · obtain ⟨h1, h2⟩ := h1
        have HS := Lib.hid (show isSign c0 = true from by rw [hs0]; simp <;> omega)
        clear hs0 hc0
        go_wp2_with fail
        go_roundw
        case rel => exact ⟨k + 1, hlt, by go_num, (fun i hi hik => by
          rcases Nat.lt_or_ge i k with h | h
          · exact hno i hi h
          · obtain rfl : i = k := by omega
            rw [he.out]
            exact HS.out), hb⟩
        case measure => simp [intOf]; omega
      by_cases h2 : 48 ≤ x ∧ x ≤ 57
      · obtain ⟨h2, h3⟩ := h2
        have h4 : x < 97 := by omega
        have HS := Lib.hid (show isSign c0 = true from by rw [hs0]; simp <;> omega)
        clear hs0 hc0
        go_wp2_with fail
        go_roundw
        case rel => exact ⟨k + 1, hlt, by go_num, (fun i hi hik => by
          rcases Nat.lt_or_ge i k with h | h
          · exact hno i hi h
          · obtain rfl : i = k := by omega
            rw [he.out]
            exact HS.out), hb⟩
        case measure => simp [intOf]; omega
      by_cases h3 : x = 45
      · subst h3
        have HS := Lib.hid (show isSign c0 = true from by rw [hs0]; simp <;> omega)
        clear hs0 hc0
        go_wp2_with fail
        go_roundw
        case rel => exact ⟨k + 1, hlt, by go_num, (fun i hi hik => by
          rcases Nat.lt_or_ge i k with h | h
          · exact hno i hi h
          · obtain rfl : i = k := by omega
            rw [he.out]
            exact HS.out), hb⟩
        case measure => simp [intOf]; omega
      by_cases h4 : x = 46
      · subst h4
        have HS := Lib.hid (show isSign c0 = true from by rw [hs0]; simp <;> omega)
        clear hs0 hc0
        go_wp2_with fail
        go_roundw
        case rel => exact ⟨k + 1, hlt, by go_num, (fun i hi hik => by
          rcases Nat.lt_or_ge i k with h | h
          · exact hno i hi h
          · obtain rfl : i = k := by omega
            rw [he.out]
            exact HS.out), hb⟩
        case measure => simp [intOf]; omega
      by_cases h5 : x = 126
      · subst h5
        have HS := Lib.hid (show isSign c0 = true from by rw [hs0]; simp <;> omega)
        clear hs0 hc0
        go_wp2_with fail
        go_roundw
        case rel => exact ⟨k + 1, hlt, by go_num, (fun i hi hik => by
          rcases Nat.lt_or_ge i k with h | h
          · exact hno i hi h
          · obtain rfl : i = k := by omega
            rw [he.out]
            exact HS.out), hb⟩
        case measure => simp [intOf]; omega
      have b3 : (x == 45) = false := by simpa using h3
      have b4 : (x == 46) = false := by simpa using h4
      have b5 : (x == 126) = false := by simpa using h5
      by_cases h6 : 97 ≤ x
      · have h7 : 122 < x := by omega
        have h8 : 48 ≤ x := by omega
        have h9 : 57 < x := by omega
        have d7 : decide (x ≤ 122) = false := by simp; omega
        have d9 : decide (x ≤ 57) = false := by simp; omega
        have HS := Lib.hid (show named s = false from by
          unfold named
          have h1 : isSign c0 = false := by rw [hs0]; simp; omega
          have : s.all isSign = false := List.all_eq_false.2 ⟨s[k], List.getElem_mem hlt, by rw [he.out, h1]; simp⟩
          rw [this]
          simp)
        clear hs0 hc0 hno
        go_wp2_with fail
        go_ret
        exact ⟨by rw [HS.out]; rfl, hb⟩
      · replace h6 : x < 97 := by omega
        by_cases h7 : 48 ≤ x
        · have h9 : 57 < x := by omega
          have d6 : decide (97 ≤ x) = false := by simp; omega
          have d9 : decide (x ≤ 57) = false := by simp; omega
          have HS := Lib.hid (show named s = false from by
            unfold named
            have h1 : isSign c0 = false := by rw [hs0]; simp; omega
            have : s.all isSign = false := List.all_eq_false.2 ⟨s[k], List.getElem_mem hlt, by rw [he.out, h1]; simp⟩
            rw [this]
            simp)
          clear hs0 hc0 hno
          go_wp2_with fail
          go_ret
          exact ⟨by rw [HS.out]; rfl, hb⟩
        · replace h7 : x < 48 := by omega
          have d6 : decide (97 ≤ x) = false := by simp; omega
          have d7 : decide (48 ≤ x) = false := by simp; omega
          have HS := Lib.hid (show named s = false from by
            unfold named
            have h1 : isSign c0 = false := by rw [hs0]; simp; omega
            have : s.all isSign = false := List.all_eq_false.2 ⟨s[k], List.getElem_mem hlt, by rw [he.out, h1]; simp⟩
            rw [this]
            simp)
          clear hs0 hc0 hno
          go_wp2_with fail
          go_ret
          exact ⟨by rw [HS.out]; rfl, hb⟩
    · have hke : k = s.length := by omega
      have hkI : (s.length : Int) ≤ (k : Int) := by omega
      have ha : s.all isSign = true := List.all_eq_true.2 fun x hx => by
        obtain ⟨i, hi, rfl⟩ := List.getElem_of_mem hx
        exact hno i hi (by omega)
      clear hno
      rcases Nat.lt_or_ge s.length 1 with h1 | h1
      · have hI : (s.length : Int) < 1 := by omega
        have HN := Lib.hid (show named s = false from by unfold named; simp; omega)
        go_wp2_with fail
        go_ret
        exact ⟨by rw [HN.out]; rfl, hb⟩
      have hI : (1 : Int) ≤ (s.length : Int) := by omega
      have HN := Lib.hid (show named s = decide ((s.length : Int) ≤ 24) from by unfold named; rw [ha, decide_eq_true (show 1 ≤ s.length from h1), Bool.true_and, Bool.and_true]; exact decide_eq_decide.2 (by omega))
      go_wp2_with fail
      go_ret
      exact ⟨by rw [HN.out]; rfl, hb⟩
/-! ### a nil disk -/
set_option maxRecDepth 100000 in
theorem NLooks_any (w : World) : Calls Tryd.prog 43 #[.pointer none] w fun e w' => e = .returned (.iface 64 (.int .i64 4)) ∧ Below w.heap.size w w' := by
  go_enter Tryd.func43, Tryd.ntmps43
  go_wp2_with fail
  go_ret
  exact ⟨rfl, Below.refl _ _⟩
set_option maxRecDepth 100000 in
theorem NWorks_any (w : World) : Calls Tryd.prog 37 #[.pointer none] w fun e w' => e = .returned (.iface 64 (.int .i64 4)) ∧ Below w.heap.size w w' := by
  go_enter Tryd.func37, Tryd.ntmps37
  go_wp2_with fail
  refine (NLooks_any _).mono ?_
  rintro e w1 ⟨rfl, hb⟩
  go_wp2_with fail
  go_ret
  exact ⟨rfl, hb⟩
set_option maxRecDepth 100000 in
theorem NCut_any (w : World) (v : Value) : Calls Tryd.prog 15 #[.pointer none, v] w fun e w' => e = .returned (.tuple #[]) ∧ Below w.heap.size w w' := by
  go_enter Tryd.func15, Tryd.ntmps15
  go_wp2_with fail
  refine bodyPost_ret (results_none rfl _ _ _) rfl ?_
  exact ⟨rfl, Below.refl _ _⟩
set_option maxRecDepth 100000 in
theorem NStart_any (w : World) : Calls Tryd.prog 16 #[.pointer none] w fun e w' => e = .returned (.tuple #[]) ∧ Below w.heap.size w w' := by
  go_enter Tryd.func16, Tryd.ntmps16
  go_wp2_with fail
  refine bodyPost_ret (results_none rfl _ _ _) rfl ?_
  exact ⟨rfl, Below.refl _ _⟩
set_option maxRecDepth 100000 in
theorem NRead_any (n : Value) (w : World) : Calls Tryd.prog 17 #[.pointer none, n] w fun e w' => e = .returned (.tuple #[.slice none 0 0, .iface 64 (.int .i64 4)]) ∧ Below w.heap.size w w' := by
  go_enter Tryd.func17, Tryd.ntmps17
  go_wp2_with fail
  refine (NLooks_any _).mono ?_
  rintro e w1 ⟨rfl, hb⟩
  go_wp2_with fail
  go_ret2
  exact ⟨rfl, hb⟩
set_option maxRecDepth 100000 in
theorem NList_any (w : World) : Calls Tryd.prog 18 #[.pointer none] w fun e w' => e = .returned (.tuple #[.slice none 0 0, .iface 64 (.int .i64 4)]) ∧ Below w.heap.size w w' := by
  go_enter Tryd.func18, Tryd.ntmps18
  go_wp2_with fail
  refine (NLooks_any _).mono ?_
  rintro e w1 ⟨rfl, hb⟩
  go_wp2_with fail
  go_ret2
  exact ⟨rfl, hb⟩
set_option maxRecDepth 100000 in
theorem NWrite_any (n b : Value) (w : World) : Calls Tryd.prog 11 #[.pointer none, n, b] w fun e w' => e = .returned (.iface 64 (.int .i64 4)) ∧ Below w.heap.size w w' := by
  go_enter Tryd.func11, Tryd.ntmps11
  go_wp2_with fail
  refine (NWorks_any _).mono ?_
  rintro e w1 ⟨rfl, hb⟩
  go_wp2_with fail
  go_ret
  exact ⟨rfl, hb⟩
set_option maxRecDepth 100000 in
theorem NRename_any (n b : Value) (w : World) : Calls Tryd.prog 14 #[.pointer none, n, b] w fun e w' => e = .returned (.iface 64 (.int .i64 4)) ∧ Below w.heap.size w w' := by
  go_enter Tryd.func14, Tryd.ntmps14
  go_wp2_with fail
  refine (NWorks_any _).mono ?_
  rintro e w1 ⟨rfl, hb⟩
  go_wp2_with fail
  go_ret
  exact ⟨rfl, hb⟩
set_option maxRecDepth 100000 in
theorem NRemove_any (n : Value) (w : World) : Calls Tryd.prog 13 #[.pointer none, n] w fun e w' => e = .returned (.iface 64 (.int .i64 4)) ∧ Below w.heap.size w w' := by
  go_enter Tryd.func13, Tryd.ntmps13
  go_wp2_with fail
  refine (NWorks_any _).mono ?_
  rintro e w1 ⟨rfl, hb⟩
  go_wp2_with fail
  go_ret
  exact ⟨rfl, hb⟩
set_option maxRecDepth 100000 in
theorem NSync_any (w : World) : Calls Tryd.prog 12 #[.pointer none] w fun e w' => e = .returned (.iface 64 (.int .i64 4)) ∧ Below w.heap.size w w' := by
  go_enter Tryd.func12, Tryd.ntmps12
  go_wp2_with fail
  refine (NWorks_any _).mono ?_
  rintro e w1 ⟨rfl, hb⟩
  go_wp2_with fail
  go_ret
  exact ⟨rfl, hb⟩
set_option maxRecDepth 100000 in
theorem NFuse_any (n : Value) (w : World) : Calls Tryd.prog 24 #[.pointer none, n] w fun e w' => e = .returned (.iface 64 (.int .i64 4)) ∧ Below w.heap.size w w' := by
  go_enter Tryd.func24, Tryd.ntmps24
  go_wp2_with fail
  go_ret
  exact ⟨rfl, Below.refl _ _⟩
set_option maxRecDepth 100000 in
theorem NPending_any (w : World) : Calls Tryd.prog 19 #[.pointer none] w fun e w' => e = .returned (.int .i64 0) ∧ Below w.heap.size w w' := by
  go_enter Tryd.func19, Tryd.ntmps19
  go_wp2_with fail
  go_ret
  exact ⟨rfl, Below.refl _ _⟩
set_option maxRecDepth 100000 in
theorem NUsed_any (w : World) : Calls Tryd.prog 25 #[.pointer none] w fun e w' => e = .returned (.int .i64 0) ∧ Below w.heap.size w w' := by
  go_enter Tryd.func25, Tryd.ntmps25
  go_wp2_with fail
  go_ret
  exact ⟨rfl, Below.refl _ _⟩
set_option maxRecDepth 100000 in
theorem NSure_any (w : World) : Calls Tryd.prog 26 #[.pointer none] w fun e w' => e = .returned (.slice none 0 0) ∧ Below w.heap.size w w' := by
  go_enter Tryd.func26, Tryd.ntmps26
  go_wp2_with fail
  go_ret
  exact ⟨rfl, Below.refl _ _⟩
set_option maxRecDepth 100000 in
theorem NDown_any (w : World) : Calls Tryd.prog 27 #[.pointer none] w fun e w' => e = .returned (.bool true) ∧ Below w.heap.size w w' := by
  go_enter Tryd.func27, Tryd.ntmps27
  go_wp2_with fail
  go_ret
  exact ⟨rfl, Below.refl _ _⟩
set_option maxRecDepth 100000 in
set_option maxHeartbeats 1000000 in
theorem names_walk {s : Bs} (w : World) (hl : s.length ≤ 100) : Calls Tryd.prog 5 #[.string ⟨s.toArray⟩] w fun e w' => e = .returned (.bool true) ∧ Below w.heap.size w w' := by
  have hsz : (ByteArray.size ⟨s.toArray⟩) = s.length := by simp [ByteArray.size]
  have hI : (s.length : Int) ≤ 100 := by omega
  have hIs := fun W => isn_any 4 4 W
  rw [show errv 4 = Value.iface 64 (.int .i64 4) from rfl, show (((4 : Nat) : Int) == 4) = true from rfl] at hIs
  replace hIs := Lib.hid hIs
  go_enter Tryd.func5, Tryd.ntmps5
  go_wp2_with fail
  refine (Alive_any _).mono ?_
  rintro e w1 ⟨rfl, hb⟩
  go_wp2_with fail
  have hb2 := bel_alloc hb (.cells #[.bool true] 4)
  clear hb
  have hb := hb2
  clear hb2
  refine (NCut_any _ _).mono ?_
  rintro e W ⟨rfl, hb'⟩
  replace hb := bel_call hb hb'
  clear hb'
  go_wp2_with fail
  refine (NStart_any _).mono ?_
  rintro e W ⟨rfl, hb'⟩
  replace hb := bel_call hb hb'
  clear hb'
  go_wp2_with fail
  refine (NRead_any _ _).mono ?_
  rintro e W ⟨rfl, hb'⟩
  replace hb := bel_call hb hb'
  clear hb'
  go_wp2_with fail
  refine (NList_any _).mono ?_
  rintro e W ⟨rfl, hb'⟩
  replace hb := bel_call hb hb'
  clear hb'
  go_wp2_with fail
  refine (NWrite_any _ _ _).mono ?_
  rintro e W ⟨rfl, hb'⟩
  replace hb := bel_call hb hb'
  clear hb'
  go_wp2_with fail
  refine (hIs.out _).mono ?_
  rintro e W ⟨rfl, rfl⟩
  go_wp2_with fail
  refine (NRename_any _ _ _).mono ?_
  rintro e W ⟨rfl, hb'⟩
  replace hb := bel_call hb hb'
  clear hb'
  go_wp2_with fail
  refine (hIs.out _).mono ?_
  rintro e W ⟨rfl, rfl⟩
  go_wp2_with fail
  refine (NRemove_any _ _).mono ?_
  rintro e W ⟨rfl, hb'⟩
  replace hb := bel_call hb hb'
  clear hb'
  go_wp2_with fail
  refine (hIs.out _).mono ?_
  rintro e W ⟨rfl, rfl⟩
  go_wp2_with fail
  refine (NSync_any _).mono ?_
  rintro e W ⟨rfl, hb'⟩
  replace hb := bel_call hb hb'
  clear hb'
  go_wp2_with fail
  refine (hIs.out _).mono ?_
  rintro e W ⟨rfl, rfl⟩
  go_wp2_with fail
  refine (NFuse_any _ _).mono ?_
  rintro e W ⟨rfl, hb'⟩
  replace hb := bel_call hb hb'
  clear hb'
  go_wp2_with fail
  refine (hIs.out _).mono ?_
  rintro e W ⟨rfl, rfl⟩
  go_wp2_with fail
  refine (hIs.out _).mono ?_
  rintro e W ⟨rfl, rfl⟩
  go_wp2_with fail
  refine (hIs.out _).mono ?_
  rintro e W ⟨rfl, rfl⟩
  go_wp2_with fail
  refine (NPending_any _).mono ?_
  rintro e W ⟨rfl, hb'⟩
  replace hb := bel_call hb hb'
  clear hb'
  go_wp2_with fail
  refine (NUsed_any _).mono ?_
  rintro e W ⟨rfl, hb'⟩
  replace hb := bel_call hb hb'
  clear hb'
  go_wp2_with fail
  refine (NSure_any _).mono ?_
  rintro e W ⟨rfl, hb'⟩
  replace hb := bel_call hb hb'
  clear hb'
  go_wp2_with fail
  refine (NDown_any _).mono ?_
  rintro e W ⟨rfl, hb'⟩
  replace hb := bel_call hb hb'
  clear hb'
  go_wp2_with fail
  refine (Named_any s _ (by omega)).mono ?_
  rintro e W ⟨rfl, hb'⟩
  replace hb := bel_call hb hb'
  clear hb'
  go_wp2_with fail
  refine (RNamed_any s _ (by omega)).mono ?_
  rintro e W ⟨rfl, hb'⟩
  replace hb := bel_call hb hb'
  clear hb'
  go_wp2_with fail
  go_ret
  exact ⟨by simp, hb⟩
set_option maxRecDepth 100000 in
set_option maxHeartbeats 1000000 in
theorem names_all {s : Bs} (w : World) (_ : s.length ≤ maxLen) : Calls Tryd.prog 5 #[.string ⟨s.toArray⟩] w fun e w' => e = .returned (.bool true) ∧ Below w.heap.size w w' := by
  rcases Nat.lt_or_ge 100 s.length with h | h
  · have hsz : (ByteArray.size ⟨s.toArray⟩) = s.length := by simp [ByteArray.size]
    have hI : (100 : Int) < (s.length : Int) := by omega
    go_enter Tryd.func5, Tryd.ntmps5
    go_wp2_with fail
    refine (Alive_any _).mono ?_
    rintro e w1 ⟨rfl, hb⟩
    go_wp2_with fail
    go_ret
    exact ⟨rfl, hb⟩
  · exact names_walk w h
end Go.Proofs.YtabkeaammiellaaDoor
