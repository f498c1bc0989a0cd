/- WHAT IT HOLDS: the document's names, walked; what a nil disk answers, walked; the law DiskNames, walked. | WHAT IT HOLDS: a store in memory; which texts are objects' names; what is asked for; objects put, read, deleted: walked. -/
import Derived.Test.YtddmfoldnlafaaaGreatDoorRegisterAloneG18
import Derived.Test.YtddmfoldnlafaaaGreatDoorRegisterAloneG02
import Derived.Test.YtddmfoldnlafaaaGreatDoorShelfB
import Derived.Laws.Concat
namespace Go.Proofs.YtddmfoldnlafaaaGreatDoor
open Go.RowKit Go.Maps Go.Sort
attribute [local go_sem ↓] Go.wp_at_zero Go.wp_at_succ

theorem isSign_int (c : UInt8) : isSign c = (decide (97 ≤ (c.toNat : Int) ∧ (c.toNat : Int) ≤ 122) || decide (48 ≤ (c.toNat : Int) ∧ (c.toNat : Int) ≤ 57) || decide ((c.toNat : Int) = 45) || decide ((c.toNat : Int) = 46) || decide ((c.toNat : Int) = 126)) := by
  have hall : ((List.range 256).all fun n => isSign (UInt8.ofNat n) == (decide (97 ≤ (n : Int) ∧ (n : Int) ≤ 122) || decide (48 ≤ (n : Int) ∧ (n : Int) ≤ 57) || decide ((n : Int) = 45) || decide ((n : Int) = 46) || decide ((n : Int) = 126))) = true := by decide +kernel
  have h := List.all_eq_true.1 hall c.toNat (List.mem_range.2 (UInt8.toNat_lt c))
  rw [UInt8.ofNat_toNat] at h
  simpa using h
theorem ix_str (s : Bs) {k : Nat} (hk : k < s.length) (w : World) : (Instr.index 9 (.string ⟨s.toArray⟩) (.int .i64 k)).run Tryz.prog w = .ok (.int .u8 (s[k].toNat : Int)) w := by
  have h1 : (ByteArray.size ⟨s.toArray⟩) = s.length := by simp [ByteArray.size]
  rw [run_index_string _ _ _ _ _ Tryz.underlying9, dif_pos ⟨by omega, by rw [h1]; omega⟩]
  rfl
set_option maxRecDepth 100000 in
set_option maxHeartbeats 1000000 in
theorem RNamed_any (s : Bs) (w : World) (hl : s.length ≤ 4611686018427387904) : Calls Tryz.prog 132 #[.string ⟨s.toArray⟩] w fun e w' => e = .returned (.bool (named s)) ∧ Below w.heap.size w w' := by
  have hsz : (ByteArray.size ⟨s.toArray⟩) = s.length := by simp [ByteArray.size]
  go_enter Tryz.func132, Tryz.ntmps132
  go_wp2_with fail
  go_loopw [3] (fun x wr => ∃ k : Nat, k ≤ s.length ∧ x = .int .i64 k ∧ (∀ i (hi : i < s.length), i < k → isSign s[i] = true) ∧ Below w.heap.size w wr) (fun x w => s.length - (intOf x).toNat)
  case atStart => exact ⟨0, Nat.zero_le _, rfl, (fun i _ hi => by omega), Below.refl _ _⟩
  case round =>
    obtain ⟨k, hk, rfl, hno, hb⟩ := hrel
    by_cases hlt : k < s.length
    · have hkI : (k : Int) < (s.length : Int) := by omega
      have hix : ∀ W : World, (Instr.index 9 (.string ⟨s.toArray⟩) (.int .i64 k)).run Tryz.prog W = .ok (.int .u8 (s[k].toNat : Int)) W := fun W => ix_str s hlt W
      obtain ⟨c0, hc0⟩ : ∃ c, s[k] = c := ⟨_, rfl⟩
      rw [hc0] at hix
      have he := Lib.hid hc0
      have hs0 := isSign_int c0
      have hr := UInt8.toNat_lt c0
      generalize hx : (c0.toNat : Int) = x at *
      by_cases h1 : 97 ≤ x ∧ x ≤ 122
      · obtain ⟨h1, h2⟩ := h1
        have HS := Lib.hid (show isSign c0 = true from by rw [hs0]; simp <;> omega)
        clear hs0 hc0
        go_wp2_with fail
        go_roundw
        case rel => exact ⟨k + 1, hlt, by go_num, (fun i hi hik => by
          rcases Nat.lt_or_ge i k with h | h
          · exact hno i hi h
          · obtain rfl : i = k := by omega
            rw [he.out]
            exact HS.out), hb⟩
        case measure => simp [intOf]; omega
      by_cases h2 : 48 ≤ x ∧ x ≤ 57
      · obtain ⟨h2, h3⟩ := h2
        have h4 : x < 97 := by omega
        have HS := Lib.hid (show isSign c0 = true from by rw [hs0]; simp <;> omega)
        clear hs0 hc0
        go_wp2_with fail
        go_roundw
        case rel => exact ⟨k + 1, hlt, by go_num, (fun i hi hik => by
          rcases Nat.lt_or_ge i k with h | h
          · exact hno i hi h
          · obtain rfl : i = k := by omega
            rw [he.out]
            exact HS.out), hb⟩
        case measure => simp [intOf]; omega
      by_cases h3 : x = 45
      · subst h3
        have HS := Lib.hid (show isSign c0 = true from by rw [hs0]; simp <;> omega)
        clear hs0 hc0
        go_wp2_with fail
        go_roundw
        case rel => exact ⟨k + 1, hlt, by go_num, (fun i hi hik => by
          rcases Nat.lt_or_ge i k with h | h
          · exact hno i hi h
          · obtain rfl : i = k := by omega
            rw [he.out]
            exact HS.out), hb⟩
        case measure => simp [intOf]; omega
      by_cases h4 : x = 46
      · subst h4
        have HS := Lib.hid (show isSign c0 = true from by rw [hs0]; simp <;> omega)
        clear hs0 hc0
        go_wp2_with fail
        go_roundw
        case rel => exact ⟨k + 1, hlt, by go_num, (fun i hi hik => by
          rcases Nat.lt_or_ge i k with h | h
          · exact hno i hi h
          · obtain rfl : i = k := by omega
            rw [he.out]
            exact HS.out), hb⟩
        case measure => simp [intOf]; omega
      by_cases h5 : x = 126
      · subst h5
        have HS := Lib.hid (show isSign c0 = true from by rw [hs0]; simp <;> omega)
        clear hs0 hc0
        go_wp2_with fail
        go_roundw
        case rel => exact ⟨k + 1, hlt, by go_num, (fun i hi hik => by
          rcases Nat.lt_or_ge i k with h | h
          · exact hno i hi h
          · obtain rfl : i = k := by omega
            rw [he.out]
            exact HS.out), hb⟩
        case measure => simp [intOf]; omega
      have b3 : (x == 45) = false := by simpa using h3
      have b4 : (x == 46) = false := by simpa using h4
      have b5 : (x == 126) = false := by simpa using h5
      by_cases h6 : 97 ≤ x
      · have h7 : 122 < x := by omega
        have h8 : 48 ≤ x := by omega
        have h9 : 57 < x := by omega
        have d7 : decide (x ≤ 122) = false := by simp; omega
        have d9 : decide (x ≤ 57) = false := by simp; omega
        have HS := Lib.hid (show named s = false from by
          unfold named
          have h1 : isSign c0 = false := by rw [hs0]; simp; omega
          have : s.all isSign = false := List.all_eq_false.2 ⟨s[k], List.getElem_mem hlt, by rw [he.out, h1]; simp⟩
          rw [this]
          simp)
        clear hs0 hc0 hno
        go_wp2_with fail
        go_ret
        exact ⟨by rw [HS.out]; rfl, hb⟩
      · replace h6 : x < 97 := by omega
        by_cases h7 : 48 ≤ x
        · have h9 : 57 < x := by omega
          have d6 : decide (97 ≤ x) = false := by simp; omega
          have d9 : decide (x ≤ 57) = false := by simp; omega
          have HS := Lib.hid (show named s = false from by
            unfold named
            have h1 : isSign c0 = false := by rw [hs0]; simp; omega
            have : s.all isSign = false := List.all_eq_false.2 ⟨s[k], List.getElem_mem hlt, by rw [he.out, h1]; simp⟩
            rw [this]
            simp)
          clear hs0 hc0 hno
          go_wp2_with fail
          go_ret
          exact ⟨by rw [HS.out]; rfl, hb⟩
        · replace h7 : x < 48 := by omega
          have d6 : decide (97 ≤ x) = false := by simp; omega
          have d7 : decide (48 ≤ x) = false := by simp; omega
          have HS := Lib.hid (show named s = false from by
            unfold named
            have h1 : isSign c0 = false := by rw [hs0]; simp; omega
            have : s.all isSign = false := List.all_eq_false.2 ⟨s[k], List.getElem_mem hlt, by rw [he.out, h1]; simp⟩
            rw [this]
            simp)
          clear hs0 hc0 hno
          go_wp2_with fail
          go_ret
          exact ⟨by rw [HS.out]; rfl, hb⟩
    · have hke : k = s.length := by omega
      have hkI : (s.length : Int) ≤ (k : Int) := by omega
      have ha : s.all isSign = true := List.all_eq_true.2 fun x hx => by
        obtain ⟨i, hi, rfl⟩ := List.getElem_of_mem hx
        exact hno i hi (by omega)
      clear hno
      rcases Nat.lt_or_ge s.length 1 with h1 | h1
      · have hI : (s.length : Int) < 1 := by omega
        have HN := Lib.hid (show named s = false from by unfold named; simp; omega)
        go_wp2_with fail
        go_ret
        exact ⟨by rw [HN.out]; rfl, hb⟩
      have hI : (1 : Int) ≤ (s.length : Int) := by omega
      have HN := Lib.hid (show named s = decide ((s.length : Int) ≤ 24) from by unfold named; rw [ha, decide_eq_true (show 1 ≤ s.length from h1), Bool.true_and, Bool.and_true]; exact decide_eq_decide.2 (by omega))
      go_wp2_with fail
      go_ret
      exact ⟨by rw [HN.out]; rfl, hb⟩
/-! ### a nil disk -/
set_option maxRecDepth 100000 in
theorem NLooks_any (w : World) : Calls Tryz.prog 103 #[.pointer none] w fun e w' => e = .returned (.iface 79 (.int .i64 4)) ∧ Below w.heap.size w w' := by
  go_enter Tryz.func103, Tryz.ntmps103
  go_wp2_with fail
  go_ret
  exact ⟨rfl, Below.refl _ _⟩
set_option maxRecDepth 100000 in
theorem NWorks_any (w : World) : Calls Tryz.prog 107 #[.pointer none] w fun e w' => e = .returned (.iface 79 (.int .i64 4)) ∧ Below w.heap.size w w' := by
  go_enter Tryz.func107, Tryz.ntmps107
  go_wp2_with fail
  refine (NLooks_any _).mono ?_
  rintro e w1 ⟨rfl, hb⟩
  go_wp2_with fail
  go_ret
  exact ⟨rfl, hb⟩
set_option maxRecDepth 100000 in
theorem NCut_any (w : World) (v : Value) : Calls Tryz.prog 15 #[.pointer none, v] w fun e w' => e = .returned (.tuple #[]) ∧ Below w.heap.size w w' := by
  go_enter Tryz.func15, Tryz.ntmps15
  go_wp2_with fail
  refine bodyPost_ret (results_none rfl _ _ _) rfl ?_
  exact ⟨rfl, Below.refl _ _⟩
set_option maxRecDepth 100000 in
theorem NStart_any (w : World) : Calls Tryz.prog 16 #[.pointer none] w fun e w' => e = .returned (.tuple #[]) ∧ Below w.heap.size w w' := by
  go_enter Tryz.func16, Tryz.ntmps16
  go_wp2_with fail
  refine bodyPost_ret (results_none rfl _ _ _) rfl ?_
  exact ⟨rfl, Below.refl _ _⟩
set_option maxRecDepth 100000 in
theorem NRead_any (n : Value) (w : World) : Calls Tryz.prog 83 #[.pointer none, n] w fun e w' => e = .returned (.tuple #[.slice none 0 0, .iface 79 (.int .i64 4)]) ∧ Below w.heap.size w w' := by
  go_enter Tryz.func83, Tryz.ntmps83
  go_wp2_with fail
  refine (NLooks_any _).mono ?_
  rintro e w1 ⟨rfl, hb⟩
  go_wp2_with fail
  go_ret2
  exact ⟨rfl, hb⟩
set_option maxRecDepth 100000 in
theorem NList_any (w : World) : Calls Tryz.prog 46 #[.pointer none] w fun e w' => e = .returned (.tuple #[.slice none 0 0, .iface 79 (.int .i64 4)]) ∧ Below w.heap.size w w' := by
  go_enter Tryz.func46, Tryz.ntmps46
  go_wp2_with fail
  refine (NLooks_any _).mono ?_
  rintro e w1 ⟨rfl, hb⟩
  go_wp2_with fail
  go_ret2
  exact ⟨rfl, hb⟩
set_option maxRecDepth 100000 in
theorem NWrite_any (n b : Value) (w : World) : Calls Tryz.prog 79 #[.pointer none, n, b] w fun e w' => e = .returned (.iface 79 (.int .i64 4)) ∧ Below w.heap.size w w' := by
  go_enter Tryz.func79, Tryz.ntmps79
  go_wp2_with fail
  refine (NWorks_any _).mono ?_
  rintro e w1 ⟨rfl, hb⟩
  go_wp2_with fail
  go_ret
  exact ⟨rfl, hb⟩
set_option maxRecDepth 100000 in
theorem NRename_any (n b : Value) (w : World) : Calls Tryz.prog 81 #[.pointer none, n, b] w fun e w' => e = .returned (.iface 79 (.int .i64 4)) ∧ Below w.heap.size w w' := by
  go_enter Tryz.func81, Tryz.ntmps81
  go_wp2_with fail
  refine (NWorks_any _).mono ?_
  rintro e w1 ⟨rfl, hb⟩
  go_wp2_with fail
  go_ret
  exact ⟨rfl, hb⟩
set_option maxRecDepth 100000 in
theorem NRemove_any (n : Value) (w : World) : Calls Tryz.prog 48 #[.pointer none, n] w fun e w' => e = .returned (.iface 79 (.int .i64 4)) ∧ Below w.heap.size w w' := by
  go_enter Tryz.func48, Tryz.ntmps48
  go_wp2_with fail
  refine (NWorks_any _).mono ?_
  rintro e w1 ⟨rfl, hb⟩
  go_wp2_with fail
  go_ret
  exact ⟨rfl, hb⟩
set_option maxRecDepth 100000 in
theorem NSync_any (w : World) : Calls Tryz.prog 49 #[.pointer none] w fun e w' => e = .returned (.iface 79 (.int .i64 4)) ∧ Below w.heap.size w w' := by
  go_enter Tryz.func49, Tryz.ntmps49
  go_wp2_with fail
  refine (NWorks_any _).mono ?_
  rintro e w1 ⟨rfl, hb⟩
  go_wp2_with fail
  go_ret
  exact ⟨rfl, hb⟩
set_option maxRecDepth 100000 in
theorem NFuse_any (n : Value) (w : World) : Calls Tryz.prog 10 #[.pointer none, n] w fun e w' => e = .returned (.iface 79 (.int .i64 4)) ∧ Below w.heap.size w w' := by
  go_enter Tryz.func10, Tryz.ntmps10
  go_wp2_with fail
  go_ret
  exact ⟨rfl, Below.refl _ _⟩
set_option maxRecDepth 100000 in
theorem NPending_any (w : World) : Calls Tryz.prog 94 #[.pointer none] w fun e w' => e = .returned (.int .i64 0) ∧ Below w.heap.size w w' := by
  go_enter Tryz.func94, Tryz.ntmps94
  go_wp2_with fail
  go_ret
  exact ⟨rfl, Below.refl _ _⟩
set_option maxRecDepth 100000 in
theorem NUsed_any (w : World) : Calls Tryz.prog 95 #[.pointer none] w fun e w' => e = .returned (.int .i64 0) ∧ Below w.heap.size w w' := by
  go_enter Tryz.func95, Tryz.ntmps95
  go_wp2_with fail
  go_ret
  exact ⟨rfl, Below.refl _ _⟩
set_option maxRecDepth 100000 in
theorem NSure_any (w : World) : Calls Tryz.prog 91 #[.pointer none] w fun e w' => e = .returned (.slice none 0 0) ∧ Below w.heap.size w w' := by
  go_enter Tryz.func91, Tryz.ntmps91
  go_wp2_with fail
  go_ret
  exact ⟨rfl, Below.refl _ _⟩
set_option maxRecDepth 100000 in
theorem NDown_any (w : World) : Calls Tryz.prog 93 #[.pointer none] w fun e w' => e = .returned (.bool true) ∧ Below w.heap.size w w' := by
  go_enter Tryz.func93, Tryz.ntmps93
  go_wp2_with fail
  go_ret
  exact ⟨rfl, Below.refl _ _⟩
end Go.Proofs.YtddmfoldnlafaaaGreatDoor

namespace Go.Proofs.YtddmfoldnlafaaaGreatDoor
open Go.RowKit Go.Maps Go.Sort
attribute [local go_sem ↓] Go.wp_at_zero Go.wp_at_succ

theorem index_has (l : Bs) : decide (0 ≤ Lib.indexByte l 126) = decide (126 ∈ l) := by
  refine decide_eq_decide.2 ?_
  induction l with
  | nil => simp [Lib.indexByte]
  | cons b r ih =>
    have hge := Lib.indexByte_ge r 126
    unfold Lib.indexByte
    by_cases hb : b = 126
    · subst hb
      simp
    · rw [if_neg (by simpa using hb)]
      have hne : ¬ (126 : UInt8) = b := fun e => hb e.symm
      by_cases hm : Lib.indexByte r 126 = -1
      · rw [if_pos (by simp [hm])]
        rw [hm] at ih
        simp only [List.mem_cons, hne, false_or]
        rw [← ih]
      · rw [if_neg (by simpa using hm)]
        simp only [List.mem_cons, hne, false_or]
        rw [← ih]
        omega
set_option maxRecDepth 100000 in
set_option maxHeartbeats 1000000 in
theorem SNamed_any (s : Bs) (w : World) (hl : s.length ≤ 9223372036854775807) : Calls Tryz.prog 161 #[.string ⟨s.toArray⟩] w fun e w' => e = .returned (.bool (snamed s)) ∧ Below w.heap.size w w' := by
  have hsz : (ByteArray.size ⟨s.toArray⟩) = s.length := by simp [ByteArray.size]
  have HC := Lib.hid (fun W => Tryz.strings_Contains_one ⟨s.toArray⟩ 126 W)
  rcases Nat.lt_or_ge 20 s.length with h | h
  · have hI : (20 : Int) < (s.length : Int) := by omega
    have HN := Lib.hid (show snamed s = false from by unfold snamed; rw [decide_eq_false (by omega)]; rfl)
    go_enter Tryz.func161, Tryz.ntmps161
    go_wp2_with fail
    go_ret
    exact ⟨by rw [HN.out]; rfl, Below.refl _ _⟩
  have hI : (s.length : Int) ≤ 20 := by omega
  have hd : decide (s.length ≤ 20) = true := decide_eq_true (by omega)
  go_enter Tryz.func161, Tryz.ntmps161
  go_wp2_with fail
  refine (Named_any s w hl).mono ?_
  rintro e w1 ⟨rfl, hb⟩
  cases hn : named s with
  | false =>
    have HN := Lib.hid (show snamed s = false from by unfold snamed; rw [hd, hn]; rfl)
    go_wp2_with fail
    go_ret
    exact ⟨by rw [HN.out]; rfl, hb⟩
  | true =>
    have HN := Lib.hid (show snamed s = !decide (126 ∈ s) from by unfold snamed; rw [hd, hn]; simp)
    go_wp2_with fail
    refine (HC.out _).mono ?_
    rintro e w2 ⟨rfl, rfl⟩
    rw [index_has]
    go_wp2_with fail
    go_ret
    exact ⟨by rw [HN.out]; rfl, hb⟩
theorem errv_ifc {n : Nat} (h : n ≠ 0) : ∃ v, errv n = .iface 79 v := by
  match n, h with
  | k + 1, _ => exact ⟨_, rfl⟩
/-- a store in memory -/
abbrev sta (q : Fp) : Array Value := #[.pointer (some ⟨q.g, 0, none⟩)]
set_option maxRecDepth 100000 in
set_option maxHeartbeats 1000000 in
theorem Asks_any (g : Nat) (s : Bs) (w : World) (hl : s.length ≤ 9223372036854775807) : Calls Tryz.prog 124 #[.pointer (some ⟨g, 0, none⟩), .string ⟨s.toArray⟩] w fun e w' => e = .returned (errv (if snamed s = true then 0 else 2)) ∧ Below w.heap.size w w' := by
  have HN := Lib.hid (fun W => SNamed_any s W hl)
  cases hn : snamed s with
  | false =>
    rw [hn] at HN
    go_enter Tryz.func124, Tryz.ntmps124
    go_wp2_with fail
    refine (HN.out _).mono ?_
    rintro e w1 ⟨rfl, hb⟩
    go_wp2_with fail
    go_ret
    exact ⟨rfl, hb⟩
  | true =>
    rw [hn] at HN
    go_enter Tryz.func124, Tryz.ntmps124
    go_wp2_with fail
    refine (HN.out _).mono ?_
    rintro e w1 ⟨rfl, hb⟩
    go_wp2_with fail
    go_ret
    exact ⟨rfl, hb⟩
theorem Dgo.trans {w w1 w2 : World} {q q1 : Fp} {d d1 d2 : Dk Sv} (hg : q1.g = q.g) (hF : Frd q w w1) (hM : ∀ i, q1.M i → q.M i ∨ w.heap.size ≤ i) (hT : ∀ i, Tc q1 d1 i → Tc q d i ∨ w.heap.size ≤ i) (h : Dgo w1 q1 d1 d2 w2) : Dgo w q d d2 w2 := by
  obtain ⟨q2, hg2, hD, hF2, hM2, hT2⟩ := h
  have hs := hF.size
  refine ⟨q2, hg2.trans hg, hD, hF.trans hF2 hM, fun i hi => ?_, fun i hi => ?_⟩
  · rcases hM2 i hi with h1 | h1
    · exact hM i h1
    · exact .inr (by omega)
  · rcases hT2 i hi with h1 | h1
    · exact hT i h1
    · exact .inr (by omega)
theorem Dgo.below {w w1 w2 : World} {q : Fp} {d d2 : Dk Sv} (hb : Below w.heap.size w w1) (h : Dgo w1 q d d2 w2) : Dgo w q d d2 w2 :=
  Dgo.trans rfl (Frd.of_below hb) (fun _ hi => .inl hi) (fun _ hi => .inl hi) h
theorem Dgo.still {w w1 : World} {q : Fp} {d : Dk Sv} (h : Dsk w q d) (hb : Below w.heap.size w w1) : Dgo w q d d w1 := Dgo.of (h.below hb) (Frd.of_below hb) rfl rfl
/-- a store and its disk in memory -/
structure StM (w : World) (gs : Nat) (q : Fp) (d : Dk Sv) : Prop where
  dsk : Dsk w q d
  blk : Blk w gs 122 (sta q)
  ap : ¬ q.M gs
theorem StM.below {w w' : World} {gs : Nat} {q : Fp} {d : Dk Sv} (h : StM w gs q d) (hb : Below w.heap.size w w') : StM w' gs q d := ⟨h.dsk.below hb, h.blk.below hb, h.ap⟩
theorem StM.cl {w : World} {gs : Nat} {q : Fp} {d : Dk Sv} (h : StM w gs q d) : w.cell? ⟨gs, 0, none⟩ = some (.pointer (some ⟨q.g, 0, none⟩)) := h.blk.cell 0
theorem StM.act {w w' : World} {gs : Nat} {q q' : Fp} {d d' : Dk Sv} (h : StM w gs q d) (hg : q'.g = q.g) (hD : Dsk w' q' d') (hF : Frd q w w') (hM : ∀ i, q'.M i → q.M i ∨ w.heap.size ≤ i) : StM w' gs q' d' :=
  ⟨hD, by unfold sta; rw [hg]; exact (hF.block gs h.blk.lt h.ap).trans h.blk, fun hq => by
    rcases hM gs hq with h1 | h1
    · exact h.ap h1
    · have := h.blk.lt
      omega⟩
set_option maxRecDepth 100000 in
set_option maxHeartbeats 1000000 in
theorem SDelete_any {w : World} {gs : Nat} {q : Fp} {d : Dk Sv} (h : StM w gs q d) (hf : Fok d) (hl : d.sure.length + d.pend.length ≤ 1000) (n : Bs) (hn : n.length ≤ 100000000) :
    Calls Tryz.prog 74 #[.pointer (some ⟨gs, 0, none⟩), .string ⟨n.toArray⟩] w fun e w' => e = .returned (errv (sDelete Sv.nil d n).2) ∧ Dgo w q d (sDelete Sv.nil d n).1 w' := by
  have HA := Lib.hid (Asks_any gs n w (by omega))
  have HS := Lib.hid h
  clear h
  cases hs : snamed n with
  | false =>
    rw [hs, if_neg (by simp), show errv 2 = Value.iface 79 (.int .i64 2) from rfl] at HA
    have HX := Lib.hid (show sDelete Sv.nil d n = (d, 2) from by unfold sDelete; rw [if_pos hs])
    go_enter Tryz.func74, Tryz.ntmps74
    go_wp2_with fail
    refine HA.out.mono ?_
    rintro e w1 ⟨rfl, hb1⟩
    have HG := Lib.hid (Dgo.still HS.out.dsk hb1)
    go_wp2_with fail
    go_ret
    exact ⟨by rw [HX.out]; rfl, by rw [HX.out]; exact HG.out⟩
  | true =>
    rw [hs, if_pos rfl, show errv 0 = Value.nilIface from rfl] at HA
    have HX := Lib.hid (show sDelete Sv.nil d n = andThen (dRemove Sv.nil d n) dSync from by unfold sDelete; rw [if_neg (by simp [hs])])
    go_enter Tryz.func74, Tryz.ntmps74
    go_wp2_with fail
    refine HA.out.mono ?_
    rintro e w1 ⟨rfl, hb1⟩
    have hS1 := HS.out.below hb1
    have hb := hS1.cl
    obtain ⟨p1, p2, p3, -⟩ := hS1.dsk.fits hl (by omega)
    have HR := Lib.hid (Remove_any hS1.dsk hf p1 p2 n hn)
    have hop := Opd.remove Sv.nil d n
    generalize dRemove Sv.nil d n = r at *
    obtain ⟨d1, n1⟩ := r
    have hf1 := hf.opd hop
    have hl1 := opd_len hop hl
    dsimp only at hf1 hl1
    have HS1 := Lib.hid hS1
    have HB1 := Lib.hid hb1
    clear HA HS hS1 hb1 hop
    go_wp2_with fail
    refine HR.out.mono ?_
    rintro e w2 ⟨rfl, q2, hg2, hD2, hF2, hM2, hT2⟩
    dsimp only at hD2 hT2 ⊢
    rcases Decidable.em (n1 = 0) with h0 | h0
    · subst h0
      have hS2 := HS1.out.act hg2 hD2 hF2 hM2
      have hb2 := hS2.cl
      have HY := Lib.hid (Sync_any hD2 hf1)
      rw [hg2] at hb2 HY
      have HX2 := Lib.hid (show andThen (d1, 0) dSync = dSync d1 from rfl)
      have HT := Lib.hid (fun (d3 : Dk Sv) (w3 : World) (hG : Dgo w2 q2 d1 d3 w3) => Dgo.below HB1.out (Dgo.trans hg2 hF2 hM2 hT2 hG))
      rw [show errv 0 = Value.nilIface from rfl]
      clear HR hb hD2 hF2 hM2 hT2 hS2 HS1
      go_wp2_with fail
      refine HY.out.mono ?_
      rintro e w3 ⟨rfl, hG⟩
      have HG := Lib.hid (HT.out _ _ hG)
      clear HT HY hG
      go_wp2_with fail
      go_ret
      exact ⟨by rw [HX.out, HX2.out]; rfl, by rw [HX.out, HX2.out]; exact HG.out⟩
    · obtain ⟨ev, hev⟩ := errv_ifc h0
      have HX2 := Lib.hid (show andThen (d1, n1) dSync = (d1, n1) from if_pos h0)
      have HG := Lib.hid (Dgo.below HB1.out ⟨q2, hg2, hD2, hF2, hM2, hT2⟩)
      have HE := Lib.hid hev
      rw [hev]
      clear HR hb hD2 hF2 hM2 hT2 HS1 hev
      go_wp2_with fail
      go_ret
      exact ⟨by rw [HX.out, HX2.out, HE.out]; rfl, by rw [HX.out, HX2.out]; exact HG.out⟩
theorem cat_begun (n : Bs) : (⟨#[126]⟩ : ByteArray) ++ ⟨n.toArray⟩ = ⟨(begun n).toArray⟩ := by
  apply ByteArray.ext
  simp [begun]
theorem snamed_len {n : Bs} (h : snamed n = true) : n.length ≤ 20 := by
  unfold snamed at h
  simp only [Bool.and_eq_true, decide_eq_true_eq] at h
  exact h.1.1
set_option maxRecDepth 100000 in
set_option maxHeartbeats 1000000 in
theorem SPut_any {w : World} {gs : Nat} {q : Fp} {d : Dk Sv} (h : StM w gs q d) (hf : Fok d) (hl : d.sure.length + d.pend.length ≤ 900) (n : Bs) (hn : n.length ≤ 100000000) {A : Option Addr} {c : Nat} (l : Bs) (hS : SlB w A c l) (hSM : l ≠ [] → ∀ ad, A = some ad → ad.block ≠ q.g) (hll : l.length ≤ 100000000) :
    Calls Tryz.prog 61 #[.pointer (some ⟨gs, 0, none⟩), .string ⟨n.toArray⟩, .slice A l.length c] w fun e w' => ∃ A' c', e = .returned (errv (sPut svl Sv.nil d n ⟨A', c', l⟩).2) ∧ Dgo w q d (sPut svl Sv.nil d n ⟨A', c', l⟩).1 w' := by
  have HA := Lib.hid (Asks_any gs n w (by omega))
  have HS0 := Lib.hid h
  clear h
  cases hs : snamed n with
  | false =>
    rw [hs, if_neg (by simp), show errv 2 = Value.iface 79 (.int .i64 2) from rfl] at HA
    have HX := Lib.hid (show ∀ v, sPut svl Sv.nil d n v = (d, 2) from fun v => by unfold sPut; rw [if_pos hs])
    go_enter Tryz.func61, Tryz.ntmps61
    go_wp2_with fail
    refine HA.out.mono ?_
    rintro e w1 ⟨rfl, hb1⟩
    have HG := Lib.hid (Dgo.still HS0.out.dsk hb1)
    go_wp2_with fail
    go_ret
    exact ⟨none, 0, by rw [HX.out]; rfl, by rw [HX.out]; exact HG.out⟩
  | true =>
    have hnl := snamed_len hs
    rw [hs, if_pos rfl, show errv 0 = Value.nilIface from rfl] at HA
    have HX0 := Lib.hid (show ∀ v, sPut svl Sv.nil d n v = andThen (dWrite svl d (begun n) v) fun d => andThen (dSync d) fun d => andThen (dRename Sv.nil d (begun n) n) dSync from fun v => by unfold sPut; rw [if_neg (by simp [hs])])
    have hcat := cat_begun n
    have hbl : (begun n).length ≤ 21 := by unfold begun; simp; omega
    have hsz : (ByteArray.size ⟨n.toArray⟩) = n.length := by simp [ByteArray.size]
    have hsz1 : (ByteArray.size ⟨#[126]⟩) = 1 := rfl
    generalize hbn : begun n = bn at *
    go_enter Tryz.func61, Tryz.ntmps61
    go_wp2_with fail
    refine HA.out.mono ?_
    rintro e w1 ⟨rfl, hb1⟩
    have hS1 := HS0.out.below hb1
    have hb := hS1.cl
    obtain ⟨p1, p2, p3, -⟩ := hS1.dsk.fits hl (by omega)
    have HR := Lib.hid (Write_any hS1.dsk hf p1 p2 p3 bn (by omega) l (Sl.below hS hb1) hSM hll)
    have HS := Lib.hid hS1
    have HB1 := Lib.hid hb1
    obtain ⟨g0, hgq⟩ : ∃ g0, q.g = g0 := ⟨_, rfl⟩
    rw [hgq] at hb HR
    have HGq := Lib.hid hgq
    clear hgq
    have HT := Lib.hid (fun (d3 : Dk Sv) (w3 : World) (hG : Dgo w1 q d d3 w3) => Dgo.below hb1 hG)
    clear HA hS1 hb1 hS HS0 HB1
    go_wp2_with fail
    refine HR.out.mono ?_
    rintro e w2 ⟨A2, c2, rfl, q2, hg2, hD2, hF2, hM2, hT2⟩
    have HX := Lib.hid (HX0.out ⟨A2, c2, l⟩)
    have hop := Opd.write svl d bn ⟨A2, c2, l⟩
    generalize dWrite svl d bn ⟨A2, c2, l⟩ = r at hop HX hD2 hT2 ⊢
    clear HR HX0 hSM
    obtain ⟨d1, n1⟩ := r
    have hf1 := hf.opd hop
    have hl1 := opd_len hop hl
    dsimp only at hf1 hl1 hD2 hT2 ⊢
    rcases Decidable.em (n1 = 0) with h0 | h0
    rotate_left
    · obtain ⟨ev, hev⟩ := errv_ifc h0
      have HG := Lib.hid (HT.out d1 w2 ⟨q2, hg2, hD2, hF2, hM2, hT2⟩)
      have HE := Lib.hid hev
      have HXX := Lib.hid (HX.out.trans (if_pos h0))
      rw [hev]
      clear hD2 hF2 hM2 hT2 HS hev HX HT
      go_wp2_with fail
      go_ret
      exact ⟨A2, c2, by rw [HXX.out, HE.out]; rfl, by rw [HXX.out]; exact HG.out⟩
    subst h0
    have HX3 := HX.out.trans (if_neg (by simp))
    dsimp only at HX3
    have hS2 := HS.out.act hg2 hD2 hF2 hM2
    have hg3 := hg2.trans HGq.out
    have hb2 := hS2.cl
    rw [hg3] at hb2
    have HT2 := Lib.hid (fun (d3 : Dk Sv) (w3 : World) (hG : Dgo w2 q2 d1 d3 w3) => HT.out _ _ (Dgo.trans hg2 hF2 hM2 hT2 hG))
    rw [show errv 0 = Value.nilIface from rfl]
    clear HS HT HGq hD2 hF2 hM2 hT2 hb HX hf hl hop
    obtain ⟨p1, p2, p3, -⟩ := hS2.dsk.fits hl1 (by omega)
    have HY := Lib.hid (Sync_any hS2.dsk hf1)
    rw [hg3] at HY
    have hop := Opd.sync d1
    generalize hry : dSync d1 = r at hop HX3 HY
    clear hry
    have HS := Lib.hid hS2
    have HT := Lib.hid HT2.out
    have HGq := Lib.hid hg3
    have HX := Lib.hid HX3
    have hb := hb2
    have hf := hf1
    have hl := hl1
    clear hS2 HT2 hg2 hg3 hb2 HX3 p1 p2 p3 hf1 hl1
    go_wp2_with fail
    refine HY.out.mono ?_
    clear HY
    rintro e w2 ⟨rfl, q2, hg2, hD2, hF2, hM2, hT2⟩
    obtain ⟨d1, n1⟩ := r
    have hf1 := hf.opd hop
    have hl1 := opd_len hop hl
    dsimp only at hf1 hl1 hD2 hT2 ⊢
    rcases Decidable.em (n1 = 0) with h0 | h0
    rotate_left
    · obtain ⟨ev, hev⟩ := errv_ifc h0
      have HG := Lib.hid (HT.out d1 w2 ⟨q2, hg2, hD2, hF2, hM2, hT2⟩)
      have HE := Lib.hid hev
      have HXX := Lib.hid (HX.out.trans (if_pos h0))
      rw [hev]
      clear hD2 hF2 hM2 hT2 HS hev HX HT
      go_wp2_with fail
      go_ret
      exact ⟨A2, c2, by rw [HXX.out, HE.out]; rfl, by rw [HXX.out]; exact HG.out⟩
    subst h0
    have HX3 := HX.out.trans (if_neg (by simp))
    dsimp only at HX3
    have hS2 := HS.out.act hg2 hD2 hF2 hM2
    have hg3 := hg2.trans HGq.out
    have hb2 := hS2.cl
    rw [hg3] at hb2
    have HT2 := Lib.hid (fun (d3 : Dk Sv) (w3 : World) (hG : Dgo w2 q2 d1 d3 w3) => HT.out _ _ (Dgo.trans hg2 hF2 hM2 hT2 hG))
    rw [show errv 0 = Value.nilIface from rfl]
    clear HS HT HGq hD2 hF2 hM2 hT2 hb HX hf hl hop
    obtain ⟨p1, p2, p3, -⟩ := hS2.dsk.fits hl1 (by omega)
    have HY := Lib.hid (Rename_any hS2.dsk hf1 p1 p2 bn n (by omega) hn)
    rw [hg3] at HY
    have hop := Opd.rename Sv.nil d1 bn n
    generalize hry : dRename Sv.nil d1 bn n = r at hop HX3 HY
    clear hry
    have HS := Lib.hid hS2
    have HT := Lib.hid HT2.out
    have HGq := Lib.hid hg3
    have HX := Lib.hid HX3
    have hb := hb2
    have hf := hf1
    have hl := hl1
    clear hS2 HT2 hg2 hg3 hb2 HX3 p1 p2 p3 hf1 hl1
    go_wp2_with fail
    refine HY.out.mono ?_
    clear HY
    rintro e w2 ⟨rfl, q2, hg2, hD2, hF2, hM2, hT2⟩
    obtain ⟨d1, n1⟩ := r
    have hf1 := hf.opd hop
    have hl1 := opd_len hop hl
    dsimp only at hf1 hl1 hD2 hT2 ⊢
    rcases Decidable.em (n1 = 0) with h0 | h0
    rotate_left
    · obtain ⟨ev, hev⟩ := errv_ifc h0
      have HG := Lib.hid (HT.out d1 w2 ⟨q2, hg2, hD2, hF2, hM2, hT2⟩)
      have HE := Lib.hid hev
      have HXX := Lib.hid (HX.out.trans (if_pos h0))
      rw [hev]
      clear hD2 hF2 hM2 hT2 HS hev HX HT
      go_wp2_with fail
      go_ret
      exact ⟨A2, c2, by rw [HXX.out, HE.out]; rfl, by rw [HXX.out]; exact HG.out⟩
    subst h0
    have HX3 := HX.out.trans (if_neg (by simp))
    dsimp only at HX3
    have hS2 := HS.out.act hg2 hD2 hF2 hM2
    have hg3 := hg2.trans HGq.out
    have hb2 := hS2.cl
    rw [hg3] at hb2
    have HT2 := Lib.hid (fun (d3 : Dk Sv) (w3 : World) (hG : Dgo w2 q2 d1 d3 w3) => HT.out _ _ (Dgo.trans hg2 hF2 hM2 hT2 hG))
    rw [show errv 0 = Value.nilIface from rfl]
    clear HS HT HGq hD2 hF2 hM2 hT2 hb HX hf hl hop
    obtain ⟨p1, p2, p3, -⟩ := hS2.dsk.fits hl1 (by omega)
    have HY := Lib.hid (Sync_any hS2.dsk hf1)
    rw [hg3] at HY
    clear hg3
    go_wp2_with fail
    refine HY.out.mono ?_
    clear HY
    rintro e w2 ⟨rfl, hG⟩
    have HG := Lib.hid (HT2.out _ _ hG)
    have HX := Lib.hid HX3
    clear hG HT2 HX3
    go_wp2_with fail
    go_ret
    exact ⟨A2, c2, by rw [HX.out]; rfl, by rw [HX.out]; exact HG.out⟩
end Go.Proofs.YtddmfoldnlafaaaGreatDoor
