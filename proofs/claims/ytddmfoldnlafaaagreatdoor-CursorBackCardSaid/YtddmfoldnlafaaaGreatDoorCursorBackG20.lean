/- WHAT IT HOLDS: the sums of package crc, walked. | WHAT IT HOLDS: slices.Grow of nothing, slices.Concat, slices.Equal over bytes, walked. | WHAT IT HOLDS: the sum's four bytes, Sealed, Opened of package crc, and the document's sums, walked. | WHAT IT HOLDS: Sealed, Opened of package crc, walked. | WHAT IT HOLDS: frames, plainly (no program). -/
import Derived.Test.YtddmfoldnlafaaaGreatDoorCursorBackG19
import Derived.Test.YtddmfoldnlafaaaGreatDoorCursorBackG02
import Derived.Lib.AppendZeros
import Derived.BigQuiet
import Derived.Test.YtddmfoldnlafaaaGreatDoorCursorBackG03
import Derived.Deep.DeepCutAuto
namespace Go.Proofs.YtddmfoldnlafaaaGreatDoor
open Go.RowKit

set_option maxRecDepth 100000 in
set_option maxHeartbeats 1600000 in
theorem extend_at (g : Nat) (n : Int) (s : W32) (A : Option Addr) (c : Nat) (l : List UInt8) (w : World) (hM : Mkr w g n) (hs : SlB w A c l) (hA : l ≠ [] → A.map (·.block) ≠ some g) (hl : l.length ≤ 1000000000) :
    Calls Tryz.prog 202 #[.pointer (some ⟨g, 0, none⟩), wv s, .slice A l.length c] w fun e w' => e = .returned (wv (extW s l)) ∧ Mk w' g 1 0 n 256 ∧ But g w w' := by
  have hsg : ¬ (IntKind.u32.signed = true) := by decide
  have hmx : IntKind.u32.max = 4294967295 := by decide
  have hns := not_wn s
  have hns1 := not_wn
  go_enter Tryz.func202, Tryz.ntmps202
  go_wp2_with fail
  refine (do_any g n _ hM).mono ?_
  rintro e w1 ⟨rfl, hM1, hB1⟩
  have hs1 := SlB.but hs hB1 hA
  go_wp2_with fail
  go_loopw [7, 26] (fun v i wr => ∃ (k : Nat) (y : W32), k ≤ l.length ∧ i = .int .i64 k ∧ v = wv y ∧ Hid (crcS (~~~ s) l = crcS y (l.drop k)) ∧ w1 = wr) (fun v i w => l.length - (intOf i).toNat)
  case atStart => exact ⟨0, ~~~ s, Nat.zero_le _, rfl, rfl, rfl, rfl⟩
  case round =>
    obtain ⟨k, y, hk, rfl, rfl, hy, rfl⟩ := hrel
    by_cases hlt : k < l.length
    · obtain ⟨ad, rfl, hc⟩ := hs1.at1 hlt
      have hj : (y.toNat % 256) ^^^ l[k].toNat < 256 := Nat.xor_lt_two_pow (n := 8) (Nat.mod_lt _ (by decide)) l[k].toNat_lt
      have hcell := hM1.at hj
      have hbt := by_table y l[k]
      have e1 := mod_wn y
      have e2 := xor_u8 (a := y.toNat % 256) (b := l[k].toNat) (Nat.mod_lt _ (by decide)) l[k].toNat_lt
      have e3 := shr8_wn y
      have e4 := fun T => xor_wn T (y >>> 8)
      have hcd := crcS_drop hlt y
      rw [hbt] at hcd
      generalize st8 (BitVec.ofNat 32 ((y.toNat % 256) ^^^ l[k].toNat)) = T at *
      generalize (y.toNat % 256) ^^^ l[k].toNat = j at *
      generalize y.toNat % 256 = m at *
      have HC := Lib.hid hcd
      have hjb : (0 : Int) ≤ (j : Int) ∧ (j : Int) < 256 := by omega
      clear hcd hbt
      go_wp2
      go_roundw
      case rel => exact ⟨k + 1, T ^^^ (y >>> 8), hlt, by go_num, rfl, (show crcS (~~~ s) l = _ from by rw [hy.out, HC.out]), by trivial⟩
      case measure => simp [intOf]; omega
    · obtain rfl : k = l.length := by omega
      have hfin : crcS (~~~ s) l = y := by rw [hy.out, List.drop_length]; rfl
      have HF := Lib.hid hfin
      clear hfin
      have hn2 := not_wn y
      go_wp2
      go_ret
      exact ⟨by unfold extW; rw [HF.out]; rfl, hM1, hB1⟩
theorem But.of_below {B g : Nat} {w w' : World} (h : Below B w w') (hB : w.heap.size ≤ B) : But g w w' := ⟨h.os, h.tape, h.output, h.size, fun k hk _ => h.block k (Nat.lt_of_lt_of_le hk hB)⟩
theorem below_of_but {a w w' : World} {g : Nat} (h : But g w w') (hb : Below a.heap.size a w) (hg : a.heap.size ≤ g) : Below a.heap.size a w' :=
  hb.grown h hb.size (fun k hk => by injection hk with hk; omega)
theorem Sl.old {w : World} {size n c g : Nat} {A : Option Addr} {xs : List Value} (h : Sl w size A n c xs) (hg : w.heap.size ≤ g) : xs ≠ [] → A.map (·.block) ≠ some g := by
  intro hne hA
  obtain ⟨ad, rfl, hc⟩ := h.2.2.2.2.at (k := 0) (by cases xs <;> simp_all)
  have := World.block_lt_of_cell? _ _ hc
  rw [addr_add_block] at this
  simp at hA
  omega
theorem SlB.old {w : World} {c g : Nat} {A : Option Addr} {l : List UInt8} (h : SlB w A c l) (hg : w.heap.size ≤ g) : l ≠ [] → A.map (·.block) ≠ some g := fun hne => Sl.old h hg (by simpa using hne)

set_option maxRecDepth 100000 in
set_option maxHeartbeats 1600000 in
theorem extend_nil (s : W32) (A : Option Addr) (c : Nat) (l : List UInt8) (w : World) (hs : SlB w A c l) (hl : l.length ≤ 1000000000) :
    Calls Tryz.prog 202 #[.pointer none, wv s, .slice A l.length c] w fun e w' => e = .returned (wv (extW s l)) ∧ Below w.heap.size w w' := by
  go_enter Tryz.func202, Tryz.ntmps202
  go_wp2_with fail
  refine (CrcNew_any _).mono ?_
  rintro e w1 ⟨rfl, hM1, hb1⟩
  go_wp2_with fail
  refine (extend_at w.heap.size 0 s A c l _ (.inl hM1) (hs.below hb1) (SlB.old hs (Nat.le_refl _)) hl).mono ?_
  rintro e w2 ⟨rfl, hM2, hB2⟩
  go_wp2_with fail
  go_ret
  exact ⟨rfl, below_of_but hB2 hb1 (Nat.le_refl _)⟩

theorem Mkr.cell {w : World} {g : Nat} {n : Int} (h : Mkr w g n) : w.cell? ⟨g, 259, none⟩ = some (.int .i64 n) ∧ w.frozen? ⟨g, 259, none⟩ = false := by
  rcases h with h | h <;> exact ⟨h.cell.2.2.1, h.cell.2.2.2.2.2.1⟩
theorem Mkr.set9 {w : World} {g : Nat} {n : Int} (h : Mkr w g n) (x : Int) : Mkr (w.setCell ⟨g, 259, none⟩ (.int .i64 x)) g x := by
  rcases h with h | h
  · exact .inl (h.set9 (by omega) x)
  · exact .inr (h.set9 (by omega) x)
set_option maxRecDepth 100000 in
set_option maxHeartbeats 1600000 in
theorem ask_at (g n : Nat) (w : World) (hM : Mkr w g n) (hn : n < 1000000000) : Calls Tryz.prog 183 #[.pointer (some ⟨g, 0, none⟩)] w fun e w' => e = .returned (.tuple #[]) ∧ Mkr w' g ((n + 1 : Nat) : Int) ∧ But g w w' := by
  obtain ⟨hc, hz⟩ := hM.cell
  have hadd := run_call_add (P := Tryz.prog) Tryz.func129 (by kernel_rfl) (by kernel_rfl) (by kernel_rfl) .i64 (by kernel_rfl) (y := 1) (s := ((n + 1 : Nat) : Int)) hc hz (by simp [go_sem]; rw [IntKind.wrap_i64]; omega)
  go_enter Tryz.func183, Tryz.ntmps183
  go_wp2
  go_end0
  exact ⟨rfl, hM.set9 _, (But.refl _ _).set _ _⟩
set_option maxRecDepth 100000 in
set_option maxHeartbeats 1600000 in
theorem ask_nil (w : World) : Calls Tryz.prog 183 #[.pointer none] w fun e w' => e = .returned (.tuple #[]) ∧ w = w' := by
  go_enter Tryz.func183, Tryz.ntmps183
  go_wp2
  go_end0
  exact ⟨rfl, rfl⟩
set_option maxRecDepth 100000 in
set_option maxHeartbeats 1600000 in
theorem Extend_at (g n : Nat) (s : W32) (A : Option Addr) (c : Nat) (l : List UInt8) (w : World) (hM : Mkr w g n) (hn : n < 1000000000) (hs : SlB w A c l) (hA : l ≠ [] → A.map (·.block) ≠ some g) (hl : l.length ≤ 1000000000) :
    Calls Tryz.prog 182 #[.pointer (some ⟨g, 0, none⟩), wv s, .slice A l.length c] w fun e w' => e = .returned (wv (extW s l)) ∧ Mkr w' g ((n + 1 : Nat) : Int) ∧ But g w w' := by
  go_enter Tryz.func182, Tryz.ntmps182
  go_wp2_with fail
  refine (ask_at g n _ hM hn).mono ?_
  rintro e w1 ⟨rfl, hM1, hB1⟩
  go_wp2_with fail
  refine (extend_at g _ s A c l _ hM1 (SlB.but hs hB1 hA) hA hl).mono ?_
  rintro e w2 ⟨rfl, hM2, hB2⟩
  go_wp2_with fail
  go_ret
  exact ⟨rfl, .inr hM2, hB1.trans hB2⟩
set_option maxRecDepth 100000 in
set_option maxHeartbeats 1600000 in
theorem Extend_nil (s : W32) (A : Option Addr) (c : Nat) (l : List UInt8) (w : World) (hs : SlB w A c l) (hl : l.length ≤ 1000000000) :
    Calls Tryz.prog 182 #[.pointer none, wv s, .slice A l.length c] w fun e w' => e = .returned (wv (extW s l)) ∧ Below w.heap.size w w' := by
  go_enter Tryz.func182, Tryz.ntmps182
  go_wp2_with fail
  refine (ask_nil _).mono ?_
  rintro e w1 ⟨rfl, rfl⟩
  go_wp2_with fail
  refine (extend_nil s A c l _ hs hl).mono ?_
  rintro e w2 ⟨rfl, hB2⟩
  go_wp2_with fail
  go_ret
  exact ⟨rfl, hB2⟩
theorem wn_zero : wn 0#32 = 0 := rfl
set_option maxRecDepth 100000 in
set_option maxHeartbeats 1600000 in
theorem Sum_at (g n : Nat) (A : Option Addr) (c : Nat) (l : List UInt8) (w : World) (hM : Mkr w g n) (hn : n < 1000000000) (hs : SlB w A c l) (hA : l ≠ [] → A.map (·.block) ≠ some g) (hl : l.length ≤ 1000000000) :
    Calls Tryz.prog 159 #[.pointer (some ⟨g, 0, none⟩), .slice A l.length c] w fun e w' => e = .returned (wv (sumW l)) ∧ Mkr w' g ((n + 1 : Nat) : Int) ∧ But g w w' := by
  go_enter Tryz.func159, Tryz.ntmps159
  go_wp2_with fail
  refine (Extend_at g n 0#32 A c l _ hM hn hs hA hl).mono ?_
  rintro e w1 ⟨rfl, hM1, hB1⟩
  go_wp2_with fail
  go_ret
  exact ⟨rfl, hM1, hB1⟩
set_option maxRecDepth 100000 in
set_option maxHeartbeats 1600000 in
theorem Sum_nil (A : Option Addr) (c : Nat) (l : List UInt8) (w : World) (hs : SlB w A c l) (hl : l.length ≤ 1000000000) :
    Calls Tryz.prog 159 #[.pointer none, .slice A l.length c] w fun e w' => e = .returned (wv (sumW l)) ∧ Below w.heap.size w w' := by
  go_enter Tryz.func159, Tryz.ntmps159
  go_wp2_with fail
  refine (Extend_nil 0#32 A c l _ hs hl).mono ?_
  rintro e w1 ⟨rfl, hB1⟩
  go_wp2_with fail
  go_ret
  exact ⟨rfl, hB1⟩
/-- parts: each an address, a capacity, its bytes -/
abbrev Pt := Option Addr × Nat × List UInt8
abbrev pv (x : Pt) : Value := .slice x.1 x.2.2.length x.2.1
def partsOf (ps : List Pt) : List UInt8 := ps.flatMap (·.2.2)
theorem sum_snoc {ps : List Pt} {k : Nat} (hk : k < ps.length) : sumW (partsOf (ps.take (k + 1))) = extW (sumW (partsOf (ps.take k))) ps[k].2.2 := by
  unfold partsOf sumW
  rw [List.take_succ_eq_append_getElem hk, List.flatMap_append, ← extW_append]
  simp
theorem but_sl {w w' : World} {A : Option Addr} {n c g size : Nat} {xs : List Value} (h : Sl w size A n c xs) (hb : But g w w') (hA : xs ≠ [] → A.map (·.block) ≠ some g) : Sl w' size A n c xs := by
  refine ⟨h.1, h.2.1, h.2.2.1, h.2.2.2.1, fun j u hj => ?_⟩
  obtain ⟨ad, hA2, hc⟩ := h.2.2.2.2 j u hj
  have hne : xs ≠ [] := by intro e; rw [e] at hj; simp at hj
  subst hA2
  exact ⟨ad, rfl, hb.cell hc (by rw [addr_add_block]; exact hA hne)⟩
end Go.Proofs.YtddmfoldnlafaaaGreatDoor

namespace Go.Proofs.YtddmfoldnlafaaaGreatDoor
open Go.RowKit

set_option maxRecDepth 100000 in
set_option maxHeartbeats 1000000 in
theorem Grow_nil (n : Nat) (hn : n ≤ 1000000000) (w : World) : Calls Tryz.prog 157 #[.slice none 0 0, .int .i64 n] w fun e w' => ∃ A c, e = .returned (.slice A 0 c) ∧ OwnB w' w.heap.size 5 A c [] ∧ Below w.heap.size w w' := by
  obtain ⟨i0, hi, hz0, hz1, hz2⟩ := info_parts u8_info
  by_cases h0 : n = 0
  · subst h0
    go_enter Tryz.func157, Tryz.ntmps157
    go_wp2
    go_ret
    exact ⟨none, 0, rfl, Own.none_ _ _ _ _, Below.refl _ _⟩
  · have hcap := grownCap_ge w n 0 5
    have hcm := grownCap_le_maxLen w n 0 5 (by unfold maxLen; omega)
    have hr := fun ty => Lib.run_append_nil_zeros (P := Tryz.prog) w 25 3 ty 5 i0 (.int .u8 0) .i64 .i64 Tryz.underlying25 Tryz.underlying3 hi hz0 n (by omega) (by omega) (by omega) (by rw [hz2]; omega)
    generalize grownCap w n 0 5 = k at *
    have hown := World.ownsRow_made (e := 5) (size := 1) (base := w.heap.size) w.drew (Builtin.zeroCells (Value.int .u8 0).cells n ++ Builtin.zeroCells (Value.int .u8 0).cells (k - n)) k (Nat.le_refl _) hcm (by simp [Builtin.zeroCells, Value.cells]; omega)
    have HO := Lib.hid hown
    have HR := Lib.hid hr
    clear hown hr
    have hmk : ¬ ((k : Int) < 0) := by omega
    unfold maxLen at hcm
    go_enter Tryz.func157, Tryz.ntmps157
    go_wp2_with (at_builtin; go_must (refine Lib.wpList_append_run _ rfl _ _ _ _ rfl _ _ rfl rfl _ _ (HR.out _) ?_))
    go_ret
    exact ⟨_, _, rfl, HO.out, bel_alloc ((Below.refl w.heap.size w).drew) _⟩

theorem partsOf_snoc {ps : List Pt} {k : Nat} (hk : k < ps.length) : partsOf (ps.take (k + 1)) = partsOf (ps.take k) ++ ps[k].2.2 := by
  unfold partsOf
  rw [List.take_succ_eq_append_getElem hk, List.flatMap_append]
  simp
theorem partsOf_le {ps : List Pt} (k : Nat) : (partsOf (ps.take k)).length ≤ (partsOf ps).length := by
  have h := List.take_append_drop k ps
  have : partsOf ps = partsOf (ps.take k) ++ partsOf (ps.drop k) := by unfold partsOf; rw [← List.flatMap_append, h]
  rw [this, List.length_append]; omega

set_option maxRecDepth 100000 in
set_option maxHeartbeats 1000000 in
theorem Concat_any (P : Option Addr) (cp : Nat) (ps : List Pt) (w : World) (hP : Sl w 1 P ps.length cp (ps.map pv)) (hs : ∀ x ∈ ps, SlB w x.1 x.2.1 x.2.2) (hl : (partsOf ps).length ≤ 1000000000) :
    Calls Tryz.prog 113 #[.slice P ps.length cp] w (GivesB w (partsOf ps)) := by
  have hmax := hP.len_le
  unfold maxLen at hmax
  go_enter Tryz.func113, Tryz.ntmps113
  go_wp2
  go_loopw [3, 11] (fun v i wr => ∃ k : Nat, k ≤ ps.length ∧ i = .int .i64 k ∧ v = .int .i64 ((partsOf (ps.take k)).length : Nat) ∧ w = wr) (fun v i w => ps.length - (intOf i).toNat)
  case atStart => exact ⟨0, Nat.zero_le _, rfl, rfl, rfl⟩
  case round =>
    obtain ⟨k, hk, rfl, rfl, rfl⟩ := hrel
    by_cases hlt : k < ps.length
    · obtain ⟨ad, rfl, hc⟩ := hP.at1 hlt
      have hsn := congrArg List.length (partsOf_snoc hlt)
      rw [List.length_append] at hsn
      have hle := partsOf_le (ps := ps) (k + 1)
      have q1 := hs ps[k] (List.getElem_mem hlt)
      rw [hsn] at hle
      generalize hx : ps[k] = x at *
      obtain ⟨xa, xc, xl⟩ := x
      dsimp only at hc hsn hle q1
      have HS := Lib.hid hsn
      clear hsn hs q1
      generalize (partsOf (ps.take k)).length = a at *
      go_wp2
      go_roundw
      case rel => exact ⟨k + 1, hlt, by go_num, by rw [HS.out]; go_num, by trivial⟩
      case measure => simp [intOf]; omega
    · obtain rfl : k = ps.length := by omega
      rw [List.take_length]
      go_wp2_with fail
      refine (Grow_nil (partsOf ps).length hl _).mono ?_
      rintro e w1 ⟨A1, c1, rfl, ho1, hb1⟩
      go_wp2_with fail
      go_loopw [6, 27] (fun v i wr => ∃ (j : Nat) (B : Option Addr) (d : Nat) (m : List UInt8), j ≤ ps.length ∧ i = .int .i64 j ∧ v = .slice B m.length d ∧ Hid (m = partsOf (ps.take j)) ∧ OwnB wr w.heap.size 5 B d m ∧ Below w.heap.size w wr) (fun v i w => ps.length - (intOf i).toNat)
      case atStart => exact ⟨0, A1, c1, [], Nat.zero_le _, rfl, rfl, rfl, ho1, hb1⟩
      case round =>
        obtain ⟨j, B, d, m, hj, rfl, rfl, hm, hor, hbr⟩ := hrel
        by_cases hlt2 : j < ps.length
        · obtain ⟨ad, rfl, hc⟩ := (hP.below hbr).at1 hlt2
          have hsn := partsOf_snoc hlt2
          have hle := partsOf_le (ps := ps) (j + 1)
          have q1 := (hs ps[j] (List.getElem_mem hlt2)).below hbr
          rw [hsn, List.length_append, ← hm.out] at hle
          generalize hx : ps[j] = x at *
          obtain ⟨xa, xc, xl⟩ := x
          dsimp only at hc hsn hle q1
          have HS := Lib.hid hsn
          clear hsn
          go_wp2_with (at_builtin; go_must (refine wpl_bytes 25 5 Tryz.underlying25 u8_info rfl _ _ rfl w.heap.size B d m rfl hor xa xc xl rfl q1 (by omega) hbr.size ?_; intro A2 c2 m2 w2 hm2 ho2 _ _ hb2))
          go_roundw
          case rel => exact ⟨j + 1, A2, c2, m2, hlt2, by go_num, rfl, (show _ = _ from by rw [hm2.out, HS.out, hm.out]), ho2, hbr.trans hb2⟩
          case measure => simp [intOf]; omega
        · go_wp2_with fail
          go_ret
          exact ⟨B, d, m, rfl, (show _ = _ from by rw [hm.out, List.take_of_length_le (by omega)]), hor, hbr⟩
end Go.Proofs.YtddmfoldnlafaaaGreatDoor

namespace Go.Proofs.YtddmfoldnlafaaaGreatDoor
open Go.RowKit

/-- bytes that can be read, whole -/
def ReadsB (w0 : World) (l : List UInt8) (e : Ending) (w' : World) : Prop :=
  ∃ A c m, e = .returned (.slice A (List.length m) c) ∧ Hid (m = l) ∧ SlB w' A c m ∧ Below w0.heap.size w0 w'
theorem four_len (x : W32) : (four x).length = 4 := rfl
theorem four0 (x : W32) : HMod.hMod (α := Int) (β := Int) (HDiv.hDiv (α := Int) (β := Int) (wn x) (16777216 : Int)) (256 : Int) = ((UInt8.ofNat (x.toNat / 16777216)).toNat : Int) := by
  have := x.isLt
  unfold wn; rw [UInt8.toNat_ofNat']; omega
theorem four1 (x : W32) : HMod.hMod (α := Int) (β := Int) (HDiv.hDiv (α := Int) (β := Int) (wn x) (65536 : Int)) (256 : Int) = ((UInt8.ofNat (x.toNat / 65536 % 256)).toNat : Int) := by
  have := x.isLt
  unfold wn; rw [UInt8.toNat_ofNat']; omega
theorem four2 (x : W32) : HMod.hMod (α := Int) (β := Int) (HDiv.hDiv (α := Int) (β := Int) (wn x) (256 : Int)) (256 : Int) = ((UInt8.ofNat (x.toNat / 256 % 256)).toNat : Int) := by
  have := x.isLt
  unfold wn; rw [UInt8.toNat_ofNat']; omega
theorem four3 (x : W32) : HMod.hMod (α := Int) (β := Int) (wn x) (256 : Int) = ((UInt8.ofNat (x.toNat % 256)).toNat : Int) := by
  have := x.isLt
  unfold wn; rw [UInt8.toNat_ofNat']; omega
theorem wn_nonneg (x : W32) : 0 ≤ wn x := by unfold wn; omega
theorem wn_tdiv (x : W32) (k : Int) (_ : 0 ≤ k) : (wn x).tdiv k = wn x / k := Int.tdiv_eq_ediv_of_nonneg (wn_nonneg x)
theorem half_tdiv (x : W32) : (wn x).tdiv 2 = wn (x >>> 1) := by rw [wn_tdiv x 2 (by omega), half_wn]
theorem wn_u32 (x : W32) : HMod.hMod (α := Int) (β := Int) (wn x) (4294967296 : Int) = wn x := by
  have := x.isLt
  unfold wn; omega
theorem tmod2 (x : W32) : (wn x).tmod 2 = ((if x.getLsbD 0 then 1 else 0 : Nat) : Int) := by
  rw [Int.tmod_eq_emod_of_nonneg (wn_nonneg x)]
  have : x.getLsbD 0 = decide (x.toNat % 2 = 1) := by rw [← BitVec.testBit_toNat, Nat.testBit_zero]
  rw [this]
  unfold wn
  by_cases h : x.toNat % 2 = 1
  · simp [h]; omega
  · simp [h]; omega

set_option maxRecDepth 100000 in
set_option maxHeartbeats 1000000 in
theorem four_any (x : W32) (w : World) : Calls Tryz.prog 158 #[wv x] w (ReadsB w (four x)) := by
  go_enter Tryz.func158, Tryz.ntmps158
  go_wp2
  go_ret
  exact ⟨_, 4, four x, rfl, rfl, by rw [four0, four1, four2, four3]; exact Sl.lits w (bvs (four x)) 5 (by simp [four, maxLen]), below_new _ _⟩
set_option maxRecDepth 100000 in
set_option maxHeartbeats 1000000 in
theorem rFour_any (x : W32) (w : World) : Calls Tryz.prog 165 #[wv x] w (ReadsB w (four x)) := by
  go_enter Tryz.func165, Tryz.ntmps165
  go_wp2
  go_ret
  exact ⟨_, 4, four x, rfl, rfl, by rw [wn_tdiv x _ (by omega), wn_tdiv x _ (by omega), wn_tdiv x _ (by omega), four0, four1, four2, four3]; exact Sl.lits w (bvs (four x)) 5 (by simp [four, maxLen]), below_new _ _⟩
set_option maxRecDepth 100000 in
set_option maxHeartbeats 1000000 in
theorem rExtend_any (s : W32) (A : Option Addr) (c : Nat) (l : List UInt8) (w : World) (hs : SlB w A c l) (hl : l.length ≤ 1000000000) :
    Calls Tryz.prog 186 #[wv s, .slice A l.length c] w fun e w' => e = .returned (wv (extW s l)) ∧ w = w' := by
  have hns : bits .xor .u32 (wn s) 4294967295 = wn (~~~ s) := by
    have := xor_wn s (BitVec.allOnes 32); rw [BitVec.xor_allOnes] at this; exact this
  go_enter Tryz.func186, Tryz.ntmps186
  go_wp2
  go_loopw [5, 6] (fun v i wr => ∃ (k : Nat) (y : W32), k ≤ l.length ∧ i = .int .i64 k ∧ v = wv y ∧ Hid (crcS (~~~ s) l = crcS y (l.drop k)) ∧ w = wr) (fun v i w => l.length - (intOf i).toNat)
  case atStart => exact ⟨0, ~~~ s, Nat.zero_le _, rfl, rfl, rfl, rfl⟩
  case round =>
    obtain ⟨k, y, hk, rfl, rfl, hy, rfl⟩ := hrel
    by_cases hlt : k < l.length
    · obtain ⟨ad, rfl, hc⟩ := hs.at1 hlt
      have hx : bits .xor .u32 (wn y) (l[k].toNat : Int) = wn (y ^^^ bw l[k]) := by
        rw [← xor_wn]; unfold wn; rw [bw_toNat]
      have hcd := crcS_drop hlt y
      have hb256 := l[k].toNat_lt
      have HY : Hid (crcS (~~~ s) l = crcS (st8 (y ^^^ bw l[k])) (l.drop (k + 1))) := (show _ = _ from by rw [hy.out, hcd])
      generalize y ^^^ bw l[k] = z at *
      generalize hb : l[k] = b at *
      clear hcd hb
      go_wp2
      go_loopw [5, 7] (fun v i wr => ∃ (j : Nat) (q : W32), j ≤ 8 ∧ i = .int .i64 j ∧ v = wv q ∧ Hid (st8 z = stn (8 - j) q) ∧ w = wr) (fun v i w => 8 - (intOf i).toNat)
      case atStart => exact ⟨0, z, by omega, rfl, rfl, rfl, rfl⟩
      case round =>
        obtain ⟨j, q, hj, rfl, rfl, hq, rfl⟩ := hrel
        by_cases h8 : j < 8
        · have hst : stn (8 - j) q = stn (8 - (j + 1)) (st1 q) := by rw [show 8 - j = (8 - (j + 1)) + 1 from by omega]; rfl
          have e1 := half_tdiv q
          have e3 := wn_u32 (q >>> 1)
          have e2 := tmod2 q
          cases hb : q.getLsbD 0
          · rw [hb] at e2
            simp only [Bool.false_eq_true, if_false] at e2
            have hs : st1 q = q >>> 1 := by unfold st1; rw [hb]; simp
            have HS := Lib.hid hs
            have HT := Lib.hid hst
            clear hs hst hb
            go_wp2
            go_roundw
            case rel => exact ⟨j + 1, q >>> 1, h8, by go_num, by first | rfl | rw [e1, e3], (show st8 z = _ from by rw [hq.out, HT.out, HS.out]), by trivial⟩
            case measure => simp [intOf]; omega
          · rw [hb] at e2
            simp only [if_true] at e2
            have hs : st1 q = (q >>> 1) ^^^ P32 := by unfold st1; rw [hb]; simp
            have e4 := xor_P (q >>> 1)
            have HS := Lib.hid hs
            have HT := Lib.hid hst
            clear hs hst hb
            go_wp2
            go_roundw
            case rel => exact ⟨j + 1, (q >>> 1) ^^^ P32, h8, by go_num, by first | rfl | rw [e1, e3, e4], (show st8 z = _ from by rw [hq.out, HT.out, HS.out]), by trivial⟩
            case measure => simp [intOf]; omega
        · obtain rfl : j = 8 := by omega
          have HZ : Hid (st8 z = q) := (show _ = _ from by rw [hq.out]; rfl)
          go_wp2
          go_roundw
          case rel => exact ⟨k + 1, q, hlt, by go_num, rfl, (show crcS (~~~ s) l = _ from by rw [HY.out, HZ.out]), by trivial⟩
          case measure => simp [intOf]; omega
    · obtain rfl : k = l.length := by omega
      have hfin : crcS (~~~ s) l = y := by rw [hy.out, List.drop_length]; rfl
      have HF := Lib.hid hfin
      clear hfin
      have hn2 : bits .xor .u32 (wn y) 4294967295 = wn (~~~ y) := by
        have := xor_wn y (BitVec.allOnes 32); rw [BitVec.xor_allOnes] at this; exact this
      go_wp2
      go_ret
      exact ⟨by unfold extW; rw [HF.out]; rfl, by trivial⟩
set_option maxRecDepth 100000 in
set_option maxHeartbeats 1000000 in
theorem rSum_any (A : Option Addr) (c : Nat) (l : List UInt8) (w : World) (hs : SlB w A c l) (hl : l.length ≤ 1000000000) :
    Calls Tryz.prog 166 #[.slice A l.length c] w fun e w' => e = .returned (wv (sumW l)) ∧ w = w' := by
  go_enter Tryz.func166, Tryz.ntmps166
  go_wp2_with fail
  refine (rExtend_any 0#32 A c l _ hs hl).mono ?_
  rintro e w1 ⟨rfl, rfl⟩
  go_wp2_with fail
  go_ret
  exact ⟨rfl, rfl⟩
set_option maxRecDepth 100000 in
set_option maxHeartbeats 1000000 in
theorem Equal_any (A : Option Addr) (c : Nat) (l : List UInt8) (A2 : Option Addr) (c2 : Nat) (m : List UInt8) (w : World) (hs : SlB w A c l) (ht : SlB w A2 c2 m) :
    Calls Tryz.prog 184 #[.slice A l.length c, .slice A2 m.length c2] w fun e w' => e = .returned (.bool (decide (l = m))) ∧ Below w.heap.size w w' := by
  have hmax := hs.len_le
  unfold maxLen at hmax
  by_cases hlen : l.length = m.length
  · go_enter Tryz.func184, Tryz.ntmps184
    go_wp2
    go_loopw [13] (fun i wr => ∃ k : Nat, k ≤ l.length ∧ i = .int .i64 k ∧ Hid (l.take k = m.take k) ∧ Below w.heap.size w wr) (fun i w => l.length - (intOf i).toNat)
    case atStart => exact ⟨0, Nat.zero_le _, rfl, rfl, Below.refl _ _⟩
    case round =>
      obtain ⟨k, hk, rfl, hq, hbr⟩ := hrel
      by_cases hlt : k < l.length
      · have hlt2 : k < m.length := by omega
        obtain ⟨ad, rfl, hc⟩ := (hs.below hbr).at1 hlt
        obtain ⟨ad2, rfl, hc2⟩ := (ht.below hbr).at1 hlt2
        have hne : ∀ x y : UInt8, ((x.toNat : Int) != (y.toNat : Int)) = !decide (x = y) := by
          intro x y
          by_cases h : x = y
          · subst h; simp
          · have : x.toNat ≠ y.toNat := fun e => h (UInt8.toNat_inj.1 e)
            simp [h]; omega
        by_cases he : l[k] = m[k]
        · have htk : l.take (k + 1) = m.take (k + 1) := by rw [List.take_succ_eq_append_getElem hlt, List.take_succ_eq_append_getElem hlt2, hq.out, he]
          have HT := Lib.hid htk
          rw [he] at hc
          generalize m[k] = x at *
          clear he htk
          have h2 : ((x.toNat : Int) != (x.toNat : Int)) = false := by simp
          go_wp2
          go_quiet (fail)
          go_wp2
          go_roundw
          case rel => exact ⟨k + 1, hlt, by go_num, HT.out, below_drewN hbr _⟩
          case measure => simp [intOf]; omega
        · have hd : decide (l = m) = false := decide_eq_false (fun e => he (by subst e; rfl))
          have h1 : ((l[k].toNat : Int) != (m[k].toNat : Int)) = true := by rw [hne, decide_eq_false he]; rfl
          have h1' : decide (l[k] = m[k]) = false := decide_eq_false he
          clear hne
          have HD := Lib.hid hd
          generalize m[k] = x at *
          generalize l[k] = y at *
          clear hd he
          go_wp2
          go_quiet (fail)
          go_wp2
          go_ret
          exact ⟨by rw [HD.out]; rfl, below_drewN hbr _⟩
      · have hd : decide (l = m) = true := decide_eq_true (by have := hq.out; rw [List.take_of_length_le (by omega), List.take_of_length_le (by omega)] at this; exact this)
        have HD := Lib.hid hd
        clear hd
        go_wp2
        go_ret
        exact ⟨by rw [HD.out]; rfl, hbr⟩
  · have hd : decide (l = m) = false := decide_eq_false (fun e => hlen (by rw [e]))
    have HD := Lib.hid hd
    have hne : ((l.length : Int) != (m.length : Int)) = true := by simp; omega
    clear hd
    go_enter Tryz.func184, Tryz.ntmps184
    go_wp2
    go_ret
    exact ⟨by rw [HD.out]; rfl, Below.refl _ _⟩
end Go.Proofs.YtddmfoldnlafaaaGreatDoor

namespace Go.Proofs.YtddmfoldnlafaaaGreatDoor
open Go.RowKit
attribute [local go_sem ↓] Go.wp_at_zero Go.wp_at_succ

theorem But.mkr {w w' : World} {g h : Nat} {n : Int} (hM : Mkr w g n) (hb : But h w w') (hne : g ≠ h) : Mkr w' g n := by
  rcases hM with ⟨cs, hB, r⟩ | ⟨cs, hB, r⟩
  · exact .inl ⟨cs, (hb.block g hB.lt (by intro e; injection e with e; exact hne e)).trans hB, r⟩
  · exact .inr ⟨cs, (hb.block g hB.lt (by intro e; injection e with e; exact hne e)).trans hB, r⟩
theorem Mkr.below {w w' : World} {g : Nat} {n : Int} (hM : Mkr w g n) (hb : Below w.heap.size w w') : Mkr w' g n := by
  rcases hM with ⟨cs, hB, r⟩ | ⟨cs, hB, r⟩
  · exact .inl ⟨cs, hB.below hb, r⟩
  · exact .inr ⟨cs, hB.below hb, r⟩
theorem But.of_drew {g : Nat} {a b : World} (h : But g a.drew b) : But g a b := ⟨h.os, h.tape, h.output, h.size, h.block⟩
theorem Mkr.drew {w : World} {g : Nat} {n : Int} (hM : Mkr w g n) : Mkr w.drew g n := hM
theorem Mkr.lt {w : World} {g : Nat} {n : Int} (hM : Mkr w g n) : g < w.heap.size := by
  rcases hM with ⟨cs, hB, r⟩ | ⟨cs, hB, r⟩ <;> exact hB.lt
theorem But.below {g : Nat} {a w w' : World} (h : But g a w) (hb : Below w.heap.size w w') : But g a w' := h.trans (But.of_below hb (Nat.le_refl _))
/-- the bytes, whole, and the maker asked once more -/
def SealsB (g n : Nat) (w0 : World) (l : List UInt8) (e : Ending) (w' : World) : Prop :=
  ∃ A c m, e = .returned (.slice A (List.length m) c) ∧ Hid (m = l) ∧ OwnB w' w0.heap.size 5 A c m ∧ Mkr w' g ((n + 1 : Nat) : Int) ∧ But g w0 w'

set_option maxRecDepth 100000 in
set_option maxHeartbeats 1000000 in
theorem Sealed_at (g n : Nat) (A : Option Addr) (c : Nat) (l : List UInt8) (w : World) (hM : Mkr w g n) (hn : n < 1000000000) (hs : SlB w A c l) (hA : l ≠ [] → A.map (·.block) ≠ some g) (hl : l.length ≤ 100000000) :
    Calls Tryz.prog 115 #[.pointer (some ⟨g, 0, none⟩), .slice A l.length c] w (SealsB g n w (l ++ four (sumW l))) := by
  go_enter Tryz.func115, Tryz.ntmps115
  go_wp2_with fail
  refine (Sum_at g n A c l _ hM hn hs hA (by omega)).mono ?_
  rintro e w1 ⟨rfl, hM1, hB1⟩
  have hs1 := SlB.but hs hB1 hA
  go_wp2_with fail
  refine (four_any (sumW l) _).mono ?_
  rintro e w2 ⟨A2, c2, f, rfl, hf, hs2, hb2⟩
  have hfl := Lib.hid (show f.length = 4 from by rw [hf.out, four_len])
  have hs3 := hs1.below hb2
  have hbn := below_new w2 (.cells #[.slice A l.length c, .slice A2 f.length c2] 25)
  go_wp2_with fail
  refine (Concat_any (some ⟨w2.heap.size, 0, none⟩) 2 [(A, c, l), (A2, c2, f)] _ (Sl.lits w2 [pv (A, c, l), pv (A2, c2, f)] 25 (by simp [maxLen])) ?_ ?_).mono ?_
  · intro q hq
    simp only [List.mem_cons, List.not_mem_nil, or_false] at hq
    rcases hq with rfl | rfl
    · exact hs3.below hbn
    · exact hs2.below hbn
  · have := hfl.out; simp [partsOf]; omega
  rintro e w3 ⟨A3, c3, m3, rfl, hm3, ho3, hb3⟩
  go_wp2_with fail
  go_ret
  refine ⟨A3, c3, m3, rfl, (show _ = _ from by rw [hm3.out, ← hf.out]; simp [partsOf]), ho3.more ?_, ?_, (hB1.below hb2).trans (But.of_below (hbn.trans (hb3.mono hbn.size)) (Nat.le_refl _))⟩
  · exact Nat.le_trans hB1.size (Nat.le_trans hb2.size hbn.size)
  · exact ((hM1.below hb2).below hbn).below hb3

def opened (l : List UInt8) : List UInt8 × Nat := if l.length < 4 then ([], 2) else if four (sumW (l.take (l.length - 4))) = l.drop (l.length - 4) then (l.take (l.length - 4), 0) else ([], 11)
/-- what Opened answers -/
def OpensB (g n : Nat) (w0 : World) (o : List UInt8 × Nat) (e : Ending) (w' : World) : Prop :=
  ∃ A c m, e = .returned (.tuple #[.slice A (List.length m) c, errv o.2]) ∧ Hid (m = o.1) ∧ OwnB w' w0.heap.size 5 A c m ∧ Mkr w' g ((n + 1 : Nat) : Int) ∧ But g w0 w'

set_option maxRecDepth 100000 in
set_option maxHeartbeats 1000000 in
theorem Opened_at (g n : Nat) (A : Option Addr) (c : Nat) (l : List UInt8) (w : World) (hM : Mkr w g n) (hn : n < 1000000000) (hs : SlB w A c l) (hA : l ≠ [] → A.map (·.block) ≠ some g) (hl : l.length ≤ 100000000) :
    Calls Tryz.prog 160 #[.pointer (some ⟨g, 0, none⟩), .slice A l.length c] w (OpensB g n w (opened l)) := by
  have hc1 := hs.2.1
  have hc2 := hs.2.2.1
  unfold maxLen at hc2
  by_cases h4 : l.length < 4
  · have ho := Lib.hid (show opened l = ([], 2) from by unfold opened; rw [if_pos h4])
    go_enter Tryz.func160, Tryz.ntmps160
    go_wp2_with fail
    refine (ask_at g n _ hM hn).mono ?_
    rintro e w1 ⟨rfl, hM1, hB1⟩
    go_wp2_with fail
    go_ret2
    exact ⟨none, 0, [], by rw [ho.out]; rfl, by rw [ho.out]; rfl, Own.none_ _ _ _ _, hM1, hB1⟩
  · obtain ⟨k, hk⟩ : ∃ k, k = l.length - 4 := ⟨_, rfl⟩
    have hki : (l.length : Int) - 4 = (k : Int) := by omega
    have hkn : ¬ ((k : Int) < 0) := by omega
    have hck : ¬ (c = k) := by omega
    have hkc : k ≤ c := by omega
    have hkl : k ≤ l.length := by omega
    have hm := Lib.hid (show opened l = if four (sumW (l.take k)) = l.drop k then (l.take k, 0) else ([], 11) from by unfold opened; rw [if_neg h4, hk])
    have hT := Sl.takeB hs k
    have hD := Sl.cutB hs hkl
    rw [if_neg hck] at hD
    have htl : (l.take k).length = k := by simp; omega
    have hdl' : (l.drop k).length = l.length - k := by simp
    have hdl : (l.drop k).length = 4 := by simp; omega
    clear hk
    have hAk : l.take k ≠ [] → A.map (·.block) ≠ some g := fun h => hA (fun e => h (by rw [e]; simp))
    have hAd : l.drop k ≠ [] → (Option.map (fun x => x.add k) A).map (·.block) ≠ some g := by
      intro h
      have := hA (fun e => h (by rw [e]; simp))
      cases A with
      | none => simp
      | some a => simpa [addr_add_block] using this
    rw [← hdl'] at hD
    generalize hl1 : l.take k = l1 at *
    generalize hl2 : l.drop k = l2 at *
    clear hl1 hl2
    subst htl
    have hsub : l.length - l1.length = l2.length := hdl'.symm
    have hd4 := Lib.hid hdl
    clear hdl hdl'
    go_enter Tryz.func160, Tryz.ntmps160
    go_wp2_with fail
    go_cut [25] (fun s25 wx => s25 = .bool (!decide (four (sumW l1) = l2)) ∧ Mkr wx g ((n + 1 : Nat) : Int) ∧ But g w wx)
    case first =>
      refine wp_region_held_drew (S := (fun _ => True)) (by kernel_rfl) ?_ (fun hHeld => ?_)
      · first | done | trivial
      refine wpAnyH_take (i := 0) (oi := ⟨some 15, _, _, _, _, _⟩) (v := ?_) rfl (by kernel_rfl) (by kernel_rfl) (by kernel_rfl) (fun _ _ _ h => h) (Or.inl ⟨by kernel_rfl, ?_⟩) (by assumption) ?_
      rotate_left
      · (intro wS hSw; (try dsimp only at hSw); go_simp; (try with_reducible rfl))
      (try simp only [Act.put, List.setIfInBounds_toArray, List.set_cons_zero, List.set_cons_succ])
      refine wpAnyH_take (i := 1) (oi := ⟨some 16, _, _, _, _, _⟩) (v := ?_) rfl (by kernel_rfl) (by kernel_rfl) (by kernel_rfl) (fun _ _ _ h => h) (Or.inl ⟨by kernel_rfl, ?_⟩) (by assumption) ?_
      rotate_left
      · (intro wS hSw; (try dsimp only at hSw); go_simp; (try with_reducible rfl))
      (try simp only [Act.put, List.setIfInBounds_toArray, List.set_cons_zero, List.set_cons_succ])
      refine wpAnyH_take (i := 2) (oi := ⟨some 17, _, _, _, _, _⟩) (v := ?_) rfl (by kernel_rfl) (by kernel_rfl) (by kernel_rfl) (fun _ _ _ h => h) (Or.inl ⟨by kernel_rfl, ?_⟩) (by assumption) ?_
      rotate_left
      · (intro wS hSw; (try dsimp only at hSw); go_simp; (try with_reducible rfl))
      (try simp only [Act.put, List.setIfInBounds_toArray, List.set_cons_zero, List.set_cons_succ])
      refine wpAnyH_take (i := 3) (oi := ⟨some 18, _, _, _, _, _⟩) (v := ?_) rfl (by kernel_rfl) (by kernel_rfl) (by kernel_rfl) (fun _ _ _ h => h) (Or.inl ⟨by kernel_rfl, ?_⟩) (by assumption) ?_
      rotate_left
      · (intro wS hSw; (try dsimp only at hSw); go_simp; (try with_reducible rfl))
      (try simp only [Act.put, List.setIfInBounds_toArray, List.set_cons_zero, List.set_cons_succ])
      refine wpAnyH_take (i := 6) (oi := ⟨some 21, _, _, _, _, _⟩) (v := ?_) rfl (by kernel_rfl) (by kernel_rfl) (by kernel_rfl) (fun _ _ _ h => h) (Or.inl ⟨by kernel_rfl, ?_⟩) (by assumption) ?_
      rotate_left
      · (intro wS hSw; (try dsimp only at hSw); go_simp; (try with_reducible rfl))
      (try simp only [Act.put, List.setIfInBounds_toArray, List.set_cons_zero, List.set_cons_succ])
      refine wpAnyH_take (i := 7) (oi := ⟨some 22, _, _, _, _, _⟩) (v := ?_) rfl (by kernel_rfl) (by kernel_rfl) (by kernel_rfl) (fun _ _ _ h => h) (Or.inl ⟨by kernel_rfl, ?_⟩) (by assumption) ?_
      rotate_left
      · (intro wS hSw; (try dsimp only at hSw); go_simp; (try with_reducible rfl))
      (try simp only [Act.put, List.setIfInBounds_toArray, List.set_cons_zero, List.set_cons_succ])
      refine wpAnyH_take (i := 8) (oi := ⟨some 23, _, _, _, _, _⟩) (v := ?_) rfl (by kernel_rfl) (by kernel_rfl) (by kernel_rfl) (fun _ _ _ h => h) (Or.inl ⟨by kernel_rfl, ?_⟩) (by assumption) ?_
      rotate_left
      · (intro wS hSw; (try dsimp only at hSw); go_simp; (try with_reducible rfl))
      (try simp only [Act.put, List.setIfInBounds_toArray, List.set_cons_zero, List.set_cons_succ])
      refine wpAnyH_ready (rs := [4]) (by kernel_rfl) (by simp) ?_
      refine AllReadyH.cons (o := ⟨some 19, _, _, _, _, _⟩) rfl (fun K hK => ?_) AllReadyH.nil
      go_simp
      (refine (Sum_at g n A c l1 _ hM.drew hn hT hAk (by omega)).mono ?_; rintro e w2 ⟨rfl, hM2, hB2⟩; replace hB2 := But.of_drew hB2)
      go_wp2_with fail
      refine hK.out _ _ ?_ (fun hHeld => ?_)
      · ((try dsimp only); (first | done | trivial))
      clear hK K
      (try simp only [Act.put, List.setIfInBounds_toArray, List.set_cons_zero, List.set_cons_succ])
      refine wpAnyH_ready (rs := [5]) (by kernel_rfl) (by simp) ?_
      refine AllReadyH.cons (o := ⟨some 20, _, _, _, _, _⟩) rfl (fun K hK => ?_) AllReadyH.nil
      go_simp
      (refine (four_any (sumW l1) _).mono ?_; rintro e w3 ⟨A3, c3, f, rfl, hf, hs3, hb3⟩)
      go_wp2_with fail
      refine hK.out _ _ ?_ (fun hHeld => ?_)
      · ((try dsimp only); (first | done | trivial))
      clear hK K
      (try simp only [Act.put, List.setIfInBounds_toArray, List.set_cons_zero, List.set_cons_succ])
      refine wpAnyH_ready (rs := [9]) (by kernel_rfl) (by simp) ?_
      refine AllReadyH.cons (o := ⟨some 24, _, _, _, _, _⟩) rfl (fun K hK => ?_) AllReadyH.nil
      go_simp
      (with_reducible refine (Equal_any A3 c3 f (Option.map (fun x => x.add l1.length) A) (c - l1.length) l2 _ hs3 ((SlB.but hD hB2 hAd).below hb3)).mono ?_; rintro e w4 ⟨rfl, hb4⟩)
      go_wp2_with fail
      refine hK.out _ _ ?_ (fun hHeld => ?_)
      · ((try dsimp only); (first | done | trivial))
      clear hK K
      (try simp only [Act.put, List.setIfInBounds_toArray, List.set_cons_zero, List.set_cons_succ])
      refine wpAnyH_take (i := 10) (oi := ⟨some 25, _, _, _, _, _⟩) (v := ?_) rfl (by kernel_rfl) (by kernel_rfl) (by kernel_rfl) (fun _ _ _ h => h) (Or.inl ⟨by kernel_rfl, ?_⟩) (by assumption) ?_
      rotate_left
      · (intro wS hSw; (try dsimp only at hSw); go_simp; (try with_reducible rfl))
      (try simp only [Act.put, List.setIfInBounds_toArray, List.set_cons_zero, List.set_cons_succ])
      refine wpAnyH_done (by kernel_rfl) ?_ _
      go_wp2_with fail
      go_meet
      exact ⟨by rw [hf.out], (hM2.below hb3).below hb4, (hB2.below hb3).below hb4⟩
    case rest =>
      obtain ⟨rfl, hM2, hB2⟩ := hcut
      by_cases he : four (sumW l1) = l2
      · have hm2 := Lib.hid (show opened l = (l1, 0) from by rw [hm.out, if_pos he])
        have hd : decide (four (sumW l1) = l2) = true := decide_eq_true he
        rw [hd]
        clear he hd hm
        have hT2 := SlB.but hT hB2 hAk
        go_wp2_with fail
        refine (clone_any A c l1 _ (by omega) hT2).mono ?_
        rintro e w5 ⟨A5, c5, m5, rfl, hm5, ho5, hb5⟩
        go_wp2_with fail
        go_ret2
        exact ⟨A5, c5, m5, by rw [hm2.out]; rfl, by rw [hm2.out]; exact hm5, ho5.more hB2.size, hM2.below hb5, hB2.below hb5⟩
      · have hm2 := Lib.hid (show opened l = ([], 11) from by rw [hm.out, if_neg he])
        have hd : decide (four (sumW l1) = l2) = false := decide_eq_false he
        rw [hd]
        clear he hd hm
        go_wp2_with fail
        go_ret2
        exact ⟨none, 0, [], by rw [hm2.out]; rfl, by rw [hm2.out]; rfl, Own.none_ _ _ _ _, hM2, hB2⟩
end Go.Proofs.YtddmfoldnlafaaaGreatDoor

namespace Go.Proofs.YtddmfoldnlafaaaGreatDoor
open Go.RowKit

def txb (t : List UInt8) : List UInt8 := vb t.length ++ t
/-- a text's frame -/
def frm (t : List UInt8) : List UInt8 := txb t ++ four (sumW (txb t))
/-- the text, the frame's bytes, an error's number, of the frame that bytes begin with -/
def ftake (l : List UInt8) : List UInt8 × Nat × Nat :=
  match take l with
  | none => ([], 0, 2)
  | some (n, h) => if 65536 < n then ([], 0, 3) else if l.length < h + n + 4 then ([], 0, 2)
    else if four (sumW (l.take (h + n))) = (l.drop (h + n)).take 4 then ((l.take (h + n)).drop h, h + n + 4, 0) else ([], 0, 11)
theorem frm_len (t : List UInt8) : (frm t).length = (vb t.length).length + t.length + 4 := by
  unfold frm txb; simp [four_len]; omega
theorem opened_take {l : List UInt8} {k : Nat} (h : k + 4 ≤ l.length) : opened (l.take (k + 4)) = if four (sumW (l.take k)) = (l.drop k).take 4 then (l.take k, 0) else ([], 11) := by
  have h1 : (l.take (k + 4)).length = k + 4 := by simp; omega
  unfold opened
  rw [if_neg (by omega), h1, Nat.add_sub_cancel, List.take_take, Nat.min_eq_left (by omega), List.drop_take]
  simp
theorem ftake_frm (t l : List UInt8) (h : t.length ≤ 65536) : ftake (frm t ++ l) = (t, (frm t).length, 0) := by
  have hv : take (frm t ++ l) = some (t.length, (vb t.length).length) := by
    unfold frm txb
    rw [List.append_assoc, List.append_assoc]
    exact take_vb (by unfold U64; omega) _
  have e1 : (frm t ++ l).take ((vb t.length).length + t.length) = txb t := by
    unfold frm
    rw [List.append_assoc, List.take_left' (by unfold txb; simp)]
  have e2 : ((frm t ++ l).drop ((vb t.length).length + t.length)).take 4 = four (sumW (txb t)) := by
    unfold frm
    rw [List.append_assoc, List.drop_left' (by unfold txb; simp), List.take_left' (four_len _)]
  have e3 : (txb t).drop (vb t.length).length = t := by unfold txb; rw [List.drop_left]
  unfold ftake
  rw [hv]
  dsimp only
  rw [if_neg (by omega), if_neg (by rw [List.length_append, frm_len]; omega), e1, e2, if_pos rfl, e3, frm_len]
theorem four_inj {x y : W32} (h : four x = four y) : x = y := by
  have hx := x.isLt
  have hy := y.isLt
  unfold four at h
  simp only [List.cons.injEq, and_true] at h
  obtain ⟨a, b, c, d⟩ := h
  have a := congrArg UInt8.toNat a
  have b := congrArg UInt8.toNat b
  have c := congrArg UInt8.toNat c
  have d := congrArg UInt8.toNat d
  simp only [UInt8.toNat_ofNat'] at a b c d
  apply BitVec.eq_of_toNat_eq
  omega
theorem flip_ne (a : UInt8) {q : Nat} (hq : q < 8) : a ^^^ UInt8.ofNat (2 ^ q) ≠ a := by
  intro h
  have h1 := congrArg UInt8.toNat h
  rw [UInt8.toNat_xor, UInt8.toNat_ofNat'] at h1
  have h2 := congrArg (fun z => a.toNat ^^^ z) h1
  simp only [← Nat.xor_assoc, Nat.xor_self, Nat.zero_xor] at h2
  have h3 : 2 ^ q < 256 := Nat.pow_lt_pow_right (a := 2) (by decide) hq
  have h4 : 0 < 2 ^ q := Nat.two_pow_pos q
  rw [Nat.mod_eq_of_lt h3] at h2
  omega
theorem flip_sum (d : List UInt8) {j q : Nat} (hj : j < d.length) (hq : q < 8) : sumW (d.set j (d[j] ^^^ UInt8.ofNat (2 ^ q))) ≠ sumW d := by
  have h2 : 2 ^ q < 256 := Nat.pow_lt_pow_right (a := 2) (by decide) hq
  refine extW_inj (finds (W := 1) (p := 8 * j + q) (by simp) ?_ (by omega) (by decide) (by decide) ?_ _)
  · rw [leN_set _ _ hj, UInt8.toNat_ofNat', Nat.mod_eq_of_lt h2, Nat.shiftLeft_eq, Nat.shiftLeft_eq, Nat.one_mul, ← Nat.pow_add, Nat.add_comm q]
  · exact Nat.one_lt_two_pow (by omega)
theorem ftake_bad {t d s : List UInt8} (ht : t.length ≤ 65536) (hd : ∃ t', t'.length = t.length ∧ d = vb t.length ++ t') (hs : s.length = 4) (hne : four (sumW d) ≠ s) : ftake (d ++ s) = ([], 0, 11) := by
  obtain ⟨t', htl, rfl⟩ := hd
  have hv : take (vb t.length ++ t' ++ s) = some (t.length, (vb t.length).length) := by
    rw [List.append_assoc]
    exact take_vb (by unfold U64; omega) _
  have e1 : (vb t.length ++ t' ++ s).take ((vb t.length).length + t.length) = vb t.length ++ t' := by rw [List.take_left' (by simp [htl])]
  have e2 : ((vb t.length ++ t' ++ s).drop ((vb t.length).length + t.length)).take 4 = s := by rw [List.drop_left' (by simp [htl]), List.take_of_length_le (by omega)]
  unfold ftake
  rw [hv]
  dsimp only
  rw [if_neg (by omega), if_neg (by simp [htl, hs]; omega), e1, e2, if_neg hne]
/-- a frame of which one bit of its text or its sum is turned -/
theorem flip_frm {t : List UInt8} (ht : t.length ≤ 65536) {j q : Nat} (h1 : (vb t.length).length ≤ j) (h2 : j < (frm t).length) (hq : q < 8) : ftake ((frm t).set j ((frm t)[j] ^^^ UInt8.ofNat (2 ^ q))) = ([], 0, 11) := by
  have hfr : frm t = txb t ++ four (sumW (txb t)) := rfl
  generalize frm t = f at *
  subst hfr
  by_cases hj : j < (txb t).length
  · rw [List.getElem_append_left hj, List.set_append_left _ _ hj]
    refine ftake_bad ht ⟨t.set (j - (vb t.length).length) ((txb t)[j] ^^^ UInt8.ofNat (2 ^ q)), by simp, ?_⟩ (four_len _) (fun e => flip_sum _ hj hq (four_inj e))
    generalize (txb t)[j] ^^^ UInt8.ofNat (2 ^ q) = y
    unfold txb
    rw [List.set_append_right _ _ h1]
  · have hjl : j - (txb t).length < (four (sumW (txb t))).length := by
      rw [List.length_append] at h2
      omega
    rw [List.getElem_append_right (by omega), List.set_append_right _ _ (by omega)]
    refine ftake_bad ht ⟨t, rfl, rfl⟩ (by simp [four_len]) (fun e => ?_)
    have := congrArg (fun l => l[j - (txb t).length]?) e
    simp only [List.getElem?_set_self hjl, List.getElem?_eq_getElem hjl, Option.some.injEq] at this
    exact flip_ne _ hq this.symm
end Go.Proofs.YtddmfoldnlafaaaGreatDoor
