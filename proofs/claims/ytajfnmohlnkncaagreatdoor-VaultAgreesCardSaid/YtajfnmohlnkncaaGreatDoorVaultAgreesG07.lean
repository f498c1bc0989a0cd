/- WHAT IT HOLDS: what the package crc computes, walked. | WHAT IT HOLDS: the sums of package crc, walked. | WHAT IT HOLDS: slices.Grow of nothing, slices.Concat, slices.Equal over bytes, walked. | WHAT IT HOLDS: the sum's four bytes, Sealed, Opened of package crc, and the document's sums, walked. | WHAT IT HOLDS: Sealed, Opened of package crc, walked. | WHAT IT HOLDS: frames, plainly (no program). | WHAT IT HOLDS: the law CrcSums, walked. | WHAT IT HOLDS: what the package frame computes, walked. -/
import Derived.Test.YtajfnmohlnkncaaGreatDoorRows
import Derived.Test.YtajfnmohlnkncaaGreatDoorVaultAgreesG06
import Derived.Test.YtajfnmohlnkncaaGreatDoorVaultAgreesG01
import Derived.Deep.RegionHeld3
import Derived.Deep.DrawnRows
import Derived.Lib.AppendZeros
import Derived.BigQuiet
import Derived.Test.YtajfnmohlnkncaaGreatDoorVaultAgreesG02
import Derived.Deep.DeepCutAuto
import Derived.Test.YtajfnmohlnkncaaGreatDoorVaultAgreesG04
import Derived.Lib.SlBytesConst
namespace Go.Proofs.YtajfnmohlnkncaaGreatDoor
section
open Go.RowKit
set_option maxRecDepth 100000 in
set_option maxHeartbeats 1000000 in
theorem step_any (x : W32) (w : World) : Calls Tryz.prog 218 #[wv x] w fun e w' => e = .returned (wv (st8 x)) ∧ w = w' := by
 go_enter Tryz.func218, Tryz.ntmps218
 go_wp2
 go_loopw [0, 4] (fun v i wr => ∃ (k : Nat) (y : W32), k ≤ 8 ∧ i = .int .i64 k ∧ v = wv y ∧ Hid (st8 x = stn (8 - k) y) ∧ w = wr) (fun v i w => 8 - (intOf i).toNat)
 case atStart => exact ⟨0, x, by omega, rfl, rfl, rfl, rfl⟩
 case round =>
  obtain ⟨k, y, hk, rfl, rfl, hy, rfl⟩ := hrel
  by_cases h8 : k < 8
  · have hst : stn (8 - k) y = stn (8 - (k + 1)) (st1 y) := by rw [show 8 - k = (8 - (k + 1)) + 1 from by omega]; rfl
    cases hb : y.getLsbD 0
    · have e0 := and_one y
      rw [hb] at e0
      simp only [Bool.false_eq_true, if_false] at e0
      have hs : st1 y = y >>> 1 := by unfold st1; rw [hb]; simp
      have HS := Lib.hid hs
      have HT := Lib.hid hst
      clear hs hst hb
      go_wp2
      go_roundw
      case rel => exact ⟨k + 1, y >>> 1, h8, by go_num, congrArg (Value.int .u32) (half_wn y), (show st8 x = _ from by rw [hy.out, HT.out, HS.out]), by trivial⟩
      case measure => simp [intOf]; omega
    · have e0 := and_one y
      rw [hb] at e0
      simp only [if_true] at e0
      have hs : st1 y = (y >>> 1) ^^^ P32 := by unfold st1; rw [hb]; simp
      have HS := Lib.hid hs
      have HT := Lib.hid hst
      clear hs hst hb
      go_wp2
      go_roundw
      case rel => exact ⟨k + 1, (y >>> 1) ^^^ P32, h8, by go_num, congrArg (Value.int .u32) (by rw [half_wn, xor_P]), (show st8 x = _ from by rw [hy.out, HT.out, HS.out]), by trivial⟩
      case measure => simp [intOf]; omega
  · obtain rfl : k = 8 := by omega
    go_wp2
    go_ret
    exact ⟨by rw [hy.out]; rfl, rfl⟩
def Mk (w : World) (g : Nat) (d s : Int) (n : Int) (k : Nat) : Prop := ∃ cs : Array Value, Blk w g 221 cs ∧ cs.size = 260 ∧ cs[0]? = some (.int .u32 d) ∧ cs[1]? = some (.int .i32 s) ∧ cs[259]? = some (.int .i64 n) ∧
 (∀ i, i < 256 → ∃ v, cs[3 + i]? = some v) ∧ ∀ i, i < k → cs[3 + i]? = some (wv (st8 (BitVec.ofNat 32 i)))
theorem zero_rows : (List.range 256).all (fun i => (Tryz.zeroCells221[3 + i]?).isSome) = true := by kernel_rfl
theorem zero_mk : Tryz.zeroCells221.size = 260 ∧ Tryz.zeroCells221[0]? = some (.int .u32 0) ∧ Tryz.zeroCells221[1]? = some (.int .i32 0) ∧ Tryz.zeroCells221[259]? = some (.int .i64 0) ∧
 (∀ i, i < 256 → ∃ v, Tryz.zeroCells221[3 + i]? = some v) ∧ ∀ i, i < 0 → Tryz.zeroCells221[3 + i]? = some (wv (st8 (BitVec.ofNat 32 i))) :=
 ⟨by kernel_rfl, by kernel_rfl, by kernel_rfl, by kernel_rfl, fun i hi => Option.isSome_iff_exists.1 (List.all_eq_true.1 zero_rows i (List.mem_range.2 hi)), fun i hi => absurd hi (by omega)⟩
set_option maxRecDepth 100000 in
set_option maxHeartbeats 1000000 in
theorem CrcNew_any (w : World) : Calls Tryz.prog 113 #[] w fun e w' => e = .returned (.pointer (some ⟨w.heap.size, 0, none⟩)) ∧ Mk w' w.heap.size 0 0 0 0 ∧ Below w.heap.size w w' := by
 go_enter Tryz.func113, Tryz.ntmps113
 go_wp2
 go_ret
 refine ⟨rfl, ⟨_, Blk.new _ _ _, ?_⟩, below_new _ _⟩
 exact zero_mk
theorem Mk.lt {w : World} {g k : Nat} {d s n : Int} (h : Mk w g d s n k) : g < w.heap.size := by obtain ⟨cs, hB, _⟩ := h; exact hB.lt
theorem Mk.row {w : World} {g k : Nat} {d s n : Int} (h : Mk w g d s n k) (hk : k < 256) : Mk (w.setCell ⟨g, 3 + k, none⟩ (wv (st8 (BitVec.ofNat 32 k)))) g d s n (k + 1) := by
 obtain ⟨cs, hB, hs, h0, h1, h9, hr, ht⟩ := h
 refine ⟨_, hB.set_ _ _, by simpa using hs, ?_, ?_, ?_, ?_, ?_⟩
 · rw [Array.getElem?_setIfInBounds_ne (by omega)]; exact h0
 · rw [Array.getElem?_setIfInBounds_ne (by omega)]; exact h1
 · rw [Array.getElem?_setIfInBounds_ne (by omega)]; exact h9
 · intro i hi
   by_cases he : k = i
   · subst he; exact ⟨_, Array.getElem?_setIfInBounds_self_of_lt (by omega)⟩
   · rw [Array.getElem?_setIfInBounds_ne (by omega)]; exact hr i hi
 · intro i hi
   by_cases he : k = i
   · subst he; exact Array.getElem?_setIfInBounds_self_of_lt (by omega)
   · rw [Array.getElem?_setIfInBounds_ne (by omega)]; exact ht i (by omega)
theorem Mk.drew {w : World} {g k : Nat} {d s n : Int} (h : Mk w g d s n k) : Mk w.drew g d s n k := h
theorem Mk.cell {w : World} {g k : Nat} {d s n : Int} (h : Mk w g d s n k) : w.cell? ⟨g, 0, none⟩ = some (.int .u32 d) ∧ w.cell? ⟨g, 1, none⟩ = some (.int .i32 s) ∧ w.cell? ⟨g, 259, none⟩ = some (.int .i64 n) ∧ w.frozen? ⟨g, 0, none⟩ = false ∧ w.frozen? ⟨g, 1, none⟩ = false ∧ w.frozen? ⟨g, 259, none⟩ = false ∧
 (∀ i, i < 256 → ∃ v, w.cell? ⟨g, 3 + i, none⟩ = some v) ∧ (∀ i, w.frozen? ⟨g, i, none⟩ = false) := by
 obtain ⟨cs, hB, hs, h0, h1, h9, hr, ht⟩ := h
 exact ⟨(hB.cell 0).trans h0, (hB.cell 1).trans h1, (hB.cell 259).trans h9, hB.frozen 0, hB.frozen 1, hB.frozen 259, fun i hi => (hr i hi).imp fun v hv => (hB.cell _).trans hv, fun i => hB.frozen i⟩
theorem Mk.at {w : World} {g k : Nat} {d s n : Int} (h : Mk w g d s n k) {i : Nat} (hi : i < k) : w.cell? ⟨g, 3 + i, none⟩ = some (wv (st8 (BitVec.ofNat 32 i))) := by
 obtain ⟨cs, hB, hs, h0, h1, h9, hr, ht⟩ := h
 exact (hB.cell _).trans (ht i hi)
abbrev But (g : Nat) (w w' : World) : Prop := w.grownBy w' (some g)
theorem But.set {g : Nat} {w w' : World} (h : But g w w') (i : Nat) (v : Value) : But g w (w'.setCell ⟨g, i, none⟩ v) :=
 ⟨h.os, h.tape, h.output, by simpa [World.setCell] using h.size, fun k hk hne => (Below.heap_setCell w' ⟨g, i, none⟩ v k (fun e => hne (by rw [e]))).trans (h.block k hk hne)⟩
theorem But.refl (g : Nat) (w : World) : But g w w := World.grownBy.refl w _
theorem But.drew {g : Nat} {w w' : World} (h : But g w w') : But g w w'.drew := ⟨h.os, h.tape, h.output, h.size, h.block⟩
set_option maxRecDepth 100000 in
set_option maxHeartbeats 1000000 in
theorem fill_any (g : Nat) (d s n : Int) (w : World) (hM : Mk w g d s n 0) : Calls Tryz.prog 208 #[.pointer (some ⟨g, 0, none⟩)] w fun e w' => e = .returned (.tuple #[]) ∧ Mk w' g d s n 256 ∧ But g w w' := by
 go_enter Tryz.func208, Tryz.ntmps208
 go_wp2
 go_loopw [3] (fun i wr => ∃ k : Nat, k ≤ 256 ∧ i = .int .i64 k ∧ Mk wr g d s n k ∧ But g w wr) (fun i w => 256 - (intOf i).toNat)
 case atStart => exact ⟨0, by omega, rfl, hM, But.refl _ _⟩
 case round =>
  obtain ⟨k, hk, rfl, hMk, hBut⟩ := hrel
  by_cases h : k < 256
  · obtain ⟨v, hv⟩ := (hMk.cell).2.2.2.2.2.2.1 k h
    have hf := (hMk.cell).2.2.2.2.2.2.2 (3 + k)
    have hrow := hMk.row h
    have hwr := wrap_ofNat h
    generalize BitVec.ofNat 32 k = x at hrow hwr
    have HR := Lib.hid hrow
    clear hrow
    go_wp2
    refine wp_region_held_drew (S := (fun _ => True)) (by kernel_rfl) ?_ (fun hHeld => ?_)
    · first | done | trivial
    refine wTk (i := 0) (oi := ⟨some 6, _, _, _, _, _⟩) (v := ?_) rfl ⟨by kernel_rfl, ?_⟩ (by assumption) ?_
    rotate_left
    · (intro wS hSw; (try dsimp only at hSw); go_simp; (try with_reducible rfl))
    (try simp only [Act.put, pS0, pS1, pS2])
    refine wTk (i := 1) (oi := ⟨some 7, _, _, _, _, _⟩) (v := ?_) rfl ⟨by kernel_rfl, ?_⟩ (by assumption) ?_
    rotate_left
    · (intro wS hSw; (try dsimp only at hSw); go_simp; (try with_reducible rfl))
    (try simp only [Act.put, pS0, pS1, pS2])
    refine wTk (i := 2) (oi := ⟨some 8, _, _, _, _, _⟩) (v := ?_) rfl ⟨by kernel_rfl, ?_⟩ (by assumption) ?_
    rotate_left
    · (intro wS hSw; (try dsimp only at hSw); go_simp; (try with_reducible rfl))
    (try simp only [Act.put, pS0, pS1, pS2])
    refine wTk (i := 3) (oi := ⟨some 9, _, _, _, _, _⟩) (v := ?_) rfl ⟨by kernel_rfl, ?_⟩ (by assumption) ?_
    rotate_left
    · (intro wS hSw; (try dsimp only at hSw); go_simp; (try with_reducible rfl))
    (try simp only [Act.put, pS0, pS1, pS2])
    refine wTk (i := 5) (oi := ⟨some 11, _, _, _, _, _⟩) (v := ?_) rfl ⟨by kernel_rfl, ?_⟩ (by assumption) ?_
    rotate_left
    · (intro wS hSw; (try dsimp only at hSw); go_simp; (try with_reducible rfl))
    (try simp only [Act.put, pS0, pS1, pS2])
    refine wTk (i := 6) (oi := ⟨some 12, _, _, _, _, _⟩) (v := ?_) rfl ⟨by kernel_rfl, ?_⟩ (by assumption) ?_
    rotate_left
    · (intro wS hSw; (try dsimp only at hSw); go_simp; (try with_reducible rfl))
    (try simp only [Act.put, pS0, pS1, pS2])
    refine wR1 (i := 4) (o := ⟨some 10, _, _, _, _, _⟩) rfl (fun K hK => ?_)
    go_simp
    (refine (step_any x _).mono ?_; rintro e w9 ⟨rfl, rfl⟩)
    go_wp2_with fail
    refine hK.out _ _ ?_ (fun hHeld => ?_)
    · ((try dsimp only); (done))
    clear hK K
    (try simp only [Act.put, pS0, pS1, pS2])
    refine wTk (i := 7) (oi := ⟨some 13, _, _, _, _, _⟩) (v := ?_) rfl ⟨by kernel_rfl, ?_⟩ (by assumption) ?_
    rotate_left
    · (intro wS hSw; (try dsimp only at hSw); go_simp; (try with_reducible rfl))
    (try simp only [Act.put, pS0, pS1, pS2])
    refine wR1 (i := 8) (o := ⟨none, _, _, _, _, _⟩) rfl (fun K hK => ?_)
    go_simp
    refine hK.out _ _ ?_ (fun hHeld => ?_)
    · ((try dsimp only); (done))
    clear hK K
    (try simp only [Act.put, pS0, pS1, pS2])
    refine wpAnyH_done (by kernel_rfl) ?_ _
    go_wp2
    go_roundw
    case rel => exact ⟨k + 1, h, by go_num, HR.out, (hBut.set _ _).drew⟩
    case measure => simp [intOf]; omega
  · obtain rfl : k = 256 := by omega
    go_wp2
    go_end0
    exact ⟨rfl, hMk, hBut⟩
theorem Mk.set0 {w : World} {g k : Nat} {d s n : Int} (h : Mk w g d s n k) (x : Int) : Mk (w.setCell ⟨g, 0, none⟩ (.int .u32 x)) g x s n k := by
 obtain ⟨cs, hB, hs, h0, h1, h9, hr, ht⟩ := h
 refine ⟨_, hB.set_ _ _, by simpa using hs, Array.getElem?_setIfInBounds_self_of_lt (by omega), ?_, ?_, fun i hi => ?_, fun i hi => ?_⟩
 · rw [Array.getElem?_setIfInBounds_ne (by omega)]; exact h1
 · rw [Array.getElem?_setIfInBounds_ne (by omega)]; exact h9
 · rw [Array.getElem?_setIfInBounds_ne (by omega)]; exact hr i hi
 · rw [Array.getElem?_setIfInBounds_ne (by omega)]; exact ht i hi
theorem Mk.set1 {w : World} {g k : Nat} {d s n : Int} (h : Mk w g d s n k) (x : Int) : Mk (w.setCell ⟨g, 1, none⟩ (.int .i32 x)) g d x n k := by
 obtain ⟨cs, hB, hs, h0, h1, h9, hr, ht⟩ := h
 refine ⟨_, hB.set_ _ _, by simpa using hs, ?_, Array.getElem?_setIfInBounds_self_of_lt (by omega), ?_, fun i hi => ?_, fun i hi => ?_⟩
 · rw [Array.getElem?_setIfInBounds_ne (by omega)]; exact h0
 · rw [Array.getElem?_setIfInBounds_ne (by omega)]; exact h9
 · rw [Array.getElem?_setIfInBounds_ne (by omega)]; exact hr i hi
 · rw [Array.getElem?_setIfInBounds_ne (by omega)]; exact ht i hi
theorem Mk.set9 {w : World} {g k : Nat} {d s n : Int} (h : Mk w g d s n k) (hk : k ≤ 256) (x : Int) : Mk (w.setCell ⟨g, 259, none⟩ (.int .i64 x)) g d s x k := by
 obtain ⟨cs, hB, hs, h0, h1, h9, hr, ht⟩ := h
 refine ⟨_, hB.set_ _ _, by simpa using hs, ?_, ?_, Array.getElem?_setIfInBounds_self_of_lt (by omega), fun i hi => ?_, fun i hi => ?_⟩
 · rw [Array.getElem?_setIfInBounds_ne (by omega)]; exact h0
 · rw [Array.getElem?_setIfInBounds_ne (by omega)]; exact h1
 · rw [Array.getElem?_setIfInBounds_ne (by omega)]; exact hr i hi
 · rw [Array.getElem?_setIfInBounds_ne (by omega)]; exact ht i (by omega)
set_option maxRecDepth 100000 in
set_option maxHeartbeats 1600000 in
theorem slow_any (g : Nat) (n : Int) (w : World) (hM : Mk w g 0 0 n 0) :
 Calls Tryz.prog 217 #[.pointer (some ⟨g, 0, none⟩), .func (.func 208) #[.pointer (some ⟨g, 0, none⟩)] #[]] w fun e w' => e = .returned (.tuple #[]) ∧ Mk w' g 1 0 n 256 ∧ But g w w' := by
 obtain ⟨h0, h1, _, f0, f1, _, _, _⟩ := hM.cell
 have hl := run_call_load (P := Tryz.prog) Tryz.func219 (by kernel_rfl) (by kernel_rfl) (by kernel_rfl) .u32 (by kernel_rfl) (w := w.setCell ⟨g, 1, none⟩ (.int .i32 1)) (a := ⟨g, 0, none⟩) (x := 0) ((World.cell?_setCell_other _ ⟨g, 1, none⟩ ⟨g, 0, none⟩ _ (by simp)).trans h0)
 have hnot : ∀ (x : Bool) (w : World), (Op.unary .not (.bool x)).run Tryz.prog w = .ok (.bool (!x)) w := fun _ _ => rfl
 go_enter_defers Tryz.func217, Tryz.ntmps217
 go_wp2_with (go_at_call 220; refine (once_lock ⟨g, 1, none⟩ _ (by go_simp) (by go_simp)).mono ?_; rintro e w' ⟨rfl, rfl⟩)
 have hM1 := hM.set1 1
 go_wp2_with (first | (go_at_call 208; refine (fill_any g 0 1 n _ hM1).mono ?_; rintro e w1 ⟨rfl, hM2, hB2⟩) | (go_at_call 216; go_in))
 obtain ⟨c0, _, _, z0, z1, _, _, _⟩ := hM2.cell
 refine leaves_cons (f := 222) (args := #[.pointer (some ⟨g, 0, none⟩), .bool true]) (by simp) (by simp [go_sem]) ?_
 refine (once_store ⟨g, 0, none⟩ (.int .u32 0) .returning _ c0 z0).mono ?_
 rintro e u' w2 ⟨rfl, rfl, rfl⟩
 have hM3 := hM2.drew.set0 1
 obtain ⟨_, c1, _, _, z1, _, _, _⟩ := hM3.cell
 refine leaves_cons (f := 221) (args := #[.pointer (some ⟨g, 1, none⟩)]) (by simp [settle]) (by simp [go_sem]) ?_
 refine (once_unlock ⟨g, 1, none⟩ _ _ c1 z1).mono ?_
 rintro e u' w3 ⟨rfl, rfl, rfl⟩
 have hM4 := hM3.set1 0
 exact ⟨_, results_none rfl _ _ _, rfl, hM4, But.set (But.set (But.drew (World.grownBy.trans (But.set (But.refl g w) _ _) hB2)) _ _) _ _⟩
set_option maxRecDepth 100000 in
set_option maxHeartbeats 1600000 in
theorem do_first (g : Nat) (n : Int) (w : World) (hM : Mk w g 0 0 n 0) :
 Calls Tryz.prog 207 #[.pointer (some ⟨g, 0, none⟩), .func (.func 208) #[.pointer (some ⟨g, 0, none⟩)] #[]] w fun e w' => e = .returned (.tuple #[]) ∧ Mk w' g 1 0 n 256 ∧ But g w w' := by
 obtain ⟨h0, _, _, _, _, _, _, _⟩ := hM.cell
 have hl := run_call_load (P := Tryz.prog) Tryz.func219 (by kernel_rfl) (by kernel_rfl) (by kernel_rfl) .u32 (by kernel_rfl) h0
 have hnot : ∀ (x : Bool) (w : World), (Op.unary .not (.bool x)).run Tryz.prog w = .ok (.bool (!x)) w := fun _ _ => rfl
 go_enter Tryz.func207, Tryz.ntmps207
 go_wp2_with (first | (go_at_call 217; refine (slow_any g n _ hM).mono ?_; rintro e w1 ⟨rfl, hM2, hB2⟩) | (go_at_call 216; go_in))
 go_end0
 exact ⟨rfl, hM2, hB2⟩
theorem do_done (g : Nat) (s n : Int) (fv : Value) (w : World) (hM : Mk w g 1 s n 256) :
 Calls Tryz.prog 207 #[.pointer (some ⟨g, 0, none⟩), fv] w fun e w' => e = .returned (.tuple #[]) ∧ w = w' := by
 obtain ⟨h0, _, _, _, _, _, _, _⟩ := hM.cell
 have hl := run_call_load (P := Tryz.prog) Tryz.func219 (by kernel_rfl) (by kernel_rfl) (by kernel_rfl) .u32 (by kernel_rfl) h0
 have hnot : ∀ (x : Bool) (w : World), (Op.unary .not (.bool x)).run Tryz.prog w = .ok (.bool (!x)) w := fun _ _ => rfl
 go_enter Tryz.func207, Tryz.ntmps207
 go_wp2
 go_end0
 exact ⟨rfl, rfl⟩
def Mkr (w : World) (g : Nat) (n : Int) : Prop := Mk w g 0 0 n 0 ∨ Mk w g 1 0 n 256
theorem do_any (g : Nat) (n : Int) (w : World) (hM : Mkr w g n) :
 Calls Tryz.prog 207 #[.pointer (some ⟨g, 0, none⟩), .func (.func 208) #[.pointer (some ⟨g, 0, none⟩)] #[]] w fun e w' => e = .returned (.tuple #[]) ∧ Mk w' g 1 0 n 256 ∧ But g w w' := by
 rcases hM with hM | hM
 · exact do_first g n w hM
 · refine (do_done g 0 n _ w hM).mono ?_
   rintro e w1 ⟨rfl, rfl⟩
   exact ⟨rfl, hM, But.refl _ _⟩
theorem SlB.but {w w' : World} {A : Option Addr} {c g : Nat} {l : List UInt8} (h : SlB w A c l) (hb : But g w w') (hA : l ≠ [] → A.map (·.block) ≠ some g) : SlB w' A c l := by
 refine ⟨h.1, h.2.1, h.2.2.1, h.2.2.2.1, fun j u hj => ?_⟩
 obtain ⟨ad, hA2, hc⟩ := h.2.2.2.2 j u hj
 have hne : l ≠ [] := by intro e; rw [e] at hj; simp at hj
 subst hA2
 exact ⟨ad, rfl, hb.cell hc (by rw [addr_add_block]; exact hA hne)⟩
set_option maxRecDepth 100000 in
set_option maxHeartbeats 1600000 in
theorem extend_at (g : Nat) (n : Int) (s : W32) (A : Option Addr) (c : Nat) (l : List UInt8) (w : World) (hM : Mkr w g n) (hs : SlB w A c l) (hA : l ≠ [] → A.map (·.block) ≠ some g) (hl : l.length ≤ 1000000000) :
 Calls Tryz.prog 188 #[.pointer (some ⟨g, 0, none⟩), wv s, .slice A l.length c] w fun e w' => e = .returned (wv (extW s l)) ∧ Mk w' g 1 0 n 256 ∧ But g w w' := by
 have hsg : ¬ (IntKind.u32.signed = true) := by decide
 have hmx : IntKind.u32.max = 4294967295 := by decide
 have hns := not_wn s
 have hns1 := not_wn
 go_enter Tryz.func188, Tryz.ntmps188
 go_wp2_with fail
 refine (do_any g n _ hM).mono ?_
 rintro e w1 ⟨rfl, hM1, hB1⟩
 have hs1 := SlB.but hs hB1 hA
 go_wp2_with fail
 go_loopw [7, 26] (fun v i wr => ∃ (k : Nat) (y : W32), k ≤ l.length ∧ i = .int .i64 k ∧ v = wv y ∧ Hid (crcS (~~~ s) l = crcS y (l.drop k)) ∧ w1 = wr) (fun v i w => l.length - (intOf i).toNat)
 case atStart => exact ⟨0, ~~~ s, Nat.zero_le _, rfl, rfl, rfl, rfl⟩
 case round =>
  obtain ⟨k, y, hk, rfl, rfl, hy, rfl⟩ := hrel
  by_cases hlt : k < l.length
  · obtain ⟨ad, rfl, hc⟩ := hs1.at1 hlt
    have hj : (y.toNat % 256) ^^^ l[k].toNat < 256 := Nat.xor_lt_two_pow (n := 8) (Nat.mod_lt _ (by decide)) l[k].toNat_lt
    have hcell := hM1.at hj
    have hbt := by_table y l[k]
    have e1 := mod_wn y
    have e2 := xor_u8 (a := y.toNat % 256) (b := l[k].toNat) (Nat.mod_lt _ (by decide)) l[k].toNat_lt
    have e3 := shr8_wn y
    have e4 := fun T => xor_wn T (y >>> 8)
    have hcd := crcS_drop hlt y
    rw [hbt] at hcd
    generalize st8 (BitVec.ofNat 32 ((y.toNat % 256) ^^^ l[k].toNat)) = T at *
    generalize (y.toNat % 256) ^^^ l[k].toNat = j at *
    generalize y.toNat % 256 = m at *
    have HC := Lib.hid hcd
    have hjb : (0 : Int) ≤ (j : Int) ∧ (j : Int) < 256 := by omega
    clear hcd hbt
    go_wp2
    go_roundw
    case rel => exact ⟨k + 1, T ^^^ (y >>> 8), hlt, by go_num, rfl, (show crcS (~~~ s) l = _ from by rw [hy.out, HC.out]), by trivial⟩
    case measure => simp [intOf]; omega
  · obtain rfl : k = l.length := by omega
    have hfin : crcS (~~~ s) l = y := by rw [hy.out, List.drop_length]; rfl
    have HF := Lib.hid hfin
    clear hfin
    have hn2 := not_wn y
    go_wp2
    go_ret
    exact ⟨by unfold extW; rw [HF.out]; rfl, hM1, hB1⟩
theorem But.of_below {B g : Nat} {w w' : World} (h : Below B w w') (hB : w.heap.size ≤ B) : But g w w' := ⟨h.os, h.tape, h.output, h.size, fun k hk _ => h.block k (Nat.lt_of_lt_of_le hk hB)⟩
theorem below_of_but {a w w' : World} {g : Nat} (h : But g w w') (hb : Below a.heap.size a w) (hg : a.heap.size ≤ g) : Below a.heap.size a w' :=
 hb.grown h hb.size (fun k hk => by injection hk with hk; omega)
theorem Sl.old {w : World} {size n c g : Nat} {A : Option Addr} {xs : List Value} (h : Sl w size A n c xs) (hg : w.heap.size ≤ g) : xs ≠ [] → A.map (·.block) ≠ some g := by
 intro hne hA
 obtain ⟨ad, rfl, hc⟩ := h.2.2.2.2.at (k := 0) (by cases xs <;> simp_all)
 have := World.block_lt_of_cell? _ _ hc
 rw [addr_add_block] at this
 simp at hA
 omega
theorem SlB.old {w : World} {c g : Nat} {A : Option Addr} {l : List UInt8} (h : SlB w A c l) (hg : w.heap.size ≤ g) : l ≠ [] → A.map (·.block) ≠ some g := fun hne => Sl.old h hg (by simpa using hne)
theorem Mkr.cell {w : World} {g : Nat} {n : Int} (h : Mkr w g n) : w.cell? ⟨g, 259, none⟩ = some (.int .i64 n) ∧ w.frozen? ⟨g, 259, none⟩ = false := by
 rcases h with h | h <;> exact ⟨h.cell.2.2.1, h.cell.2.2.2.2.2.1⟩
theorem Mkr.set9 {w : World} {g : Nat} {n : Int} (h : Mkr w g n) (x : Int) : Mkr (w.setCell ⟨g, 259, none⟩ (.int .i64 x)) g x := by
 rcases h with h | h
 · exact .inl (h.set9 (by omega) x)
 · exact .inr (h.set9 (by omega) x)
set_option maxRecDepth 100000 in
set_option maxHeartbeats 1600000 in
theorem ask_at (g n : Nat) (w : World) (hM : Mkr w g n) (hn : n < 1000000000) : Calls Tryz.prog 157 #[.pointer (some ⟨g, 0, none⟩)] w fun e w' => e = .returned (.tuple #[]) ∧ Mkr w' g ((n + 1 : Nat) : Int) ∧ But g w w' := by
 obtain ⟨hc, hz⟩ := hM.cell
 have hadd := run_call_add (P := Tryz.prog) Tryz.func206 (by kernel_rfl) (by kernel_rfl) (by kernel_rfl) .i64 (by kernel_rfl) (y := 1) (s := ((n + 1 : Nat) : Int)) hc hz (by simp [go_sem]; rw [IntKind.wrap_i64]; omega)
 go_enter Tryz.func157, Tryz.ntmps157
 go_wp2
 go_end0
 exact ⟨rfl, hM.set9 _, (But.refl _ _).set _ _⟩
set_option maxRecDepth 100000 in
set_option maxHeartbeats 1600000 in
theorem Extend_at (g n : Nat) (s : W32) (A : Option Addr) (c : Nat) (l : List UInt8) (w : World) (hM : Mkr w g n) (hn : n < 1000000000) (hs : SlB w A c l) (hA : l ≠ [] → A.map (·.block) ≠ some g) (hl : l.length ≤ 1000000000) :
 Calls Tryz.prog 162 #[.pointer (some ⟨g, 0, none⟩), wv s, .slice A l.length c] w fun e w' => e = .returned (wv (extW s l)) ∧ Mkr w' g ((n + 1 : Nat) : Int) ∧ But g w w' := by
 go_enter Tryz.func162, Tryz.ntmps162
 go_wp2_with fail
 refine (ask_at g n _ hM hn).mono ?_
 rintro e w1 ⟨rfl, hM1, hB1⟩
 go_wp2_with fail
 refine (extend_at g _ s A c l _ hM1 (SlB.but hs hB1 hA) hA hl).mono ?_
 rintro e w2 ⟨rfl, hM2, hB2⟩
 go_wp2_with fail
 go_ret
 exact ⟨rfl, .inr hM2, hB1.trans hB2⟩
set_option maxRecDepth 100000 in
set_option maxHeartbeats 1600000 in
theorem Sum_at (g n : Nat) (A : Option Addr) (c : Nat) (l : List UInt8) (w : World) (hM : Mkr w g n) (hn : n < 1000000000) (hs : SlB w A c l) (hA : l ≠ [] → A.map (·.block) ≠ some g) (hl : l.length ≤ 1000000000) :
 Calls Tryz.prog 138 #[.pointer (some ⟨g, 0, none⟩), .slice A l.length c] w fun e w' => e = .returned (wv (sumW l)) ∧ Mkr w' g ((n + 1 : Nat) : Int) ∧ But g w w' := by
 go_enter Tryz.func138, Tryz.ntmps138
 go_wp2_with fail
 refine (Extend_at g n 0#32 A c l _ hM hn hs hA hl).mono ?_
 rintro e w1 ⟨rfl, hM1, hB1⟩
 go_wp2_with fail
 go_ret
 exact ⟨rfl, hM1, hB1⟩
abbrev Pt := Option Addr × Nat × List UInt8
abbrev pv (x : Pt) : Value := .slice x.1 x.2.2.length x.2.1
def partsOf (ps : List Pt) : List UInt8 := ps.flatMap (·.2.2)
set_option maxRecDepth 100000 in
set_option maxHeartbeats 1000000 in
theorem Grow_nil (n : Nat) (hn : n ≤ 1000000000) (w : World) : Calls Tryz.prog 136 #[.slice none 0 0, .int .i64 n] w fun e w' => ∃ A c, e = .returned (.slice A 0 c) ∧ OwnB w' w.heap.size 5 A c [] ∧ Below w.heap.size w w' := by
 obtain ⟨i0, hi, hz0, hz1, hz2⟩ := info_parts u8_info
 by_cases h0 : n = 0
 · subst h0
   go_enter Tryz.func136, Tryz.ntmps136
   go_wp2
   go_ret
   exact ⟨none, 0, rfl, Own.none_ _ _ _ _, Below.refl _ _⟩
 · have hcap := grownCap_ge w n 0 5
   have hcm := grownCap_le_maxLen w n 0 5 (by unfold maxLen; omega)
   have hr := fun ty => Lib.run_append_nil_zeros (P := Tryz.prog) w 52 3 ty 5 i0 (.int .u8 0) .i64 .i64 Tryz.underlying52 Tryz.underlying3 hi hz0 n (by omega) (by omega) (by omega) (by rw [hz2]; omega)
   generalize grownCap w n 0 5 = k at *
   have hown := World.ownsRow_made (e := 5) (size := 1) (base := w.heap.size) w.drew (Builtin.zeroCells (Value.int .u8 0).cells n ++ Builtin.zeroCells (Value.int .u8 0).cells (k - n)) k (Nat.le_refl _) hcm (by simp [Builtin.zeroCells, Value.cells]; omega)
   have HO := Lib.hid hown
   have HR := Lib.hid hr
   clear hown hr
   have hmk : ¬ ((k : Int) < 0) := by omega
   unfold maxLen at hcm
   go_enter Tryz.func136, Tryz.ntmps136
   go_wp2_with (at_builtin; go_must (refine Lib.wpList_append_run _ rfl _ _ _ _ rfl _ _ rfl rfl _ _ (HR.out _) ?_))
   go_ret
   exact ⟨_, _, rfl, HO.out, bel_alloc ((Below.refl w.heap.size w).drew) _⟩
theorem partsOf_snoc {ps : List Pt} {k : Nat} (hk : k < ps.length) : partsOf (ps.take (k + 1)) = partsOf (ps.take k) ++ ps[k].2.2 := by
 unfold partsOf
 rw [List.take_succ_eq_append_getElem hk, List.flatMap_append]
 simp
theorem partsOf_le {ps : List Pt} (k : Nat) : (partsOf (ps.take k)).length ≤ (partsOf ps).length := by
 have h := List.take_append_drop k ps
 have : partsOf ps = partsOf (ps.take k) ++ partsOf (ps.drop k) := by unfold partsOf; rw [← List.flatMap_append, h]
 rw [this, List.length_append]; omega
set_option maxRecDepth 100000 in
set_option maxHeartbeats 1000000 in
theorem Concat_any (P : Option Addr) (cp : Nat) (ps : List Pt) (w : World) (hP : Sl w 1 P ps.length cp (ps.map pv)) (hs : ∀ x ∈ ps, SlB w x.1 x.2.1 x.2.2) (hl : (partsOf ps).length ≤ 1000000000) :
 Calls Tryz.prog 112 #[.slice P ps.length cp] w (GivesB w (partsOf ps)) := by
 have hmax := hP.len_le
 unfold maxLen at hmax
 go_enter Tryz.func112, Tryz.ntmps112
 go_wp2
 go_loopw [3, 11] (fun v i wr => ∃ k : Nat, k ≤ ps.length ∧ i = .int .i64 k ∧ v = .int .i64 ((partsOf (ps.take k)).length : Nat) ∧ w = wr) (fun v i w => ps.length - (intOf i).toNat)
 case atStart => exact ⟨0, Nat.zero_le _, rfl, rfl, rfl⟩
 case round =>
  obtain ⟨k, hk, rfl, rfl, rfl⟩ := hrel
  by_cases hlt : k < ps.length
  · obtain ⟨ad, rfl, hc⟩ := hP.at1 hlt
    have hsn := congrArg List.length (partsOf_snoc hlt)
    rw [List.length_append] at hsn
    have hle := partsOf_le (ps := ps) (k + 1)
    have q1 := hs ps[k] (List.getElem_mem hlt)
    rw [hsn] at hle
    generalize hx : ps[k] = x at *
    obtain ⟨xa, xc, xl⟩ := x
    dsimp only at hc hsn hle q1
    have HS := Lib.hid hsn
    clear hsn hs q1
    generalize (partsOf (ps.take k)).length = a at *
    go_wp2
    go_roundw
    case rel => exact ⟨k + 1, hlt, by go_num, by rw [HS.out]; go_num, by trivial⟩
    case measure => simp [intOf]; omega
  · obtain rfl : k = ps.length := by omega
    rw [List.take_length]
    go_wp2_with fail
    refine (Grow_nil (partsOf ps).length hl _).mono ?_
    rintro e w1 ⟨A1, c1, rfl, ho1, hb1⟩
    go_wp2_with fail
    go_loopw [6, 27] (fun v i wr => ∃ (j : Nat) (B : Option Addr) (d : Nat) (m : List UInt8), j ≤ ps.length ∧ i = .int .i64 j ∧ v = .slice B m.length d ∧ Hid (m = partsOf (ps.take j)) ∧ OwnB wr w.heap.size 5 B d m ∧ Below w.heap.size w wr) (fun v i w => ps.length - (intOf i).toNat)
    case atStart => exact ⟨0, A1, c1, [], Nat.zero_le _, rfl, rfl, rfl, ho1, hb1⟩
    case round =>
     obtain ⟨j, B, d, m, hj, rfl, rfl, hm, hor, hbr⟩ := hrel
     by_cases hlt2 : j < ps.length
     · obtain ⟨ad, rfl, hc⟩ := (hP.below hbr).at1 hlt2
       have hsn := partsOf_snoc hlt2
       have hle := partsOf_le (ps := ps) (j + 1)
       have q1 := (hs ps[j] (List.getElem_mem hlt2)).below hbr
       rw [hsn, List.length_append, ← hm.out] at hle
       generalize hx : ps[j] = x at *
       obtain ⟨xa, xc, xl⟩ := x
       dsimp only at hc hsn hle q1
       have HS := Lib.hid hsn
       clear hsn
       go_wp2_with (at_builtin; go_must (refine wpl_bytes 52 5 Tryz.underlying52 u8_info rfl _ _ rfl w.heap.size B d m rfl hor xa xc xl rfl q1 (by omega) hbr.size ?_; intro A2 c2 m2 w2 hm2 ho2 _ _ hb2))
       go_roundw
       case rel => exact ⟨j + 1, A2, c2, m2, hlt2, by go_num, rfl, (show _ = _ from by rw [hm2.out, HS.out, hm.out]), ho2, hbr.trans hb2⟩
       case measure => simp [intOf]; omega
     · go_wp2_with fail
       go_ret
       exact ⟨B, d, m, rfl, (show _ = _ from by rw [hm.out, List.take_of_length_le (by omega)]), hor, hbr⟩
def ReadsB (w0 : World) (l : List UInt8) (e : Ending) (w' : World) : Prop :=
 ∃ A c m, e = .returned (.slice A (List.length m) c) ∧ Hid (m = l) ∧ SlB w' A c m ∧ Below w0.heap.size w0 w'
theorem four_len (x : W32) : (four x).length = 4 := rfl
theorem four0 (x : W32) : HMod.hMod (α := Int) (β := Int) (HDiv.hDiv (α := Int) (β := Int) (wn x) (16777216 : Int)) (256 : Int) = ((UInt8.ofNat (x.toNat / 16777216)).toNat : Int) := by
 have := x.isLt
 unfold wn; rw [UInt8.toNat_ofNat']; omega
theorem four1 (x : W32) : HMod.hMod (α := Int) (β := Int) (HDiv.hDiv (α := Int) (β := Int) (wn x) (65536 : Int)) (256 : Int) = ((UInt8.ofNat (x.toNat / 65536 % 256)).toNat : Int) := by
 have := x.isLt
 unfold wn; rw [UInt8.toNat_ofNat']; omega
theorem four2 (x : W32) : HMod.hMod (α := Int) (β := Int) (HDiv.hDiv (α := Int) (β := Int) (wn x) (256 : Int)) (256 : Int) = ((UInt8.ofNat (x.toNat / 256 % 256)).toNat : Int) := by
 have := x.isLt
 unfold wn; rw [UInt8.toNat_ofNat']; omega
theorem four3 (x : W32) : HMod.hMod (α := Int) (β := Int) (wn x) (256 : Int) = ((UInt8.ofNat (x.toNat % 256)).toNat : Int) := by
 have := x.isLt
 unfold wn; rw [UInt8.toNat_ofNat']; omega
set_option maxRecDepth 100000 in
set_option maxHeartbeats 1000000 in
theorem four_any (x : W32) (w : World) : Calls Tryz.prog 137 #[wv x] w (ReadsB w (four x)) := by
 go_enter Tryz.func137, Tryz.ntmps137
 go_wp2
 go_ret
 exact ⟨_, 4, four x, rfl, rfl, by rw [four0, four1, four2, four3]; exact Sl.lits w (bvs (four x)) 5 (by simp [four, maxLen]), below_new _ _⟩
set_option maxRecDepth 100000 in
set_option maxHeartbeats 1000000 in
theorem Equal_any (A : Option Addr) (c : Nat) (l : List UInt8) (A2 : Option Addr) (c2 : Nat) (m : List UInt8) (w : World) (hs : SlB w A c l) (ht : SlB w A2 c2 m) :
 Calls Tryz.prog 158 #[.slice A l.length c, .slice A2 m.length c2] w fun e w' => e = .returned (.bool (decide (l = m))) ∧ Below w.heap.size w w' := by
 have hmax := hs.len_le
 unfold maxLen at hmax
 by_cases hlen : l.length = m.length
 · go_enter Tryz.func158, Tryz.ntmps158
   go_wp2
   go_loopw [13] (fun i wr => ∃ k : Nat, k ≤ l.length ∧ i = .int .i64 k ∧ Hid (l.take k = m.take k) ∧ Below w.heap.size w wr) (fun i w => l.length - (intOf i).toNat)
   case atStart => exact ⟨0, Nat.zero_le _, rfl, rfl, Below.refl _ _⟩
   case round =>
    obtain ⟨k, hk, rfl, hq, hbr⟩ := hrel
    by_cases hlt : k < l.length
    · have hlt2 : k < m.length := by omega
      obtain ⟨ad, rfl, hc⟩ := (hs.below hbr).at1 hlt
      obtain ⟨ad2, rfl, hc2⟩ := (ht.below hbr).at1 hlt2
      have hne : ∀ x y : UInt8, ((x.toNat : Int) != (y.toNat : Int)) = !decide (x = y) := by
       intro x y
       by_cases h : x = y
       · subst h; simp
       · have : x.toNat ≠ y.toNat := fun e => h (UInt8.toNat_inj.1 e)
         simp [h]; omega
      by_cases he : l[k] = m[k]
      · have htk : l.take (k + 1) = m.take (k + 1) := by rw [List.take_succ_eq_append_getElem hlt, List.take_succ_eq_append_getElem hlt2, hq.out, he]
        have HT := Lib.hid htk
        rw [he] at hc
        generalize m[k] = x at *
        clear he htk
        have h2 : ((x.toNat : Int) != (x.toNat : Int)) = false := by simp
        go_wp2
        go_quiet (fail)
        go_wp2
        go_roundw
        case rel => exact ⟨k + 1, hlt, by go_num, HT.out, below_drewN hbr _⟩
        case measure => simp [intOf]; omega
      · have hd : decide (l = m) = false := decide_eq_false (fun e => he (by subst e; rfl))
        have h1 : ((l[k].toNat : Int) != (m[k].toNat : Int)) = true := by rw [hne, decide_eq_false he]; rfl
        have h1' : decide (l[k] = m[k]) = false := decide_eq_false he
        clear hne
        have HD := Lib.hid hd
        generalize m[k] = x at *
        generalize l[k] = y at *
        clear hd he
        go_wp2
        go_quiet (fail)
        go_wp2
        go_ret
        exact ⟨by rw [HD.out]; rfl, below_drewN hbr _⟩
    · have hd : decide (l = m) = true := decide_eq_true (by have := hq.out; rw [List.take_of_length_le (by omega), List.take_of_length_le (by omega)] at this; exact this)
      have HD := Lib.hid hd
      clear hd
      go_wp2
      go_ret
      exact ⟨by rw [HD.out]; rfl, hbr⟩
 · have hd : decide (l = m) = false := decide_eq_false (fun e => hlen (by rw [e]))
   have HD := Lib.hid hd
   have hne : ((l.length : Int) != (m.length : Int)) = true := by simp; omega
   clear hd
   go_enter Tryz.func158, Tryz.ntmps158
   go_wp2
   go_ret
   exact ⟨by rw [HD.out]; rfl, Below.refl _ _⟩
end
section
open Go.RowKit
attribute [local go_sem ↓] Go.wp_at_zero Go.wp_at_succ
theorem Mkr.below {w w' : World} {g : Nat} {n : Int} (hM : Mkr w g n) (hb : Below w.heap.size w w') : Mkr w' g n := by
 rcases hM with ⟨cs, hB, r⟩ | ⟨cs, hB, r⟩
 · exact .inl ⟨cs, hB.below hb, r⟩
 · exact .inr ⟨cs, hB.below hb, r⟩
theorem But.of_drew {g : Nat} {a b : World} (h : But g a.drew b) : But g a b := ⟨h.os, h.tape, h.output, h.size, h.block⟩
theorem Mkr.drew {w : World} {g : Nat} {n : Int} (hM : Mkr w g n) : Mkr w.drew g n := hM
theorem But.below {g : Nat} {a w w' : World} (h : But g a w) (hb : Below w.heap.size w w') : But g a w' := h.trans (But.of_below hb (Nat.le_refl _))
def SealsB (g n : Nat) (w0 : World) (l : List UInt8) (e : Ending) (w' : World) : Prop :=
 ∃ A c m, e = .returned (.slice A (List.length m) c) ∧ Hid (m = l) ∧ OwnB w' w0.heap.size 5 A c m ∧ Mkr w' g ((n + 1 : Nat) : Int) ∧ But g w0 w'
set_option maxRecDepth 100000 in
set_option maxHeartbeats 1000000 in
theorem Sealed_at (g n : Nat) (A : Option Addr) (c : Nat) (l : List UInt8) (w : World) (hM : Mkr w g n) (hn : n < 1000000000) (hs : SlB w A c l) (hA : l ≠ [] → A.map (·.block) ≠ some g) (hl : l.length ≤ 100000000) :
 Calls Tryz.prog 114 #[.pointer (some ⟨g, 0, none⟩), .slice A l.length c] w (SealsB g n w (l ++ four (sumW l))) := by
 go_enter Tryz.func114, Tryz.ntmps114
 go_wp2_with fail
 refine (Sum_at g n A c l _ hM hn hs hA (by omega)).mono ?_
 rintro e w1 ⟨rfl, hM1, hB1⟩
 have hs1 := SlB.but hs hB1 hA
 go_wp2_with fail
 refine (four_any (sumW l) _).mono ?_
 rintro e w2 ⟨A2, c2, f, rfl, hf, hs2, hb2⟩
 have hfl := Lib.hid (show f.length = 4 from by rw [hf.out, four_len])
 have hs3 := hs1.below hb2
 have hbn := below_new w2 (.cells #[.slice A l.length c, .slice A2 f.length c2] 52)
 go_wp2_with fail
 refine (Concat_any (some ⟨w2.heap.size, 0, none⟩) 2 [(A, c, l), (A2, c2, f)] _ (Sl.lits w2 [pv (A, c, l), pv (A2, c2, f)] 52 (by simp [maxLen])) ?_ ?_).mono ?_
 · intro q hq
   simp only [List.mem_cons, List.not_mem_nil, or_false] at hq
   rcases hq with rfl | rfl
   · exact hs3.below hbn
   · exact hs2.below hbn
 · have := hfl.out; simp [partsOf]; omega
 rintro e w3 ⟨A3, c3, m3, rfl, hm3, ho3, hb3⟩
 go_wp2_with fail
 go_ret
 refine ⟨A3, c3, m3, rfl, (show _ = _ from by rw [hm3.out, ← hf.out]; simp [partsOf]), ho3.more ?_, ?_, (hB1.below hb2).trans (But.of_below (hbn.trans (hb3.mono hbn.size)) (Nat.le_refl _))⟩
 · exact Nat.le_trans hB1.size (Nat.le_trans hb2.size hbn.size)
 · exact ((hM1.below hb2).below hbn).below hb3
def opened (l : List UInt8) : List UInt8 × Nat := if l.length < 4 then ([], 2) else if four (sumW (l.take (l.length - 4))) = l.drop (l.length - 4) then (l.take (l.length - 4), 0) else ([], 11)
def OpensB (g n : Nat) (w0 : World) (o : List UInt8 × Nat) (e : Ending) (w' : World) : Prop :=
 ∃ A c m, e = .returned (.tuple #[.slice A (List.length m) c, errv o.2]) ∧ Hid (m = o.1) ∧ OwnB w' w0.heap.size 5 A c m ∧ Mkr w' g ((n + 1 : Nat) : Int) ∧ But g w0 w'
set_option maxRecDepth 100000 in
set_option maxHeartbeats 1000000 in
theorem Opened_at (g n : Nat) (A : Option Addr) (c : Nat) (l : List UInt8) (w : World) (hM : Mkr w g n) (hn : n < 1000000000) (hs : SlB w A c l) (hA : l ≠ [] → A.map (·.block) ≠ some g) (hl : l.length ≤ 100000000) :
 Calls Tryz.prog 128 #[.pointer (some ⟨g, 0, none⟩), .slice A l.length c] w (OpensB g n w (opened l)) := by
 have hc1 := hs.2.1
 have hc2 := hs.2.2.1
 unfold maxLen at hc2
 by_cases h4 : l.length < 4
 · have ho := Lib.hid (show opened l = ([], 2) from by unfold opened; rw [if_pos h4])
   go_enter Tryz.func128, Tryz.ntmps128
   go_wp2_with fail
   refine (ask_at g n _ hM hn).mono ?_
   rintro e w1 ⟨rfl, hM1, hB1⟩
   go_wp2_with fail
   go_ret2
   exact ⟨none, 0, [], by rw [ho.out]; rfl, by rw [ho.out]; rfl, Own.none_ _ _ _ _, hM1, hB1⟩
 · obtain ⟨k, hk⟩ : ∃ k, k = l.length - 4 := ⟨_, rfl⟩
   have hki : (l.length : Int) - 4 = (k : Int) := by omega
   have hkn : ¬ ((k : Int) < 0) := by omega
   have hck : ¬ (c = k) := by omega
   have hkc : k ≤ c := by omega
   have hkl : k ≤ l.length := by omega
   have hm := Lib.hid (show opened l = if four (sumW (l.take k)) = l.drop k then (l.take k, 0) else ([], 11) from by unfold opened; rw [if_neg h4, hk])
   have hT := Sl.takeB hs k
   have hD := Sl.cutB hs hkl
   rw [if_neg hck] at hD
   have htl : (l.take k).length = k := by simp; omega
   have hdl' : (l.drop k).length = l.length - k := by simp
   have hdl : (l.drop k).length = 4 := by simp; omega
   clear hk
   have hAk : l.take k ≠ [] → A.map (·.block) ≠ some g := fun h => hA (fun e => h (by rw [e]; simp))
   have hAd : l.drop k ≠ [] → (Option.map (fun x => x.add k) A).map (·.block) ≠ some g := by
    intro h
    have := hA (fun e => h (by rw [e]; simp))
    cases A with
    | none => simp
    | some a => simpa [addr_add_block] using this
   rw [← hdl'] at hD
   generalize hl1 : l.take k = l1 at *
   generalize hl2 : l.drop k = l2 at *
   clear hl1 hl2
   subst htl
   have hsub : l.length - l1.length = l2.length := hdl'.symm
   have hd4 := Lib.hid hdl
   clear hdl hdl'
   go_enter Tryz.func128, Tryz.ntmps128
   go_wp2_with fail
   go_cut [25] (fun s25 wx => s25 = .bool (!decide (four (sumW l1) = l2)) ∧ Mkr wx g ((n + 1 : Nat) : Int) ∧ But g w wx)
   case first =>
    refine wp_region_held_drew (S := (fun _ => True)) (by kernel_rfl) ?_ (fun hHeld => ?_)
    · first | done | trivial
    refine wTk (i := 0) (oi := ⟨some 15, _, _, _, _, _⟩) (v := ?_) rfl ⟨by kernel_rfl, ?_⟩ (by assumption) ?_
    rotate_left
    · (intro wS hSw; (try dsimp only at hSw); go_simp; (try with_reducible rfl))
    (try simp only [Act.put, pS0, pS1, pS2])
    refine wTk (i := 1) (oi := ⟨some 16, _, _, _, _, _⟩) (v := ?_) rfl ⟨by kernel_rfl, ?_⟩ (by assumption) ?_
    rotate_left
    · (intro wS hSw; (try dsimp only at hSw); go_simp; (try with_reducible rfl))
    (try simp only [Act.put, pS0, pS1, pS2])
    refine wTk (i := 2) (oi := ⟨some 17, _, _, _, _, _⟩) (v := ?_) rfl ⟨by kernel_rfl, ?_⟩ (by assumption) ?_
    rotate_left
    · (intro wS hSw; (try dsimp only at hSw); go_simp; (try with_reducible rfl))
    (try simp only [Act.put, pS0, pS1, pS2])
    refine wTk (i := 3) (oi := ⟨some 18, _, _, _, _, _⟩) (v := ?_) rfl ⟨by kernel_rfl, ?_⟩ (by assumption) ?_
    rotate_left
    · (intro wS hSw; (try dsimp only at hSw); go_simp; (try with_reducible rfl))
    (try simp only [Act.put, pS0, pS1, pS2])
    refine wTk (i := 6) (oi := ⟨some 21, _, _, _, _, _⟩) (v := ?_) rfl ⟨by kernel_rfl, ?_⟩ (by assumption) ?_
    rotate_left
    · (intro wS hSw; (try dsimp only at hSw); go_simp; (try with_reducible rfl))
    (try simp only [Act.put, pS0, pS1, pS2])
    refine wTk (i := 7) (oi := ⟨some 22, _, _, _, _, _⟩) (v := ?_) rfl ⟨by kernel_rfl, ?_⟩ (by assumption) ?_
    rotate_left
    · (intro wS hSw; (try dsimp only at hSw); go_simp; (try with_reducible rfl))
    (try simp only [Act.put, pS0, pS1, pS2])
    refine wTk (i := 8) (oi := ⟨some 23, _, _, _, _, _⟩) (v := ?_) rfl ⟨by kernel_rfl, ?_⟩ (by assumption) ?_
    rotate_left
    · (intro wS hSw; (try dsimp only at hSw); go_simp; (try with_reducible rfl))
    (try simp only [Act.put, pS0, pS1, pS2])
    refine wR1 (i := 4) (o := ⟨some 19, _, _, _, _, _⟩) rfl (fun K hK => ?_)
    go_simp
    (refine (Sum_at g n A c l1 _ hM.drew hn hT hAk (by omega)).mono ?_; rintro e w2 ⟨rfl, hM2, hB2⟩; replace hB2 := But.of_drew hB2)
    go_wp2_with fail
    refine hK.out _ _ ?_ (fun hHeld => ?_)
    · ((try dsimp only); (done))
    clear hK K
    (try simp only [Act.put, pS0, pS1, pS2])
    refine wR1 (i := 5) (o := ⟨some 20, _, _, _, _, _⟩) rfl (fun K hK => ?_)
    go_simp
    (refine (four_any (sumW l1) _).mono ?_; rintro e w3 ⟨A3, c3, f, rfl, hf, hs3, hb3⟩)
    go_wp2_with fail
    refine hK.out _ _ ?_ (fun hHeld => ?_)
    · ((try dsimp only); (done))
    clear hK K
    (try simp only [Act.put, pS0, pS1, pS2])
    refine wR1 (i := 9) (o := ⟨some 24, _, _, _, _, _⟩) rfl (fun K hK => ?_)
    go_simp
    (with_reducible refine (Equal_any A3 c3 f (Option.map (fun x => x.add l1.length) A) (c - l1.length) l2 _ hs3 ((SlB.but hD hB2 hAd).below hb3)).mono ?_; rintro e w4 ⟨rfl, hb4⟩)
    go_wp2_with fail
    refine hK.out _ _ ?_ (fun hHeld => ?_)
    · ((try dsimp only); (done))
    clear hK K
    (try simp only [Act.put, pS0, pS1, pS2])
    refine wTk (i := 10) (oi := ⟨some 25, _, _, _, _, _⟩) (v := ?_) rfl ⟨by kernel_rfl, ?_⟩ (by assumption) ?_
    rotate_left
    · (intro wS hSw; (try dsimp only at hSw); go_simp; (try with_reducible rfl))
    (try simp only [Act.put, pS0, pS1, pS2])
    refine wpAnyH_done (by kernel_rfl) ?_ _
    go_wp2_with fail
    go_meet
    exact ⟨by rw [hf.out], (hM2.below hb3).below hb4, (hB2.below hb3).below hb4⟩
   case rest =>
    obtain ⟨rfl, hM2, hB2⟩ := hcut
    by_cases he : four (sumW l1) = l2
    · have hm2 := Lib.hid (show opened l = (l1, 0) from by rw [hm.out, if_pos he])
      have hd : decide (four (sumW l1) = l2) = true := decide_eq_true he
      rw [hd]
      clear he hd hm
      have hT2 := SlB.but hT hB2 hAk
      go_wp2_with fail
      refine (clone_any A c l1 _ (by omega) hT2).mono ?_
      rintro e w5 ⟨A5, c5, m5, rfl, hm5, ho5, hb5⟩
      go_wp2_with fail
      go_ret2
      exact ⟨A5, c5, m5, by rw [hm2.out]; rfl, by rw [hm2.out]; exact hm5, ho5.more hB2.size, hM2.below hb5, hB2.below hb5⟩
    · have hm2 := Lib.hid (show opened l = ([], 11) from by rw [hm.out, if_neg he])
      have hd : decide (four (sumW l1) = l2) = false := decide_eq_false he
      rw [hd]
      clear he hd hm
      go_wp2_with fail
      go_ret2
      exact ⟨none, 0, [], by rw [hm2.out]; rfl, by rw [hm2.out]; rfl, Own.none_ _ _ _ _, hM2, hB2⟩
end
section
open Go.RowKit
def txb (t : List UInt8) : List UInt8 := vb t.length ++ t
def frm (t : List UInt8) : List UInt8 := txb t ++ four (sumW (txb t))
def ftake (l : List UInt8) : List UInt8 × Nat × Nat :=
 match take l with
 | none => ([], 0, 2)
 | some (n, h) => if 65536 < n then ([], 0, 3) else if l.length < h + n + 4 then ([], 0, 2)
  else if four (sumW (l.take (h + n))) = (l.drop (h + n)).take 4 then ((l.take (h + n)).drop h, h + n + 4, 0) else ([], 0, 11)
theorem frm_len (t : List UInt8) : (frm t).length = (vb t.length).length + t.length + 4 := by
 unfold frm txb; simp [four_len]; omega
theorem opened_take {l : List UInt8} {k : Nat} (h : k + 4 ≤ l.length) : opened (l.take (k + 4)) = if four (sumW (l.take k)) = (l.drop k).take 4 then (l.take k, 0) else ([], 11) := by
 have h1 : (l.take (k + 4)).length = k + 4 := by simp; omega
 unfold opened
 rw [if_neg (by omega), h1, Nat.add_sub_cancel, List.take_take, Nat.min_eq_left (by omega), List.drop_take]
 simp
theorem ftake_frm (t l : List UInt8) (h : t.length ≤ 65536) : ftake (frm t ++ l) = (t, (frm t).length, 0) := by
 have hv : take (frm t ++ l) = some (t.length, (vb t.length).length) := by
  unfold frm txb
  rw [List.append_assoc, List.append_assoc]
  exact take_vb (by unfold U64; omega) _
 have e1 : (frm t ++ l).take ((vb t.length).length + t.length) = txb t := by
  unfold frm
  rw [List.append_assoc, List.take_left' (by unfold txb; simp)]
 have e2 : ((frm t ++ l).drop ((vb t.length).length + t.length)).take 4 = four (sumW (txb t)) := by
  unfold frm
  rw [List.append_assoc, List.drop_left' (by unfold txb; simp), List.take_left' (four_len _)]
 have e3 : (txb t).drop (vb t.length).length = t := by unfold txb; rw [List.drop_left]
 unfold ftake
 rw [hv]
 dsimp only
 rw [if_neg (by omega), if_neg (by rw [List.length_append, frm_len]; omega), e1, e2, if_pos rfl, e3, frm_len]
end
section
open Go.RowKit
attribute [local go_sem ↓] Go.wp_at_zero Go.wp_at_succ
theorem Own.ne {W : World} {base g n c size : Nat} {e : TypeId} {A : Option Addr} {xs : List Value} (h : Own W base e size A n c xs) (hg : g < base) : A.map (·.block) ≠ some g := by
 intro hA
 have := h.lt g hA
 omega
theorem Opened_len (g n : Nat) (A : Option Addr) (c k : Nat) (l : List UInt8) (w : World) (hk : k = l.length) (hM : Mkr w g n) (hn : n < 1000000000) (hs : SlB w A c l) (hA : l ≠ [] → A.map (·.block) ≠ some g) (hl : l.length ≤ 100000000) :
 Calls Tryz.prog 128 #[.pointer (some ⟨g, 0, none⟩), .slice A k c] w (OpensB g n w (opened l)) := by
 subst hk; exact Opened_at g n A c l w hM hn hs hA hl
def PutsB (w0 : World) (o : List UInt8 × Nat) (e : Ending) (w' : World) : Prop :=
 ∃ A c m, e = .returned (.tuple #[.slice A (List.length m) c, errv o.2]) ∧ Hid (m = o.1) ∧ OwnB w' w0.heap.size 5 A c m ∧ Below w0.heap.size w0 w'
def fput (l t : List UInt8) : List UInt8 × Nat := if 65536 < t.length then ([], 3) else (l ++ frm t, 0)
set_option maxRecDepth 100000 in
set_option maxHeartbeats 1000000 in
theorem FPut_any (A : Option Addr) (c : Nat) (l : List UInt8) (B : Option Addr) (d : Nat) (t : List UInt8) (w : World) (hl : l.length ≤ 10000000) (hs : SlB w A c l) (ht : SlB w B d t) (htl : t.length ≤ 10000000) :
 Calls Tryz.prog 84 #[.slice A l.length c, .slice B t.length d] w (PutsB w (fput l t)) := by
 by_cases h : 65536 < t.length
 · have ho := Lib.hid (show fput l t = ([], 3) from by unfold fput; rw [if_pos h])
   have hi : (65536 : Int) < (t.length : Int) := by omega
   go_enter Tryz.func84, Tryz.ntmps84
   go_wp2_with fail
   go_ret2
   exact ⟨none, 0, [], by rw [ho.out]; rfl, by rw [ho.out]; rfl, Own.none_ _ _ _ _, Below.refl _ _⟩
 · have ho := Lib.hid (show fput l t = (l ++ frm t, 0) from by unfold fput; rw [if_neg h])
   have hi : ¬ (65536 : Int) < (t.length : Int) := by omega
   have hvl := Lib.hid (vb_le10 (n := t.length) (by omega))
   go_enter Tryz.func84, Tryz.ntmps84
   go_wp2_with fail
   refine (CrcNew_any _).mono ?_
   rintro e w1 ⟨rfl, hM1, hb1⟩
   go_wp2_with fail
   refine (PutText_any none 0 [] B d t w1 (by simp) (Sl.none_ w1 1) (ht.below hb1) htl).mono ?_
   rintro e w2 ⟨A2, c2, m2, rfl, hm2, ho2, hb2⟩
   have hm2' := Lib.hid (show m2 = txb t from hm2.out)
   have hml2 := Lib.hid (show m2.length ≤ 10000010 from by rw [hm2'.out]; unfold txb; rw [List.length_append]; have := hvl.out; omega)
   have hw2 := bel_call hb1 hb2
   go_wp2_with fail
   have hM2 : Mkr w2 w.heap.size ((0 : Nat) : Int) := Mkr.below (.inl hM1) hb2
   have hn2 : m2 ≠ [] → A2.map (·.block) ≠ some w.heap.size := fun _ => Own.ne ho2 hM1.lt
   have hl2 : m2.length ≤ 100000000 := by have := hml2.out; omega
   have hq := Sealed_at w.heap.size 0 A2 c2 m2 w2 hM2 (by omega) ho2.sl hn2 hl2
   with_reducible refine hq.mono ?_
   rintro e w3 ⟨A3, c3, m3, rfl, hm3, ho3, hM3, hB3⟩
   have hm3' := Lib.hid (show m3 = frm t from by rw [hm3.out, hm2'.out]; rfl)
   have hml3 := Lib.hid (show m3.length ≤ 10000014 from by rw [hm3.out, List.length_append, four_len]; have := hml2.out; omega)
   have hw3 := below_of_but hB3 hw2 (Nat.le_refl _)
   have hbn := below_new w3 (.cells #[.slice A l.length c, .slice A3 m3.length c3] 52)
   go_wp2_with fail
   refine (Concat_any (some ⟨w3.heap.size, 0, none⟩) 2 [(A, c, l), (A3, c3, m3)] _ (Sl.lits w3 [pv (A, c, l), pv (A3, c3, m3)] 52 (by simp [maxLen])) ?_ ?_).mono ?_
   · intro q hq
     simp only [List.mem_cons, List.not_mem_nil, or_false] at hq
     rcases hq with rfl | rfl
     · exact (hs.below hw3).below hbn
     · exact ho3.sl.below hbn
   · have := hml3.out; simp [partsOf]; omega
   rintro e w4 ⟨A4, c4, m4, rfl, hm4, ho4, hb4⟩
   go_wp2_with fail
   go_ret2
   refine ⟨A4, c4, m4, by rw [ho.out]; rfl, by rw [ho.out]; show m4 = _; rw [hm4.out, hm3'.out]; simp [partsOf], ho4.more ?_, bel_call (bel_call hw3 hbn) hb4⟩
   exact Nat.le_trans hw3.size hbn.size
def OwnO (w : World) (base : Nat) (A : Option Addr) (c : Nat) (m : List UInt8) : Prop :=
 SlB w A c m ∧ (m ≠ [] → ∃ (g off : Nat) (cur : Array Value), A = some ⟨g, off, none⟩ ∧ base ≤ g ∧ w.heap[g]? = some (.cells cur 5 (0, 0)))
def TakesF (w0 : World) (o : List UInt8 × Nat × Nat) (e : Ending) (w' : World) : Prop :=
 ∃ A c m, e = .returned (.tuple #[.slice A (List.length m) c, .int .i64 (o.2.1 : Nat), errv o.2.2]) ∧ Hid (m = o.1) ∧ OwnO w' w0.heap.size A c m ∧ Below w0.heap.size w0 w'
theorem OwnO.nil (w : World) (base : Nat) : OwnO w base none 0 [] := ⟨Sl.none_ _ _, fun h => absurd rfl h⟩
theorem OwnO.cut {w : World} {base : Nat} {E : Option Addr} {f k : Nat} {m : List UInt8} (ho : OwnB w base 5 E f m) (hk : k ≤ m.length) : OwnO w base (if f = k then E else E.map (·.add k)) (f - k) (m.drop k) := by
 have hc := Sl.cutB ho.sl hk
 rw [show m.length - k = (m.drop k).length from by simp] at hc
 refine ⟨hc, fun hne => ?_⟩
 have hkl : k < m.length := by
  rcases Nat.lt_or_ge k m.length with h | h
  · exact h
  · exact absurd (List.drop_eq_nil_of_le h) hne
 have hf := ho.sl.2.1
 rw [if_neg (by omega)]
 rcases ho.2 with ⟨_, h0⟩ | ⟨g, cap, cur, hv, hb, hh, _⟩
 · omega
 · injection hv with hE _ _
   subst hE
   exact ⟨g, k, cur, by simp [addr_lit], hb, hh⟩
theorem ftake_none {l : List UInt8} (h : take l = none) : ftake l = ([], 0, 2) := by unfold ftake; rw [h]
theorem ftake_long {l : List UInt8} {n k : Nat} (h : take l = some (n, k)) (hn : 65536 < n) : ftake l = ([], 0, 3) := by unfold ftake; rw [h]; dsimp only; rw [if_pos hn]
theorem ftake_short {l : List UInt8} {n k : Nat} (h : take l = some (n, k)) (hn : ¬ 65536 < n) (hs : l.length < k + n + 4) : ftake l = ([], 0, 2) := by unfold ftake; rw [h]; dsimp only; rw [if_neg hn, if_pos hs]
theorem ftake_some {l : List UInt8} {n k : Nat} (h : take l = some (n, k)) (hn : ¬ 65536 < n) (hs : ¬ l.length < k + n + 4) : ftake l = (if (opened (l.take (k + n + 4))).2 = 0 then ((opened (l.take (k + n + 4))).1.drop k, k + n + 4, 0) else ([], 0, 11)) ∧ ((opened (l.take (k + n + 4))).2 = 0 ∨ (opened (l.take (k + n + 4))).2 = 11) ∧ ((opened (l.take (k + n + 4))).2 = 0 → (opened (l.take (k + n + 4))).1.length = k + n) := by
 unfold ftake; rw [h]; dsimp only; rw [if_neg hn, if_neg hs, opened_take (by omega)]
 by_cases he : four (sumW (l.take (k + n))) = (l.drop (k + n)).take 4
 · rw [if_pos he, if_pos he, if_pos rfl]
   exact ⟨rfl, .inl rfl, fun _ => by simp; omega⟩
 · rw [if_neg he, if_neg he, if_neg (by simp)]
   exact ⟨rfl, .inr rfl, fun h => by simp at h⟩
set_option maxRecDepth 100000 in
set_option maxHeartbeats 2000000 in
theorem FTake_any (A : Option Addr) (c : Nat) (l : List UInt8) (w : World) (hs : SlB w A c l) (hl : l.length ≤ 10000000) :
 Calls Tryz.prog 101 #[.slice A l.length c] w (TakesF w (ftake l)) := by
 have hc1 := hs.2.1
 go_enter Tryz.func101, Tryz.ntmps101
 go_wp2_with fail
 refine (Take_any A c l _ hs).mono ?_
 rintro e w1 ⟨rfl, ⟨ht, rfl⟩ | ⟨n, k, ht, rfl⟩⟩
 · have hf := Lib.hid (ftake_none ht)
   clear ht
   go_wp2_with fail
   go_ret3
   exact ⟨none, 0, [], by rw [hf.out]; rfl, by rw [hf.out]; rfl, OwnO.nil _ _, Below.refl _ _⟩
 · obtain ⟨hu, hkl, _⟩ := take_some ht
   by_cases hn : 65536 < n
   · have hf := Lib.hid (ftake_long ht hn)
     have hni : (65536 : Int) < (n : Int) := by omega
     clear ht
     go_wp2_with fail
     go_ret3
     exact ⟨none, 0, [], by rw [hf.out]; rfl, by rw [hf.out]; rfl, OwnO.nil _ _, Below.refl _ _⟩
   · have hni : ¬ (65536 : Int) < (n : Int) := by omega
     have hw1 : IntKind.u64.wrap ((l.length : Int) - (k : Int)) = ((l.length - k : Nat) : Int) := by rw [IntKind.wrap_u64]; omega
     have hw2 : IntKind.u64.wrap ((n : Int) + 4) = ((n + 4 : Nat) : Int) := by rw [IntKind.wrap_u64]; omega
     by_cases hsh : l.length < k + n + 4
     · have hf := Lib.hid (ftake_short ht hn hsh)
       clear ht
       go_wp2_with fail
       go_ret3
       exact ⟨none, 0, [], by rw [hf.out]; rfl, by rw [hf.out]; rfl, OwnO.nil _ _, Below.refl _ _⟩
     · obtain ⟨hf, hor, hlen⟩ := ftake_some ht hn hsh
       have HF := Lib.hid hf
       have HL := Lib.hid hlen
       have hsi : ¬ (((l.length - k : Nat) : Int) < (n : Int) + 4) := by omega
       obtain ⟨q, hq⟩ : ∃ q, q = k + n + 4 := ⟨_, rfl⟩
       have hqi : (k : Int) + (n : Int) + 4 = (q : Int) := by omega
       have hqc : q ≤ c := by omega
       have hql : q ≤ l.length := by omega
       have hw64 : wrap64 (n : Int) = (n : Int) := by simp only [wrap64]; omega
       rw [← hq] at HF HL hor
       have HQ := Lib.hid hq
       have hT := Sl.takeB hs q
       have htl : (l.take q).length = q := by simp; omega
       clear ht hf hlen hq hw2
       generalize hl1 : l.take q = l1 at *
       clear hl1
       have HTL := Lib.hid htl
       clear htl
       have hT1 : SlB w.drew A c l1 := hT
       go_wp2_with fail
       go_cut [7, 4] (fun s7 s4 wx => ∃ (E : Option Addr) (f : Nat) (m : List UInt8), s7 = .slice E m.length f ∧ s4 = errv (opened l1).2 ∧ Hid (m = (opened l1).1) ∧ OwnB wx w.heap.size 5 E f m ∧ Below w.heap.size w wx)
       case first =>
        refine wp_region_held_drew (S := (fun _ => True)) (by kernel_rfl) ?_ (fun hHeld => ?_)
        · first | done | trivial
        refine wTk (i := 1) (oi := ⟨some 39, _, _, _, _, _⟩) (v := ?_) rfl ⟨by kernel_rfl, ?_⟩ (by assumption) ?_
        rotate_left
        · (intro wS hSw; (try dsimp only at hSw); go_simp; (try with_reducible rfl))
        (try simp only [Act.put, pS0, pS1, pS2])
        refine wTk (i := 2) (oi := ⟨some 40, _, _, _, _, _⟩) (v := ?_) rfl ⟨by kernel_rfl, ?_⟩ (by assumption) ?_
        rotate_left
        · (intro wS hSw; (try dsimp only at hSw); go_simp; (try with_reducible rfl))
        (try simp only [Act.put, pS0, pS1, pS2])
        refine wTk (i := 3) (oi := ⟨some 41, _, _, _, _, _⟩) (v := ?_) rfl ⟨by kernel_rfl, ?_⟩ (by assumption) ?_
        rotate_left
        · (intro wS hSw; (try dsimp only at hSw); go_simp; (try with_reducible rfl))
        (try simp only [Act.put, pS0, pS1, pS2])
        refine wR1 (i := 0) (o := ⟨some 38, _, _, _, _, _⟩) rfl (fun K hK => ?_)
        go_simp
        (refine (CrcNew_any _).mono ?_; rintro e w9 ⟨rfl, hM9, hb9⟩; have hM9' : Mkr w9 w.heap.size ((0 : Nat) : Int) := .inl hM9; have hT9 : SlB w9 A c l1 := hT1.below hb9; have hn9 : l1 ≠ [] → A.map (·.block) ≠ some w.heap.size := SlB.old hT1 (Nat.le_refl _))
        go_wp2_with fail
        refine hK.out _ _ ?_ (fun hHeld => ?_)
        · ((try dsimp only); (done))
        clear hK K
        (try simp only [Act.put, pS0, pS1, pS2])
        refine wR1 (i := 4) (o := ⟨some 42, _, _, _, _, _⟩) rfl (fun K hK => ?_)
        go_simp
        ((with_reducible refine (Opened_len w.heap.size 0 A c q l1 w9 HTL.out.symm hM9' (by omega) hT9 hn9 (by rw [HTL.out]; omega)).mono ?_); rintro e w10 ⟨A10, c10, m10, rfl, hm10, ho10, hM10, hB10⟩)
        go_wp2_with fail
        refine hK.out _ _ ?_ (fun hHeld => ?_)
        · ((try dsimp only); (done))
        clear hK K
        (try simp only [Act.put, pS0, pS1, pS2])
        refine wTk (i := 5) (oi := ⟨some 37, _, _, _, _, _⟩) (v := ?_) rfl ⟨by kernel_rfl, ?_⟩ (by assumption) ?_
        rotate_left
        · (intro wS hSw; (try dsimp only at hSw); go_simp; (try with_reducible rfl))
        (try simp only [Act.put, pS0, pS1, pS2])
        refine wTk (i := 6) (oi := ⟨some 43, _, _, _, _, _⟩) (v := ?_) rfl ⟨by kernel_rfl, ?_⟩ (by assumption) ?_
        rotate_left
        · (intro wS hSw; (try dsimp only at hSw); go_simp; (try with_reducible rfl))
        (try simp only [Act.put, pS0, pS1, pS2])
        refine wTk (i := 7) (oi := ⟨some 44, _, _, _, _, _⟩) (v := ?_) rfl ⟨by kernel_rfl, ?_⟩ (by assumption) ?_
        rotate_left
        · (intro wS hSw; (try dsimp only at hSw); go_simp; (try with_reducible rfl))
        (try simp only [Act.put, pS0, pS1, pS2])
        refine wTk (i := 8) (oi := ⟨some 7, _, _, _, _, _⟩) (v := ?_) rfl ⟨by kernel_rfl, ?_⟩ (by assumption) ?_
        rotate_left
        · (intro wS hSw; (try dsimp only at hSw); go_simp; (try with_reducible rfl))
        (try simp only [Act.put, pS0, pS1, pS2])
        refine wTk (i := 9) (oi := ⟨some 4, _, _, _, _, _⟩) (v := ?_) rfl ⟨by kernel_rfl, ?_⟩ (by assumption) ?_
        rotate_left
        · (intro wS hSw; (try dsimp only at hSw); go_simp; (try with_reducible rfl))
        (try simp only [Act.put, pS0, pS1, pS2])
        refine wpAnyH_done (by kernel_rfl) ?_ _
        go_wp2_with fail
        go_meet
        exact ⟨A10, c10, m10, rfl, rfl, hm10, ho10.more hb9.size, below_of_drew (below_of_but hB10 hb9 (Nat.le_refl _))⟩
       case rest =>
        obtain ⟨E, f, m, rfl, rfl, hm, ho, hb⟩ := hcut
        have hfc := ho.sl.2.1
        rcases hor with h0 | h11
        · have hm1 := hm.out
          rw [← hm1] at HF HL
          rw [h0] at HF HL
          have hml := Lib.hid (HL.out rfl)
          have hkm : k ≤ m.length := by rw [hml.out]; omega
          have HF2 := Lib.hid (show ftake l = (m.drop k, q, 0) from by rw [HF.out, if_pos rfl])
          have hcut := OwnO.cut ho hkm
          have hdl : (m.drop k).length = m.length - k := by simp
          rw [h0]
          clear HF HL hm hm1 ho
          generalize m.drop k = m2 at *
          have hev : errv 0 = .nilIface := rfl
          rw [hev]
          by_cases hfk : f = k
          · rw [if_pos hfk] at hcut
            subst hfk
            go_wp2_with fail
            go_ret3
            refine ⟨E, f - f, m2, ?_, by rw [HF2.out]; rfl, hcut, hb⟩
            rw [HF2.out, hdl]
            simp [errv]
            omega
          · rw [if_neg hfk] at hcut
            go_wp2_with fail
            go_ret3
            refine ⟨_, f - k, m2, ?_, by rw [HF2.out]; rfl, hcut, hb⟩
            rw [HF2.out, hdl]
            rfl
        · have HF2 := Lib.hid (show ftake l = ([], 0, 11) from by rw [HF.out, if_neg (by rw [h11]; simp)])
          rw [h11]
          have hev : errv 11 = .iface 60 (.int .i64 11) := rfl
          rw [hev]
          clear HF HL hm ho
          go_wp2_with fail
          go_ret3
          exact ⟨none, 0, [], by rw [HF2.out]; rfl, by rw [HF2.out]; rfl, OwnO.nil _ _, hb⟩
end
end Go.Proofs.YtajfnmohlnkncaaGreatDoor
