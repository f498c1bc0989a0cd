/- WHAT IT HOLDS: sync.Once of one goroutine: its lock, its two deferred calls, and that Do calls a function once, then never again. | WHAT IT HOLDS: what the package crc computes, walked. -/
import Derived.Test.YtjkdnnekagcdhaaRows
import Derived.Test.YtjkdnnekagcdhaaSegmentTakesG01
import Derived.Tactics
import Derived.Tactics2
import Derived.Defers
import Derived.Laws.Pointers
import Derived.Laws.LoneSync
import Derived.RegionTactic
import Derived.RegionCalls
import Derived.Test.YtjkdnnekagcdhaaSegmentTakesG24
import Derived.Test.YtjkdnnekagcdhaaSegmentTakesG03
import Derived.Deep.RegionHeld3
import Derived.Deep.DrawnRows
namespace Go.Proofs.Ytjkdnnekagcdhaa
open Go.RowKit

theorem race_disable (w : World) : (callFunc 168 #[]).run Try.prog w = .ok (.value (.tuple #[])) w := run_call_mark0 Try.func168 (by kernel_rfl) (by kernel_rfl) (by kernel_rfl) .disable (by kernel_rfl) w
theorem race_enable (w : World) : (callFunc 170 #[]).run Try.prog w = .ok (.value (.tuple #[])) w := run_call_mark0 Try.func170 (by kernel_rfl) (by kernel_rfl) (by kernel_rfl) .enable (by kernel_rfl) w
theorem race_acquire (a : Addr) (w : World) : (callFunc 171 #[.pointer (some a)]).run Try.prog w = .ok (.value (.tuple #[])) w := run_call_marked Try.func171 (by kernel_rfl) (by kernel_rfl) (by kernel_rfl) .acquire (by kernel_rfl) a w
theorem race_merge (a : Addr) (w : World) : (callFunc 173 #[.pointer (some a)]).run Try.prog w = .ok (.value (.tuple #[])) w := run_call_marked Try.func173 (by kernel_rfl) (by kernel_rfl) (by kernel_rfl) .releaseMerge (by kernel_rfl) a w

/-- '(*sync/atomic.Bool).Store(true)', entered as a deferred call: the cell holds 1. -/
theorem once_store (a : Addr) (x : Value) (u : FrameMode) (w : World) (hc : w.cell? a = some x) (hz : w.frozen? a = false) :
    CallsD Try.prog 163 #[.pointer (some a), .bool true] u w fun e u' w' => u' = u ∧ (e = .returned (.tuple #[]) ∧ w' = w.drew.setCell a (.int .u32 1)) := by
  have hc' : w.drew.cell? a = some x := by go_simp
  have hz' : w.drew.frozen? a = false := by go_simp
  have hst := run_call_store (P := Try.prog) Try.func166 (by kernel_rfl) (by kernel_rfl) (by kernel_rfl) (by kernel_rfl) (k := .u32) (y := 1) hc' hz'
  go_enter_d Try.func163, Try.ntmps163
  go_wp2
  go_region_calls
  all_goals (go_end0; exact ⟨rfl, rfl⟩)

set_option maxRecDepth 100000 in
set_option maxHeartbeats 1600000 in
/-- '(*sync.Mutex).Unlock', entered as a deferred call, the lock held and nobody waiting (state 1): state 0. -/
theorem once_unlock (a : Addr) (u : FrameMode) (w : World) (hc : w.cell? a = some (.int .i32 1)) (hz : w.frozen? a = false) :
    CallsD Try.prog 162 #[.pointer (some a)] u w fun e u' w' => u' = u ∧ (e = .returned (.tuple #[]) ∧ w' = w.setCell a (.int .i32 0)) := by
  have hd := race_disable
  have he := race_enable
  have hr := race_merge
  have hadd := run_call_add (P := Try.prog) Try.func174 (by kernel_rfl) (by kernel_rfl) (by kernel_rfl) .i32 (by kernel_rfl) (y := -1) (s := 0) hc hz (by simp [go_sem]; rfl)
  have hcv := run_convert_to_unsafe (P := Try.prog) (src := 257) (dst := 261) Try.underlying257 Try.underlying261 (by kernel_rfl) hc
  go_enter_d Try.func162, Try.ntmps162
  go_wp2
  go_end0
  go_wp2
  go_end0
  exact ⟨rfl, rfl⟩

set_option maxRecDepth 100000 in
set_option maxHeartbeats 1600000 in
/-- '(*sync.Mutex).Lock', the lock free (state 0): state 1. -/
theorem once_lock (a : Addr) (w : World) (hc : w.cell? a = some (.int .i32 0)) (hz : w.frozen? a = false) :
    Calls Try.prog 161 #[.pointer (some a)] w fun e w' => e = .returned (.tuple #[]) ∧ w' = w.setCell a (.int .i32 1) := by
  have hd := race_disable
  have he := race_enable
  have ha := race_acquire
  have hcas := run_call_cas_hit (P := Try.prog) Try.func169 (by kernel_rfl) (by kernel_rfl) (by kernel_rfl) .i32 (by kernel_rfl) (y := 1) hc hz
  have hc' : (w.setCell a (.int .i32 1)).cell? a = some (.int .i32 1) := World.cell?_setCell_same w a _ hc
  have hcv := run_convert_to_unsafe (P := Try.prog) (src := 257) (dst := 261) Try.underlying257 Try.underlying261 (by kernel_rfl) hc'
  go_enter Try.func161, Try.ntmps161
  go_wp2
  first | go_end0 | (simp only [Exit.inBlock, Exit.then]; refine bodyPost_ret (results_none rfl _ _ _) rfl ?_) | refine bodyPost_ret (results_none rfl _ _ _) rfl ?_
  go_wp2
  go_end0
  exact ⟨rfl, rfl⟩
end Go.Proofs.Ytjkdnnekagcdhaa

namespace Go.Proofs.Ytjkdnnekagcdhaa
open Go.RowKit

set_option maxRecDepth 100000 in
set_option maxHeartbeats 1000000 in
theorem step_any (x : W32) (w : World) : Calls Try.prog 159 #[wv x] w fun e w' => e = .returned (wv (st8 x)) ∧ w = w' := by
  go_enter Try.func159, Try.ntmps159
  go_wp2
  go_loopw [0, 4] (fun v i wr => ∃ (k : Nat) (y : W32), k ≤ 8 ∧ i = .int .i64 k ∧ v = wv y ∧ Hid (st8 x = stn (8 - k) y) ∧ w = wr) (fun v i w => 8 - (intOf i).toNat)
  case atStart => exact ⟨0, x, by omega, rfl, rfl, rfl, rfl⟩
  case round =>
    obtain ⟨k, y, hk, rfl, rfl, hy, rfl⟩ := hrel
    by_cases h8 : k < 8
    · have hst : stn (8 - k) y = stn (8 - (k + 1)) (st1 y) := by rw [show 8 - k = (8 - (k + 1)) + 1 from by omega]; rfl
      cases hb : y.getLsbD 0
      · have e0 := and_one y
        rw [hb] at e0
        simp only [Bool.false_eq_true, if_false] at e0
        have hs : st1 y = y >>> 1 := by unfold st1; rw [hb]; simp
        have HS := Lib.hid hs
        have HT := Lib.hid hst
        clear hs hst hb
        go_wp2
        go_roundw
        case rel => exact ⟨k + 1, y >>> 1, h8, by go_num, congrArg (Value.int .u32) (half_wn y), (show st8 x = _ from by rw [hy.out, HT.out, HS.out]), by trivial⟩
        case measure => simp [intOf]; omega
      · have e0 := and_one y
        rw [hb] at e0
        simp only [if_true] at e0
        have hs : st1 y = (y >>> 1) ^^^ P32 := by unfold st1; rw [hb]; simp
        have HS := Lib.hid hs
        have HT := Lib.hid hst
        clear hs hst hb
        go_wp2
        go_roundw
        case rel => exact ⟨k + 1, (y >>> 1) ^^^ P32, h8, by go_num, congrArg (Value.int .u32) (by rw [half_wn, xor_P]), (show st8 x = _ from by rw [hy.out, HT.out, HS.out]), by trivial⟩
        case measure => simp [intOf]; omega
    · obtain rfl : k = 8 := by omega
      go_wp2
      go_ret
      exact ⟨by rw [hy.out]; rfl, rfl⟩
/-- a maker at block g: d: is its table made · n: how many sums were asked for · k: how many of the table's rows are made -/
def Mk (w : World) (g : Nat) (d s : Int) (n : Int) (k : Nat) : Prop := ∃ cs : Array Value, Blk w g 237 cs ∧ cs.size = 260 ∧ cs[0]? = some (.int .u32 d) ∧ cs[1]? = some (.int .i32 s) ∧ cs[259]? = some (.int .i64 n) ∧
  (∀ i, i < 256 → ∃ v, cs[3 + i]? = some v) ∧ ∀ i, i < k → cs[3 + i]? = some (wv (st8 (BitVec.ofNat 32 i)))

theorem zero_rows : (List.range 256).all (fun i => (Try.zeroCells237[3 + i]?).isSome) = true := by kernel_rfl
theorem zero_mk : Try.zeroCells237.size = 260 ∧ Try.zeroCells237[0]? = some (.int .u32 0) ∧ Try.zeroCells237[1]? = some (.int .i32 0) ∧ Try.zeroCells237[259]? = some (.int .i64 0) ∧
    (∀ i, i < 256 → ∃ v, Try.zeroCells237[3 + i]? = some v) ∧ ∀ i, i < 0 → Try.zeroCells237[3 + i]? = some (wv (st8 (BitVec.ofNat 32 i))) :=
  ⟨by kernel_rfl, by kernel_rfl, by kernel_rfl, by kernel_rfl, fun i hi => Option.isSome_iff_exists.1 (List.all_eq_true.1 zero_rows i (List.mem_range.2 hi)), fun i hi => absurd hi (by omega)⟩
set_option maxRecDepth 100000 in
set_option maxHeartbeats 1000000 in
theorem New_any (w : World) : Calls Try.prog 136 #[] w fun e w' => e = .returned (.pointer (some ⟨w.heap.size, 0, none⟩)) ∧ Mk w' w.heap.size 0 0 0 0 ∧ Below w.heap.size w w' := by
  go_enter Try.func136, Try.ntmps136
  go_wp2
  go_ret
  refine ⟨rfl, ⟨_, Blk.new _ _ _, ?_⟩, below_new _ _⟩
  exact zero_mk
theorem Mk.lt {w : World} {g k : Nat} {d s n : Int} (h : Mk w g d s n k) : g < w.heap.size := by obtain ⟨cs, hB, _⟩ := h; exact hB.lt
/-- a store into the table -/
theorem Mk.row {w : World} {g k : Nat} {d s n : Int} (h : Mk w g d s n k) (hk : k < 256) : Mk (w.setCell ⟨g, 3 + k, none⟩ (wv (st8 (BitVec.ofNat 32 k)))) g d s n (k + 1) := by
  obtain ⟨cs, hB, hs, h0, h1, h9, hr, ht⟩ := h
  refine ⟨_, hB.set_ _ _, by simpa using hs, ?_, ?_, ?_, ?_, ?_⟩
  · rw [Array.getElem?_setIfInBounds_ne (by omega)]; exact h0
  · rw [Array.getElem?_setIfInBounds_ne (by omega)]; exact h1
  · rw [Array.getElem?_setIfInBounds_ne (by omega)]; exact h9
  · intro i hi
    by_cases he : k = i
    · subst he; exact ⟨_, Array.getElem?_setIfInBounds_self_of_lt (by omega)⟩
    · rw [Array.getElem?_setIfInBounds_ne (by omega)]; exact hr i hi
  · intro i hi
    by_cases he : k = i
    · subst he; exact Array.getElem?_setIfInBounds_self_of_lt (by omega)
    · rw [Array.getElem?_setIfInBounds_ne (by omega)]; exact ht i (by omega)
theorem Mk.drew {w : World} {g k : Nat} {d s n : Int} (h : Mk w g d s n k) : Mk w.drew g d s n k := h
theorem Mk.cell {w : World} {g k : Nat} {d s n : Int} (h : Mk w g d s n k) : w.cell? ⟨g, 0, none⟩ = some (.int .u32 d) ∧ w.cell? ⟨g, 1, none⟩ = some (.int .i32 s) ∧ w.cell? ⟨g, 259, none⟩ = some (.int .i64 n) ∧ w.frozen? ⟨g, 0, none⟩ = false ∧ w.frozen? ⟨g, 1, none⟩ = false ∧ w.frozen? ⟨g, 259, none⟩ = false ∧
    (∀ i, i < 256 → ∃ v, w.cell? ⟨g, 3 + i, none⟩ = some v) ∧ (∀ i, w.frozen? ⟨g, i, none⟩ = false) := by
  obtain ⟨cs, hB, hs, h0, h1, h9, hr, ht⟩ := h
  exact ⟨(hB.cell 0).trans h0, (hB.cell 1).trans h1, (hB.cell 259).trans h9, hB.frozen 0, hB.frozen 1, hB.frozen 259, fun i hi => (hr i hi).imp fun v hv => (hB.cell _).trans hv, fun i => hB.frozen i⟩
theorem Mk.at {w : World} {g k : Nat} {d s n : Int} (h : Mk w g d s n k) {i : Nat} (hi : i < k) : w.cell? ⟨g, 3 + i, none⟩ = some (wv (st8 (BitVec.ofNat 32 i))) := by
  obtain ⟨cs, hB, hs, h0, h1, h9, hr, ht⟩ := h
  exact (hB.cell _).trans (ht i hi)

/-- only block g is written, and new ones -/
abbrev But (g : Nat) (w w' : World) : Prop := w.grownBy w' (some g)
theorem But.set {g : Nat} {w w' : World} (h : But g w w') (i : Nat) (v : Value) : But g w (w'.setCell ⟨g, i, none⟩ v) :=
  ⟨h.os, h.tape, h.output, by simpa [World.setCell] using h.size, fun k hk hne => (Below.heap_setCell w' ⟨g, i, none⟩ v k (fun e => hne (by rw [e]))).trans (h.block k hk hne)⟩
theorem But.refl (g : Nat) (w : World) : But g w w := World.grownBy.refl w _
theorem But.drew {g : Nat} {w w' : World} (h : But g w w') : But g w w'.drew := ⟨h.os, h.tape, h.output, h.size, h.block⟩
theorem But.alloc {g : Nat} {w w' : World} (h : But g w w') (o : Obj) : But g w (w'.alloc o) := h.trans (World.grownBy_alloc _ _ _)

set_option maxRecDepth 100000 in
set_option maxHeartbeats 1000000 in
theorem fill_any (g : Nat) (d s n : Int) (w : World) (hM : Mk w g d s n 0) : Calls Try.prog 155 #[.pointer (some ⟨g, 0, none⟩)] w fun e w' => e = .returned (.tuple #[]) ∧ Mk w' g d s n 256 ∧ But g w w' := by
  go_enter Try.func155, Try.ntmps155
  go_wp2
  go_loopw [3] (fun i wr => ∃ k : Nat, k ≤ 256 ∧ i = .int .i64 k ∧ Mk wr g d s n k ∧ But g w wr) (fun i w => 256 - (intOf i).toNat)
  case atStart => exact ⟨0, by omega, rfl, hM, But.refl _ _⟩
  case round =>
    obtain ⟨k, hk, rfl, hMk, hBut⟩ := hrel
    by_cases h : k < 256
    · obtain ⟨v, hv⟩ := (hMk.cell).2.2.2.2.2.2.1 k h
      have hf := (hMk.cell).2.2.2.2.2.2.2 (3 + k)
      have hrow := hMk.row h
      have hwr := wrap_ofNat h
      generalize BitVec.ofNat 32 k = x at hrow hwr
      have HR := Lib.hid hrow
      clear hrow
      go_wp2
      refine wp_region_held_drew (S := (fun _ => True)) (by kernel_rfl) ?_ (fun hHeld => ?_)
      · first | done | trivial
      refine wpAnyH_take (i := 0) (oi := ⟨some 6, _, _, _, _, _⟩) (v := ?_) rfl (by kernel_rfl) (by kernel_rfl) (by kernel_rfl) (fun _ _ _ h => h) (Or.inl ⟨by kernel_rfl, ?_⟩) (by assumption) ?_
      rotate_left
      · (intro wS hSw; (try dsimp only at hSw); go_simp; (try with_reducible rfl))
      (try simp only [Act.put, List.setIfInBounds_toArray, List.set_cons_zero, List.set_cons_succ])
      refine wpAnyH_take (i := 1) (oi := ⟨some 7, _, _, _, _, _⟩) (v := ?_) rfl (by kernel_rfl) (by kernel_rfl) (by kernel_rfl) (fun _ _ _ h => h) (Or.inl ⟨by kernel_rfl, ?_⟩) (by assumption) ?_
      rotate_left
      · (intro wS hSw; (try dsimp only at hSw); go_simp; (try with_reducible rfl))
      (try simp only [Act.put, List.setIfInBounds_toArray, List.set_cons_zero, List.set_cons_succ])
      refine wpAnyH_take (i := 2) (oi := ⟨some 8, _, _, _, _, _⟩) (v := ?_) rfl (by kernel_rfl) (by kernel_rfl) (by kernel_rfl) (fun _ _ _ h => h) (Or.inl ⟨by kernel_rfl, ?_⟩) (by assumption) ?_
      rotate_left
      · (intro wS hSw; (try dsimp only at hSw); go_simp; (try with_reducible rfl))
      (try simp only [Act.put, List.setIfInBounds_toArray, List.set_cons_zero, List.set_cons_succ])
      refine wpAnyH_take (i := 3) (oi := ⟨some 9, _, _, _, _, _⟩) (v := ?_) rfl (by kernel_rfl) (by kernel_rfl) (by kernel_rfl) (fun _ _ _ h => h) (Or.inl ⟨by kernel_rfl, ?_⟩) (by assumption) ?_
      rotate_left
      · (intro wS hSw; (try dsimp only at hSw); go_simp; (try with_reducible rfl))
      (try simp only [Act.put, List.setIfInBounds_toArray, List.set_cons_zero, List.set_cons_succ])
      refine wpAnyH_take (i := 5) (oi := ⟨some 11, _, _, _, _, _⟩) (v := ?_) rfl (by kernel_rfl) (by kernel_rfl) (by kernel_rfl) (fun _ _ _ h => h) (Or.inl ⟨by kernel_rfl, ?_⟩) (by assumption) ?_
      rotate_left
      · (intro wS hSw; (try dsimp only at hSw); go_simp; (try with_reducible rfl))
      (try simp only [Act.put, List.setIfInBounds_toArray, List.set_cons_zero, List.set_cons_succ])
      refine wpAnyH_take (i := 6) (oi := ⟨some 12, _, _, _, _, _⟩) (v := ?_) rfl (by kernel_rfl) (by kernel_rfl) (by kernel_rfl) (fun _ _ _ h => h) (Or.inl ⟨by kernel_rfl, ?_⟩) (by assumption) ?_
      rotate_left
      · (intro wS hSw; (try dsimp only at hSw); go_simp; (try with_reducible rfl))
      (try simp only [Act.put, List.setIfInBounds_toArray, List.set_cons_zero, List.set_cons_succ])
      refine wpAnyH_ready (rs := [4]) (by kernel_rfl) (by simp) ?_
      refine AllReadyH.cons (o := ⟨some 10, _, _, _, _, _⟩) rfl (fun K hK => ?_) AllReadyH.nil
      go_simp
      (refine (step_any x _).mono ?_; rintro e w9 ⟨rfl, rfl⟩)
      go_wp2_with fail
      refine hK.out _ _ ?_ (fun hHeld => ?_)
      · ((try dsimp only); (first | done | trivial))
      clear hK K
      (try simp only [Act.put, List.setIfInBounds_toArray, List.set_cons_zero, List.set_cons_succ])
      refine wpAnyH_take (i := 7) (oi := ⟨some 13, _, _, _, _, _⟩) (v := ?_) rfl (by kernel_rfl) (by kernel_rfl) (by kernel_rfl) (fun _ _ _ h => h) (Or.inl ⟨by kernel_rfl, ?_⟩) (by assumption) ?_
      rotate_left
      · (intro wS hSw; (try dsimp only at hSw); go_simp; (try with_reducible rfl))
      (try simp only [Act.put, List.setIfInBounds_toArray, List.set_cons_zero, List.set_cons_succ])
      refine wpAnyH_ready (rs := [8]) (by kernel_rfl) (by simp) ?_
      refine AllReadyH.cons (o := ⟨none, _, _, _, _, _⟩) rfl (fun K hK => ?_) AllReadyH.nil
      go_simp
      refine hK.out _ _ ?_ (fun hHeld => ?_)
      · ((try dsimp only); (first | done | trivial))
      clear hK K
      (try simp only [Act.put, List.setIfInBounds_toArray, List.set_cons_zero, List.set_cons_succ])
      refine wpAnyH_done (by kernel_rfl) ?_ _
      go_wp2
      go_roundw
      case rel => exact ⟨k + 1, h, by go_num, HR.out, (hBut.set _ _).drew⟩
      case measure => simp [intOf]; omega
    · obtain rfl : k = 256 := by omega
      go_wp2
      go_end0
      exact ⟨rfl, hMk, hBut⟩
theorem Mk.set0 {w : World} {g k : Nat} {d s n : Int} (h : Mk w g d s n k) (x : Int) : Mk (w.setCell ⟨g, 0, none⟩ (.int .u32 x)) g x s n k := by
  obtain ⟨cs, hB, hs, h0, h1, h9, hr, ht⟩ := h
  refine ⟨_, hB.set_ _ _, by simpa using hs, Array.getElem?_setIfInBounds_self_of_lt (by omega), ?_, ?_, fun i hi => ?_, fun i hi => ?_⟩
  · rw [Array.getElem?_setIfInBounds_ne (by omega)]; exact h1
  · rw [Array.getElem?_setIfInBounds_ne (by omega)]; exact h9
  · rw [Array.getElem?_setIfInBounds_ne (by omega)]; exact hr i hi
  · rw [Array.getElem?_setIfInBounds_ne (by omega)]; exact ht i hi
theorem Mk.set1 {w : World} {g k : Nat} {d s n : Int} (h : Mk w g d s n k) (x : Int) : Mk (w.setCell ⟨g, 1, none⟩ (.int .i32 x)) g d x n k := by
  obtain ⟨cs, hB, hs, h0, h1, h9, hr, ht⟩ := h
  refine ⟨_, hB.set_ _ _, by simpa using hs, ?_, Array.getElem?_setIfInBounds_self_of_lt (by omega), ?_, fun i hi => ?_, fun i hi => ?_⟩
  · rw [Array.getElem?_setIfInBounds_ne (by omega)]; exact h0
  · rw [Array.getElem?_setIfInBounds_ne (by omega)]; exact h9
  · rw [Array.getElem?_setIfInBounds_ne (by omega)]; exact hr i hi
  · rw [Array.getElem?_setIfInBounds_ne (by omega)]; exact ht i hi
theorem Mk.set9 {w : World} {g k : Nat} {d s n : Int} (h : Mk w g d s n k) (hk : k ≤ 256) (x : Int) : Mk (w.setCell ⟨g, 259, none⟩ (.int .i64 x)) g d s x k := by
  obtain ⟨cs, hB, hs, h0, h1, h9, hr, ht⟩ := h
  refine ⟨_, hB.set_ _ _, by simpa using hs, ?_, ?_, Array.getElem?_setIfInBounds_self_of_lt (by omega), fun i hi => ?_, fun i hi => ?_⟩
  · rw [Array.getElem?_setIfInBounds_ne (by omega)]; exact h0
  · rw [Array.getElem?_setIfInBounds_ne (by omega)]; exact h1
  · rw [Array.getElem?_setIfInBounds_ne (by omega)]; exact hr i hi
  · rw [Array.getElem?_setIfInBounds_ne (by omega)]; exact ht i (by omega)

set_option maxRecDepth 100000 in
set_option maxHeartbeats 1600000 in
theorem slow_any (g : Nat) (n : Int) (w : World) (hM : Mk w g 0 0 n 0) :
    Calls Try.prog 158 #[.pointer (some ⟨g, 0, none⟩), .func (.func 155) #[.pointer (some ⟨g, 0, none⟩)] #[]] w fun e w' => e = .returned (.tuple #[]) ∧ Mk w' g 1 0 n 256 ∧ But g w w' := by
  obtain ⟨h0, h1, _, f0, f1, _, _, _⟩ := hM.cell
  have hl := run_call_load (P := Try.prog) Try.func160 (by kernel_rfl) (by kernel_rfl) (by kernel_rfl) .u32 (by kernel_rfl) (w := w.setCell ⟨g, 1, none⟩ (.int .i32 1)) (a := ⟨g, 0, none⟩) (x := 0) ((World.cell?_setCell_other _ ⟨g, 1, none⟩ ⟨g, 0, none⟩ _ (by simp)).trans h0)
  have hnot : ∀ (x : Bool) (w : World), (Op.unary .not (.bool x)).run Try.prog w = .ok (.bool (!x)) w := fun _ _ => rfl
  go_enter_defers Try.func158, Try.ntmps158
  go_wp2_with (go_at_call 161; refine (once_lock ⟨g, 1, none⟩ _ (by go_simp) (by go_simp)).mono ?_; rintro e w' ⟨rfl, rfl⟩)
  have hM1 := hM.set1 1
  go_wp2_with (first | (go_at_call 155; refine (fill_any g 0 1 n _ hM1).mono ?_; rintro e w1 ⟨rfl, hM2, hB2⟩) | (go_at_call 157; go_in))
  obtain ⟨c0, _, _, z0, z1, _, _, _⟩ := hM2.cell
  refine leaves_cons (f := 163) (args := #[.pointer (some ⟨g, 0, none⟩), .bool true]) (by simp) (by simp [go_sem]) ?_
  refine (once_store ⟨g, 0, none⟩ (.int .u32 0) .returning _ c0 z0).mono ?_
  rintro e u' w2 ⟨rfl, rfl, rfl⟩
  have hM3 := hM2.drew.set0 1
  obtain ⟨_, c1, _, _, z1, _, _, _⟩ := hM3.cell
  refine leaves_cons (f := 162) (args := #[.pointer (some ⟨g, 1, none⟩)]) (by simp [settle]) (by simp [go_sem]) ?_
  refine (once_unlock ⟨g, 1, none⟩ _ _ c1 z1).mono ?_
  rintro e u' w3 ⟨rfl, rfl, rfl⟩
  have hM4 := hM3.set1 0
  exact ⟨_, results_none rfl _ _ _, rfl, hM4, But.set (But.set (But.drew (World.grownBy.trans (But.set (But.refl g w) _ _) hB2)) _ _) _ _⟩

set_option maxRecDepth 100000 in
set_option maxHeartbeats 1600000 in
theorem do_first (g : Nat) (n : Int) (w : World) (hM : Mk w g 0 0 n 0) :
    Calls Try.prog 154 #[.pointer (some ⟨g, 0, none⟩), .func (.func 155) #[.pointer (some ⟨g, 0, none⟩)] #[]] w fun e w' => e = .returned (.tuple #[]) ∧ Mk w' g 1 0 n 256 ∧ But g w w' := by
  obtain ⟨h0, _, _, _, _, _, _, _⟩ := hM.cell
  have hl := run_call_load (P := Try.prog) Try.func160 (by kernel_rfl) (by kernel_rfl) (by kernel_rfl) .u32 (by kernel_rfl) h0
  have hnot : ∀ (x : Bool) (w : World), (Op.unary .not (.bool x)).run Try.prog w = .ok (.bool (!x)) w := fun _ _ => rfl
  go_enter Try.func154, Try.ntmps154
  go_wp2_with (first | (go_at_call 158; refine (slow_any g n _ hM).mono ?_; rintro e w1 ⟨rfl, hM2, hB2⟩) | (go_at_call 157; go_in))
  go_end0
  exact ⟨rfl, hM2, hB2⟩
theorem do_done (g : Nat) (s n : Int) (fv : Value) (w : World) (hM : Mk w g 1 s n 256) :
    Calls Try.prog 154 #[.pointer (some ⟨g, 0, none⟩), fv] w fun e w' => e = .returned (.tuple #[]) ∧ w = w' := by
  obtain ⟨h0, _, _, _, _, _, _, _⟩ := hM.cell
  have hl := run_call_load (P := Try.prog) Try.func160 (by kernel_rfl) (by kernel_rfl) (by kernel_rfl) .u32 (by kernel_rfl) h0
  have hnot : ∀ (x : Bool) (w : World), (Op.unary .not (.bool x)).run Try.prog w = .ok (.bool (!x)) w := fun _ _ => rfl
  go_enter Try.func154, Try.ntmps154
  go_wp2
  go_end0
  exact ⟨rfl, rfl⟩
/-- a maker, its table made or not -/
def Mkr (w : World) (g : Nat) (n : Int) : Prop := Mk w g 0 0 n 0 ∨ Mk w g 1 0 n 256
theorem do_any (g : Nat) (n : Int) (w : World) (hM : Mkr w g n) :
    Calls Try.prog 154 #[.pointer (some ⟨g, 0, none⟩), .func (.func 155) #[.pointer (some ⟨g, 0, none⟩)] #[]] w fun e w' => e = .returned (.tuple #[]) ∧ Mk w' g 1 0 n 256 ∧ But g w w' := by
  rcases hM with hM | hM
  · exact do_first g n w hM
  · refine (do_done g 0 n _ w hM).mono ?_
    rintro e w1 ⟨rfl, rfl⟩
    exact ⟨rfl, hM, But.refl _ _⟩
theorem SlB.but {w w' : World} {A : Option Addr} {c g : Nat} {l : List UInt8} (h : SlB w A c l) (hb : But g w w') (hA : l ≠ [] → A.map (·.block) ≠ some g) : SlB w' A c l := by
  refine ⟨h.1, h.2.1, h.2.2.1, h.2.2.2.1, fun j u hj => ?_⟩
  obtain ⟨ad, hA2, hc⟩ := h.2.2.2.2 j u hj
  have hne : l ≠ [] := by intro e; rw [e] at hj; simp at hj
  subst hA2
  exact ⟨ad, rfl, hb.cell hc (by rw [addr_add_block]; exact hA hne)⟩
end Go.Proofs.Ytjkdnnekagcdhaa
