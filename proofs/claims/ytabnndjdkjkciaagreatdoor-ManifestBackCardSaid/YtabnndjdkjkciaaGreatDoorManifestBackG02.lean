/- WHAT IT HOLDS: what the functions of the package varint compute, walked. | WHAT IT HOLDS: sync.Once of one goroutine: its lock, its two deferred calls, and that Do calls a function once, then never again. | WHAT IT HOLDS: what the package crc computes, walked. | WHAT IT HOLDS: the sums of package crc, walked. | WHAT IT HOLDS: slices.Grow of nothing, slices.Concat, slices.Equal over bytes, walked. | WHAT IT HOLDS: the sum's four bytes, Sealed, Opened of package crc, and the document's sums, walked. | WHAT IT HOLDS: sha's words turned, walked: both sides' turns. | WHAT IT HOLDS: what the document's functions of layer 1 compute, walked. -/
import Derived.Test.YtabnndjdkjkciaaGreatDoorRows
import Derived.Test.YtabnndjdkjkciaaGreatDoorManifestBackG01
import Derived.Tactics
import Derived.Tactics2
import Derived.Defers
import Derived.Laws.Pointers
import Derived.Laws.LoneSync
import Derived.RegionTactic
import Derived.RegionCalls
import Derived.Deep.RegionHeld3
import Derived.Deep.DrawnRows
import Derived.Lib.AppendZeros
import Derived.BigQuiet
import Derived.Deep.RegionWith
namespace Go.Proofs.YtabnndjdkjkciaaGreatDoor
open Go.RowKit

theorem u8_info : (Tryz.prog.info? 5).map (fun i => (i.zero, i.size, i.bytes)) = some (some (.int .u8 0), 1, 1) := by kernel_rfl

/-- new bytes -/
def GivesB (w0 : World) (l : List UInt8) (e : Ending) (w' : World) : Prop :=
  ∃ A c m, e = .returned (.slice A m.length c) ∧ Hid (m = l) ∧ OwnB w' w0.heap.size 5 A c m ∧ Below w0.heap.size w0 w'

set_option maxRecDepth 100000 in
set_option maxHeartbeats 400000 in
theorem put_any (A : Option Addr) (c : Nat) (l : List UInt8) (n : Nat) (hn : U64 n) (w : World) (base : Nat) (hbase : base ≤ w.heap.size) (hl : l.length ≤ 1000000000)
   (hown : OwnB w base 5 A c l) :
    Calls Tryz.prog 120 #[.slice A l.length c, .int .u64 n] w fun e w' => ∃ A' c' m, e = .returned (.slice A' m.length c') ∧ Hid (m = l ++ vb n) ∧ OwnB w' base 5 A' c' m ∧ Below base w w' := by
  go_enter Tryz.func120, Tryz.ntmps120
  go_wp2
  go_loopw [0, 1] (fun v x wr => ∃ (k : Nat) (B : Option Addr) (d : Nat) (m : List UInt8), x = .int .u64 k ∧ v = .slice B m.length d ∧ Hid (l ++ vb n = m ++ vb k) ∧ Hid (U64 k) ∧ OwnB wr base 5 B d m ∧ Below base w wr) (fun v x w => (intOf x).toNat)
  case atStart => exact ⟨n, A, c, l, rfl, rfl, rfl, hn, hown, Below.refl _ _⟩
  case round =>
    obtain ⟨k, B, d, m, rfl, rfl, hm, hk, hownr, hbr⟩ := hrel
    have hml : m.length ≤ 1000000010 := by
      have h1 := congrArg List.length hm.out
      have h2 := vb_le10 hn
      simp only [List.length_append] at h1
      omega
    clear hown
    by_cases h128 : 128 ≤ k
    · have hs := Lib.hid (vb_step h128)
      go_wp2_with (at_builtin; go_must (refine wpl_byte 29 5 Tryz.underlying29 u8_info rfl _ _ rfl base B d m _ (UInt8.ofNat (k % 128 + 128)) (byte_more k) rfl hownr rfl (by omega) (by have := hbr.size; omega) ?_; intro A1 c1 m1 w1 hm1 ho1 _ _ hb1))
      go_roundw
      case rel => exact ⟨k / 128, A1, c1, m1, rfl, rfl, by rw [hm1.out, hm.out, hs.out]; show _ = _; simp, hk.out.div 128, ho1, hbr.trans hb1⟩
      case measure => simp [intOf]; omega
    · have hs := Lib.hid (vb_small (n := k) (by omega))
      go_wp2_with (at_builtin; go_must (refine wpl_byte 29 5 Tryz.underlying29 u8_info rfl _ _ rfl base B d m _ (UInt8.ofNat k) (byte_last (by omega)) rfl hownr rfl (by omega) (by have := hbr.size; omega) ?_; intro A1 c1 m1 w1 hm1 ho1 _ _ hb1))
      go_ret
      exact ⟨A1, c1, m1, rfl, by rw [hm1.out, hm.out, hs.out]; rfl, ho1, hbr.trans hb1⟩

set_option maxRecDepth 100000 in
set_option maxHeartbeats 400000 in
theorem clone_any (A : Option Addr) (c : Nat) (l : List UInt8) (w : World) (hl : l.length ≤ 1000000000) (hs : SlB w A c l) :
    Calls Tryz.prog 119 #[.slice A l.length c] w (GivesB w l) := by
  have hq := fun (w : World) (A : Option Addr) (n c : Nat) => Lib.run_eql_slice_nil (P := Tryz.prog) w 29 5 A n c 0 0 Tryz.underlying29
  rcases A with _ | ad
  · obtain ⟨rfl, rfl⟩ := hs.of_none
    go_enter Tryz.func119, Tryz.ntmps119
    go_wp2
    go_ret
    exact ⟨none, 0, [], rfl, rfl, Own.none_ _ _ _ _, Below.refl _ _⟩
  · go_enter Tryz.func119, Tryz.ntmps119
    go_wp2_with (at_builtin; go_must (refine wpl_bytes 29 5 Tryz.underlying29 u8_info rfl _ _ rfl w.heap.size (some ⟨w.heap.size, 0, none⟩) 0 [] rfl (Own.lit 1 (Nat.le_refl _)) (some ad) c l rfl (hs.below ((Below.refl _ _).alloc (Nat.le_refl _) _)) (by simp; omega) (by simp) ?_; intro A1 c1 m1 w1 hm1 ho1 _ _ hb1))
    go_ret
    exact ⟨A1, c1, m1, rfl, hm1, ho1, ((Below.refl _ _).alloc (Nat.le_refl _) _).trans hb1⟩

abbrev nv (n : Nat) : Value := .int .u64 (n : Int)
/-- numbers of 64 bits that can be read -/
abbrev SlN (w : World) (A : Option Addr) (c : Nat) (l : List Nat) : Prop := Sl w 1 A l.length c (l.map nv)

set_option maxRecDepth 100000 in
set_option maxHeartbeats 400000 in
theorem Put_any (A : Option Addr) (c : Nat) (l : List UInt8) (A2 : Option Addr) (c2 : Nat) (ns : List Nat) (w : World) (hl : l.length ≤ 100000000) (hs : SlB w A c l) (hn : SlN w A2 c2 ns) (hns : ns.length ≤ 1000000) (h64 : ∀ n ∈ ns, U64 n) :
    Calls Tryz.prog 51 #[.slice A l.length c, .slice A2 ns.length c2] w (GivesB w (l ++ vbs ns)) := by
  have hmax := hn.len_le
  unfold maxLen at hmax
  go_enter Tryz.func51, Tryz.ntmps51
  go_wp2_with fail
  refine (clone_any A c l w (by omega) hs).mono ?_
  rintro e w1 ⟨A1, c1, m1, rfl, hm1, ho1, hb1⟩
  have hn1 := hn.below hb1
  have hml : m1.length ≤ 100000000 := by rw [hm1.out]; exact hl
  go_wp2_with fail
  go_loopw [5, 12] (fun v x wr => ∃ (k : Nat) (B : Option Addr) (d : Nat) (m : List UInt8), k ≤ ns.length ∧ x = .int .i64 k ∧ v = .slice B m.length d ∧ Hid (m = l ++ vbs (ns.take k)) ∧ OwnB wr w.heap.size 5 B d m ∧ Below w.heap.size w wr) (fun v x w => ns.length - (intOf x).toNat)
  case atStart => exact ⟨0, A1, c1, m1, Nat.zero_le _, rfl, rfl, by rw [hm1.out]; show _ = _; simp [vbs], ho1, hb1⟩
  case round =>
    obtain ⟨k, B, d, m, hk, rfl, rfl, hm, hor, hbr⟩ := hrel
    by_cases hlt : k < ns.length
    · obtain ⟨ad, rfl, hc⟩ := (hn.below hbr).at1 hlt
      have hml : m.length ≤ 200000000 := by
        have h2 := vbs_le (l := ns.take k) (fun n hn => h64 n (List.mem_of_mem_take hn))
        have h3 := congrArg List.length hm.out
        simp only [List.length_append, List.length_take] at h3 h2
        omega
      go_wp2_with fail
      refine (put_any B d m ns[k] (h64 _ (List.getElem_mem hlt)) _ w.heap.size hbr.size (by omega) hor).mono ?_
      rintro e w2 ⟨A2, c2, m2, rfl, hm2, ho2, hb2⟩
      go_wp2_with fail
      go_roundw
      case rel => exact ⟨k + 1, A2, c2, m2, hlt, by go_num, rfl, by rw [hm2.out, hm.out, vbs_snoc hlt]; show _ = _; simp, ho2, hbr.trans hb2⟩
      case measure => simp [intOf]; omega
    · go_wp2_with fail
      go_ret
      exact ⟨B, d, m, rfl, by rw [hm.out, List.take_of_length_le (by omega)]; rfl, hor, hbr⟩

set_option maxRecDepth 100000 in
set_option maxHeartbeats 400000 in
theorem PutText_any (A : Option Addr) (c : Nat) (l : List UInt8) (A2 : Option Addr) (c2 : Nat) (t : List UInt8) (w : World) (hl : l.length ≤ 10000000) (hs : SlB w A c l) (hn : SlB w A2 c2 t) (hns : t.length ≤ 10000000) :
    Calls Tryz.prog 124 #[.slice A l.length c, .slice A2 t.length c2] w (GivesB w (l ++ (vb t.length ++ t))) := by
  have hu : U64 t.length := by unfold U64; omega
  go_enter Tryz.func124, Tryz.ntmps124
  go_wp2_with fail
  have hs0 := hs.below (below_new w (Obj.cells #[Value.int IntKind.u64 t.length] 124))
  have hn0 := hn.below (below_new w (Obj.cells #[Value.int IntKind.u64 t.length] 124))
  refine (Put_any A c l (some ⟨w.heap.size, 0, none⟩) 1 [t.length] _ (by omega) hs0 (Sl.lits w [nv t.length] 124 (by simp [maxLen])) (by simp) (by simpa using hu)).mono ?_
  rintro e w1 ⟨A1, c1, m1, rfl, hm1, ho1, hb1⟩
  have hb1' := (below_new w (Obj.cells #[Value.int IntKind.u64 t.length] 124)).trans (hb1.mono (size_new _ _))
  have hml : m1.length ≤ 10000010 := by
    rw [hm1.out]
    have := vb_le10 hu
    simp [vbs]
    omega
  go_wp2_with (at_builtin; go_must (refine wpl_bytes 29 5 Tryz.underlying29 u8_info rfl _ _ rfl w.heap.size A1 c1 m1 rfl (ho1.more (size_new _ _)) A2 c2 t rfl (hn0.below hb1) (by omega) hb1'.size ?_; intro A3 c3 m3 w3 hm3 ho3 _ _ hb3))
  go_ret
  exact ⟨A3, c3, m3, rfl, by rw [hm3.out, hm1.out]; show _ = _; simp [vbs], ho3, hb1'.trans hb3⟩

/-- what Take answers -/
def TakeOut (o : Option (Nat × Nat)) (w : World) (e : Ending) (w' : World) : Prop :=
  w = w' ∧ ((o = none ∧ e = .returned (.tuple #[.int .u64 0, .int .i64 0, .iface 68 (.int .i64 2)])) ∨ ∃ n k : Nat, o = some (n, k) ∧ e = .returned (.tuple #[.int .u64 n, .int .i64 k, .nilIface]))

set_option maxRecDepth 100000 in
set_option maxHeartbeats 1000000 in
theorem Take_any (A : Option Addr) (c : Nat) (l : List UInt8) (w : World) (hs : SlB w A c l) :
    Calls Tryz.prog 128 #[.slice A l.length c] w (TakeOut (take l) w) := by
  have hc1 := hs.2.1
  have hc2 := hs.2.2.1
  unfold maxLen at hc2
  by_cases hL : 10 < l.length
  all_goals
    go_enter Tryz.func128, Tryz.ntmps128
    go_wp2_with fail
    go_loop [3, 5, 15] (fun _ v x => ∃ (k n : Nat), k ≤ l.length ∧ k ≤ 10 ∧ x = .int .i64 k ∧ v = .int .u64 n ∧ Hid (n < 128 ^ k) ∧ Hid (take l = tk k n (l.drop k))) (fun _ v x => l.length - (intOf x).toNat)
    case atStart => exact ⟨0, 0, Nat.zero_le _, by omega, rfl, rfl, (show _ < _ by simp), rfl⟩
    case round =>
      obtain ⟨k, n, hk, hk10, rfl, rfl, hn, ht⟩ := hrel
      by_cases hlt : k < l.length ∧ k < 10
      · obtain ⟨hlt, hlt10⟩ := hlt
        obtain ⟨ad, rfl, hc⟩ := hs.at1 hlt
        have htd := Lib.hid (tk_drop hlt k n)
        generalize l[k] = x at *
        by_cases ha : k = 9 ∧ 1 < x.toNat
        · obtain ⟨hk9, ha⟩ := ha
          have hkb : ((k : Int) == 9) = true := by simp; omega
          have Hk9 := Lib.hid hk9
          clear hk9
          go_wp2_with fail
          go_ret3
          exact ⟨rfl, .inl ⟨by rw [ht.out, htd.out, if_pos (Or.inr ⟨Hk9.out, ha⟩)], rfl⟩⟩
        by_cases hb : 128 ≤ x.toNat
        · have hk9 : ¬ k = 9 := by omega
          go_wp2_with fail
          go_round
          case rel => exact ⟨k + 1, n + x.toNat % 128 * 128 ^ k, by omega, by omega, by go_num, congrArg (Value.int .u64) (or_part x n k hn.out (by omega) (fun h => absurd h hk9)), (show _ < _ from next_lt hn.out), (show _ = _ by rw [ht.out, htd.out, if_neg (by omega), if_pos hb])⟩
          case measure => simp [intOf]; omega
        by_cases hd : x.toNat = 0 ∧ 0 < k
        · obtain ⟨hd0, hdk⟩ := hd
          go_wp2_with fail
          all_goals
            go_ret3
            exact ⟨rfl, .inl ⟨by rw [ht.out, htd.out, if_neg (by omega), if_neg hb, if_pos ⟨hd0, hdk⟩], rfl⟩⟩
        · have hx : x.toNat % 128 = x.toNat := by omega
          have hv := or_part x n k hn.out (by omega) (by omega)
          rw [hx] at hv
          have Hx := Lib.hid hx
          have Hv := Lib.hid hv
          have Hd := Lib.hid hd
          have ht' : Hid (take l = some (n + x.toNat * 128 ^ k, k + 1)) := (show _ = _ by rw [ht.out, htd.out, if_neg (by omega), if_neg hb, if_neg hd])
          clear hx hv hd
          rcases Decidable.em (x.toNat = 0) with h0 | h0
          · have hb0 : ((x.toNat : Int) == 0) = true := by simp; omega
            have hk0 : ¬ (0 < k) := fun h => Hd.out ⟨h0, h⟩
            have H0 := Lib.hid h0
            clear h0
            have hk9 : ((k : Int) == 9) = false := by simp; omega
            go_wp2_with fail
            go_ret3
            refine ⟨rfl, .inr ⟨n + x.toNat * 128 ^ k, k + 1, ht'.out, ?_⟩⟩
            rw [← Hv.out]
            rfl
          · have hb0 : ((x.toNat : Int) == 0) = false := by simp; omega
            go_wp2_with fail
            all_goals
              go_ret3
              refine ⟨rfl, .inr ⟨n + x.toNat * 128 ^ k, k + 1, ht'.out, ?_⟩⟩
              rw [← Hv.out]
              first | rfl | (obtain rfl : k = 9 := (by omega); rfl)
      · first | (have hge : 10 ≤ k := by omega) | (have hge : l.length ≤ k := by omega)
        go_wp2_with fail
        go_ret3
        exact ⟨rfl, .inl ⟨by rw [ht.out]; first | (rw [show k = 10 from by omega]; exact tk_end _ _) | (rw [List.drop_eq_nil_of_le (by omega)]; rfl), rfl⟩⟩

theorem take_succ_eq {T : Type} {xs ys : List T} {k : Nat} (h : xs.take k = ys.take k) (hx : k < xs.length) (hy : k < ys.length) : xs.take (k + 1) = ys.take (k + 1) ↔ xs[k] = ys[k] := by
  rw [List.take_succ_eq_append_getElem hx, List.take_succ_eq_append_getElem hy, h]
  exact ⟨fun e => by have := List.append_cancel_left e; simpa using this, fun e => by rw [e]⟩
end Go.Proofs.YtabnndjdkjkciaaGreatDoor

namespace Go.Proofs.YtabnndjdkjkciaaGreatDoor
open Go.RowKit

theorem race_disable (w : World) : (callFunc 261 #[]).run Tryz.prog w = .ok (.value (.tuple #[])) w := run_call_mark0 Tryz.func261 (by kernel_rfl) (by kernel_rfl) (by kernel_rfl) .disable (by kernel_rfl) w
theorem race_enable (w : World) : (callFunc 263 #[]).run Tryz.prog w = .ok (.value (.tuple #[])) w := run_call_mark0 Tryz.func263 (by kernel_rfl) (by kernel_rfl) (by kernel_rfl) .enable (by kernel_rfl) w
theorem race_acquire (a : Addr) (w : World) : (callFunc 264 #[.pointer (some a)]).run Tryz.prog w = .ok (.value (.tuple #[])) w := run_call_marked Tryz.func264 (by kernel_rfl) (by kernel_rfl) (by kernel_rfl) .acquire (by kernel_rfl) a w
theorem race_merge (a : Addr) (w : World) : (callFunc 266 #[.pointer (some a)]).run Tryz.prog w = .ok (.value (.tuple #[])) w := run_call_marked Tryz.func266 (by kernel_rfl) (by kernel_rfl) (by kernel_rfl) .releaseMerge (by kernel_rfl) a w

/-- '(*sync/atomic.Bool).Store(true)', entered as a deferred call: the cell holds 1. -/
theorem once_store (a : Addr) (x : Value) (u : FrameMode) (w : World) (hc : w.cell? a = some x) (hz : w.frozen? a = false) :
    CallsD Tryz.prog 254 #[.pointer (some a), .bool true] u w fun e u' w' => u' = u ∧ (e = .returned (.tuple #[]) ∧ w' = w.drew.setCell a (.int .u32 1)) := by
  have hc' : w.drew.cell? a = some x := by go_simp
  have hz' : w.drew.frozen? a = false := by go_simp
  have hst := run_call_store (P := Tryz.prog) Tryz.func259 (by kernel_rfl) (by kernel_rfl) (by kernel_rfl) (by kernel_rfl) (k := .u32) (y := 1) hc' hz'
  go_enter_d Tryz.func254, Tryz.ntmps254
  go_wp2
  go_region_calls
  all_goals (go_end0; exact ⟨rfl, rfl⟩)

set_option maxRecDepth 100000 in
set_option maxHeartbeats 1600000 in
/-- '(*sync.Mutex).Unlock', entered as a deferred call, the lock held and nobody waiting (state 1): state 0. -/
theorem once_unlock (a : Addr) (u : FrameMode) (w : World) (hc : w.cell? a = some (.int .i32 1)) (hz : w.frozen? a = false) :
    CallsD Tryz.prog 253 #[.pointer (some a)] u w fun e u' w' => u' = u ∧ (e = .returned (.tuple #[]) ∧ w' = w.setCell a (.int .i32 0)) := by
  have hd := race_disable
  have he := race_enable
  have hr := race_merge
  have hadd := run_call_add (P := Tryz.prog) Tryz.func267 (by kernel_rfl) (by kernel_rfl) (by kernel_rfl) .i32 (by kernel_rfl) (y := -1) (s := 0) hc hz (by simp [go_sem]; rfl)
  have hcv := run_convert_to_unsafe (P := Tryz.prog) (src := 357) (dst := 361) Tryz.underlying357 Tryz.underlying361 (by kernel_rfl) hc
  go_enter_d Tryz.func253, Tryz.ntmps253
  go_wp2
  go_end0
  go_wp2
  go_end0
  exact ⟨rfl, rfl⟩

set_option maxRecDepth 100000 in
set_option maxHeartbeats 1600000 in
/-- '(*sync.Mutex).Lock', the lock free (state 0): state 1. -/
theorem once_lock (a : Addr) (w : World) (hc : w.cell? a = some (.int .i32 0)) (hz : w.frozen? a = false) :
    Calls Tryz.prog 252 #[.pointer (some a)] w fun e w' => e = .returned (.tuple #[]) ∧ w' = w.setCell a (.int .i32 1) := by
  have hd := race_disable
  have he := race_enable
  have ha := race_acquire
  have hcas := run_call_cas_hit (P := Tryz.prog) Tryz.func262 (by kernel_rfl) (by kernel_rfl) (by kernel_rfl) .i32 (by kernel_rfl) (y := 1) hc hz
  have hc' : (w.setCell a (.int .i32 1)).cell? a = some (.int .i32 1) := World.cell?_setCell_same w a _ hc
  have hcv := run_convert_to_unsafe (P := Tryz.prog) (src := 357) (dst := 361) Tryz.underlying357 Tryz.underlying361 (by kernel_rfl) hc'
  go_enter Tryz.func252, Tryz.ntmps252
  go_wp2
  first | go_end0 | (simp only [Exit.inBlock, Exit.then]; refine bodyPost_ret (results_none rfl _ _ _) rfl ?_) | refine bodyPost_ret (results_none rfl _ _ _) rfl ?_
  go_wp2
  go_end0
  exact ⟨rfl, rfl⟩
end Go.Proofs.YtabnndjdkjkciaaGreatDoor

namespace Go.Proofs.YtabnndjdkjkciaaGreatDoor
open Go.RowKit

set_option maxRecDepth 100000 in
set_option maxHeartbeats 1000000 in
theorem step_any (x : W32) (w : World) : Calls Tryz.prog 243 #[wv x] w fun e w' => e = .returned (wv (st8 x)) ∧ w = w' := by
  go_enter Tryz.func243, Tryz.ntmps243
  go_wp2
  go_loopw [0, 4] (fun v i wr => ∃ (k : Nat) (y : W32), k ≤ 8 ∧ i = .int .i64 k ∧ v = wv y ∧ Hid (st8 x = stn (8 - k) y) ∧ w = wr) (fun v i w => 8 - (intOf i).toNat)
  case atStart => exact ⟨0, x, by omega, rfl, rfl, rfl, rfl⟩
  case round =>
    obtain ⟨k, y, hk, rfl, rfl, hy, rfl⟩ := hrel
    by_cases h8 : k < 8
    · have hst : stn (8 - k) y = stn (8 - (k + 1)) (st1 y) := by rw [show 8 - k = (8 - (k + 1)) + 1 from by omega]; rfl
      cases hb : y.getLsbD 0
      · have e0 := and_one y
        rw [hb] at e0
        simp only [Bool.false_eq_true, if_false] at e0
        have hs : st1 y = y >>> 1 := by unfold st1; rw [hb]; simp
        have HS := Lib.hid hs
        have HT := Lib.hid hst
        clear hs hst hb
        go_wp2
        go_roundw
        case rel => exact ⟨k + 1, y >>> 1, h8, by go_num, congrArg (Value.int .u32) (half_wn y), (show st8 x = _ from by rw [hy.out, HT.out, HS.out]), by trivial⟩
        case measure => simp [intOf]; omega
      · have e0 := and_one y
        rw [hb] at e0
        simp only [if_true] at e0
        have hs : st1 y = (y >>> 1) ^^^ P32 := by unfold st1; rw [hb]; simp
        have HS := Lib.hid hs
        have HT := Lib.hid hst
        clear hs hst hb
        go_wp2
        go_roundw
        case rel => exact ⟨k + 1, (y >>> 1) ^^^ P32, h8, by go_num, congrArg (Value.int .u32) (by rw [half_wn, xor_P]), (show st8 x = _ from by rw [hy.out, HT.out, HS.out]), by trivial⟩
        case measure => simp [intOf]; omega
    · obtain rfl : k = 8 := by omega
      go_wp2
      go_ret
      exact ⟨by rw [hy.out]; rfl, rfl⟩
/-- a maker at block g: d: is its table made · n: how many sums were asked for · k: how many of the table's rows are made -/
def Mk (w : World) (g : Nat) (d s : Int) (n : Int) (k : Nat) : Prop := ∃ cs : Array Value, Blk w g 286 cs ∧ cs.size = 260 ∧ cs[0]? = some (.int .u32 d) ∧ cs[1]? = some (.int .i32 s) ∧ cs[259]? = some (.int .i64 n) ∧
  (∀ i, i < 256 → ∃ v, cs[3 + i]? = some v) ∧ ∀ i, i < k → cs[3 + i]? = some (wv (st8 (BitVec.ofNat 32 i)))

theorem zero_rows : (List.range 256).all (fun i => (Tryz.zeroCells286[3 + i]?).isSome) = true := by kernel_rfl
theorem zero_mk : Tryz.zeroCells286.size = 260 ∧ Tryz.zeroCells286[0]? = some (.int .u32 0) ∧ Tryz.zeroCells286[1]? = some (.int .i32 0) ∧ Tryz.zeroCells286[259]? = some (.int .i64 0) ∧
    (∀ i, i < 256 → ∃ v, Tryz.zeroCells286[3 + i]? = some v) ∧ ∀ i, i < 0 → Tryz.zeroCells286[3 + i]? = some (wv (st8 (BitVec.ofNat 32 i))) :=
  ⟨by kernel_rfl, by kernel_rfl, by kernel_rfl, by kernel_rfl, fun i hi => Option.isSome_iff_exists.1 (List.all_eq_true.1 zero_rows i (List.mem_range.2 hi)), fun i hi => absurd hi (by omega)⟩
set_option maxRecDepth 100000 in
set_option maxHeartbeats 1000000 in
theorem CrcNew_any (w : World) : Calls Tryz.prog 122 #[] w fun e w' => e = .returned (.pointer (some ⟨w.heap.size, 0, none⟩)) ∧ Mk w' w.heap.size 0 0 0 0 ∧ Below w.heap.size w w' := by
  go_enter Tryz.func122, Tryz.ntmps122
  go_wp2
  go_ret
  refine ⟨rfl, ⟨_, Blk.new _ _ _, ?_⟩, below_new _ _⟩
  exact zero_mk
theorem Mk.lt {w : World} {g k : Nat} {d s n : Int} (h : Mk w g d s n k) : g < w.heap.size := by obtain ⟨cs, hB, _⟩ := h; exact hB.lt
/-- a store into the table -/
theorem Mk.row {w : World} {g k : Nat} {d s n : Int} (h : Mk w g d s n k) (hk : k < 256) : Mk (w.setCell ⟨g, 3 + k, none⟩ (wv (st8 (BitVec.ofNat 32 k)))) g d s n (k + 1) := by
  obtain ⟨cs, hB, hs, h0, h1, h9, hr, ht⟩ := h
  refine ⟨_, hB.set_ _ _, by simpa using hs, ?_, ?_, ?_, ?_, ?_⟩
  · rw [Array.getElem?_setIfInBounds_ne (by omega)]; exact h0
  · rw [Array.getElem?_setIfInBounds_ne (by omega)]; exact h1
  · rw [Array.getElem?_setIfInBounds_ne (by omega)]; exact h9
  · intro i hi
    by_cases he : k = i
    · subst he; exact ⟨_, Array.getElem?_setIfInBounds_self_of_lt (by omega)⟩
    · rw [Array.getElem?_setIfInBounds_ne (by omega)]; exact hr i hi
  · intro i hi
    by_cases he : k = i
    · subst he; exact Array.getElem?_setIfInBounds_self_of_lt (by omega)
    · rw [Array.getElem?_setIfInBounds_ne (by omega)]; exact ht i (by omega)
theorem Mk.drew {w : World} {g k : Nat} {d s n : Int} (h : Mk w g d s n k) : Mk w.drew g d s n k := h
theorem Mk.cell {w : World} {g k : Nat} {d s n : Int} (h : Mk w g d s n k) : w.cell? ⟨g, 0, none⟩ = some (.int .u32 d) ∧ w.cell? ⟨g, 1, none⟩ = some (.int .i32 s) ∧ w.cell? ⟨g, 259, none⟩ = some (.int .i64 n) ∧ w.frozen? ⟨g, 0, none⟩ = false ∧ w.frozen? ⟨g, 1, none⟩ = false ∧ w.frozen? ⟨g, 259, none⟩ = false ∧
    (∀ i, i < 256 → ∃ v, w.cell? ⟨g, 3 + i, none⟩ = some v) ∧ (∀ i, w.frozen? ⟨g, i, none⟩ = false) := by
  obtain ⟨cs, hB, hs, h0, h1, h9, hr, ht⟩ := h
  exact ⟨(hB.cell 0).trans h0, (hB.cell 1).trans h1, (hB.cell 259).trans h9, hB.frozen 0, hB.frozen 1, hB.frozen 259, fun i hi => (hr i hi).imp fun v hv => (hB.cell _).trans hv, fun i => hB.frozen i⟩
theorem Mk.at {w : World} {g k : Nat} {d s n : Int} (h : Mk w g d s n k) {i : Nat} (hi : i < k) : w.cell? ⟨g, 3 + i, none⟩ = some (wv (st8 (BitVec.ofNat 32 i))) := by
  obtain ⟨cs, hB, hs, h0, h1, h9, hr, ht⟩ := h
  exact (hB.cell _).trans (ht i hi)

/-- only block g is written, and new ones -/
abbrev But (g : Nat) (w w' : World) : Prop := w.grownBy w' (some g)
theorem But.set {g : Nat} {w w' : World} (h : But g w w') (i : Nat) (v : Value) : But g w (w'.setCell ⟨g, i, none⟩ v) :=
  ⟨h.os, h.tape, h.output, by simpa [World.setCell] using h.size, fun k hk hne => (Below.heap_setCell w' ⟨g, i, none⟩ v k (fun e => hne (by rw [e]))).trans (h.block k hk hne)⟩
theorem But.refl (g : Nat) (w : World) : But g w w := World.grownBy.refl w _
theorem But.drew {g : Nat} {w w' : World} (h : But g w w') : But g w w'.drew := ⟨h.os, h.tape, h.output, h.size, h.block⟩
set_option maxRecDepth 100000 in
set_option maxHeartbeats 1000000 in
theorem fill_any (g : Nat) (d s n : Int) (w : World) (hM : Mk w g d s n 0) : Calls Tryz.prog 229 #[.pointer (some ⟨g, 0, none⟩)] w fun e w' => e = .returned (.tuple #[]) ∧ Mk w' g d s n 256 ∧ But g w w' := by
  go_enter Tryz.func229, Tryz.ntmps229
  go_wp2
  go_loopw [3] (fun i wr => ∃ k : Nat, k ≤ 256 ∧ i = .int .i64 k ∧ Mk wr g d s n k ∧ But g w wr) (fun i w => 256 - (intOf i).toNat)
  case atStart => exact ⟨0, by omega, rfl, hM, But.refl _ _⟩
  case round =>
    obtain ⟨k, hk, rfl, hMk, hBut⟩ := hrel
    by_cases h : k < 256
    · obtain ⟨v, hv⟩ := (hMk.cell).2.2.2.2.2.2.1 k h
      have hf := (hMk.cell).2.2.2.2.2.2.2 (3 + k)
      have hrow := hMk.row h
      have hwr := wrap_ofNat h
      generalize BitVec.ofNat 32 k = x at hrow hwr
      have HR := Lib.hid hrow
      clear hrow
      go_wp2
      refine wp_region_held_drew (S := (fun _ => True)) (by kernel_rfl) ?_ (fun hHeld => ?_)
      · first | done | trivial
      refine wpAnyH_take (i := 0) (oi := ⟨some 6, _, _, _, _, _⟩) (v := ?_) rfl (by kernel_rfl) (by kernel_rfl) (by kernel_rfl) (fun _ _ _ h => h) (Or.inl ⟨by kernel_rfl, ?_⟩) (by assumption) ?_
      rotate_left
      · (intro wS hSw; (try dsimp only at hSw); go_simp; (try with_reducible rfl))
      (try simp only [Act.put, List.setIfInBounds_toArray, List.set_cons_zero, List.set_cons_succ])
      refine wpAnyH_take (i := 1) (oi := ⟨some 7, _, _, _, _, _⟩) (v := ?_) rfl (by kernel_rfl) (by kernel_rfl) (by kernel_rfl) (fun _ _ _ h => h) (Or.inl ⟨by kernel_rfl, ?_⟩) (by assumption) ?_
      rotate_left
      · (intro wS hSw; (try dsimp only at hSw); go_simp; (try with_reducible rfl))
      (try simp only [Act.put, List.setIfInBounds_toArray, List.set_cons_zero, List.set_cons_succ])
      refine wpAnyH_take (i := 2) (oi := ⟨some 8, _, _, _, _, _⟩) (v := ?_) rfl (by kernel_rfl) (by kernel_rfl) (by kernel_rfl) (fun _ _ _ h => h) (Or.inl ⟨by kernel_rfl, ?_⟩) (by assumption) ?_
      rotate_left
      · (intro wS hSw; (try dsimp only at hSw); go_simp; (try with_reducible rfl))
      (try simp only [Act.put, List.setIfInBounds_toArray, List.set_cons_zero, List.set_cons_succ])
      refine wpAnyH_take (i := 3) (oi := ⟨some 9, _, _, _, _, _⟩) (v := ?_) rfl (by kernel_rfl) (by kernel_rfl) (by kernel_rfl) (fun _ _ _ h => h) (Or.inl ⟨by kernel_rfl, ?_⟩) (by assumption) ?_
      rotate_left
      · (intro wS hSw; (try dsimp only at hSw); go_simp; (try with_reducible rfl))
      (try simp only [Act.put, List.setIfInBounds_toArray, List.set_cons_zero, List.set_cons_succ])
      refine wpAnyH_take (i := 5) (oi := ⟨some 11, _, _, _, _, _⟩) (v := ?_) rfl (by kernel_rfl) (by kernel_rfl) (by kernel_rfl) (fun _ _ _ h => h) (Or.inl ⟨by kernel_rfl, ?_⟩) (by assumption) ?_
      rotate_left
      · (intro wS hSw; (try dsimp only at hSw); go_simp; (try with_reducible rfl))
      (try simp only [Act.put, List.setIfInBounds_toArray, List.set_cons_zero, List.set_cons_succ])
      refine wpAnyH_take (i := 6) (oi := ⟨some 12, _, _, _, _, _⟩) (v := ?_) rfl (by kernel_rfl) (by kernel_rfl) (by kernel_rfl) (fun _ _ _ h => h) (Or.inl ⟨by kernel_rfl, ?_⟩) (by assumption) ?_
      rotate_left
      · (intro wS hSw; (try dsimp only at hSw); go_simp; (try with_reducible rfl))
      (try simp only [Act.put, List.setIfInBounds_toArray, List.set_cons_zero, List.set_cons_succ])
      refine wpAnyH_ready (rs := [4]) (by kernel_rfl) (by simp) ?_
      refine AllReadyH.cons (o := ⟨some 10, _, _, _, _, _⟩) rfl (fun K hK => ?_) AllReadyH.nil
      go_simp
      (refine (step_any x _).mono ?_; rintro e w9 ⟨rfl, rfl⟩)
      go_wp2_with fail
      refine hK.out _ _ ?_ (fun hHeld => ?_)
      · ((try dsimp only); (first | done | trivial))
      clear hK K
      (try simp only [Act.put, List.setIfInBounds_toArray, List.set_cons_zero, List.set_cons_succ])
      refine wpAnyH_take (i := 7) (oi := ⟨some 13, _, _, _, _, _⟩) (v := ?_) rfl (by kernel_rfl) (by kernel_rfl) (by kernel_rfl) (fun _ _ _ h => h) (Or.inl ⟨by kernel_rfl, ?_⟩) (by assumption) ?_
      rotate_left
      · (intro wS hSw; (try dsimp only at hSw); go_simp; (try with_reducible rfl))
      (try simp only [Act.put, List.setIfInBounds_toArray, List.set_cons_zero, List.set_cons_succ])
      refine wpAnyH_ready (rs := [8]) (by kernel_rfl) (by simp) ?_
      refine AllReadyH.cons (o := ⟨none, _, _, _, _, _⟩) rfl (fun K hK => ?_) AllReadyH.nil
      go_simp
      refine hK.out _ _ ?_ (fun hHeld => ?_)
      · ((try dsimp only); (first | done | trivial))
      clear hK K
      (try simp only [Act.put, List.setIfInBounds_toArray, List.set_cons_zero, List.set_cons_succ])
      refine wpAnyH_done (by kernel_rfl) ?_ _
      go_wp2
      go_roundw
      case rel => exact ⟨k + 1, h, by go_num, HR.out, (hBut.set _ _).drew⟩
      case measure => simp [intOf]; omega
    · obtain rfl : k = 256 := by omega
      go_wp2
      go_end0
      exact ⟨rfl, hMk, hBut⟩
theorem Mk.set0 {w : World} {g k : Nat} {d s n : Int} (h : Mk w g d s n k) (x : Int) : Mk (w.setCell ⟨g, 0, none⟩ (.int .u32 x)) g x s n k := by
  obtain ⟨cs, hB, hs, h0, h1, h9, hr, ht⟩ := h
  refine ⟨_, hB.set_ _ _, by simpa using hs, Array.getElem?_setIfInBounds_self_of_lt (by omega), ?_, ?_, fun i hi => ?_, fun i hi => ?_⟩
  · rw [Array.getElem?_setIfInBounds_ne (by omega)]; exact h1
  · rw [Array.getElem?_setIfInBounds_ne (by omega)]; exact h9
  · rw [Array.getElem?_setIfInBounds_ne (by omega)]; exact hr i hi
  · rw [Array.getElem?_setIfInBounds_ne (by omega)]; exact ht i hi
theorem Mk.set1 {w : World} {g k : Nat} {d s n : Int} (h : Mk w g d s n k) (x : Int) : Mk (w.setCell ⟨g, 1, none⟩ (.int .i32 x)) g d x n k := by
  obtain ⟨cs, hB, hs, h0, h1, h9, hr, ht⟩ := h
  refine ⟨_, hB.set_ _ _, by simpa using hs, ?_, Array.getElem?_setIfInBounds_self_of_lt (by omega), ?_, fun i hi => ?_, fun i hi => ?_⟩
  · rw [Array.getElem?_setIfInBounds_ne (by omega)]; exact h0
  · rw [Array.getElem?_setIfInBounds_ne (by omega)]; exact h9
  · rw [Array.getElem?_setIfInBounds_ne (by omega)]; exact hr i hi
  · rw [Array.getElem?_setIfInBounds_ne (by omega)]; exact ht i hi
theorem Mk.set9 {w : World} {g k : Nat} {d s n : Int} (h : Mk w g d s n k) (hk : k ≤ 256) (x : Int) : Mk (w.setCell ⟨g, 259, none⟩ (.int .i64 x)) g d s x k := by
  obtain ⟨cs, hB, hs, h0, h1, h9, hr, ht⟩ := h
  refine ⟨_, hB.set_ _ _, by simpa using hs, ?_, ?_, Array.getElem?_setIfInBounds_self_of_lt (by omega), fun i hi => ?_, fun i hi => ?_⟩
  · rw [Array.getElem?_setIfInBounds_ne (by omega)]; exact h0
  · rw [Array.getElem?_setIfInBounds_ne (by omega)]; exact h1
  · rw [Array.getElem?_setIfInBounds_ne (by omega)]; exact hr i hi
  · rw [Array.getElem?_setIfInBounds_ne (by omega)]; exact ht i (by omega)

set_option maxRecDepth 100000 in
set_option maxHeartbeats 1600000 in
theorem slow_any (g : Nat) (n : Int) (w : World) (hM : Mk w g 0 0 n 0) :
    Calls Tryz.prog 242 #[.pointer (some ⟨g, 0, none⟩), .func (.func 229) #[.pointer (some ⟨g, 0, none⟩)] #[]] w fun e w' => e = .returned (.tuple #[]) ∧ Mk w' g 1 0 n 256 ∧ But g w w' := by
  obtain ⟨h0, h1, _, f0, f1, _, _, _⟩ := hM.cell
  have hl := run_call_load (P := Tryz.prog) Tryz.func251 (by kernel_rfl) (by kernel_rfl) (by kernel_rfl) .u32 (by kernel_rfl) (w := w.setCell ⟨g, 1, none⟩ (.int .i32 1)) (a := ⟨g, 0, none⟩) (x := 0) ((World.cell?_setCell_other _ ⟨g, 1, none⟩ ⟨g, 0, none⟩ _ (by simp)).trans h0)
  have hnot : ∀ (x : Bool) (w : World), (Op.unary .not (.bool x)).run Tryz.prog w = .ok (.bool (!x)) w := fun _ _ => rfl
  go_enter_defers Tryz.func242, Tryz.ntmps242
  go_wp2_with (go_at_call 252; refine (once_lock ⟨g, 1, none⟩ _ (by go_simp) (by go_simp)).mono ?_; rintro e w' ⟨rfl, rfl⟩)
  have hM1 := hM.set1 1
  go_wp2_with (first | (go_at_call 229; refine (fill_any g 0 1 n _ hM1).mono ?_; rintro e w1 ⟨rfl, hM2, hB2⟩) | (go_at_call 241; go_in))
  obtain ⟨c0, _, _, z0, z1, _, _, _⟩ := hM2.cell
  refine leaves_cons (f := 254) (args := #[.pointer (some ⟨g, 0, none⟩), .bool true]) (by simp) (by simp [go_sem]) ?_
  refine (once_store ⟨g, 0, none⟩ (.int .u32 0) .returning _ c0 z0).mono ?_
  rintro e u' w2 ⟨rfl, rfl, rfl⟩
  have hM3 := hM2.drew.set0 1
  obtain ⟨_, c1, _, _, z1, _, _, _⟩ := hM3.cell
  refine leaves_cons (f := 253) (args := #[.pointer (some ⟨g, 1, none⟩)]) (by simp [settle]) (by simp [go_sem]) ?_
  refine (once_unlock ⟨g, 1, none⟩ _ _ c1 z1).mono ?_
  rintro e u' w3 ⟨rfl, rfl, rfl⟩
  have hM4 := hM3.set1 0
  exact ⟨_, results_none rfl _ _ _, rfl, hM4, But.set (But.set (But.drew (World.grownBy.trans (But.set (But.refl g w) _ _) hB2)) _ _) _ _⟩

set_option maxRecDepth 100000 in
set_option maxHeartbeats 1600000 in
theorem do_first (g : Nat) (n : Int) (w : World) (hM : Mk w g 0 0 n 0) :
    Calls Tryz.prog 228 #[.pointer (some ⟨g, 0, none⟩), .func (.func 229) #[.pointer (some ⟨g, 0, none⟩)] #[]] w fun e w' => e = .returned (.tuple #[]) ∧ Mk w' g 1 0 n 256 ∧ But g w w' := by
  obtain ⟨h0, _, _, _, _, _, _, _⟩ := hM.cell
  have hl := run_call_load (P := Tryz.prog) Tryz.func251 (by kernel_rfl) (by kernel_rfl) (by kernel_rfl) .u32 (by kernel_rfl) h0
  have hnot : ∀ (x : Bool) (w : World), (Op.unary .not (.bool x)).run Tryz.prog w = .ok (.bool (!x)) w := fun _ _ => rfl
  go_enter Tryz.func228, Tryz.ntmps228
  go_wp2_with (first | (go_at_call 242; refine (slow_any g n _ hM).mono ?_; rintro e w1 ⟨rfl, hM2, hB2⟩) | (go_at_call 241; go_in))
  go_end0
  exact ⟨rfl, hM2, hB2⟩
theorem do_done (g : Nat) (s n : Int) (fv : Value) (w : World) (hM : Mk w g 1 s n 256) :
    Calls Tryz.prog 228 #[.pointer (some ⟨g, 0, none⟩), fv] w fun e w' => e = .returned (.tuple #[]) ∧ w = w' := by
  obtain ⟨h0, _, _, _, _, _, _, _⟩ := hM.cell
  have hl := run_call_load (P := Tryz.prog) Tryz.func251 (by kernel_rfl) (by kernel_rfl) (by kernel_rfl) .u32 (by kernel_rfl) h0
  have hnot : ∀ (x : Bool) (w : World), (Op.unary .not (.bool x)).run Tryz.prog w = .ok (.bool (!x)) w := fun _ _ => rfl
  go_enter Tryz.func228, Tryz.ntmps228
  go_wp2
  go_end0
  exact ⟨rfl, rfl⟩
/-- a maker, its table made or not -/
def Mkr (w : World) (g : Nat) (n : Int) : Prop := Mk w g 0 0 n 0 ∨ Mk w g 1 0 n 256
theorem do_any (g : Nat) (n : Int) (w : World) (hM : Mkr w g n) :
    Calls Tryz.prog 228 #[.pointer (some ⟨g, 0, none⟩), .func (.func 229) #[.pointer (some ⟨g, 0, none⟩)] #[]] w fun e w' => e = .returned (.tuple #[]) ∧ Mk w' g 1 0 n 256 ∧ But g w w' := by
  rcases hM with hM | hM
  · exact do_first g n w hM
  · refine (do_done g 0 n _ w hM).mono ?_
    rintro e w1 ⟨rfl, rfl⟩
    exact ⟨rfl, hM, But.refl _ _⟩
theorem SlB.but {w w' : World} {A : Option Addr} {c g : Nat} {l : List UInt8} (h : SlB w A c l) (hb : But g w w') (hA : l ≠ [] → A.map (·.block) ≠ some g) : SlB w' A c l := by
  refine ⟨h.1, h.2.1, h.2.2.1, h.2.2.2.1, fun j u hj => ?_⟩
  obtain ⟨ad, hA2, hc⟩ := h.2.2.2.2 j u hj
  have hne : l ≠ [] := by intro e; rw [e] at hj; simp at hj
  subst hA2
  exact ⟨ad, rfl, hb.cell hc (by rw [addr_add_block]; exact hA hne)⟩
end Go.Proofs.YtabnndjdkjkciaaGreatDoor

namespace Go.Proofs.YtabnndjdkjkciaaGreatDoor
open Go.RowKit

set_option maxRecDepth 100000 in
set_option maxHeartbeats 1600000 in
theorem extend_at (g : Nat) (n : Int) (s : W32) (A : Option Addr) (c : Nat) (l : List UInt8) (w : World) (hM : Mkr w g n) (hs : SlB w A c l) (hA : l ≠ [] → A.map (·.block) ≠ some g) (hl : l.length ≤ 1000000000) :
    Calls Tryz.prog 208 #[.pointer (some ⟨g, 0, none⟩), wv s, .slice A l.length c] w fun e w' => e = .returned (wv (extW s l)) ∧ Mk w' g 1 0 n 256 ∧ But g w w' := by
  have hsg : ¬ (IntKind.u32.signed = true) := by decide
  have hmx : IntKind.u32.max = 4294967295 := by decide
  have hns := not_wn s
  have hns1 := not_wn
  go_enter Tryz.func208, Tryz.ntmps208
  go_wp2_with fail
  refine (do_any g n _ hM).mono ?_
  rintro e w1 ⟨rfl, hM1, hB1⟩
  have hs1 := SlB.but hs hB1 hA
  go_wp2_with fail
  go_loopw [7, 26] (fun v i wr => ∃ (k : Nat) (y : W32), k ≤ l.length ∧ i = .int .i64 k ∧ v = wv y ∧ Hid (crcS (~~~ s) l = crcS y (l.drop k)) ∧ w1 = wr) (fun v i w => l.length - (intOf i).toNat)
  case atStart => exact ⟨0, ~~~ s, Nat.zero_le _, rfl, rfl, rfl, rfl⟩
  case round =>
    obtain ⟨k, y, hk, rfl, rfl, hy, rfl⟩ := hrel
    by_cases hlt : k < l.length
    · obtain ⟨ad, rfl, hc⟩ := hs1.at1 hlt
      have hj : (y.toNat % 256) ^^^ l[k].toNat < 256 := Nat.xor_lt_two_pow (n := 8) (Nat.mod_lt _ (by decide)) l[k].toNat_lt
      have hcell := hM1.at hj
      have hbt := by_table y l[k]
      have e1 := mod_wn y
      have e2 := xor_u8 (a := y.toNat % 256) (b := l[k].toNat) (Nat.mod_lt _ (by decide)) l[k].toNat_lt
      have e3 := shr8_wn y
      have e4 := fun T => xor_wn T (y >>> 8)
      have hcd := crcS_drop hlt y
      rw [hbt] at hcd
      generalize st8 (BitVec.ofNat 32 ((y.toNat % 256) ^^^ l[k].toNat)) = T at *
      generalize (y.toNat % 256) ^^^ l[k].toNat = j at *
      generalize y.toNat % 256 = m at *
      have HC := Lib.hid hcd
      have hjb : (0 : Int) ≤ (j : Int) ∧ (j : Int) < 256 := by omega
      clear hcd hbt
      go_wp2
      go_roundw
      case rel => exact ⟨k + 1, T ^^^ (y >>> 8), hlt, by go_num, rfl, (show crcS (~~~ s) l = _ from by rw [hy.out, HC.out]), by trivial⟩
      case measure => simp [intOf]; omega
    · obtain rfl : k = l.length := by omega
      have hfin : crcS (~~~ s) l = y := by rw [hy.out, List.drop_length]; rfl
      have HF := Lib.hid hfin
      clear hfin
      have hn2 := not_wn y
      go_wp2
      go_ret
      exact ⟨by unfold extW; rw [HF.out]; rfl, hM1, hB1⟩
theorem But.of_below {B g : Nat} {w w' : World} (h : Below B w w') (hB : w.heap.size ≤ B) : But g w w' := ⟨h.os, h.tape, h.output, h.size, fun k hk _ => h.block k (Nat.lt_of_lt_of_le hk hB)⟩
theorem below_of_but {a w w' : World} {g : Nat} (h : But g w w') (hb : Below a.heap.size a w) (hg : a.heap.size ≤ g) : Below a.heap.size a w' :=
  hb.grown h hb.size (fun k hk => by injection hk with hk; omega)
theorem Sl.old {w : World} {size n c g : Nat} {A : Option Addr} {xs : List Value} (h : Sl w size A n c xs) (hg : w.heap.size ≤ g) : xs ≠ [] → A.map (·.block) ≠ some g := by
  intro hne hA
  obtain ⟨ad, rfl, hc⟩ := h.2.2.2.2.at (k := 0) (by cases xs <;> simp_all)
  have := World.block_lt_of_cell? _ _ hc
  rw [addr_add_block] at this
  simp at hA
  omega
theorem SlB.old {w : World} {c g : Nat} {A : Option Addr} {l : List UInt8} (h : SlB w A c l) (hg : w.heap.size ≤ g) : l ≠ [] → A.map (·.block) ≠ some g := fun hne => Sl.old h hg (by simpa using hne)

theorem Mkr.cell {w : World} {g : Nat} {n : Int} (h : Mkr w g n) : w.cell? ⟨g, 259, none⟩ = some (.int .i64 n) ∧ w.frozen? ⟨g, 259, none⟩ = false := by
  rcases h with h | h <;> exact ⟨h.cell.2.2.1, h.cell.2.2.2.2.2.1⟩
theorem Mkr.set9 {w : World} {g : Nat} {n : Int} (h : Mkr w g n) (x : Int) : Mkr (w.setCell ⟨g, 259, none⟩ (.int .i64 x)) g x := by
  rcases h with h | h
  · exact .inl (h.set9 (by omega) x)
  · exact .inr (h.set9 (by omega) x)
set_option maxRecDepth 100000 in
set_option maxHeartbeats 1600000 in
theorem ask_at (g n : Nat) (w : World) (hM : Mkr w g n) (hn : n < 1000000000) : Calls Tryz.prog 193 #[.pointer (some ⟨g, 0, none⟩)] w fun e w' => e = .returned (.tuple #[]) ∧ Mkr w' g ((n + 1 : Nat) : Int) ∧ But g w w' := by
  obtain ⟨hc, hz⟩ := hM.cell
  have hadd := run_call_add (P := Tryz.prog) Tryz.func230 (by kernel_rfl) (by kernel_rfl) (by kernel_rfl) .i64 (by kernel_rfl) (y := 1) (s := ((n + 1 : Nat) : Int)) hc hz (by simp [go_sem]; rw [IntKind.wrap_i64]; omega)
  go_enter Tryz.func193, Tryz.ntmps193
  go_wp2
  go_end0
  exact ⟨rfl, hM.set9 _, (But.refl _ _).set _ _⟩
set_option maxRecDepth 100000 in
set_option maxHeartbeats 1600000 in
theorem Extend_at (g n : Nat) (s : W32) (A : Option Addr) (c : Nat) (l : List UInt8) (w : World) (hM : Mkr w g n) (hn : n < 1000000000) (hs : SlB w A c l) (hA : l ≠ [] → A.map (·.block) ≠ some g) (hl : l.length ≤ 1000000000) :
    Calls Tryz.prog 192 #[.pointer (some ⟨g, 0, none⟩), wv s, .slice A l.length c] w fun e w' => e = .returned (wv (extW s l)) ∧ Mkr w' g ((n + 1 : Nat) : Int) ∧ But g w w' := by
  go_enter Tryz.func192, Tryz.ntmps192
  go_wp2_with fail
  refine (ask_at g n _ hM hn).mono ?_
  rintro e w1 ⟨rfl, hM1, hB1⟩
  go_wp2_with fail
  refine (extend_at g _ s A c l _ hM1 (SlB.but hs hB1 hA) hA hl).mono ?_
  rintro e w2 ⟨rfl, hM2, hB2⟩
  go_wp2_with fail
  go_ret
  exact ⟨rfl, .inr hM2, hB1.trans hB2⟩
set_option maxRecDepth 100000 in
set_option maxHeartbeats 1600000 in
theorem Sum_at (g n : Nat) (A : Option Addr) (c : Nat) (l : List UInt8) (w : World) (hM : Mkr w g n) (hn : n < 1000000000) (hs : SlB w A c l) (hA : l ≠ [] → A.map (·.block) ≠ some g) (hl : l.length ≤ 1000000000) :
    Calls Tryz.prog 176 #[.pointer (some ⟨g, 0, none⟩), .slice A l.length c] w fun e w' => e = .returned (wv (sumW l)) ∧ Mkr w' g ((n + 1 : Nat) : Int) ∧ But g w w' := by
  go_enter Tryz.func176, Tryz.ntmps176
  go_wp2_with fail
  refine (Extend_at g n 0#32 A c l _ hM hn hs hA hl).mono ?_
  rintro e w1 ⟨rfl, hM1, hB1⟩
  go_wp2_with fail
  go_ret
  exact ⟨rfl, hM1, hB1⟩
/-- parts: each an address, a capacity, its bytes -/
abbrev Pt := Option Addr × Nat × List UInt8
abbrev pv (x : Pt) : Value := .slice x.1 x.2.2.length x.2.1
def partsOf (ps : List Pt) : List UInt8 := ps.flatMap (·.2.2)
end Go.Proofs.YtabnndjdkjkciaaGreatDoor

namespace Go.Proofs.YtabnndjdkjkciaaGreatDoor
open Go.RowKit

set_option maxRecDepth 100000 in
set_option maxHeartbeats 1000000 in
theorem Grow_nil (n : Nat) (hn : n ≤ 1000000000) (w : World) : Calls Tryz.prog 174 #[.slice none 0 0, .int .i64 n] w fun e w' => ∃ A c, e = .returned (.slice A 0 c) ∧ OwnB w' w.heap.size 5 A c [] ∧ Below w.heap.size w w' := by
  obtain ⟨i0, hi, hz0, hz1, hz2⟩ := info_parts u8_info
  by_cases h0 : n = 0
  · subst h0
    go_enter Tryz.func174, Tryz.ntmps174
    go_wp2
    go_ret
    exact ⟨none, 0, rfl, Own.none_ _ _ _ _, Below.refl _ _⟩
  · have hcap := grownCap_ge w n 0 5
    have hcm := grownCap_le_maxLen w n 0 5 (by unfold maxLen; omega)
    have hr := fun ty => Lib.run_append_nil_zeros (P := Tryz.prog) w 29 3 ty 5 i0 (.int .u8 0) .i64 .i64 Tryz.underlying29 Tryz.underlying3 hi hz0 n (by omega) (by omega) (by omega) (by rw [hz2]; omega)
    generalize grownCap w n 0 5 = k at *
    have hown := World.ownsRow_made (e := 5) (size := 1) (base := w.heap.size) w.drew (Builtin.zeroCells (Value.int .u8 0).cells n ++ Builtin.zeroCells (Value.int .u8 0).cells (k - n)) k (Nat.le_refl _) hcm (by simp [Builtin.zeroCells, Value.cells]; omega)
    have HO := Lib.hid hown
    have HR := Lib.hid hr
    clear hown hr
    have hmk : ¬ ((k : Int) < 0) := by omega
    unfold maxLen at hcm
    go_enter Tryz.func174, Tryz.ntmps174
    go_wp2_with (at_builtin; go_must (refine Lib.wpList_append_run _ rfl _ _ _ _ rfl _ _ rfl rfl _ _ (HR.out _) ?_))
    go_ret
    exact ⟨_, _, rfl, HO.out, bel_alloc ((Below.refl w.heap.size w).drew) _⟩

theorem partsOf_snoc {ps : List Pt} {k : Nat} (hk : k < ps.length) : partsOf (ps.take (k + 1)) = partsOf (ps.take k) ++ ps[k].2.2 := by
  unfold partsOf
  rw [List.take_succ_eq_append_getElem hk, List.flatMap_append]
  simp
theorem partsOf_le {ps : List Pt} (k : Nat) : (partsOf (ps.take k)).length ≤ (partsOf ps).length := by
  have h := List.take_append_drop k ps
  have : partsOf ps = partsOf (ps.take k) ++ partsOf (ps.drop k) := by unfold partsOf; rw [← List.flatMap_append, h]
  rw [this, List.length_append]; omega

set_option maxRecDepth 100000 in
set_option maxHeartbeats 1000000 in
theorem Concat_any (P : Option Addr) (cp : Nat) (ps : List Pt) (w : World) (hP : Sl w 1 P ps.length cp (ps.map pv)) (hs : ∀ x ∈ ps, SlB w x.1 x.2.1 x.2.2) (hl : (partsOf ps).length ≤ 1000000000) :
    Calls Tryz.prog 121 #[.slice P ps.length cp] w (GivesB w (partsOf ps)) := by
  have hmax := hP.len_le
  unfold maxLen at hmax
  go_enter Tryz.func121, Tryz.ntmps121
  go_wp2
  go_loopw [3, 11] (fun v i wr => ∃ k : Nat, k ≤ ps.length ∧ i = .int .i64 k ∧ v = .int .i64 ((partsOf (ps.take k)).length : Nat) ∧ w = wr) (fun v i w => ps.length - (intOf i).toNat)
  case atStart => exact ⟨0, Nat.zero_le _, rfl, rfl, rfl⟩
  case round =>
    obtain ⟨k, hk, rfl, rfl, rfl⟩ := hrel
    by_cases hlt : k < ps.length
    · obtain ⟨ad, rfl, hc⟩ := hP.at1 hlt
      have hsn := congrArg List.length (partsOf_snoc hlt)
      rw [List.length_append] at hsn
      have hle := partsOf_le (ps := ps) (k + 1)
      have q1 := hs ps[k] (List.getElem_mem hlt)
      rw [hsn] at hle
      generalize hx : ps[k] = x at *
      obtain ⟨xa, xc, xl⟩ := x
      dsimp only at hc hsn hle q1
      have HS := Lib.hid hsn
      clear hsn hs q1
      generalize (partsOf (ps.take k)).length = a at *
      go_wp2
      go_roundw
      case rel => exact ⟨k + 1, hlt, by go_num, by rw [HS.out]; go_num, by trivial⟩
      case measure => simp [intOf]; omega
    · obtain rfl : k = ps.length := by omega
      rw [List.take_length]
      go_wp2_with fail
      refine (Grow_nil (partsOf ps).length hl _).mono ?_
      rintro e w1 ⟨A1, c1, rfl, ho1, hb1⟩
      go_wp2_with fail
      go_loopw [6, 27] (fun v i wr => ∃ (j : Nat) (B : Option Addr) (d : Nat) (m : List UInt8), j ≤ ps.length ∧ i = .int .i64 j ∧ v = .slice B m.length d ∧ Hid (m = partsOf (ps.take j)) ∧ OwnB wr w.heap.size 5 B d m ∧ Below w.heap.size w wr) (fun v i w => ps.length - (intOf i).toNat)
      case atStart => exact ⟨0, A1, c1, [], Nat.zero_le _, rfl, rfl, rfl, ho1, hb1⟩
      case round =>
        obtain ⟨j, B, d, m, hj, rfl, rfl, hm, hor, hbr⟩ := hrel
        by_cases hlt2 : j < ps.length
        · obtain ⟨ad, rfl, hc⟩ := (hP.below hbr).at1 hlt2
          have hsn := partsOf_snoc hlt2
          have hle := partsOf_le (ps := ps) (j + 1)
          have q1 := (hs ps[j] (List.getElem_mem hlt2)).below hbr
          rw [hsn, List.length_append, ← hm.out] at hle
          generalize hx : ps[j] = x at *
          obtain ⟨xa, xc, xl⟩ := x
          dsimp only at hc hsn hle q1
          have HS := Lib.hid hsn
          clear hsn
          go_wp2_with (at_builtin; go_must (refine wpl_bytes 29 5 Tryz.underlying29 u8_info rfl _ _ rfl w.heap.size B d m rfl hor xa xc xl rfl q1 (by omega) hbr.size ?_; intro A2 c2 m2 w2 hm2 ho2 _ _ hb2))
          go_roundw
          case rel => exact ⟨j + 1, A2, c2, m2, hlt2, by go_num, rfl, (show _ = _ from by rw [hm2.out, HS.out, hm.out]), ho2, hbr.trans hb2⟩
          case measure => simp [intOf]; omega
        · go_wp2_with fail
          go_ret
          exact ⟨B, d, m, rfl, (show _ = _ from by rw [hm.out, List.take_of_length_le (by omega)]), hor, hbr⟩
end Go.Proofs.YtabnndjdkjkciaaGreatDoor

namespace Go.Proofs.YtabnndjdkjkciaaGreatDoor
open Go.RowKit

/-- bytes that can be read, whole -/
def ReadsB (w0 : World) (l : List UInt8) (e : Ending) (w' : World) : Prop :=
  ∃ A c m, e = .returned (.slice A (List.length m) c) ∧ Hid (m = l) ∧ SlB w' A c m ∧ Below w0.heap.size w0 w'
theorem four_len (x : W32) : (four x).length = 4 := rfl
theorem four0 (x : W32) : HMod.hMod (α := Int) (β := Int) (HDiv.hDiv (α := Int) (β := Int) (wn x) (16777216 : Int)) (256 : Int) = ((UInt8.ofNat (x.toNat / 16777216)).toNat : Int) := by
  have := x.isLt
  unfold wn; rw [UInt8.toNat_ofNat']; omega
theorem four1 (x : W32) : HMod.hMod (α := Int) (β := Int) (HDiv.hDiv (α := Int) (β := Int) (wn x) (65536 : Int)) (256 : Int) = ((UInt8.ofNat (x.toNat / 65536 % 256)).toNat : Int) := by
  have := x.isLt
  unfold wn; rw [UInt8.toNat_ofNat']; omega
theorem four2 (x : W32) : HMod.hMod (α := Int) (β := Int) (HDiv.hDiv (α := Int) (β := Int) (wn x) (256 : Int)) (256 : Int) = ((UInt8.ofNat (x.toNat / 256 % 256)).toNat : Int) := by
  have := x.isLt
  unfold wn; rw [UInt8.toNat_ofNat']; omega
theorem four3 (x : W32) : HMod.hMod (α := Int) (β := Int) (wn x) (256 : Int) = ((UInt8.ofNat (x.toNat % 256)).toNat : Int) := by
  have := x.isLt
  unfold wn; rw [UInt8.toNat_ofNat']; omega
set_option maxRecDepth 100000 in
set_option maxHeartbeats 1000000 in
theorem four_any (x : W32) (w : World) : Calls Tryz.prog 175 #[wv x] w (ReadsB w (four x)) := by
  go_enter Tryz.func175, Tryz.ntmps175
  go_wp2
  go_ret
  exact ⟨_, 4, four x, rfl, rfl, by rw [four0, four1, four2, four3]; exact Sl.lits w (bvs (four x)) 5 (by simp [four, maxLen]), below_new _ _⟩
set_option maxRecDepth 100000 in
set_option maxHeartbeats 1000000 in
theorem Equal_any (A : Option Addr) (c : Nat) (l : List UInt8) (A2 : Option Addr) (c2 : Nat) (m : List UInt8) (w : World) (hs : SlB w A c l) (ht : SlB w A2 c2 m) :
    Calls Tryz.prog 194 #[.slice A l.length c, .slice A2 m.length c2] w fun e w' => e = .returned (.bool (decide (l = m))) ∧ Below w.heap.size w w' := by
  have hmax := hs.len_le
  unfold maxLen at hmax
  by_cases hlen : l.length = m.length
  · go_enter Tryz.func194, Tryz.ntmps194
    go_wp2
    go_loopw [13] (fun i wr => ∃ k : Nat, k ≤ l.length ∧ i = .int .i64 k ∧ Hid (l.take k = m.take k) ∧ Below w.heap.size w wr) (fun i w => l.length - (intOf i).toNat)
    case atStart => exact ⟨0, Nat.zero_le _, rfl, rfl, Below.refl _ _⟩
    case round =>
      obtain ⟨k, hk, rfl, hq, hbr⟩ := hrel
      by_cases hlt : k < l.length
      · have hlt2 : k < m.length := by omega
        obtain ⟨ad, rfl, hc⟩ := (hs.below hbr).at1 hlt
        obtain ⟨ad2, rfl, hc2⟩ := (ht.below hbr).at1 hlt2
        have hne : ∀ x y : UInt8, ((x.toNat : Int) != (y.toNat : Int)) = !decide (x = y) := by
          intro x y
          by_cases h : x = y
          · subst h; simp
          · have : x.toNat ≠ y.toNat := fun e => h (UInt8.toNat_inj.1 e)
            simp [h]; omega
        by_cases he : l[k] = m[k]
        · have htk : l.take (k + 1) = m.take (k + 1) := by rw [List.take_succ_eq_append_getElem hlt, List.take_succ_eq_append_getElem hlt2, hq.out, he]
          have HT := Lib.hid htk
          rw [he] at hc
          generalize m[k] = x at *
          clear he htk
          have h2 : ((x.toNat : Int) != (x.toNat : Int)) = false := by simp
          go_wp2
          go_quiet (fail)
          go_wp2
          go_roundw
          case rel => exact ⟨k + 1, hlt, by go_num, HT.out, below_drewN hbr _⟩
          case measure => simp [intOf]; omega
        · have hd : decide (l = m) = false := decide_eq_false (fun e => he (by subst e; rfl))
          have h1 : ((l[k].toNat : Int) != (m[k].toNat : Int)) = true := by rw [hne, decide_eq_false he]; rfl
          have h1' : decide (l[k] = m[k]) = false := decide_eq_false he
          clear hne
          have HD := Lib.hid hd
          generalize m[k] = x at *
          generalize l[k] = y at *
          clear hd he
          go_wp2
          go_quiet (fail)
          go_wp2
          go_ret
          exact ⟨by rw [HD.out]; rfl, below_drewN hbr _⟩
      · have hd : decide (l = m) = true := decide_eq_true (by have := hq.out; rw [List.take_of_length_le (by omega), List.take_of_length_le (by omega)] at this; exact this)
        have HD := Lib.hid hd
        clear hd
        go_wp2
        go_ret
        exact ⟨by rw [HD.out]; rfl, hbr⟩
  · have hd : decide (l = m) = false := decide_eq_false (fun e => hlen (by rw [e]))
    have HD := Lib.hid hd
    have hne : ((l.length : Int) != (m.length : Int)) = true := by simp; omega
    clear hd
    go_enter Tryz.func194, Tryz.ntmps194
    go_wp2
    go_ret
    exact ⟨by rw [HD.out]; rfl, Below.refl _ _⟩
end Go.Proofs.YtabnndjdkjkciaaGreatDoor

namespace Go.Proofs.YtabnndjdkjkciaaGreatDoor
open Go.RowKit
attribute [local go_sem ↓] Go.wp_at_zero Go.wp_at_succ

theorem or_wn (x y : W32) : bits .or .u32 (wn x) (wn y) = wn (x ||| y) := by
  unfold wn; rw [u32_or_nat _ _ x.isLt y.isLt, BitVec.toNat_or]
theorem and_wn (x y : W32) : bits .and .u32 (wn x) (wn y) = wn (x &&& y) := by
  unfold wn; rw [u32_and_nat _ _ x.isLt y.isLt, BitVec.toNat_and]
theorem add_wn (x y : W32) : IntKind.u32.wrap (wn x + wn y) = wn (x + y) := by
  unfold wn
  rw [BitVec.toNat_add]
  show (((x.toNat : Int) + (y.toNat : Int)) % 4294967296) = _
  simp
theorem shr_wnk (x : W32) (k : Nat) : wn x / 2 ^ k = wn (x >>> k) := by
  rw [← shr_wn]
  simp
theorem shl_wnk (x : W32) (k : Nat) : wn x * 2 ^ k % 4294967296 = wn (x <<< k) := by
  unfold wn
  rw [BitVec.toNat_shiftLeft, Nat.shiftLeft_eq]
  simp
theorem tr_wn (x : W32) (k : Nat) : bits .or .u32 (wn x / 2 ^ k) (wn x * 2 ^ (32 - k) % 4294967296) = wn (tr x k) := by
  rw [shr_wnk, shl_wnk, or_wn]
  rfl
theorem neg_and31 : ∀ k : Nat, k < 32 → 1 ≤ k → bits .and .u64 (IntKind.u64.wrap (-(k : Int))) 31 = ((32 - k : Nat) : Int) := by
  intro k h1 h2
  rw [show IntKind.u64.wrap (-(k : Int)) = ((18446744073709551616 - k : Nat) : Int) from by
    show (-(k : Int)) % 18446744073709551616 = _
    omega, show (31 : Int) = ((31 : Nat) : Int) from rfl, u64_and_nat _ _ (by omega) (by decide)]
  congr 1
  rw [show (31 : Nat) = 2 ^ 5 - 1 from rfl, Nat.and_two_pow_sub_one_eq_mod]
  omega
set_option maxRecDepth 100000 in
theorem Rot_any (x : W32) (k : Nat) (h1 : 1 ≤ k) (h2 : k ≤ 31) (w : World) :
    Calls Tryz.prog 195 #[wv x, .int .i64 (-(k : Int))] w fun e w' => e = .returned (wv (tr x k)) ∧ w' = w := by
  have hk := neg_and31 k (by omega) h1
  have ht := tr_wn x k
  obtain ⟨j, hj⟩ : ∃ j, 32 - k = j := ⟨_, rfl⟩
  have hk2 : k = 32 - j := by omega
  rw [hj] at hk ht
  have hjl : j ≤ 31 := by omega
  have h3 : bits .or .u32 (wn x * 2 ^ j % 4294967296) (wn x / 2 ^ (32 - j)) = wn (tr x k) := by
    rw [← ht, shl_wnk, ← hk2, shr_wnk, or_wn, or_wn, BitVec.or_comm]
  clear hj ht hk2
  go_enter Tryz.func195, Tryz.ntmps195
  go_wp2_with fail
  go_ret
  exact ⟨rfl, rfl⟩
set_option maxRecDepth 100000 in
theorem Turn_any (x : W32) (k : Nat) (h1 : 1 ≤ k) (h2 : k ≤ 31) (w : World) :
    Calls Tryz.prog 138 #[wv x, .int .i64 (k : Int)] w fun e w' => e = .returned (wv (tr x k)) ∧ w' = w := by
  have ht := tr_wn x k
  go_enter Tryz.func138, Tryz.ntmps138
  go_wp2_with fail
  go_ret
  exact ⟨rfl, rfl⟩
set_option maxRecDepth 100000 in
theorem Right_any (x : W32) (k : Nat) (h1 : 1 ≤ k) (h2 : k ≤ 31) (w : World) :
    Calls Tryz.prog 180 #[wv x, .int .i64 (k : Int)] w fun e w' => e = .returned (wv (tr x k)) ∧ w' = w := by
  have hz : ((k : Int)) ≤ 31 := by omega
  go_enter Tryz.func180, Tryz.ntmps180
  go_wp2_with fail
  refine (Rot_any x k h1 h2 _).mono ?_
  rintro e w1 ⟨rfl, rfl⟩
  go_wp2_with fail
  go_ret
  exact ⟨rfl, rfl⟩
end Go.Proofs.YtabnndjdkjkciaaGreatDoor

namespace Go.Proofs.YtabnndjdkjkciaaGreatDoor
open Go.RowKit

/-- an error by its number; 0: none -/
def errv : Nat → Value
  | 0 => .nilIface
  | n + 1 => .iface 68 (.int .i64 ((n + 1 : Nat) : Int))

set_option maxRecDepth 100000 in
set_option maxHeartbeats 400000 in
theorem num_nil (w : World) : Calls Tryz.prog 11 #[.nilIface] w fun e w' => e = .returned (.int .i64 0) ∧ w = w' := by
  go_enter Tryz.func11, Tryz.ntmps11
  go_wp2_with fail
  go_ret
  exact ⟨rfl, rfl⟩
theorem assert_errno (k : Int) (w : World) : (Instr.typeAssert (.iface 68 (.int .i64 k)) 37 68 true).run Tryz.prog w = .ok (.tuple #[.int .i64 k, .bool true]) w := by kernel_rfl
set_option maxRecDepth 100000 in
set_option maxHeartbeats 400000 in
theorem num_err (k : Int) (hk : 0 < k) (w : World) : Calls Tryz.prog 11 #[.iface 68 (.int .i64 k)] w fun e w' => e = .returned (.int .i64 k) ∧ w = w' := by
  have hz : (k == 0) = false := by simp; omega
  have hn : (k != 0) = true := by simp; omega
  have hta := assert_errno
  go_enter Tryz.func11, Tryz.ntmps11
  go_wp2_with fail
  go_ret
  exact ⟨rfl, rfl⟩

theorem errv_cases (n : Nat) : (n = 0 ∧ errv n = .nilIface) ∨ ∃ k : Int, 0 < k ∧ k = n ∧ errv n = .iface 68 (.int .i64 k) := by
  cases n with
  | zero => exact .inl ⟨rfl, rfl⟩
  | succ n => exact .inr ⟨((n + 1 : Nat) : Int), by omega, rfl, rfl⟩
theorem num_any (n : Nat) (w : World) : Calls Tryz.prog 11 #[errv n] w fun e w' => e = .returned (.int .i64 (n : Nat)) ∧ w = w' := by
  rcases errv_cases n with ⟨rfl, he⟩ | ⟨k, hk, h0, he⟩
  · rw [he]
    exact num_nil w
  · rw [he]
    rw [← h0]
    exact num_err k hk w

theorem isn_any (n : Nat) (k : Int) (w : World) : Calls Tryz.prog 24 #[errv n, .int .i64 k] w fun e w' => e = .returned (.bool ((n : Int) == k)) ∧ w = w' := by
  have h := num_any n w
  generalize errv n = x at h ⊢
  go_enter Tryz.func24, Tryz.ntmps24
  go_wp2_with fail
  refine h.mono ?_
  rintro e w1 ⟨rfl, rfl⟩
  go_wp2_with fail
  go_ret
  exact ⟨rfl, rfl⟩
end Go.Proofs.YtabnndjdkjkciaaGreatDoor
