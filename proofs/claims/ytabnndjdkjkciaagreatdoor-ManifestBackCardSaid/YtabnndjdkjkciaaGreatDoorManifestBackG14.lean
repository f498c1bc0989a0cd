/- WHAT IT HOLDS: what stands behind a text of sha: walked. | WHAT IT HOLDS: slices.Chunk of bytes: the function, and what it hands to a loop's body: walked. | WHAT IT HOLDS: the cursor that bytes are, plainly (no program). -/
import Derived.Test.YtabnndjdkjkciaaGreatDoorManifestBackG13
import Derived.RangeFuncNested
import Derived.RangeFuncBound
import Derived.RangeFuncCalls
import Derived.RangeFuncLeaves
import Derived.Shelf.Abstract
import Derived.Shelf.RegionOpen
import Derived.OwnWalkIn
import Derived.TacticsInMore
import Derived.LoopNIn
import Derived.LoopIn
import Derived.Test.YtabnndjdkjkciaaGreatDoorManifestBackG11
namespace Go.Proofs.YtabnndjdkjkciaaGreatDoor
open Go.RowKit
attribute [local go_sem ↓] Go.wp_at_zero Go.wp_at_succ

theorem be8_len (n : Nat) : (be8 n).length = 8 := rfl
theorem be8_at (N : Nat) {j s : Nat} (h : 8 * j + s = 56) : (be8 N).getD j 0 = UInt8.ofNat (N / 2 ^ s % 256) := by
  have : j = 0 ∧ s = 56 ∨ j = 1 ∧ s = 48 ∨ j = 2 ∧ s = 40 ∨ j = 3 ∧ s = 32 ∨ j = 4 ∧ s = 24 ∨ j = 5 ∧ s = 16 ∨ j = 6 ∧ s = 8 ∨ j = 7 ∧ s = 0 := by omega
  rcases this with ⟨rfl, rfl⟩ | ⟨rfl, rfl⟩ | ⟨rfl, rfl⟩ | ⟨rfl, rfl⟩ | ⟨rfl, rfl⟩ | ⟨rfl, rfl⟩ | ⟨rfl, rfl⟩ | ⟨rfl, rfl⟩
  all_goals first | rfl | (show UInt8.ofNat _ = UInt8.ofNat _; congr 1; simp)
theorem take_snocD {T : Type} (l : List T) (d : T) {j : Nat} (h : j < l.length) : l.take (j + 1) = l.take j ++ [l.getD j d] := by
  rw [List.take_succ_eq_append_getElem h]
  simp [h]
theorem ofNat_byte (n : Nat) : (((UInt8.ofNat n).toNat : Nat) : Int) = (n : Int) % 256 := by
  rw [UInt8.toNat_ofNat']
  simp
set_option maxRecDepth 100000 in
set_option maxHeartbeats 1000000 in
theorem Pad_any (n : Nat) (hn : n ≤ 1000000000) (w : World) :
    Calls Tryz.prog 132 #[.int .i64 n] w fun e w' => ∃ A c m, e = .returned (.slice A (List.length m) c) ∧ Hid (m = padT n) ∧ OwnB w' w.heap.size 5 A c m ∧ Below w.heap.size w w' := by
  have hP := Lib.hid (show padT n = 128 :: (List.replicate (padZ n) 0 ++ be8 (8 * n)) from rfl)
  have hpz : padZ n < 64 := by unfold padZ; omega
  have hpm : (n + padZ n + 9) % 64 = 0 := by unfold padZ; omega
  have hpk : ∀ k, k < padZ n → ¬ (n + k + 9) % 64 = 0 := by unfold padZ; omega
  obtain ⟨z, hz⟩ : ∃ z, padZ n = z := ⟨_, rfl⟩
  rw [hz] at hP hpz hpm hpk
  clear hz
  have hL : OwnB (w.alloc (.cells #[.int .u8 128] 5)) w.heap.size 5 (some ⟨w.heap.size, 0, none⟩) 1 [128] := Own.lits1 rfl 5 128
  go_enter Tryz.func132, Tryz.ntmps132
  go_wp2_with fail
  go_loopw [3] (fun x wr => ∃ (k : Nat) (A : Option Addr) (c : Nat) (m : List UInt8), k ≤ z ∧ x = .slice A m.length c ∧ m.length = k + 1 ∧ Hid (m = 128 :: List.replicate k 0) ∧ OwnB wr w.heap.size 5 A c m ∧ Below w.heap.size w wr) (fun x wr => 64 - (match x with | .slice _ n _ => n | _ => 0))
  case atStart => exact ⟨0, _, _, [128], by omega, rfl, rfl, Lib.hid rfl, hL, below_new _ _⟩
  case round =>
    obtain ⟨k, A, c, m, hk, rfl, hml, hm, ho, hb⟩ := hrel
    have hw1 : IntKind.i64.wrap ((n : Int) + (m.length : Int)) = (n : Int) + (m.length : Int) := by rw [IntKind.wrap_i64]; omega
    have hw2 : IntKind.i64.wrap ((n : Int) + (m.length : Int) + 8) = (n : Int) + (m.length : Int) + 8 := by rw [IntKind.wrap_i64]; omega
    have HML := Lib.hid hml
    clear hml hL
    rcases Nat.lt_or_ge k z with hlt | hge
    · have hz : (((n : Int) + (m.length : Int) + 8) % 64 != 0) = true := by
        have h9 := hpk k hlt
        have h8 := HML.out
        have : ¬ ((n : Int) + (m.length : Int) + 8) % 64 = 0 := by omega
        simpa using this
      have hoa := World.ownsRow.alloc ho (.cells #[.int .u8 0] 5)
      have hba := bel_alloc hb (.cells #[.int .u8 0] 5)
      have hln : m.length + [(0 : UInt8)].length ≤ 140737488355328 := by have := HML.out; simp; omega
      go_wp2_with (at_builtin; go_must (refine wpl_bytes 29 5 Tryz.underlying29 u8_info rfl _ _ rfl w.heap.size A c m rfl hoa (some ⟨wr.heap.size, 0, none⟩) 1 [0] rfl Sl.one hln hba.size ?_; intro A2 c2 m2 w2 hm2 ho2 _ _ hb2))
      have hl2 : m2.length = k + 1 + 1 := by rw [hm2.out, List.length_append, HML.out]; rfl
      have HML2 := Lib.hid hl2
      clear hz hw1 hw2 hl2
      go_roundw
      case rel => exact ⟨k + 1, A2, c2, m2, hlt, rfl, HML2.out, (show _ = _ from by rw [hm2.out, hm.out, List.replicate_succ']; rfl), ho2, hba.trans hb2⟩
      case measure => dsimp only; rw [HML2.out, HML.out]; omega
    · obtain rfl : k = z := by omega
      have hz : (((n : Int) + (m.length : Int) + 8) % 64 != 0) = false := by
        have h8 := HML.out
        have : ((n : Int) + (m.length : Int) + 8) % 64 = 0 := by omega
        simpa using this
      have hw3 : IntKind.u64.wrap (n : Int) = (n : Int) := by show (n : Int) % 18446744073709551616 = n; omega
      have hw4 : IntKind.u64.wrap ((n : Int) * 8) = ((8 * n : Nat) : Int) := by show ((n : Int) * 8) % 18446744073709551616 = _; omega
      go_wp2_with fail
      have HM := Lib.hid hm
      have HO := Lib.hid ho
      have HB := Lib.hid hb
      clear hw1 hw2 ho hb hz
      obtain ⟨N, hN⟩ : ∃ N, 8 * n = N := ⟨_, rfl⟩
      rw [hN] at hw4 hP
      clear hN
      go_loopw [4, 3] (fun y x wr => ∃ (j : Nat) (A : Option Addr) (c : Nat) (m : List UInt8), j ≤ 8 ∧ y = .int .i64 (56 - 8 * (j : Int)) ∧ x = .slice A m.length c ∧ m.length = k + 1 + j ∧ Hid (m = 128 :: (List.replicate k 0 ++ (be8 N).take j)) ∧ OwnB wr w.heap.size 5 A c m ∧ Below w.heap.size w wr) (fun y x wr => 100 - (match x with | .slice _ n _ => n | _ => 0))
      case atStart => exact ⟨0, A, c, m, by omega, rfl, rfl, HML.out, (show _ = _ from by rw [hm.out]; simp), HO.out, HB.out⟩
      case round =>
        clear HM HO HB hm HML
        obtain ⟨j, A, c, m, hj, rfl, rfl, hml, hm, ho, hb⟩ := hrel
        have HML := Lib.hid hml
        clear hml
        rcases Nat.lt_or_ge j 8 with hlt | hge
        · obtain ⟨s, hs⟩ : ∃ s : Nat, 8 * j + s = 56 := ⟨56 - 8 * j, by omega⟩
          have hsI : 56 - 8 * (j : Int) = (s : Int) := by omega
          have hs2 : Hid (56 - 8 * ((j + 1 : Nat) : Int) = (s : Int) - 8) := (show _ = _ from by omega)
          have hs3 : IntKind.i64.wrap ((s : Int) - 8) = (s : Int) - 8 := by rw [IntKind.wrap_i64]; omega
          have hat := be8_at N hs
          have hbt : IntKind.u8.wrap ((N : Int) / 2 ^ s) = ((be8 N).getD j 0).toNat := by
            rw [hat, ofNat_byte]
            show ((N : Int) / 2 ^ s) % 256 = _
            simp
          have htk := Lib.hid (take_snocD (be8 N) 0 (j := j) (by rw [be8_len]; exact hlt))
          generalize (be8 N).getD j 0 = x at *
          rw [hsI]
          clear hat hs
          have hoa := World.ownsRow.alloc ho (.cells #[bv x] 5)
          have hba := bel_alloc hb (.cells #[bv x] 5)
          have hln : m.length + [x].length ≤ 140737488355328 := by have := HML.out; simp; omega
          go_wp2_with (at_builtin; go_must (refine wpl_bytes 29 5 Tryz.underlying29 u8_info rfl _ _ rfl w.heap.size A c m rfl hoa (some ⟨wr.heap.size, 0, none⟩) 1 [x] rfl Sl.one hln hba.size ?_; intro A2 c2 m2 w2 hm2 ho2 _ _ hb2))
          have hl2 : m2.length = k + 1 + (j + 1) := by rw [hm2.out, List.length_append, HML.out]; rfl
          refine ⟨⟨j + 1, A2, c2, m2, hlt, by rw [hs2.out], rfl, hl2, (show _ = _ from by rw [hm2.out, hm.out, htk.out]; simp), ho2, hba.trans hb2⟩, ?_⟩
          dsimp only
          rw [hl2, HML.out]
          omega
        · obtain rfl : j = 8 := by omega
          rw [show (56 : Int) - 8 * ((8 : Nat) : Int) = -8 from by decide]
          go_wp2_with fail
          go_ret
          exact ⟨A, c, m, rfl, (show _ = _ from by rw [hm.out, hP.out, List.take_of_length_le (by rw [be8_len]; exact Nat.le_refl _)]), ho, hb⟩
end Go.Proofs.YtabnndjdkjkciaaGreatDoor

namespace Go.Proofs.YtabnndjdkjkciaaGreatDoor
open Go.RowKit Go.Shelf
attribute [local go_sem ↓] Go.wp_at_zero Go.wp_at_succ
attribute [local go_sem] Oper.semAt_some

set_option maxRecDepth 100000 in
theorem Chunk_any (A : Option Addr) (k c : Nat) (w : World) :
    Calls Tryz.prog 131 #[.slice A k c, .int .i64 64] w fun e w' => e = .returned (.func (.func 178) #[] #[.pointer (some ⟨w.heap.size, 0, none⟩), .pointer (some ⟨w.heap.size + 1, 0, none⟩)]) ∧ w' = (w.alloc (.cells #[.slice A k c] 29)).alloc (.cells #[.int .i64 64] 3) := by
  go_enter Tryz.func131, Tryz.ntmps131
  go_wp2_with fail
  go_ret
  exact ⟨rfl, rfl⟩
/-- below a block all but one is kept -/
structure Kg (n g : Nat) (W W' : World) : Prop where
  size : W.heap.size ≤ W'.heap.size
  block : ∀ k, k < n → k ≠ g → W'.heap[k]? = W.heap[k]?
section
variable {n g : Nat} {A B C : World}
theorem Kg.refl (n g : Nat) (W : World) : Kg n g W W := ⟨Nat.le_refl _, fun _ _ _ => rfl⟩
theorem Kg.trans (h : Kg n g A B) (k : Kg n g B C) : Kg n g A C := ⟨Nat.le_trans h.size k.size, fun j h1 h2 => (k.block j h1 h2).trans (h.block j h1 h2)⟩
theorem Kg.cell (h : Kg n g A B) {b o : Nat} (h1 : b < n) (h2 : b ≠ g) : B.cell? ⟨b, o, none⟩ = A.cell? ⟨b, o, none⟩ := World.cell?_of_block (h.block b h1 h2)
theorem Kg.drewN (h : Kg n g A B) (m : Nat) : Kg n g A (World.drewN B m) := ⟨h.size, h.block⟩
theorem Kg.put {w : World} (hn : n ≤ w.heap.size) (W : World) (l : Nat) (o o' : Obj) (hl : w.heap.size ≤ l) (_ : W.heap[l]? = some o) (_ : o.isCells = false) (_ : o.isWalk = false) : Kg n g W (W.putObj l o') :=
  ⟨by simp, fun k h1 _ => World.putObj_heap_other (by omega)⟩
end
/-- a part of a row -/
def chkS (b o : Nat) (k : Nat) : Value := .slice (some ⟨b, o + 64 * k, none⟩) 64 64
set_option maxRecDepth 100000 in
set_option maxHeartbeats 2000000 in
theorem Chunk1_in (n : Nat) (hn : 1 ≤ n) (l g n₀ gs b o K c : Nat) (hK : K ≤ 100000000) (hc : 64 * K ≤ c) (hgn : g + 1 < n₀) (hgs : gs < g) (J Jx : List Nat → World → Prop) (hJd : ∀ s W m, J s W → J s (World.drewN W m))
    (hY : ∀ pre x W, J pre W → pre.length < K → YieldAt Fence.wide (n - 1) Tryz.prog l #[chkS b o (min x (K - 1))] W fun e W' =>
      (e = .returned (.bool true) ∧ J (pre ++ [x]) W' ∧ Kg n₀ gs W W') ∨ (e = .returned (.bool false) ∧ Jx (pre ++ [x]) W'))
    (W : World) (h1 : W.cell? ⟨g, 0, none⟩ = some (.slice (some ⟨b, o, none⟩) (64 * K) c)) (h2 : W.cell? ⟨g + 1, 0, none⟩ = some (.int .i64 64)) (h0 : J [] W) :
    CallsIn Fence.wide n Tryz.prog 178 #[.func (.yield l) #[] #[], .pointer (some ⟨g, 0, none⟩), .pointer (some ⟨g + 1, 0, none⟩)] W fun e W' => (∃ v, e = .returned v) ∧
      ((∃ ys, ys = List.range K ∧ J ys W') ∨ (∃ pre, (∃ k, k ≤ K ∧ pre = List.range k) ∧ Jx pre W')) := by
  refine callsIn_of_wp Tryz.func178 rfl trivial ?_ rfl
  simp only [Tryz.ntmps178, List.size_toArray, List.length_cons, List.length_nil, Nat.reduceAdd, Nat.reduceSub, Array.replicate_succ, Array.replicate_zero, List.push_toArray, List.append_toArray, List.nil_append, List.cons_append]
  gi_wp2
  gi_loopw [4] (fun i wr => ∃ k : Nat, k ≤ K ∧ i = .int .i64 (64 * (k : Int)) ∧ J (List.range k) wr ∧ Kg n₀ gs W wr) (fun i _ => 64 * K - (intOf i).toNat)
  case atStart => exact ⟨0, Nat.zero_le _, rfl, h0, Kg.refl _ _ _⟩
  case round =>
    obtain ⟨k, hk, rfl, hJs, hnx⟩ := hrel
    have d1 := (hnx.cell (b := g) (o := 0) (by omega) (by omega)).trans h1
    have d2 := (hnx.cell (b := g + 1) (o := 0) (by omega) (by omega)).trans h2
    by_cases hlt : k < K
    · have hI : 64 * (k : Int) < 64 * (K : Int) := by omega
      have hi0 : 0 ≤ 64 * (k : Int) := by omega
      have hi1 : 64 * (k : Int) ≤ 64 * (K : Int) := by omega
      have hi2 : 64 * (k : Int) ≤ (c : Int) := by omega
      have hmin : min (64 : Int) ((64 * K - 64 * k : Nat) : Int) = 64 := by omega
      have hw1 : IntKind.i64.wrap (64 * (k : Int) + 64) = 64 * (k : Int) + 64 := by rw [IntKind.wrap_i64]; omega
      have ht : (64 * (k : Int) + 64).toNat - 64 * k = 64 := by omega
      have hi3 : 64 * (k : Int) + 64 ≤ (c : Int) := by omega
      gi_wp2
      refine wpIn_wide.2 ?_
      go_quiet (fail)
      have hJ2 := hJd _ _ nq hJs
      have hnx2 := hnx.drewN nq
      clear hJs hnx d1 d2
      generalize World.drewN wr nq = w2 at *
      have d1 := (hnx2.cell (b := g) (o := 0) (by omega) (by omega)).trans h1
      have d2 := (hnx2.cell (b := g + 1) (o := 0) (by omega) (by omega)).trans h2
      obtain ⟨fn, tmps, assign, body, hy, hR⟩ := hY _ k w2 hJ2 (by rw [List.length_range]; exact hlt)
      rw [show min k (K - 1) = k from by omega] at hy
      unfold chkS at hy
      gi_wp2
      refine hR.mono ?_
      have hbk := hnx2
      clear d1 d2 hnx2
      rintro e W3 (⟨rfl, hJ3, hk3⟩ | ⟨rfl, hJx3⟩)
      · have hnx3 := hbk.trans hk3
        have d1 := (hnx3.cell (b := g) (o := 0) (by omega) (by omega)).trans h1
        have d2 := (hnx3.cell (b := g + 1) (o := 0) (by omega) (by omega)).trans h2
        clear hbk hk3 hJ2
        gi_wp2
        go_roundw
        case rel => exact ⟨k + 1, by omega, congrArg (Value.int .i64) (by omega), by rw [List.range_succ]; exact hJ3, hnx3⟩
        case measure => simp [intOf]; omega
      · gi_wp2
        refine bodyPost_ret (results_none rfl _ _ _) rfl ?_
        exact ⟨⟨_, rfl⟩, .inr ⟨_, ⟨k + 1, by omega, by rw [List.range_succ]⟩, hJx3⟩⟩
    · obtain rfl : k = K := by omega
      gi_wp2
      go_end0
      exact ⟨⟨_, rfl⟩, .inl ⟨_, rfl, hJs⟩⟩
/-- the iterator, as a loop takes it -/
theorem Chunk_stops (n : Nat) (hn : 1 ≤ n) (g n₀ gs b o K c : Nat) (hK : K ≤ 100000000) (hc : 64 * K ≤ c) (hgn : g + 1 < n₀) (hgs : gs < g) (w : World) (hn0 : n₀ ≤ w.heap.size)
    (h1 : w.cell? ⟨g, 0, none⟩ = some (.slice (some ⟨b, o, none⟩) (64 * K) c)) (h2 : w.cell? ⟨g + 1, 0, none⟩ = some (.int .i64 64)) :
    SeqStopsK Fence.wide n Tryz.prog 178 #[.pointer (some ⟨g, 0, none⟩), .pointer (some ⟨g + 1, 0, none⟩)] (fun k : Nat => #[chkS b o (min k (K - 1))]) (Kg n₀ gs) (fun ys => ys = List.range K) (fun pre => ∃ k, k ≤ K ∧ pre = List.range k) K w :=
  fun l J Jx W hW hJ _ hY h0 =>
    Chunk1_in n hn l g n₀ gs b o K c hK hc hgn hgs J Jx (fun s W m hs => hJ s W _ none hs ⟨rfl, rfl, rfl, Nat.le_refl _, fun _ _ _ => rfl⟩ (fun r e => by cases e)) hY W
      ((hW.cell (p := ⟨g, 0, none⟩) (show g < w.heap.size by omega)).trans h1) ((hW.cell (p := ⟨g + 1, 0, none⟩) (show g + 1 < w.heap.size by omega)).trans h2) h0
end Go.Proofs.YtabnndjdkjkciaaGreatDoor

namespace Go.Proofs.YtabnndjdkjkciaaGreatDoor
open Go.RowKit

/-- so many parts out of a reader, the first at an address -/
def crLoop : Nat → Int → List UInt8 × Nat → List Pt5 × (List UInt8 × Nat)
  | 0, _, s => ([], s)
  | n + 1, a, s => ((rPart a s).1 :: (crLoop n (a + (rPart a s).1.2.1) (rPart a s).2).1, (crLoop n (a + (rPart a s).1.2.1) (rPart a s).2).2)
theorem crLoop_succ : ∀ (k : Nat) (a : Int) (s : List UInt8 × Nat), crLoop (k + 1) a s = ((crLoop k a s).1 ++ [(rPart (pend a (crLoop k a s).1) (crLoop k a s).2).1], (rPart (pend a (crLoop k a s).1) (crLoop k a s).2).2)
  | 0, a, s => by simp [crLoop, pend]
  | k + 1, a, s => by
    have ih := crLoop_succ k (a + (rPart a s).1.2.1) (rPart a s).2
    have h1 : crLoop (k + 1 + 1) a s = ((rPart a s).1 :: (crLoop (k + 1) (a + (rPart a s).1.2.1) (rPart a s).2).1, (crLoop (k + 1) (a + (rPart a s).1.2.1) (rPart a s).2).2) := rfl
    have h2 : crLoop (k + 1) a s = ((rPart a s).1 :: (crLoop k (a + (rPart a s).1.2.1) (rPart a s).2).1, (crLoop k (a + (rPart a s).1.2.1) (rPart a s).2).2) := rfl
    rw [h1, ih, h2]
    rfl
theorem crLoop_len : ∀ (k : Nat) (a : Int) (s : List UInt8 × Nat), (crLoop k a s).1.length = k
  | 0, _, _ => rfl
  | k + 1, a, s => by
    have ih := crLoop_len k (a + (rPart a s).1.2.1) (rPart a s).2
    show ((rPart a s).1 :: (crLoop k (a + (rPart a s).1.2.1) (rPart a s).2).1).length = k + 1
    rw [List.length_cons, ih]
theorem rPart_len (a : Int) (s : List UInt8 × Nat) : (rPart a s).2.1.length ≤ s.1.length := by
  have h1 := rWithin_len 64 s
  have h2 := rWithin_len 65536 (rWithin 64 s).2
  have h3 := rFixed_len 32 (rWithin 65536 (rWithin 64 s).2).2
  exact Nat.le_trans h3 (Nat.le_trans h2 h1)
theorem crLoop_left : ∀ (k : Nat) (a : Int) (s : List UInt8 × Nat), (crLoop k a s).2.1.length ≤ s.1.length
  | 0, _, _ => Nat.le_refl _
  | k + 1, a, s => Nat.le_trans (crLoop_left k (a + (rPart a s).1.2.1) (rPart a s).2) (rPart_len a s)
end Go.Proofs.YtabnndjdkjkciaaGreatDoor
