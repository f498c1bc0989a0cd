/- WHAT IT HOLDS: what the functions of the package varint compute, walked. | WHAT IT HOLDS: what the document's functions of layer 1 compute, walked. | WHAT IT HOLDS: arguments opened to the words of Kit (bytes, numbers, integers); over any program. | WHAT IT HOLDS: how many bits and bytes a number has, plainly (no program). | WHAT IT HOLDS: Size, and the document's bytes of texts and lists, walked. | WHAT IT HOLDS: words for a reader in memory, and what its methods do, plainly. -/
import Derived.Test.YtabkeaammiellaaDoorRows
import Derived.Test.YtabkeaammiellaaDoorStoreWholeG03
import Derived.Deep.RegionWith
import Derived.ProofKit
import Derived.OpenShut
import Derived.ChangeOld
import Derived.Lib.SmallJoins
import Derived.Test.YtabkeaammiellaaDoorShelf
namespace Go.Proofs.YtabkeaammiellaaDoor
open Go.RowKit

theorem u8_info : (Tryd.prog.info? 5).map (fun i => (i.zero, i.size, i.bytes)) = some (some (.int .u8 0), 1, 1) := by kernel_rfl

/-- new bytes -/
def GivesB (w0 : World) (l : List UInt8) (e : Ending) (w' : World) : Prop :=
  ∃ A c m, e = .returned (.slice A m.length c) ∧ Hid (m = l) ∧ OwnB w' w0.heap.size 5 A c m ∧ Below w0.heap.size w0 w'

set_option maxRecDepth 100000 in
set_option maxHeartbeats 400000 in
theorem clone_any (A : Option Addr) (c : Nat) (l : List UInt8) (w : World) (hl : l.length ≤ 1000000000) (hs : SlB w A c l) :
    Calls Tryd.prog 40 #[.slice A l.length c] w (GivesB w l) := by
  have hq := fun (w : World) (A : Option Addr) (n c : Nat) => Lib.run_eql_slice_nil (P := Tryd.prog) w 33 5 A n c 0 0 Tryd.underlying33
  rcases A with _ | ad
  · obtain ⟨rfl, rfl⟩ := hs.of_none
    go_enter Tryd.func40, Tryd.ntmps40
    go_wp2
    go_ret
    exact ⟨none, 0, [], rfl, rfl, Own.none_ _ _ _ _, Below.refl _ _⟩
  · go_enter Tryd.func40, Tryd.ntmps40
    go_wp2_with (at_builtin; go_must (refine wpl_bytes 33 5 Tryd.underlying33 u8_info rfl _ _ rfl w.heap.size (some ⟨w.heap.size, 0, none⟩) 0 [] rfl (Own.lit 1 (Nat.le_refl _)) (some ad) c l rfl (hs.below ((Below.refl _ _).alloc (Nat.le_refl _) _)) (by simp; omega) (by simp) ?_; intro A1 c1 m1 w1 hm1 ho1 _ _ hb1))
    go_ret
    exact ⟨A1, c1, m1, rfl, hm1, ho1, ((Below.refl _ _).alloc (Nat.le_refl _) _).trans hb1⟩

theorem u64_info : (Tryd.prog.info? 148).map (fun i => (i.zero, i.size, i.bytes)) = some (some (.int .u64 0), 1, 8) := by kernel_rfl
abbrev nv (n : Nat) : Value := .int .u64 (n : Int)
/-- numbers of 64 bits that can be read -/
abbrev SlN (w : World) (A : Option Addr) (c : Nat) (l : List Nat) : Prop := Sl w 1 A l.length c (l.map nv)

/-- what Take answers -/
def TakeOut (o : Option (Nat × Nat)) (w : World) (e : Ending) (w' : World) : Prop :=
  w = w' ∧ ((o = none ∧ e = .returned (.tuple #[.int .u64 0, .int .i64 0, .iface 64 (.int .i64 2)])) ∨ ∃ n k : Nat, o = some (n, k) ∧ e = .returned (.tuple #[.int .u64 n, .int .i64 k, .nilIface]))

theorem vb300 : vb 300 = [172, 2] := by rw [vb_step (by omega), vb_small (by omega)]; decide
theorem vbs300 : [] ++ vbs [300] = [172, 2] := by simp [vbs, vb300]
theorem take300 : take [172, 2] = some (300, 2) := by decide

theorem take_succ_eq {T : Type} {xs ys : List T} {k : Nat} (h : xs.take k = ys.take k) (hx : k < xs.length) (hy : k < ys.length) : xs.take (k + 1) = ys.take (k + 1) ↔ xs[k] = ys[k] := by
  rw [List.take_succ_eq_append_getElem hx, List.take_succ_eq_append_getElem hy, h]
  exact ⟨fun e => by have := List.append_cancel_left e; simpa using this, fun e => by rw [e]⟩
theorem nv_ne {a b : Nat} (h : a ≠ b) : ((a : Int) != (b : Int)) = true := by simp; omega

end Go.Proofs.YtabkeaammiellaaDoor

namespace Go.Proofs.YtabkeaammiellaaDoor
open Go.RowKit

/-- what the document's Take answers -/
def RTakeOut (o : Option (Nat × Nat)) (w : World) (e : Ending) (w' : World) : Prop :=
  Below w.heap.size w w' ∧ ((o = none ∧ e = .returned (.tuple #[.int .u64 0, .int .i64 0, .int .i64 2])) ∨ ∃ n k : Nat, o = some (n, k) ∧ e = .returned (.tuple #[.int .u64 n, .int .i64 k, .int .i64 0]))

/-- an error by its number; 0: none -/
def errv : Nat → Value
  | 0 => .nilIface
  | n + 1 => .iface 64 (.int .i64 ((n + 1 : Nat) : Int))

set_option maxRecDepth 100000 in
set_option maxHeartbeats 400000 in
theorem num_nil (w : World) : Calls Tryd.prog 21 #[.nilIface] w fun e w' => e = .returned (.int .i64 0) ∧ w = w' := by
  go_enter Tryd.func21, Tryd.ntmps21
  go_wp2_with fail
  go_ret
  exact ⟨rfl, rfl⟩
theorem assert_errno (k : Int) (w : World) : (Instr.typeAssert (.iface 64 (.int .i64 k)) 29 64 true).run Tryd.prog w = .ok (.tuple #[.int .i64 k, .bool true]) w := by kernel_rfl
set_option maxRecDepth 100000 in
set_option maxHeartbeats 400000 in
theorem num_err (k : Int) (hk : 0 < k) (w : World) : Calls Tryd.prog 21 #[.iface 64 (.int .i64 k)] w fun e w' => e = .returned (.int .i64 k) ∧ w = w' := by
  have hz : (k == 0) = false := by simp; omega
  have hn : (k != 0) = true := by simp; omega
  have hta := assert_errno
  go_enter Tryd.func21, Tryd.ntmps21
  go_wp2_with fail
  go_ret
  exact ⟨rfl, rfl⟩

theorem errv_cases (n : Nat) : (n = 0 ∧ errv n = .nilIface) ∨ ∃ k : Int, 0 < k ∧ k = n ∧ errv n = .iface 64 (.int .i64 k) := by
  cases n with
  | zero => exact .inl ⟨rfl, rfl⟩
  | succ n => exact .inr ⟨((n + 1 : Nat) : Int), by omega, rfl, rfl⟩
theorem num_any (n : Nat) (w : World) : Calls Tryd.prog 21 #[errv n] w fun e w' => e = .returned (.int .i64 (n : Nat)) ∧ w = w' := by
  rcases errv_cases n with ⟨rfl, he⟩ | ⟨k, hk, h0, he⟩
  · rw [he]
    exact num_nil w
  · rw [he]
    rw [← h0]
    exact num_err k hk w

theorem isn_any (n : Nat) (k : Int) (w : World) : Calls Tryd.prog 23 #[errv n, .int .i64 k] w fun e w' => e = .returned (.bool ((n : Int) == k)) ∧ w = w' := by
  have h := num_any n w
  generalize errv n = x at h ⊢
  go_enter Tryd.func23, Tryd.ntmps23
  go_wp2_with fail
  refine h.mono ?_
  rintro e w1 ⟨rfl, rfl⟩
  go_wp2_with fail
  go_ret
  exact ⟨rfl, rfl⟩
end Go.Proofs.YtabkeaammiellaaDoor

namespace Go.Proofs.YtabkeaammiellaaDoor
open Go.ChangeShapes Go.WideShapes Go.ChangeAt Go.RowKit Go.Deep

/-- an integer of 64 bits (behind a name) -/
def I64 (a : Int) : Prop := -9223372036854775808 ≤ a ∧ a ≤ 9223372036854775807

theorem row_reads {w : World} {k : IntKind} {a : Addr} {len cap : Nat} {zs : List Int} (h1 : len ≤ cap) (h2 : cap ≤ maxLen) (hz : zs.length = cap) (hc : ∀ i, i < zs.length → w.cell? (a.add i) = some (.int k (zs.getD i 0))) :
    Sl w 1 (some a) len cap ((zs.take len).map (Value.int k)) := by
  refine ⟨by simp; omega, h1, h2, (fun h => by cases h), fun j u hj => ⟨a, rfl, ?_⟩⟩
  have hl : j < zs.length := by
    have := (List.getElem?_eq_some_iff.1 hj).1
    simp at this
    omega
  rw [hc j hl]
  simp only [List.getElem?_map, List.getElem?_take] at hj
  split at hj
  · rw [List.getElem?_eq_getElem hl] at hj
    simp at hj
    rw [← hj]
    simp [List.getElem?_eq_getElem hl]
  · simp at hj

section
variable {H : Type} {enc : TypeId × Value → H} {P : Program} {w : World} {base b0 : Nat} {held : Bool} {r : Reach} {t e : TypeId} {v : Value} {d : DataW H} {p : List MemPlace}
theorem open_row {k : IntKind} (ht : P.underlying t = some (.slice e)) (he : P.underlying e = some (.int k)) (hC : P.cellsOf e = 1) (hv : Value.okWide P w r b0 t v) (h : DataW.Trod enc P w base (fun _ => true) held t v d p) :
    ∃ (A : Option Addr) (n c : Nat) (zs : List Int), v = .slice A n c ∧ Sl w 1 A n c (zs.map (Value.int k)) ∧ zs.length = n ∧ ∀ z ∈ zs, (Lit.int k z).wf = true := by
  obtain ⟨A, n, c, rfl⟩ := okWide_slice ht hv
  obtain ⟨fuel, hf⟩ := h
  rcases open_ints ht he hC hf with ⟨hcs, _⟩ | ⟨x, l, c', zs, hcs, _, hl, hm, hz, _, hcell, hwz⟩
  · simp [Value.cells] at hcs
    obtain ⟨rfl, rfl, rfl⟩ := hcs
    exact ⟨none, 0, 0, [], rfl, Sl.none_ _ _, rfl, fun z hz => by simp at hz⟩
  · simp [Value.cells] at hcs
    obtain ⟨rfl, rfl, rfl⟩ := hcs
    simp only [if_true] at hz
    refine ⟨some x, n, c, zs.take n, rfl, row_reads hl hm hz hcell, by simp; omega, fun z hz => hwz z (List.mem_of_mem_take hz)⟩
theorem open_bytes (ht : P.underlying t = some (.slice e)) (he : P.underlying e = some (.int .u8)) (hC : P.cellsOf e = 1) (hv : Value.okWide P w r b0 t v) (h : DataW.Trod enc P w base (fun _ => true) held t v d p) :
    ∃ (A : Option Addr) (c : Nat) (l : List UInt8), v = .slice A l.length c ∧ SlB w A c l := by
  obtain ⟨A, n, c, zs, rfl, hs, hl, hw⟩ := open_row ht he hC hv h
  have hm : zs.map (Value.int .u8) = bvs (zs.map fun z => UInt8.ofNat z.toNat) := by
    rw [bvs, List.map_map]
    refine List.map_congr_left fun z hz => ?_
    have hb := bounds_u8 (hw z hz)
    simp only [Function.comp, bv, UInt8.toNat_ofNat']
    congr 1
    omega
  rw [hm] at hs
  refine ⟨A, c, zs.map fun z => UInt8.ofNat z.toNat, by simp [hl], ?_⟩
  show Sl w 1 A (zs.map _).length c _
  rw [List.length_map, hl]
  exact hs
theorem open_nums (ht : P.underlying t = some (.slice e)) (he : P.underlying e = some (.int .u64)) (hC : P.cellsOf e = 1) (hv : Value.okWide P w r b0 t v) (h : DataW.Trod enc P w base (fun _ => true) held t v d p) :
    ∃ (A : Option Addr) (c : Nat) (l : List Nat), v = .slice A l.length c ∧ Sl w 1 A l.length c (l.map fun (n : Nat) => Value.int .u64 (n : Int)) ∧ ∀ n ∈ l, U64 n := by
  obtain ⟨A, n, c, zs, rfl, hs, hl, hw⟩ := open_row ht he hC hv h
  have hm : zs.map (Value.int .u64) = (zs.map Int.toNat).map (fun (n : Nat) => Value.int .u64 (n : Int)) := by
    rw [List.map_map]
    refine List.map_congr_left fun z hz => ?_
    have hb := bounds_u64 (hw z hz)
    simp only [Function.comp]
    congr 1
    omega
  rw [hm] at hs
  refine ⟨A, c, zs.map Int.toNat, by simp [hl], ?_, ?_⟩
  · rw [show (zs.map Int.toNat).length = n by simp [hl]]
    exact hs
  · intro n hn
    simp only [List.mem_map] at hn
    obtain ⟨z, hz, rfl⟩ := hn
    have hb := bounds_u64 (hw z hz)
    unfold U64
    omega
theorem open_i64 (ht : P.underlying t = some (.int .i64)) (hv : Value.okWide P w r b0 t v) (h : DataW.Trod enc P w base (fun _ => true) held t v d p) : ∃ a : Int, v = .int .i64 a ∧ I64 a := by
  obtain ⟨x, rfl, _, _, hw⟩ := open_int ht hv h
  exact ⟨x, rfl, bounds_i64 hw⟩
theorem open_u64 (ht : P.underlying t = some (.int .u64)) (hv : Value.okWide P w r b0 t v) (h : DataW.Trod enc P w base (fun _ => true) held t v d p) : ∃ a : Nat, v = .int .u64 (a : Int) ∧ U64 a := by
  obtain ⟨x, rfl, _, _, hw⟩ := open_int ht hv h
  have hb := bounds_u64 hw
  exact ⟨x.toNat, by congr 1; omega, by unfold U64; omega⟩
theorem int_cell {P : Program} {w : World} {base : Nat} {held : Bool} {sp : Nat → Bool} {t : TypeId} {n : Nat} {v : Value} {y : DataW H × List MemPlace} (ht : P.underlying t = some (.int .i64)) (h : DataW.trod enc P w base sp held n t [v] = some y) : ∃ a : Int, v = .int .i64 a ∧ I64 a := by
  obtain ⟨a, hv, _, hw⟩ := DataW.trod_int ht h
  simp at hv
  exact ⟨a, hv, bounds_i64 hw⟩
/-- a struct of three ints by value -/
theorem open_ints3 {f0 f1 f2 : Field} (hs : P.underlying t = some (.struct #[f0, f1, f2])) (h0 : P.underlying f0.type = some (.int .i64)) (h1 : P.underlying f1.type = some (.int .i64)) (h2 : P.underlying f2.type = some (.int .i64))
    (hone : oneCellFields P #[f0, f1, f2] = true) (hC : P.cellsOf t = 3) (hv : Value.okWide P w r b0 t v) (h : DataW.Trod enc P w base (fun _ => true) held t v d p) :
    ∃ a b c : Int, v = .agg #[.int .i64 a, .int .i64 b, .int .i64 c] ∧ I64 a ∧ I64 b ∧ I64 c := by
  obtain ⟨v0, v1, v2, y0, y1, y2, n, rfl, _, _, g0, g1, g2⟩ := Go.Joins.open_agg3 hs hone hC hv h
  obtain ⟨a, rfl, ha⟩ := int_cell h0 g0
  obtain ⟨b, rfl, hb⟩ := int_cell h1 g1
  obtain ⟨c, rfl, hc⟩ := int_cell h2 g2
  exact ⟨a, b, c, rfl, ha, hb, hc⟩
/-- [3]int by value -/
theorem open_arr3 (hs : P.underlying t = some (.array 3 e)) (he : P.underlying e = some (.int .i64)) (hC : P.cellsOf t = 3) (hE : P.cellsOf e = 1) (hv : Value.okWide P w r b0 t v) (h : DataW.Trod enc P w base (fun _ => true) held t v d p) :
    ∃ a b c : Int, v = .agg #[.int .i64 a, .int .i64 b, .int .i64 c] ∧ I64 a ∧ I64 b ∧ I64 c := by
  simp only [Value.okWide, hs] at hv
  obtain ⟨cs, rfl, hsz, _⟩ := hv
  obtain ⟨c0, c1, c2, rfl⟩ := Go.Joins.array3 (hsz.trans hC)
  obtain ⟨fuel, hf⟩ := h
  obtain ⟨xs, m, _, _, _, hlen, hg⟩ := DataW.trod_array hs hf
  have k0 := hg 0 (by omega)
  have k1 := hg 1 (by omega)
  have k2 := hg 2 (by omega)
  rw [hE, List.getElem?_eq_getElem (by omega)] at k0 k1 k2
  simp [Value.cells] at k0 k1 k2
  obtain ⟨a, rfl, ha⟩ := int_cell he k0
  obtain ⟨b, rfl, hb⟩ := int_cell he k1
  obtain ⟨c, rfl, hc⟩ := int_cell he k2
  exact ⟨a, b, c, rfl, ha, hb, hc⟩
end
end Go.Proofs.YtabkeaammiellaaDoor

namespace Go.Proofs.YtabkeaammiellaaDoor
open Go.RowKit

/-- how many bits a number has -/
def blen (n : Nat) : Nat := if h : n = 0 then 0 else blen (n / 2) + 1
  termination_by n
theorem blen_zero : blen 0 = 0 := by rw [blen, dif_pos rfl]
theorem blen_pos {n : Nat} (h : n ≠ 0) : blen n = blen (n / 2) + 1 := by rw [blen, dif_neg h]
theorem blen_div (k : Nat) : ∀ n, 2 ^ k ≤ n → blen n = blen (n / 2 ^ k) + k := by
  induction k with
  | zero => intro n _; simp
  | succ k ih =>
    intro n h
    have hp : 0 < 2 ^ k := Nat.pow_pos (by decide)
    rw [Nat.pow_succ] at h
    rw [ih n (by omega)]
    have hq : n / 2 ^ k ≠ 0 := by
      have : 0 < n / 2 ^ k := Nat.div_pos (by omega) hp
      omega
    rw [blen_pos hq, Nat.div_div_eq_div_mul, ← Nat.pow_succ]
    show blen (n / 2 ^ (k + 1)) + 1 + k = blen (n / 2 ^ (k + 1)) + (k + 1)
    omega
theorem size_vb (n : Nat) : (vb n).length = max ((blen n + 6) / 7) 1 := by
  induction n using Nat.strongRecOn with
  | _ n ih =>
    by_cases h : n < 128
    · rw [vb_small h]
      have hb : blen n ≤ 7 := by
        have h1 : ∀ j : Fin 128, blen j.val ≤ 7 := by decide +kernel
        exact h1 ⟨n, h⟩
      simp only [List.length_cons, List.length_nil]
      omega
    · rw [vb_step (by omega), List.length_cons, ih (n / 128) (by omega), blen_div 7 n (by omega)]
      have : n / 128 ≠ 0 := by omega
      have := blen_pos this
      rw [show n / 2 ^ 7 = n / 128 from rfl]
      omega
end Go.Proofs.YtabkeaammiellaaDoor

namespace Go.Proofs.YtabkeaammiellaaDoor
open Go.RowKit

theorem bl_eq (n : Nat) (h : n < 18446744073709551616) : Lib.bitLen n = blen n := by
  -- 99
  induction n using Nat.strongRecOn with
  | _ n ih =>
    by_cases h0 : n = 0
    · subst h0; rw [blen_zero]; rfl
    · rw [Lib.bitLen_half n h0 h, ih (n / 2) (by omega) (by omega), blen_pos h0]
      omega
end Go.Proofs.YtabkeaammiellaaDoor

namespace Go.Proofs.YtabkeaammiellaaDoor
open Go.RowKit

/-- only block g has turned, and what is new -/
abbrev Wr (w w' : World) (g : Nat) : Prop := w.grownBy w' (some g)
section
variable {a w w' : World} {g : Nat}
theorem Wr.refl (w : World) (g : Nat) : Wr w w g := World.grownBy.refl w _
theorem Wr.trans {b c : World} (h : Wr a b g) (k : Wr b c g) : Wr a c g :=
  ⟨k.os.trans h.os, k.tape.trans h.tape, k.output.trans h.output, Nat.le_trans h.size k.size, fun i hi hn => (k.block i (Nat.lt_of_lt_of_le hi h.size) hn).trans (h.block i hi hn)⟩
theorem Wr.call (h : Wr a w g) (k : Below w.heap.size w w') : Wr a w' g :=
  h.trans ⟨k.os, k.tape, k.output, k.size, fun i hi _ => k.block i hi⟩
theorem Wr.of_below (k : Below w.heap.size w w') : Wr w w' g := ⟨k.os, k.tape, k.output, k.size, fun i hi _ => k.block i hi⟩
theorem Wr.set_ (h : Wr a w g) (i : Nat) (u : Value) : Wr a (w.setCell ⟨g, i, none⟩ u) g :=
  h.trans ⟨rfl, rfl, rfl, by simp [World.setCell], fun j _ hn => Below.heap_setCell _ _ _ _ (fun e => hn (by rw [e]))⟩
theorem Wr.alloc (h : Wr a w g) (o : Obj) : Wr a (w.alloc o) g := h.call (below_new w o)
theorem Wr.drewN (h : Wr a w g) (n : Nat) : Wr a (w.drewN n) g := ⟨h.os, h.tape, h.output, h.size, h.block⟩
theorem Wr.drew (h : Wr a w g) : Wr a w.drew g := ⟨h.os, h.tape, h.output, h.size, h.block⟩
/-- a reader of the call's own was written: nothing that was there before the call has turned -/
theorem Wr.below (h : Wr w w' g) {B : Nat} (hB : B ≤ w.heap.size) (hg : B ≤ g) : Below B w w' :=
  ⟨h.os, h.tape, h.output, h.size, fun k hk => h.block k (by omega) (fun e => by injection e with e; omega)⟩
theorem Wr.callB (h : Wr a w g) (_ : a.heap.size ≤ w.heap.size) (k : Below a.heap.size w w') : Wr a w' g :=
  ⟨k.os.trans h.os, k.tape.trans h.tape, k.output.trans h.output, Nat.le_trans h.size k.size, fun i hi hn => (k.block i hi).trans (h.block i hi hn)⟩
theorem Blk.wr {g' : Nat} {t : TypeId} {cs : Array Value} (h : Blk w g' t cs) (hw : Wr w w' g) (hne : g' ≠ g) : Blk w' g' t cs := (hw.block g' h.lt (fun e => hne (by injection e))).trans h
end

/-- cells that are bytes lie in no block that holds none -/
theorem SlB.wr {w w' : World} {g : Nat} {t : TypeId} {x y : Value} {A : Option Addr} {c : Nat} {l : List UInt8} (h : SlB w A c l) (hb : Blk w g t #[x, y]) (hx : ∀ b, x ≠ bv b) (hy : ∀ b, y ≠ bv b) (hw : Wr w w' g) : SlB w' A c l := by
  refine ⟨h.1, h.2.1, h.2.2.1, h.2.2.2.1, fun j u hj => ?_⟩
  obtain ⟨ad, hA, hc⟩ := h.2.2.2.2 j u hj
  refine ⟨ad, hA, ?_⟩
  have hlt := World.block_lt_of_cell? w _ hc
  have hne : (ad.add j).block ≠ g := by
    intro e
    have hsp := World.cell?_spot hc
    have hu : ∃ b, u = bv b := by
      simp only [List.getElem?_map, Option.map_eq_some_iff] at hj
      obtain ⟨b, _, hb⟩ := hj
      exact ⟨b, hb.symm⟩
    obtain ⟨b, rfl⟩ := hu
    have he : ad.add j = ⟨g, (ad.add j).off, none⟩ := by
      cases h1 : ad.add j with
      | mk bl of sp => rw [h1] at e hsp; simp at e hsp; subst e; subst hsp; rfl
    rw [he, hb.cell] at hc
    match (ad.add j).off, hc with
    | 0, hc => simp at hc; exact hx b hc
    | 1, hc => simp at hc; exact hy b hc
    | n + 2, hc => simp at hc
  exact (World.cell?_of_block (hw.block _ hlt (fun e => hne (by injection e)))).trans hc
theorem errv_ne (n : Nat) : ∀ b, errv n ≠ bv b := by
  intro b h
  cases n <;> simp [errv] at h
theorem slice_ne (A : Option Addr) (n c : Nat) : ∀ b, Value.slice A n c ≠ bv b := fun b h => by cases h

def rFail (k : Nat) (s : List UInt8 × Nat) : List UInt8 × Nat := if s.2 = 0 then (s.1, k) else s
def rNum (s : List UInt8 × Nat) : Nat × (List UInt8 × Nat) := if s.2 ≠ 0 then (0, s) else match take s.1 with | none => (0, (s.1, 2)) | some (n, k) => (n, (s.1.drop k, 0))
def rWithin (most : Nat) (s : List UInt8 × Nat) : Nat × (List UInt8 × Nat) := if (rNum s).1 > most ∨ (rNum s).1 > 4611686018427387904 then (0, rFail 1 (rNum s).2) else rNum s
def rCount (most : Int) (s : List UInt8 × Nat) : Nat × (List UInt8 × Nat) := if (rNum s).2.2 ≠ 0 then (0, (rNum s).2) else if most < 0 ∨ ((rNum s).1 : Int) > most then (0, rFail 3 (rNum s).2) else rNum s
def rFixed (many : Int) (s : List UInt8 × Nat) : List UInt8 × (List UInt8 × Nat) := if s.2 ≠ 0 then ([], s) else if many < 0 ∨ many > (s.1.length : Int) then ([], (s.1, 2)) else (s.1.take many.toNat, (s.1.drop many.toNat, 0))
def rText (most : Int) (s : List UInt8 × Nat) : List UInt8 × (List UInt8 × Nat) := rFixed (rCount most s).1 (rCount most s).2
def rNums : Nat → List UInt8 × Nat → List Nat × (List UInt8 × Nat)
  | 0, s => ([], s)
  | n + 1, s => if (rNum s).2.2 ≠ 0 then ([], (rNum s).2) else if (rNums n (rNum s).2).2.2 ≠ 0 then ([], (rNums n (rNum s).2).2) else ((rNum s).1 :: (rNums n (rNum s).2).1, (rNums n (rNum s).2).2)
def rList (most : Int) (s : List UInt8 × Nat) : List Nat × (List UInt8 × Nat) := rNums (rCount most s).1 (rCount most s).2
def rLeft (s : List UInt8 × Nat) : Nat := if s.2 = 0 then s.1.length else 0
def rEnd (s : List UInt8 × Nat) : Nat := if s.2 = 0 ∧ 0 < s.1.length then 2 else s.2

theorem Own.wr {w w' : World} {base g : Nat} {e : TypeId} {size n c : Nat} {A : Option Addr} {xs : List Value} (h : Own w base e size A n c xs) (hg : g < base) (hw : Wr w w' g) : Own w' base e size A n c xs := by
  obtain ⟨h1, h2⟩ := h
  refine ⟨h1, ?_⟩
  rcases h2 with h2 | ⟨g', cap, cur, hv, hb, hh, r⟩
  · exact Or.inl h2
  · exact Or.inr ⟨g', cap, cur, hv, hb, (hw.block g' (Array.getElem?_eq_some_iff.1 hh).1 (fun e => by injection e with e; omega)).trans hh, r⟩

/-- append of one number of 64 bits, which the walk has laid in a block of its own -/
theorem wpl_num {P : Program} {w : World} {ops : Array Oper} {rest : List Oper} {o : Oper} {a : Act} {Q : Exit → Act → World → Prop} (t e : TypeId) (ht : P.underlying t = some (.slice e))
    (hinfo : (P.info? e).map (fun i => (i.zero, i.size, i.bytes)) = some (some (.int .u64 0), 1, 8)) (hgd : o.guard = none) (s x : Operand)
    (ho : o.op = .call { callee := .builtin .append, args := #[s, x], argTypes := #[t, t] })
    (base : Nat) (A : Option Addr) (c : Nat) (l : List Nat) (n : Nat) (hs : a.eval s = .slice A l.length c) (hown : Own w base e 1 A l.length c (l.map nv))
    (hx : a.eval x = .slice (some ⟨w.heap.size, 0, none⟩) 1 1) (hlen : l.length ≤ 1000000000000) (hbase : base ≤ w.heap.size)
    (h : ∀ A' c' (m : List Nat) w', Hid (m = l ++ [n]) → Own w' base e 1 A' m.length c' (m.map nv) → (w.alloc (.cells #[.int .u64 (n : Int)] e)).grownBy w' (A.map (·.block)) → Below base w w' →
      wpList P ops Q rest (a.put o.dst (.slice A' m.length c')) w') : wpList P ops Q (o :: rest) a (w.alloc (.cells #[.int .u64 (n : Int)] e)) := by
  obtain ⟨i0, hi, hz0, hz1, hz2⟩ := info_parts hinfo
  have hbl : Below base w (w.alloc (.cells #[.int .u64 (n : Int)] e)) := (Below.refl _ _).alloc hbase _
  refine wpl_append hgd s x t ho base e i0 (.int .u64 0) 1 8 ht hi hz0 hz1 hz2 rfl (by decide) A l.length c (l.map nv) hs (World.ownsRow.alloc hown _) (some ⟨w.heap.size, 0, none⟩) 1 1 [nv n] hx Sl.one (fun u hu => by simp at hu; subst hu; rfl) (by omega) (by simp only [maxLen]; omega) (by simp; omega) ?_
  intro A' c' w' hap
  have hl : l.length + 1 = (l ++ [n]).length := by simp
  rw [hl]
  refine h A' c' (l ++ [n]) w' rfl ?_ hap.grown (hbl.trans (hap.below (World.ownsRow.alloc hown _) (by simp; omega)))
  have := hap.own
  simpa using this

theorem rNum_len (s : List UInt8 × Nat) : (rNum s).2.1.length ≤ s.1.length := by
  unfold rNum
  split
  · exact Nat.le_refl _
  · split
    · exact Nat.le_refl _
    · simp
theorem rCount_len (most : Int) (s : List UInt8 × Nat) : (rCount most s).2.1.length ≤ s.1.length := by
  have := rNum_len s
  unfold rCount
  split
  · exact this
  · split
    · unfold rFail
      split <;> exact this
    · exact this
theorem rCount_le {most : Int} {s : List UInt8 × Nat} (h : most ≤ 1000000) : (rCount most s).1 ≤ 1000000 := by
  unfold rCount
  split
  · simp
  · split
    · simp
    · rename_i h; simp only [gt_iff_lt, not_or] at h; omega
theorem rCount_bad {most : Int} {s : List UInt8 × Nat} : (rCount most s).2.2 ≠ 0 → (rCount most s).1 = 0 := by
  unfold rCount
  split
  · intro _; rfl
  · split
    · intro _; rfl
    · rename_i h _; intro h2; exact absurd h2 (by simpa using h)
end Go.Proofs.YtabkeaammiellaaDoor
