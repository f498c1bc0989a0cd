/- WHAT IT HOLDS: arguments opened to the words of Kit (bytes, numbers, integers); over any program. -/
import Derived.Test.YtddmfoldnlafaaaGreatDoorCursorBackG02
import Derived.ProofKit
import Derived.OpenShut
import Derived.ChangeOld
import Derived.Lib.SmallJoins
namespace Go.Proofs.YtddmfoldnlafaaaGreatDoor
open Go.ChangeShapes Go.WideShapes Go.ChangeAt Go.RowKit Go.Deep

/-- an integer of 64 bits (behind a name) -/
def I64 (a : Int) : Prop := -9223372036854775808 ≤ a ∧ a ≤ 9223372036854775807

theorem row_reads {w : World} {k : IntKind} {a : Addr} {len cap : Nat} {zs : List Int} (h1 : len ≤ cap) (h2 : cap ≤ maxLen) (hz : zs.length = cap) (hc : ∀ i, i < zs.length → w.cell? (a.add i) = some (.int k (zs.getD i 0))) :
    Sl w 1 (some a) len cap ((zs.take len).map (Value.int k)) := by
  refine ⟨by simp; omega, h1, h2, (fun h => by cases h), fun j u hj => ⟨a, rfl, ?_⟩⟩
  have hl : j < zs.length := by
    have := (List.getElem?_eq_some_iff.1 hj).1
    simp at this
    omega
  rw [hc j hl]
  simp only [List.getElem?_map, List.getElem?_take] at hj
  split at hj
  · rw [List.getElem?_eq_getElem hl] at hj
    simp at hj
    rw [← hj]
    simp [List.getElem?_eq_getElem hl]
  · simp at hj

section
variable {H : Type} {enc : TypeId × Value → H} {P : Program} {w : World} {base b0 : Nat} {held : Bool} {r : Reach} {t e : TypeId} {v : Value} {d : DataW H} {p : List MemPlace}
theorem open_row {k : IntKind} (ht : P.underlying t = some (.slice e)) (he : P.underlying e = some (.int k)) (hC : P.cellsOf e = 1) (hv : Value.okWide P w r b0 t v) (h : DataW.Trod enc P w base (fun _ => true) held t v d p) :
    ∃ (A : Option Addr) (n c : Nat) (zs : List Int), v = .slice A n c ∧ Sl w 1 A n c (zs.map (Value.int k)) ∧ zs.length = n ∧ ∀ z ∈ zs, (Lit.int k z).wf = true := by
  obtain ⟨A, n, c, rfl⟩ := okWide_slice ht hv
  obtain ⟨fuel, hf⟩ := h
  rcases open_ints ht he hC hf with ⟨hcs, _⟩ | ⟨x, l, c', zs, hcs, _, hl, hm, hz, _, hcell, hwz⟩
  · simp [Value.cells] at hcs
    obtain ⟨rfl, rfl, rfl⟩ := hcs
    exact ⟨none, 0, 0, [], rfl, Sl.none_ _ _, rfl, fun z hz => by simp at hz⟩
  · simp [Value.cells] at hcs
    obtain ⟨rfl, rfl, rfl⟩ := hcs
    simp only [if_true] at hz
    refine ⟨some x, n, c, zs.take n, rfl, row_reads hl hm hz hcell, by simp; omega, fun z hz => hwz z (List.mem_of_mem_take hz)⟩
theorem open_bytes (ht : P.underlying t = some (.slice e)) (he : P.underlying e = some (.int .u8)) (hC : P.cellsOf e = 1) (hv : Value.okWide P w r b0 t v) (h : DataW.Trod enc P w base (fun _ => true) held t v d p) :
    ∃ (A : Option Addr) (c : Nat) (l : List UInt8), v = .slice A l.length c ∧ SlB w A c l := by
  obtain ⟨A, n, c, zs, rfl, hs, hl, hw⟩ := open_row ht he hC hv h
  have hm : zs.map (Value.int .u8) = bvs (zs.map fun z => UInt8.ofNat z.toNat) := by
    rw [bvs, List.map_map]
    refine List.map_congr_left fun z hz => ?_
    have hb := bounds_u8 (hw z hz)
    simp only [Function.comp, bv, UInt8.toNat_ofNat']
    congr 1
    omega
  rw [hm] at hs
  refine ⟨A, c, zs.map fun z => UInt8.ofNat z.toNat, by simp [hl], ?_⟩
  show Sl w 1 A (zs.map _).length c _
  rw [List.length_map, hl]
  exact hs
theorem open_nums (ht : P.underlying t = some (.slice e)) (he : P.underlying e = some (.int .u64)) (hC : P.cellsOf e = 1) (hv : Value.okWide P w r b0 t v) (h : DataW.Trod enc P w base (fun _ => true) held t v d p) :
    ∃ (A : Option Addr) (c : Nat) (l : List Nat), v = .slice A l.length c ∧ Sl w 1 A l.length c (l.map fun (n : Nat) => Value.int .u64 (n : Int)) ∧ ∀ n ∈ l, U64 n := by
  obtain ⟨A, n, c, zs, rfl, hs, hl, hw⟩ := open_row ht he hC hv h
  have hm : zs.map (Value.int .u64) = (zs.map Int.toNat).map (fun (n : Nat) => Value.int .u64 (n : Int)) := by
    rw [List.map_map]
    refine List.map_congr_left fun z hz => ?_
    have hb := bounds_u64 (hw z hz)
    simp only [Function.comp]
    congr 1
    omega
  rw [hm] at hs
  refine ⟨A, c, zs.map Int.toNat, by simp [hl], ?_, ?_⟩
  · rw [show (zs.map Int.toNat).length = n by simp [hl]]
    exact hs
  · intro n hn
    simp only [List.mem_map] at hn
    obtain ⟨z, hz, rfl⟩ := hn
    have hb := bounds_u64 (hw z hz)
    unfold U64
    omega
theorem open_i64 (ht : P.underlying t = some (.int .i64)) (hv : Value.okWide P w r b0 t v) (h : DataW.Trod enc P w base (fun _ => true) held t v d p) : ∃ a : Int, v = .int .i64 a ∧ I64 a := by
  obtain ⟨x, rfl, _, _, hw⟩ := open_int ht hv h
  exact ⟨x, rfl, bounds_i64 hw⟩
theorem open_u64 (ht : P.underlying t = some (.int .u64)) (hv : Value.okWide P w r b0 t v) (h : DataW.Trod enc P w base (fun _ => true) held t v d p) : ∃ a : Nat, v = .int .u64 (a : Int) ∧ U64 a := by
  obtain ⟨x, rfl, _, _, hw⟩ := open_int ht hv h
  have hb := bounds_u64 hw
  exact ⟨x.toNat, by congr 1; omega, by unfold U64; omega⟩
theorem int_cell {P : Program} {w : World} {base : Nat} {held : Bool} {sp : Nat → Bool} {t : TypeId} {n : Nat} {v : Value} {y : DataW H × List MemPlace} (ht : P.underlying t = some (.int .i64)) (h : DataW.trod enc P w base sp held n t [v] = some y) : ∃ a : Int, v = .int .i64 a ∧ I64 a := by
  obtain ⟨a, hv, _, hw⟩ := DataW.trod_int ht h
  simp at hv
  exact ⟨a, hv, bounds_i64 hw⟩
/-- a struct of three ints by value -/
theorem open_ints3 {f0 f1 f2 : Field} (hs : P.underlying t = some (.struct #[f0, f1, f2])) (h0 : P.underlying f0.type = some (.int .i64)) (h1 : P.underlying f1.type = some (.int .i64)) (h2 : P.underlying f2.type = some (.int .i64))
    (hone : oneCellFields P #[f0, f1, f2] = true) (hC : P.cellsOf t = 3) (hv : Value.okWide P w r b0 t v) (h : DataW.Trod enc P w base (fun _ => true) held t v d p) :
    ∃ a b c : Int, v = .agg #[.int .i64 a, .int .i64 b, .int .i64 c] ∧ I64 a ∧ I64 b ∧ I64 c := by
  obtain ⟨v0, v1, v2, y0, y1, y2, n, rfl, _, _, g0, g1, g2⟩ := Go.Joins.open_agg3 hs hone hC hv h
  obtain ⟨a, rfl, ha⟩ := int_cell h0 g0
  obtain ⟨b, rfl, hb⟩ := int_cell h1 g1
  obtain ⟨c, rfl, hc⟩ := int_cell h2 g2
  exact ⟨a, b, c, rfl, ha, hb, hc⟩
/-- [3]int by value -/
theorem open_arr3 (hs : P.underlying t = some (.array 3 e)) (he : P.underlying e = some (.int .i64)) (hC : P.cellsOf t = 3) (hE : P.cellsOf e = 1) (hv : Value.okWide P w r b0 t v) (h : DataW.Trod enc P w base (fun _ => true) held t v d p) :
    ∃ a b c : Int, v = .agg #[.int .i64 a, .int .i64 b, .int .i64 c] ∧ I64 a ∧ I64 b ∧ I64 c := by
  simp only [Value.okWide, hs] at hv
  obtain ⟨cs, rfl, hsz, _⟩ := hv
  obtain ⟨c0, c1, c2, rfl⟩ := Go.Joins.array3 (hsz.trans hC)
  obtain ⟨fuel, hf⟩ := h
  obtain ⟨xs, m, _, _, _, hlen, hg⟩ := DataW.trod_array hs hf
  have k0 := hg 0 (by omega)
  have k1 := hg 1 (by omega)
  have k2 := hg 2 (by omega)
  rw [hE, List.getElem?_eq_getElem (by omega)] at k0 k1 k2
  simp [Value.cells] at k0 k1 k2
  obtain ⟨a, rfl, ha⟩ := int_cell he k0
  obtain ⟨b, rfl, hb⟩ := int_cell he k1
  obtain ⟨c, rfl, hc⟩ := int_cell he k2
  exact ⟨a, b, c, rfl, ha, hb, hc⟩
end
end Go.Proofs.YtddmfoldnlafaaaGreatDoor
