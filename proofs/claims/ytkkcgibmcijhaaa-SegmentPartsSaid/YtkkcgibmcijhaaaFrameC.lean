/- WHAT IT HOLDS: arguments that are cells, and slices of cells, opened to the words of Kit. -/
import Derived.Test.YtkkcgibmcijhaaaFrameS
import Derived.Test.YtkkcgibmcijhaaaCellX
namespace Go.Proofs.Ytkkcgibmcijhaaa
open Go.ChangeShapes Go.WideShapes Go.ChangeAt Go.RowKit Go.Deep

section
variable {H : Type} {enc : TypeId × Value → H} {P : Program} {w : World} {base b0 : Nat} {held : Bool} {r : Reach} {t e b : TypeId} {v : Value} {d : DataW H} {p : List MemPlace}
theorem bytes_cell {n : Nat} {y : DataW H × List MemPlace} (ht : P.underlying t = some (.slice e)) (he : P.underlying e = some (.int .u8)) (hC : P.cellsOf e = 1) (h : DataW.trod enc P w base (fun _ => true) held n t [v] = some y) :
    ∃ (A : Option Addr) (c : Nat) (l : List UInt8), v = .slice A l.length c ∧ SlB w A c l := by
  rcases open_ints ht he hC h with ⟨hcs, _⟩ | ⟨x, l, c', zs, hcs, _, hl, hm, hz, _, hcell, hwz⟩
  · simp at hcs
    subst hcs
    exact ⟨none, 0, [], rfl, Sl.none_ _ _⟩
  · simp at hcs
    subst hcs
    simp only [if_true] at hz
    have hs := row_reads hl hm hz hcell
    have hw : ∀ z ∈ zs.take l, (Lit.int .u8 z).wf = true := fun z hz => hwz z (List.mem_of_mem_take hz)
    have hm : (zs.take l).map (Value.int .u8) = bvs ((zs.take l).map fun z => UInt8.ofNat z.toNat) := by
      rw [bvs, List.map_map]
      refine List.map_congr_left fun z hz => ?_
      have hb := bounds_u8 (hw z hz)
      simp only [Function.comp, bv, UInt8.toNat_ofNat']
      congr 1
      omega
    rw [hm] at hs
    have hlen : ((zs.take l).map fun z => UInt8.ofNat z.toNat).length = l := by simp; omega
    refine ⟨some x, c', (zs.take l).map fun z => UInt8.ofNat z.toNat, by rw [hlen], ?_⟩
    show Sl w 1 _ (List.map _ _).length c' _
    rw [hlen]
    exact hs
theorem open_cell {f0 f1 : Field} (hs : P.underlying t = some (.struct #[f0, f1])) (h0 : P.underlying f0.type = some (.int .i64)) (h1 : P.underlying f1.type = some (.slice e)) (he : P.underlying e = some (.int .u8))
    (hCe : P.cellsOf e = 1) (hone : oneCellFields P #[f0, f1] = true) (hC : P.cellsOf t = 2) (hv : Value.okWide P w r b0 t v) (h : DataW.Trod enc P w base (fun _ => true) held t v d p) :
    ∃ (k : Int) (A : Option Addr) (c : Nat) (l : List UInt8), v = cv k A l.length c ∧ I64 k ∧ SlB w A c l := by
  obtain ⟨v0, v1, y0, y1, n, rfl, _, _, g0, g1⟩ := Go.Joins.open_agg2 hs hone hC hv h
  obtain ⟨k, rfl, hk⟩ := int_cell h0 g0
  obtain ⟨A, c, l, rfl, hl⟩ := bytes_cell h1 he hCe g1
  exact ⟨k, A, c, l, rfl, hk, hl⟩
theorem open_cells {f0 f1 : Field} (ht : P.underlying t = some (.slice b)) (hs : P.underlying b = some (.struct #[f0, f1])) (h0 : P.underlying f0.type = some (.int .i64)) (h1 : P.underlying f1.type = some (.slice e)) (he : P.underlying e = some (.int .u8))
    (hCe : P.cellsOf e = 1) (hone : oneCellFields P #[f0, f1] = true) (hC : P.cellsOf b = 2) (hv : Value.okWide P w r b0 t v) (h : DataW.Trod enc P w base (fun _ => true) held t v d p) :
    ∃ (A : Option Addr) (c : Nat) (l : List CeV), v = .slice A l.length c ∧ SlC w A c l ∧ ∀ x ∈ l, I64 x.1 := by
  obtain ⟨A, c, l, rfl, hl, hq⟩ := open_structs cf (fun x => I64 x.1 ∧ SlB w x.2.1 x.2.2.1 x.2.2.2) (fun _ => rfl) ht hs hone hC (by
    intro vs hl hf
    obtain ⟨u0, n0, y0, e0, t0⟩ := hf 0 f0 rfl
    obtain ⟨u1, n1, y1, e1, t1⟩ := hf 1 f1 rfl
    obtain ⟨k, rfl, hk⟩ := int_cell h0 t0
    obtain ⟨A, c, l, rfl, hb⟩ := bytes_cell h1 he hCe t1
    match vs, hl with
    | [x0, x1], _ =>
      simp at e0 e1
      exact ⟨(k, A, c, l), by simp [cf, e0, e1], hk, hb⟩) hv h
  exact ⟨A, c, l, rfl, ⟨hl, fun x hx => (hq x hx).2⟩, fun x hx => (hq x hx).1⟩
end
end Go.Proofs.Ytkkcgibmcijhaaa
