/- WHAT IT HOLDS: arguments that are acts of a disk, opened to the words of Kit. -/
import Derived.Test.YtabkeaammiellaaDoorDiskNamesG06
namespace Go.Proofs.YtabkeaammiellaaDoor
open Go.ChangeShapes Go.WideShapes Go.ChangeAt Go.RowKit Go.Deep

/-- an act: its kind, its two names, its bytes, its number, what is kept -/
structure DA where
  k : Int
  n : List UInt8
  t : List UInt8
  A : Option Addr
  c : Nat
  l : List UInt8
  f : Int
  B : Option Addr
  kc : Nat
  ks : List Bool
def dac (a : DA) : List Value := [.int .i64 a.k, .string ⟨a.n.toArray⟩, .string ⟨a.t.toArray⟩, .slice a.A a.l.length a.c, .int .i64 a.f, .slice a.B a.ks.length a.kc]
theorem dac_len (a : DA) : (dac a).length = 6 := rfl
def SlZ (w : World) (B : Option Addr) (kc : Nat) (ks : List Bool) : Prop := Sl w 1 B ks.length kc (ks.map Value.bool)
/-- what is so of every act's parts -/
def DAok (w : World) (a : DA) : Prop := SlB w a.A a.c a.l ∧ SlZ w a.B a.kc a.ks ∧ I64 a.k ∧ I64 a.f ∧ a.n.length ≤ maxLen ∧ a.t.length ≤ maxLen
def SlDA (w : World) (A : Option Addr) (c : Nat) (s : List DA) : Prop := Sl w 6 A s.length c (s.flatMap dac) ∧ ∀ a ∈ s, DAok w a
theorem DAok.below {w w' : World} {a : DA} (h : DAok w a) (hb : Below w.heap.size w w') : DAok w' a := ⟨Sl.below h.1 hb, Sl.below h.2.1 hb, h.2.2⟩
theorem SlDA.below {w w' : World} {A : Option Addr} {c : Nat} {s : List DA} (h : SlDA w A c s) (hb : Below w.heap.size w w') : SlDA w' A c s := ⟨h.1.below hb, fun a ha => (h.2 a ha).below hb⟩
section
variable {H : Type} {enc : TypeId × Value → H} {P : Program} {w : World} {base b0 : Nat} {held : Bool} {r : Reach} {t e z b s : TypeId} {v : Value} {d : DataW H} {p : List MemPlace}
theorem bytes_cellD {n : Nat} {y : DataW H × List MemPlace} (ht : P.underlying t = some (.slice e)) (he : P.underlying e = some (.int .u8)) (hC : P.cellsOf e = 1) (h : DataW.trod enc P w base (fun _ => true) held n t [v] = some y) :
    ∃ (A : Option Addr) (c : Nat) (l : List UInt8), v = .slice A l.length c ∧ SlB w A c l := by
  rcases open_ints ht he hC h with ⟨hcs, _⟩ | ⟨x, l, c', zs, hcs, _, hl, hm, hz, _, hcell, hwz⟩
  · simp at hcs
    subst hcs
    exact ⟨none, 0, [], rfl, Sl.none_ _ _⟩
  · simp at hcs
    subst hcs
    simp only [if_true] at hz
    have hs := row_reads hl hm hz hcell
    have hw : ∀ z ∈ zs.take l, (Lit.int .u8 z).wf = true := fun z hz => hwz z (List.mem_of_mem_take hz)
    have hm : (zs.take l).map (Value.int .u8) = bvs ((zs.take l).map fun z => UInt8.ofNat z.toNat) := by
      rw [bvs, List.map_map]
      refine List.map_congr_left fun z hz => ?_
      have hb := bounds_u8 (hw z hz)
      simp only [Function.comp, bv, UInt8.toNat_ofNat']
      congr 1
      omega
    rw [hm] at hs
    have hlen : ((zs.take l).map fun z => UInt8.ofNat z.toNat).length = l := by simp; omega
    refine ⟨some x, c', (zs.take l).map fun z => UInt8.ofNat z.toNat, by rw [hlen], ?_⟩
    show Sl w 1 _ (List.map _ _).length c' _
    rw [hlen]
    exact hs
theorem bools_cell {n : Nat} {y : DataW H × List MemPlace} (ht : P.underlying t = some (.slice z)) (he : P.underlying z = some .bool) (hC : P.cellsOf z = 1) (h : DataW.trod enc P w base (fun _ => true) held n t [v] = some y) :
    ∃ (A : Option Addr) (c : Nat) (l : List Bool), v = .slice A l.length c ∧ SlZ w A c l := by
  rcases open_slice1 ht hC h with ⟨hcs, _⟩ | ⟨a, len, cap, m, nn, V, D, Pl, hcs, _, hl, hm, hmm, _, hi⟩
  · simp at hcs
    subst hcs
    exact ⟨none, 0, [], rfl, Sl.none_ _ _⟩
  · simp at hcs
    subst hcs
    simp only [if_true] at hmm
    obtain ⟨l, hll, hlr⟩ := list_choice (fun i b => w.cell? (a.add i) = some (.bool b)) len fun i hi' => by
      obtain ⟨h1, h2⟩ := hi i (by omega)
      obtain ⟨b, hb, _⟩ := DataW.trod_bool he h2
      simp at hb
      exact ⟨b, by rw [h1, hb]⟩
    refine ⟨some a, cap, l, by rw [hll], by simp, by omega, hm, (fun h => by cases h), fun j u hj => ⟨a, rfl, ?_⟩⟩
    obtain ⟨hjl, rfl⟩ := List.getElem?_eq_some_iff.1 hj
    rw [List.length_map] at hjl
    rw [List.getElem_map]
    exact hlr j hjl
theorem string_cell {n : Nat} {y : DataW H × List MemPlace} (ht : P.underlying t = some .string) (h : DataW.trod enc P w base (fun _ => true) held n t [v] = some y) :
    ∃ l : List UInt8, v = .string ⟨l.toArray⟩ ∧ l.length ≤ maxLen := by
  obtain ⟨s, hs, _, hz⟩ := DataW.trod_string ht h
  simp at hs
  subst hs
  exact ⟨s.data.toList, rfl, hz⟩
theorem open_dacts {f0 f1 f2 f3 f4 f5 : Field} (ht : P.underlying t = some (.slice b)) (hs : P.underlying b = some (.struct #[f0, f1, f2, f3, f4, f5])) (h0 : P.underlying f0.type = some (.int .i64)) (h1 : P.underlying f1.type = some .string) (h2 : P.underlying f2.type = some .string) (h3 : P.underlying f3.type = some (.slice e)) (h4 : P.underlying f4.type = some (.int .i64)) (h5 : P.underlying f5.type = some (.slice z))
    (he : P.underlying e = some (.int .u8)) (hz : P.underlying z = some .bool) (hCe : P.cellsOf e = 1) (hCz : P.cellsOf z = 1) (hone : oneCellFields P #[f0, f1, f2, f3, f4, f5] = true) (hC : P.cellsOf b = 6) (hv : Value.okWide P w r b0 t v) (h : DataW.Trod enc P w base (fun _ => true) held t v d p) :
    ∃ (A : Option Addr) (c : Nat) (l : List DA), v = .slice A l.length c ∧ SlDA w A c l := by
  obtain ⟨A, c, l, rfl, hl, hq⟩ := open_structs dac (DAok w) (fun _ => rfl) ht hs hone hC (by
    intro vs hl hf
    obtain ⟨u0, n0, y0, e0, t0⟩ := hf 0 f0 rfl
    obtain ⟨u1, n1, y1, e1, t1⟩ := hf 1 f1 rfl
    obtain ⟨u2, n2, y2, e2, t2⟩ := hf 2 f2 rfl
    obtain ⟨u3, n3, y3, e3, t3⟩ := hf 3 f3 rfl
    obtain ⟨u4, n4, y4, e4, t4⟩ := hf 4 f4 rfl
    obtain ⟨u5, n5, y5, e5, t5⟩ := hf 5 f5 rfl
    obtain ⟨k, rfl, hk⟩ := int_cell h0 t0
    obtain ⟨nm, rfl, hn⟩ := string_cell h1 t1
    obtain ⟨tw, rfl, ht⟩ := string_cell h2 t2
    obtain ⟨A, c, l, rfl, hb⟩ := bytes_cellD h3 he hCe t3
    obtain ⟨f, rfl, hfi⟩ := int_cell h4 t4
    obtain ⟨B, kc, ks, rfl, hks⟩ := bools_cell h5 hz hCz t5
    match vs, hl with
    | [x0, x1, x2, x3, x4, x5], _ =>
      simp at e0 e1 e2 e3 e4 e5
      exact ⟨⟨k, nm, tw, A, c, l, f, B, kc, ks⟩, by simp [dac, e0, e1, e2, e3, e4, e5], hb, hks, hk, hfi, hn, ht⟩) hv h
  exact ⟨A, c, l, rfl, hl, hq⟩
theorem open_bools (ht : P.underlying t = some (.slice z)) (hz : P.underlying z = some .bool) (hCz : P.cellsOf z = 1) (hv : Value.okWide P w r b0 t v) (h : DataW.Trod enc P w base (fun _ => true) held t v d p) :
    ∃ (A : Option Addr) (c : Nat) (l : List Bool), v = .slice A l.length c ∧ SlZ w A c l := by
  obtain ⟨A, n, c, rfl⟩ := okWide_slice ht hv
  obtain ⟨fuel, hf⟩ := h
  exact bools_cell ht hz hCz hf
theorem open_textD (ht : P.underlying t = some .string) (hv : Value.okWide P w r b0 t v) (h : DataW.Trod enc P w base (fun _ => true) held t v d p) :
    ∃ l : List UInt8, v = .string ⟨l.toArray⟩ ∧ l.length ≤ maxLen := by
  obtain ⟨s, rfl⟩ := okWide_string ht hv
  obtain ⟨fuel, hf⟩ := h
  exact string_cell ht hf
/-- files -/
structure DF where
  n : List UInt8
  A : Option Addr
  c : Nat
  l : List UInt8
def dfc (a : DF) : List Value := [.string ⟨a.n.toArray⟩, .slice a.A a.l.length a.c]
def DFok (w : World) (a : DF) : Prop := SlB w a.A a.c a.l ∧ a.n.length ≤ maxLen
def SlDF (w : World) (A : Option Addr) (c : Nat) (s : List DF) : Prop := Sl w 2 A s.length c (s.flatMap dfc) ∧ ∀ a ∈ s, DFok w a
theorem SlDF.below {w w' : World} {A : Option Addr} {c : Nat} {s : List DF} (h : SlDF w A c s) (hb : Below w.heap.size w w') : SlDF w' A c s := ⟨h.1.below hb, fun a ha => ⟨Sl.below (h.2 a ha).1 hb, (h.2 a ha).2⟩⟩
theorem open_dfiles {f0 f1 : Field} (ht : P.underlying t = some (.slice b)) (hs : P.underlying b = some (.struct #[f0, f1])) (h0 : P.underlying f0.type = some .string) (h1 : P.underlying f1.type = some (.slice e)) (he : P.underlying e = some (.int .u8))
    (hCe : P.cellsOf e = 1) (hone : oneCellFields P #[f0, f1] = true) (hC : P.cellsOf b = 2) (hv : Value.okWide P w r b0 t v) (h : DataW.Trod enc P w base (fun _ => true) held t v d p) :
    ∃ (A : Option Addr) (c : Nat) (l : List DF), v = .slice A l.length c ∧ SlDF w A c l := by
  obtain ⟨A, c, l, rfl, hl, hq⟩ := open_structs dfc (DFok w) (fun _ => rfl) ht hs hone hC (by
    intro vs hl hf
    obtain ⟨u0, n0, y0, e0, t0⟩ := hf 0 f0 rfl
    obtain ⟨u1, n1, y1, e1, t1⟩ := hf 1 f1 rfl
    obtain ⟨nm, rfl, hn⟩ := string_cell h0 t0
    obtain ⟨A, c, l, rfl, hb⟩ := bytes_cellD h1 he hCe t1
    match vs, hl with
    | [x0, x1], _ =>
      simp at e0 e1
      exact ⟨⟨nm, A, c, l⟩, by simp [dfc, e0, e1], hb, hn⟩) hv h
  exact ⟨A, c, l, rfl, hl, hq⟩
end
end Go.Proofs.YtabkeaammiellaaDoor
