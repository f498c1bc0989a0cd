/- WHAT IT HOLDS: arguments that are parts, manifests, opened to the words of ManK. | WHAT IT HOLDS: an argument that is a cursor, opened. | WHAT IT HOLDS: an argument that is an array of two strings, opened. -/
import Derived.Test.YtabnndjdkjkciaaGreatDoorCursorKeepsG35
import Derived.Test.YtabnndjdkjkciaaGreatDoorCursorKeepsG14
import Derived.Test.YtabnndjdkjkciaaGreatDoorCursorKeepsG17
import Derived.Test.YtabnndjdkjkciaaGreatDoorCursorKeepsG12
namespace Go.Proofs.YtabnndjdkjkciaaGreatDoor
open Go.ChangeShapes Go.WideShapes Go.ChangeAt Go.RowKit Go.Deep

section
variable {H : Type} {enc : TypeId × Value → H} {P : Program} {w : World} {base b0 : Nat} {held : Bool} {r : Reach} {t e b u : TypeId} {v : Value} {d : DataW H} {p : List MemPlace}
/-- a slice of elements of so many cells -/
theorem open_sliceG {T : Type} (f : T → List Value) (Q : T → Prop) {k : Nat} (hfl : ∀ x, (f x).length = k) (hk : 0 < k) (ht : P.underlying t = some (.slice e)) (hC : P.cellsOf e = k)
    (hel : ∀ (cs' : List Value) (n : Nat) (y : DataW H × List MemPlace), DataW.trod enc P w base (fun _ => true) held n e cs' = some y → ∃ x : T, f x = cs' ∧ Q x)
    {fuel : Nat} {yy : DataW H × List MemPlace} (hf : DataW.trod enc P w base (fun _ => true) held fuel t [v] = some yy) :
    ∃ (A : Option Addr) (c : Nat) (l : List T), v = .slice A l.length c ∧ Sl w k A l.length c (l.flatMap f) ∧ ∀ x ∈ l, Q x := by
  rcases open_slice ht hf with ⟨hcs, _⟩ | ⟨a, n, c, m, nn, D, Pl, hcs, _, hl, hm, hmm, _, hi⟩
  · simp at hcs
    subst hcs
    exact ⟨none, 0, [], rfl, by simpa using Sl.none_ w k, fun x hx => by simp at hx⟩
  · simp at hcs
    subst hcs
    simp only [if_true] at hmm
    subst hmm
    have hx : ∀ i, i < n → ∃ x : T, Q x ∧ ∀ j u, (f x)[j]? = some u → w.cell? (a.add (i * k + j)) = some u := by
      intro i hin
      obtain ⟨cs', hc, ht'⟩ := hi i (by omega)
      rw [hC] at hc
      obtain ⟨_, hcl, hat⟩ := World.cells?_some hc
      obtain ⟨x, hxe, hxq⟩ := hel cs' nn _ ht'
      refine ⟨x, hxq, fun j u hj => ?_⟩
      have hjk : j < k := by rw [← hfl x]; exact (List.getElem?_eq_some_iff.1 hj).1
      rw [hxe] at hj
      rw [← Go.Deep.add_add, hat j hjk, hj]
    obtain ⟨l, hll, hlr⟩ := list_choice _ n hx
    refine ⟨some a, _, l, by rw [hll], ⟨flat_len hfl l, by omega, hm, (fun h => by cases h), fun j u hj => ⟨a, rfl, ?_⟩⟩, fun x hx => ?_⟩
    · have hjl := (List.getElem?_eq_some_iff.1 hj).1
      rw [flat_len hfl] at hjl
      have hkk : j / k < l.length := by rw [Nat.div_lt_iff_lt_mul hk]; exact hjl
      have hr : j % k < k := Nat.mod_lt _ hk
      have he := flat_get hfl l (j / k) (j % k) hkk hr
      have hj2 : j / k * k + j % k = j := by rw [Nat.mul_comm]; exact Nat.div_add_mod _ _
      rw [hj2, hj] at he
      have := (hlr _ hkk).2 _ _ he.symm
      rwa [hj2] at this
    · obtain ⟨i, hi, rfl⟩ := List.getElem_of_mem hx
      exact (hlr i hi).1
/-- a digest -/
theorem open_dg {cs : List Value} {fuel : Nat} {y : DataW H × List MemPlace} (ht : P.underlying t = some (.array 32 e)) (he : P.underlying e = some (.int .u8)) (hE : P.cellsOf e = 1) (hC : P.cellsOf t = 32)
    (h : DataW.trod enc P w base (fun _ => true) held fuel t cs = some y) : ∃ d : Dg, cs = bvs d.1 := by
  obtain ⟨xs, m, _, _, hl, hlen, hg⟩ := DataW.trod_array ht h
  rw [hC] at hl
  have hx : ∀ i, i < 32 → ∃ b : UInt8, cs[i]? = some (bv b) := by
    intro i hi
    have hi2 := hg i hi
    rw [hE, List.getElem?_eq_getElem (by omega)] at hi2
    have hone : (cs.drop (i * 1)).take 1 = [cs[i]'(by omega)] := by
      rw [Nat.mul_one, List.drop_eq_getElem_cons (by omega)]
      rfl
    rw [hone] at hi2
    obtain ⟨a, hv, _, hw⟩ := DataW.trod_int he hi2
    simp at hv
    have hb := bounds_u8 hw
    refine ⟨UInt8.ofNat a.toNat, ?_⟩
    rw [List.getElem?_eq_getElem (by omega), hv]
    simp only [bv, UInt8.toNat_ofNat', Option.some.injEq, Value.int.injEq, true_and]
    omega
  obtain ⟨l, hll, hlr⟩ := list_choice _ 32 hx
  refine ⟨⟨l, hll⟩, ?_⟩
  apply List.ext_getElem?
  intro i
  rcases Nat.lt_or_ge i 32 with h1 | h1
  · rw [hlr i (by omega)]
    simp [List.getElem?_eq_getElem (show i < l.length from by omega)]
  · rw [List.getElem?_eq_none (by omega), List.getElem?_eq_none (by simp; omega)]
/-- a part -/
theorem open_pt {g0 g1 g2 g3 : Field} (hs : P.underlying t = some (.struct #[g0, g1, g2, g3])) (h0 : P.underlying g0.type = some (.int .i64)) (h1 : P.underlying g1.type = some (.int .i64)) (h2 : P.underlying g2.type = some (.int .i64)) (h3 : P.underlying g3.type = some (.array 32 e)) (he : P.underlying e = some (.int .u8))
    (hE : P.cellsOf e = 1) (hC3 : P.cellsOf g3.type = 32) (hC : P.cellsOf t = 35) (o0 : g0.offset = 0) (o1 : g1.offset = 1) (o2 : g2.offset = 2) (o3 : g3.offset = 3) (k0 : P.cellsOf g0.type = 1) (k1 : P.cellsOf g1.type = 1) (k2 : P.cellsOf g2.type = 1)
    (cs : List Value) (fuel : Nat) (y : DataW H × List MemPlace) (h : DataW.trod enc P w base (fun _ => true) held fuel t cs = some y) : ∃ x : Pt5, ptl x = cs ∧ (I64 x.1 ∧ I64 x.2.1 ∧ I64 x.2.2.1) := by
  obtain ⟨xs, n, _, _, hl, hxl, hf⟩ := DataW.trod_struct hs h
  rw [hC] at hl
  have q0 := hf 0 g0 rfl
  have q1 := hf 1 g1 rfl
  have q2 := hf 2 g2 rfl
  have q3 := hf 3 g3 rfl
  have hxl4 : xs.length = 4 := hxl
  rw [List.getElem?_eq_getElem (by omega)] at q0 q1 q2 q3
  match cs, hl with
  | c0 :: c1 :: c2 :: rest, hl =>
    simp only [o0, k0, List.drop_zero, List.take_succ_cons, List.take_zero] at q0
    simp only [o1, k1, List.drop_succ_cons, List.drop_zero, List.take_succ_cons, List.take_zero] at q1
    simp only [o2, k2, List.drop_succ_cons, List.drop_zero, List.take_succ_cons, List.take_zero] at q2
    simp only [o3, hC3, List.drop_succ_cons, List.drop_zero] at q3
    simp only [List.length_cons] at hl
    rw [List.take_of_length_le (by omega)] at q3
    obtain ⟨a0, rfl, i0⟩ := int_cell h0 q0
    obtain ⟨a1, rfl, i1⟩ := int_cell h1 q1
    obtain ⟨a2, rfl, i2⟩ := int_cell h2 q2
    obtain ⟨dd, rfl⟩ := open_dg h3 he hE hC3 q3
    exact ⟨(a0, a1, a2, dd), rfl, i0, i1, i2⟩
end
end Go.Proofs.YtabnndjdkjkciaaGreatDoor

namespace Go.Proofs.YtabnndjdkjkciaaGreatDoor
open Go.ChangeShapes Go.WideShapes Go.ChangeAt Go.RowKit Go.Deep

section
variable {H : Type} {enc : TypeId × Value → H} {P : Program} {w : World} {base b0 : Nat} {held : Bool} {r : Reach} {t e b u : TypeId} {v : Value} {d : DataW H} {p : List MemPlace}
theorem open_cur {f0 f1 f2 f3 f5 g0 g1 g2 g3 : Field} (hs : P.underlying t = some (.struct #[f0, f1, f2, f3, f5])) (k0 : P.underlying f0.type = some (.int .i64)) (k1 : P.underlying f1.type = some (.int .i64)) (k2 : P.underlying f2.type = some (.int .i64)) (k3 : P.underlying f3.type = some (.int .i64)) (k5 : P.underlying f5.type = some (.slice b))
    (hb : P.underlying b = some (.struct #[g0, g1, g2, g3])) (h0 : P.underlying g0.type = some (.int .i64)) (h1 : P.underlying g1.type = some (.int .i64)) (h2 : P.underlying g2.type = some (.int .i64)) (h3 : P.underlying g3.type = some (.array 32 e)) (he : P.underlying e = some (.int .u8))
    (hE : P.cellsOf e = 1) (hC3 : P.cellsOf g3.type = 32) (hC : P.cellsOf b = 35) (o0 : g0.offset = 0) (o1 : g1.offset = 1) (o2 : g2.offset = 2) (o3 : g3.offset = 3) (c0 : P.cellsOf g0.type = 1) (c1 : P.cellsOf g1.type = 1) (c2 : P.cellsOf g2.type = 1)
    (hCt : P.cellsOf t = 5) (p0 : f0.offset = 0) (p1 : f1.offset = 1) (p2 : f2.offset = 2) (p3 : f3.offset = 3) (p5 : f5.offset = 4) (n0 : P.cellsOf f0.type = 1) (n1 : P.cellsOf f1.type = 1) (n2 : P.cellsOf f2.type = 1) (n3 : P.cellsOf f3.type = 1) (n5 : P.cellsOf f5.type = 1)
    (hv : Value.okWide P w r b0 t v) (h : DataW.Trod enc P w base (fun _ => true) held t v d p) :
    ∃ (f nx z q : Int) (A : Option Addr) (c : Nat) (ps : List Pt5), v = crv f nx z q A ps.length c ∧ SlP w A c ps ∧ PtsI ps := by
  obtain ⟨cs, rfl, hsz⟩ := okWide_struct hs hv
  obtain ⟨fuel, hf⟩ := h
  obtain ⟨xs, n, _, _, hl, hxl, hff⟩ := DataW.trod_struct hs hf
  have hxl6 : xs.length = 5 := hxl
  rw [hCt] at hl
  have q0 := hff 0 f0 rfl
  have q1 := hff 1 f1 rfl
  have q2 := hff 2 f2 rfl
  have q3 := hff 3 f3 rfl
  have q5 := hff 4 f5 rfl
  rw [List.getElem?_eq_getElem (by omega)] at q0 q1 q2 q3 q5
  clear hff hf hv hsz
  obtain ⟨lcs⟩ := cs
  simp only [Value.cells] at hl q0 q1 q2 q3 q5
  match lcs, hl with
  | [v0, v1, v2, v3, v4], hl =>
    simp only [p0, n0, List.drop_zero, List.take_succ_cons, List.take_zero] at q0
    simp only [p1, n1, List.drop_succ_cons, List.drop_zero, List.take_succ_cons, List.take_zero] at q1
    simp only [p2, n2, List.drop_succ_cons, List.drop_zero, List.take_succ_cons, List.take_zero] at q2
    simp only [p3, n3, List.drop_succ_cons, List.drop_zero, List.take_succ_cons, List.take_zero] at q3
    simp only [p5, n5, List.drop_succ_cons, List.drop_zero, List.take_succ_cons, List.take_zero] at q5
    obtain ⟨a0, rfl, _⟩ := int_cell k0 q0
    obtain ⟨a1, rfl, _⟩ := int_cell k1 q1
    obtain ⟨a2, rfl, _⟩ := int_cell k2 q2
    obtain ⟨a3, rfl, _⟩ := int_cell k3 q3
    obtain ⟨A, c, ps, hA, hS, hQ⟩ := open_sliceG ptl (fun x => I64 x.1 ∧ I64 x.2.1 ∧ I64 x.2.2.1) ptl_len (by decide) k5 hC (fun cs' nn y hy => open_pt hb h0 h1 h2 h3 he hE hC3 hC o0 o1 o2 o3 c0 c1 c2 cs' nn y hy) q5
    exact ⟨a0, a1, a2, a3, A, c, ps, by rw [hA], hS, hQ⟩
end
end Go.Proofs.YtabnndjdkjkciaaGreatDoor

namespace Go.Proofs.YtabnndjdkjkciaaGreatDoor
open Go.ChangeShapes Go.WideShapes Go.ChangeAt Go.RowKit Go.Deep

section
variable {H : Type} {enc : TypeId × Value → H} {P : Program} {w : World} {base b0 : Nat} {held : Bool} {r : Reach} {t e b u : TypeId} {v : Value} {d : DataW H} {p : List MemPlace}
theorem open_str2 (hs : P.underlying t = some (.array 2 e)) (he : P.underlying e = some .string) (hC : P.cellsOf t = 2) (hE : P.cellsOf e = 1) (hv : Value.okWide P w r b0 t v) (h : DataW.Trod enc P w base (fun _ => true) held t v d p) :
    ∃ a b : List UInt8, v = .agg #[.string ⟨a.toArray⟩, .string ⟨b.toArray⟩] ∧ a.length ≤ maxLen ∧ b.length ≤ maxLen := by
  simp only [Value.okWide, hs] at hv
  obtain ⟨cs, rfl, hsz, _⟩ := hv
  obtain ⟨c0, c1, rfl⟩ : ∃ c0 c1, cs = #[c0, c1] := by
    have h2 := hsz.trans hC
    match cs, h2 with
    | ⟨[x, y]⟩, _ => exact ⟨x, y, rfl⟩
  obtain ⟨fuel, hf⟩ := h
  obtain ⟨xs, m, _, _, _, hlen, hg⟩ := DataW.trod_array hs hf
  have k0 := hg 0 (by omega)
  have k1 := hg 1 (by omega)
  rw [hE, List.getElem?_eq_getElem (by omega)] at k0 k1
  simp [Value.cells] at k0 k1
  obtain ⟨a, rfl, ha⟩ := string_cell he k0
  obtain ⟨b, rfl, hb⟩ := string_cell he k1
  exact ⟨a, b, rfl, ha, hb⟩
end
end Go.Proofs.YtabnndjdkjkciaaGreatDoor
