/- WHAT IT HOLDS: arguments that are segments, arrays, opened to the words of Kit. | WHAT IT HOLDS: arguments that are parts, manifests, opened to the words of ManK. | WHAT IT HOLDS: an argument that is a part, opened; what the laid condition says of the digest's tables. -/
import Derived.Test.YtabnndjdkjkciaaGreatDoorManifestBackG05
import Derived.Test.YtabnndjdkjkciaaGreatDoorManifestBackG07
import Derived.Test.YtabnndjdkjkciaaGreatDoorManifestBackG08
import Derived.Test.YtabnndjdkjkciaaGreatDoorManifestBackG13
import Derived.MakeChecks
import Derived.LaidMore
import Derived.OpenShut
namespace Go.Proofs.YtabnndjdkjkciaaGreatDoor
open Go.ChangeShapes Go.WideShapes Go.ChangeAt Go.RowKit Go.Deep

/-- a slice of structs of one-cell fields, as a struct's field -/
theorem open_structsF {H : Type} {enc : TypeId × Value → H} {P : Program} {w : World} {base : Nat} {held : Bool} {t e : TypeId} {v : Value} {fs : Array Field}
    {T : Type} (f : T → List Value) (Q : T → Prop) (hfl : ∀ x, (f x).length = fs.size)
    (ht : P.underlying t = some (.slice e)) (he : P.underlying e = some (.struct fs)) (hone : oneCellFields P fs = true) (hC : P.cellsOf e = fs.size)
    (hel : ∀ vs : List Value, vs.length = fs.size → (∀ (j : Nat) (fd : Field), fs[j]? = some fd → ∃ (u : Value) (n : Nat) (y : DataW H × List MemPlace), vs[j]? = some u ∧ DataW.trod enc P w base (fun _ => true) held n fd.type [u] = some y) → ∃ x : T, f x = vs ∧ Q x)
    {fuel : Nat} {yy : DataW H × List MemPlace} (hf : DataW.trod enc P w base (fun _ => true) held fuel t [v] = some yy) :
    ∃ (A : Option Addr) (c : Nat) (l : List T), v = .slice A l.length c ∧ Sl w fs.size A l.length c (l.flatMap f) ∧ ∀ x ∈ l, Q x := by
  rcases open_slice_fields ht he hone hC hf with ⟨hcs, _⟩ | ⟨a, n, c, m, D, Pl, hcs, _, hl, hm, hmm, _, hi⟩
  · simp at hcs
    subst hcs
    exact ⟨none, 0, [], rfl, by simpa using Sl.none_ w fs.size, fun x hx => by simp at hx⟩
  · simp at hcs
    subst hcs
    simp only [if_true] at hmm
    subst hmm
    have hx : ∀ i, i < n → ∃ x : T, Q x ∧ ∀ j u, (f x)[j]? = some u → w.cell? (a.add (i * fs.size + j)) = some u := by
      intro i hin
      obtain ⟨ys, nn, _, _, _, hfd⟩ := hi i (by omega)
      have hc : ∀ j, j < fs.size → ∃ u : Value, w.cell? (a.add (i * fs.size + j)) = some u ∧ ∃ y : DataW H × List MemPlace, DataW.trod enc P w base (fun _ => true) held nn (fs[j]!).type [u] = some y := by
        intro j hj
        obtain ⟨u, y, h1, _, h3⟩ := hfd j fs[j] (by simp [hj])
        exact ⟨u, h1, y, by simpa [hj] using h3⟩
      obtain ⟨vs, hvl, hvr⟩ := list_choice (fun j u => w.cell? (a.add (i * fs.size + j)) = some u ∧ ∃ y : DataW H × List MemPlace, DataW.trod enc P w base (fun _ => true) held nn (fs[j]!).type [u] = some y) fs.size hc
      obtain ⟨x, hxe, hxq⟩ := hel vs hvl fun j fd hj => by
        have hjl : j < fs.size := (Array.getElem?_eq_some_iff.1 hj).1
        obtain ⟨_, y, hy⟩ := hvr j (by omega)
        have hfe : fs[j]! = fd := by
          have := (Array.getElem?_eq_some_iff.1 hj).2
          simp [hjl, this]
        rw [hfe] at hy
        exact ⟨vs[j], nn, y, List.getElem?_eq_getElem (by omega), hy⟩
      refine ⟨x, hxq, fun j u hj => ?_⟩
      rw [hxe] at hj
      obtain ⟨hjl, hju⟩ := List.getElem?_eq_some_iff.1 hj
      rw [← hju]
      exact (hvr j hjl).1
    obtain ⟨l, hll, hlr⟩ := list_choice _ n hx
    refine ⟨some a, _, l, by rw [hll], ⟨flat_len hfl l, by omega, hm, (fun h => by cases h), fun j u hj => ⟨a, rfl, ?_⟩⟩, fun x hx => ?_⟩
    · rcases Nat.eq_zero_or_pos fs.size with h0 | h0
      · have := (List.getElem?_eq_some_iff.1 hj).1
        rw [flat_len hfl, h0] at this
        omega
      · have hjl := (List.getElem?_eq_some_iff.1 hj).1
        rw [flat_len hfl] at hjl
        have hk : j / fs.size < l.length := by rw [Nat.div_lt_iff_lt_mul h0]; exact hjl
        have hr : j % fs.size < fs.size := Nat.mod_lt _ h0
        have he := flat_get hfl l (j / fs.size) (j % fs.size) hk hr
        have hj2 : j / fs.size * fs.size + j % fs.size = j := by rw [Nat.mul_comm]; exact Nat.div_add_mod _ _
        rw [hj2, hj] at he
        have := (hlr _ hk).2 _ _ he.symm
        rwa [hj2] at this
    · obtain ⟨i, hi, rfl⟩ := List.getElem_of_mem hx
      exact (hlr i hi).1

section
variable {H : Type} {enc : TypeId × Value → H} {P : Program} {w : World} {base b0 : Nat} {held : Bool} {r : Reach} {t e b u : TypeId} {v : Value} {d : DataW H} {p : List MemPlace}
theorem open_seg {g0 g1 f0 f1 : Field} (hs : P.underlying t = some (.struct #[g0, g1])) (hg0 : P.underlying g0.type = some (.int .i64)) (hg1 : P.underlying g1.type = some (.slice b)) (hb : P.underlying b = some (.struct #[f0, f1])) (h0 : P.underlying f0.type = some (.int .i64)) (h1 : P.underlying f1.type = some (.slice e)) (he : P.underlying e = some (.int .u8))
    (hCe : P.cellsOf e = 1) (hone : oneCellFields P #[f0, f1] = true) (hC : P.cellsOf b = 2) (hone2 : oneCellFields P #[g0, g1] = true) (hC2 : P.cellsOf t = 2) (hv : Value.okWide P w r b0 t v) (h : DataW.Trod enc P w base (fun _ => true) held t v d p) :
    ∃ (k : Int) (A : Option Addr) (c : Nat) (l : List CeV), v = cv k A l.length c ∧ SlC w A c l := by
  obtain ⟨v0, v1, y0, y1, n, rfl, _, _, q0, q1⟩ := Go.Joins.open_agg2 hs hone2 hC2 hv h
  obtain ⟨k, rfl, hk⟩ := int_cell hg0 q0
  obtain ⟨A, c, l, rfl, hl, hq⟩ := open_structsF cf (fun x => I64 x.1 ∧ SlB w x.2.1 x.2.2.1 x.2.2.2) (fun _ => rfl) hg1 hb hone hC (by
    intro vs hl hf
    obtain ⟨u0, n0, y0, e0, t0⟩ := hf 0 f0 rfl
    obtain ⟨u1, n1, y1, e1, t1⟩ := hf 1 f1 rfl
    obtain ⟨k, rfl, hk⟩ := int_cell h0 t0
    obtain ⟨A, c, l, rfl, hb⟩ := bytes_cell h1 he hCe t1
    match vs, hl with
    | [x0, x1], _ =>
      simp at e0 e1
      exact ⟨(k, A, c, l), by simp [cf, e0, e1], hk, hb⟩) q1
  exact ⟨k, A, c, l, rfl, ⟨hl, fun x hx => (hq x hx).2⟩⟩
end
end Go.Proofs.YtabnndjdkjkciaaGreatDoor

namespace Go.Proofs.YtabnndjdkjkciaaGreatDoor
open Go.ChangeShapes Go.WideShapes Go.ChangeAt Go.RowKit Go.Deep

section
variable {H : Type} {enc : TypeId × Value → H} {P : Program} {w : World} {base b0 : Nat} {held : Bool} {r : Reach} {t e b u : TypeId} {v : Value} {d : DataW H} {p : List MemPlace}
/-- a slice of elements of so many cells -/
theorem open_sliceG {T : Type} (f : T → List Value) (Q : T → Prop) {k : Nat} (hfl : ∀ x, (f x).length = k) (hk : 0 < k) (ht : P.underlying t = some (.slice e)) (hC : P.cellsOf e = k)
    (hel : ∀ (cs' : List Value) (n : Nat) (y : DataW H × List MemPlace), DataW.trod enc P w base (fun _ => true) held n e cs' = some y → ∃ x : T, f x = cs' ∧ Q x)
    {fuel : Nat} {yy : DataW H × List MemPlace} (hf : DataW.trod enc P w base (fun _ => true) held fuel t [v] = some yy) :
    ∃ (A : Option Addr) (c : Nat) (l : List T), v = .slice A l.length c ∧ Sl w k A l.length c (l.flatMap f) ∧ ∀ x ∈ l, Q x := by
  rcases open_slice ht hf with ⟨hcs, _⟩ | ⟨a, n, c, m, nn, D, Pl, hcs, _, hl, hm, hmm, _, hi⟩
  · simp at hcs
    subst hcs
    exact ⟨none, 0, [], rfl, by simpa using Sl.none_ w k, fun x hx => by simp at hx⟩
  · simp at hcs
    subst hcs
    simp only [if_true] at hmm
    subst hmm
    have hx : ∀ i, i < n → ∃ x : T, Q x ∧ ∀ j u, (f x)[j]? = some u → w.cell? (a.add (i * k + j)) = some u := by
      intro i hin
      obtain ⟨cs', hc, ht'⟩ := hi i (by omega)
      rw [hC] at hc
      obtain ⟨_, hcl, hat⟩ := World.cells?_some hc
      obtain ⟨x, hxe, hxq⟩ := hel cs' nn _ ht'
      refine ⟨x, hxq, fun j u hj => ?_⟩
      have hjk : j < k := by rw [← hfl x]; exact (List.getElem?_eq_some_iff.1 hj).1
      rw [hxe] at hj
      rw [← Go.Deep.add_add, hat j hjk, hj]
    obtain ⟨l, hll, hlr⟩ := list_choice _ n hx
    refine ⟨some a, _, l, by rw [hll], ⟨flat_len hfl l, by omega, hm, (fun h => by cases h), fun j u hj => ⟨a, rfl, ?_⟩⟩, fun x hx => ?_⟩
    · have hjl := (List.getElem?_eq_some_iff.1 hj).1
      rw [flat_len hfl] at hjl
      have hkk : j / k < l.length := by rw [Nat.div_lt_iff_lt_mul hk]; exact hjl
      have hr : j % k < k := Nat.mod_lt _ hk
      have he := flat_get hfl l (j / k) (j % k) hkk hr
      have hj2 : j / k * k + j % k = j := by rw [Nat.mul_comm]; exact Nat.div_add_mod _ _
      rw [hj2, hj] at he
      have := (hlr _ hkk).2 _ _ he.symm
      rwa [hj2] at this
    · obtain ⟨i, hi, rfl⟩ := List.getElem_of_mem hx
      exact (hlr i hi).1
/-- a digest -/
theorem open_dg {cs : List Value} {fuel : Nat} {y : DataW H × List MemPlace} (ht : P.underlying t = some (.array 32 e)) (he : P.underlying e = some (.int .u8)) (hE : P.cellsOf e = 1) (hC : P.cellsOf t = 32)
    (h : DataW.trod enc P w base (fun _ => true) held fuel t cs = some y) : ∃ d : Dg, cs = bvs d.1 := by
  obtain ⟨xs, m, _, _, hl, hlen, hg⟩ := DataW.trod_array ht h
  rw [hC] at hl
  have hx : ∀ i, i < 32 → ∃ b : UInt8, cs[i]? = some (bv b) := by
    intro i hi
    have hi2 := hg i hi
    rw [hE, List.getElem?_eq_getElem (by omega)] at hi2
    have hone : (cs.drop (i * 1)).take 1 = [cs[i]'(by omega)] := by
      rw [Nat.mul_one, List.drop_eq_getElem_cons (by omega)]
      rfl
    rw [hone] at hi2
    obtain ⟨a, hv, _, hw⟩ := DataW.trod_int he hi2
    simp at hv
    have hb := bounds_u8 hw
    refine ⟨UInt8.ofNat a.toNat, ?_⟩
    rw [List.getElem?_eq_getElem (by omega), hv]
    simp only [bv, UInt8.toNat_ofNat', Option.some.injEq, Value.int.injEq, true_and]
    omega
  obtain ⟨l, hll, hlr⟩ := list_choice _ 32 hx
  refine ⟨⟨l, hll⟩, ?_⟩
  apply List.ext_getElem?
  intro i
  rcases Nat.lt_or_ge i 32 with h1 | h1
  · rw [hlr i (by omega)]
    simp [List.getElem?_eq_getElem (show i < l.length from by omega)]
  · rw [List.getElem?_eq_none (by omega), List.getElem?_eq_none (by simp; omega)]
/-- a part -/
theorem open_pt {g0 g1 g2 g3 : Field} (hs : P.underlying t = some (.struct #[g0, g1, g2, g3])) (h0 : P.underlying g0.type = some (.int .i64)) (h1 : P.underlying g1.type = some (.int .i64)) (h2 : P.underlying g2.type = some (.int .i64)) (h3 : P.underlying g3.type = some (.array 32 e)) (he : P.underlying e = some (.int .u8))
    (hE : P.cellsOf e = 1) (hC3 : P.cellsOf g3.type = 32) (hC : P.cellsOf t = 35) (o0 : g0.offset = 0) (o1 : g1.offset = 1) (o2 : g2.offset = 2) (o3 : g3.offset = 3) (k0 : P.cellsOf g0.type = 1) (k1 : P.cellsOf g1.type = 1) (k2 : P.cellsOf g2.type = 1)
    (cs : List Value) (fuel : Nat) (y : DataW H × List MemPlace) (h : DataW.trod enc P w base (fun _ => true) held fuel t cs = some y) : ∃ x : Pt5, ptl x = cs ∧ (I64 x.1 ∧ I64 x.2.1 ∧ I64 x.2.2.1) := by
  obtain ⟨xs, n, _, _, hl, hxl, hf⟩ := DataW.trod_struct hs h
  rw [hC] at hl
  have q0 := hf 0 g0 rfl
  have q1 := hf 1 g1 rfl
  have q2 := hf 2 g2 rfl
  have q3 := hf 3 g3 rfl
  have hxl4 : xs.length = 4 := hxl
  rw [List.getElem?_eq_getElem (by omega)] at q0 q1 q2 q3
  match cs, hl with
  | c0 :: c1 :: c2 :: rest, hl =>
    simp only [o0, k0, List.drop_zero, List.take_succ_cons, List.take_zero] at q0
    simp only [o1, k1, List.drop_succ_cons, List.drop_zero, List.take_succ_cons, List.take_zero] at q1
    simp only [o2, k2, List.drop_succ_cons, List.drop_zero, List.take_succ_cons, List.take_zero] at q2
    simp only [o3, hC3, List.drop_succ_cons, List.drop_zero] at q3
    simp only [List.length_cons] at hl
    rw [List.take_of_length_le (by omega)] at q3
    obtain ⟨a0, rfl, i0⟩ := int_cell h0 q0
    obtain ⟨a1, rfl, i1⟩ := int_cell h1 q1
    obtain ⟨a2, rfl, i2⟩ := int_cell h2 q2
    obtain ⟨dd, rfl⟩ := open_dg h3 he hE hC3 q3
    exact ⟨(a0, a1, a2, dd), rfl, i0, i1, i2⟩
/-- a manifest -/
theorem open_mf {f0 f1 f2 f3 f4 f5 g0 g1 g2 g3 : Field} (hs : P.underlying t = some (.struct #[f0, f1, f2, f3, f4, f5])) (k0 : P.underlying f0.type = some (.int .i64)) (k1 : P.underlying f1.type = some (.int .i64)) (k2 : P.underlying f2.type = some (.int .i64)) (k3 : P.underlying f3.type = some (.int .i64)) (k4 : P.underlying f4.type = some (.array 32 e)) (k5 : P.underlying f5.type = some (.slice b))
    (hb : P.underlying b = some (.struct #[g0, g1, g2, g3])) (h0 : P.underlying g0.type = some (.int .i64)) (h1 : P.underlying g1.type = some (.int .i64)) (h2 : P.underlying g2.type = some (.int .i64)) (h3 : P.underlying g3.type = some (.array 32 e)) (he : P.underlying e = some (.int .u8))
    (hE : P.cellsOf e = 1) (hC3 : P.cellsOf g3.type = 32) (hC : P.cellsOf b = 35) (o0 : g0.offset = 0) (o1 : g1.offset = 1) (o2 : g2.offset = 2) (o3 : g3.offset = 3) (c0 : P.cellsOf g0.type = 1) (c1 : P.cellsOf g1.type = 1) (c2 : P.cellsOf g2.type = 1)
    (hCt : P.cellsOf t = 37) (p0 : f0.offset = 0) (p1 : f1.offset = 1) (p2 : f2.offset = 2) (p3 : f3.offset = 3) (p4 : f4.offset = 4) (p5 : f5.offset = 36) (n0 : P.cellsOf f0.type = 1) (n1 : P.cellsOf f1.type = 1) (n2 : P.cellsOf f2.type = 1) (n3 : P.cellsOf f3.type = 1) (n4 : P.cellsOf f4.type = 32) (n5 : P.cellsOf f5.type = 1)
    (hv : Value.okWide P w r b0 t v) (h : DataW.Trod enc P w base (fun _ => true) held t v d p) :
    ∃ (n f z q : Int) (dd : Dg) (A : Option Addr) (c : Nat) (ps : List Pt5), v = .agg (mfa n f z q dd A ps.length c) ∧ SlP w A c ps ∧ PtsI ps := by
  obtain ⟨cs, rfl, hsz⟩ := okWide_struct hs hv
  obtain ⟨fuel, hf⟩ := h
  obtain ⟨xs, n, _, _, hl, hxl, hff⟩ := DataW.trod_struct hs hf
  have hxl6 : xs.length = 6 := hxl
  rw [hCt] at hl
  have q0 := hff 0 f0 rfl
  have q1 := hff 1 f1 rfl
  have q2 := hff 2 f2 rfl
  have q3 := hff 3 f3 rfl
  have q4 := hff 4 f4 rfl
  have q5 := hff 5 f5 rfl
  rw [List.getElem?_eq_getElem (by omega)] at q0 q1 q2 q3 q4 q5
  clear hff hf hv hsz
  obtain ⟨lcs⟩ := cs
  simp only [Value.cells] at hl q0 q1 q2 q3 q4 q5
  match lcs, hl with
  | v0 :: v1 :: v2 :: v3 :: rest, hl =>
    simp only [List.length_cons] at hl
    simp only [p0, n0, List.drop_zero, List.take_succ_cons, List.take_zero] at q0
    simp only [p1, n1, List.drop_succ_cons, List.drop_zero, List.take_succ_cons, List.take_zero] at q1
    simp only [p2, n2, List.drop_succ_cons, List.drop_zero, List.take_succ_cons, List.take_zero] at q2
    simp only [p3, n3, List.drop_succ_cons, List.drop_zero, List.take_succ_cons, List.take_zero] at q3
    simp only [p4, n4, List.drop_succ_cons, List.drop_zero] at q4
    simp only [p5, n5, List.drop_succ_cons] at q5
    obtain ⟨a0, rfl, _⟩ := int_cell k0 q0
    obtain ⟨a1, rfl, _⟩ := int_cell k1 q1
    obtain ⟨a2, rfl, _⟩ := int_cell k2 q2
    obtain ⟨a3, rfl, _⟩ := int_cell k3 q3
    obtain ⟨dd, hdd⟩ := open_dg k4 he hE n4 q4
    have hone : (rest.drop 32).take 1 = [rest[32]'(by omega)] := by
      rw [List.drop_eq_getElem_cons (by omega)]
      rfl
    rw [hone] at q5
    obtain ⟨A, c, ps, hA, hS, hQ⟩ := open_sliceG ptl (fun x => I64 x.1 ∧ I64 x.2.1 ∧ I64 x.2.2.1) ptl_len (by decide) k5 hC (fun cs' nn y hy => open_pt hb h0 h1 h2 h3 he hE hC3 hC o0 o1 o2 o3 c0 c1 c2 cs' nn y hy) q5
    have hrest : rest = bvs dd.1 ++ [.slice A ps.length c] := by
      rw [← List.take_append_drop 32 rest, hdd, List.drop_eq_getElem_cons (by omega), hA, List.drop_eq_nil_of_le (by omega)]
    exact ⟨a0, a1, a2, a3, dd, A, c, ps, by rw [hrest]; rfl, hS, hQ⟩
end
end Go.Proofs.YtabnndjdkjkciaaGreatDoor

namespace Go.Proofs.YtabnndjdkjkciaaGreatDoor
open Go.ChangeShapes Go.WideShapes Go.ChangeAt Go.RowKit Go.Deep

section
variable {H : Type} {enc : TypeId × Value → H} {P : Program} {w : World} {base b0 : Nat} {held : Bool} {r : Reach} {t e b u : TypeId} {v : Value} {d : DataW H} {p : List MemPlace}
end
/-- a laid array of words, cell by cell -/
theorem laid_words {P : Program} {W : World} {g : Nat} {nm : String} {t e : TypeId} {n fuel : Nat} {cs : Array Value} {xs : List (DataW Unit)} {p : List MemPlace} {ks : List Nat} (hg : P.globalNamed nm = some g) (hv : W.var? P nm = some cs)
    (ht : P.underlying t = some (.array n e)) (he : P.underlying e = some (.int .u32)) (hE : P.cellsOf e = 1) (hC : P.cellsOf t = n) (hd : DataW.trod (fun _ => ()) P W 0 (fun _ => true) false fuel t cs.toList = some (.agg xs, p))
    (hx : xs = ks.map fun k => .lit (.int .u32 (k : Nat))) (hn : ks.length = n) : ∀ i, i < n → W.cell? ⟨g, i, none⟩ = some (.int .u32 (ks.getD i 0 : Nat)) := fun i hi => by
  obtain ⟨ys, m, _, ex, hl, hyl, hel⟩ := DataW.trod_array ht hd
  rw [hC] at hl
  have h1 := hel i hi
  rw [hE, List.getElem?_eq_getElem (by omega)] at h1
  have hone : (cs.toList.drop (i * 1)).take 1 = [cs.toList[i]'(by omega)] := by
    rw [Nat.mul_one, List.drop_eq_getElem_cons (by omega)]
    rfl
  rw [hone] at h1
  obtain ⟨a, hc, hy, _⟩ := DataW.trod_int he h1
  simp only [List.cons.injEq, and_true] at hc
  have hex := (Prod.mk.injEq _ _ _ _).mp ex |>.1
  injection hex with hex
  rw [hx] at hex
  have h2 : (ks.map fun k => (DataW.lit (.int .u32 (k : Nat)) : DataW Unit))[i]? = (ys.map (·.1))[i]? := by rw [hex]
  rw [List.getElem?_map, List.getElem?_map, List.getElem?_eq_getElem (show i < ks.length by omega), List.getElem?_eq_getElem (show i < ys.length by omega), Option.map_some, Option.map_some, hy] at h2
  injection h2 with h2
  injection h2 with h2
  injection h2 with _ h2
  rw [World.var?_cell hg hv i, ← Array.getElem?_toList, List.getElem?_eq_getElem (by omega), hc, ← h2, List.getD_eq_getElem?_getD, List.getElem?_eq_getElem (show i < ks.length by omega)]
  rfl
theorem gShaK : Tryz.prog.globalNamed "holdfast/sha.constants" = some 1 := by kernel_rfl
theorem gShaF : Tryz.prog.globalNamed "holdfast/sha.firsts" = some 0 := by kernel_rfl
theorem tShaK : (Tryz.prog.globals[1]?).map (·.type) = some 288 := by kernel_rfl
theorem tShaF : (Tryz.prog.globals[0]?).map (·.type) = some 222 := by kernel_rfl
theorem of_sha {W : World} (h : laidMetH Tryz.prog [("holdfast/sha.constants", Rows.laid_holdfast_sha_constants), ("holdfast/sha.firsts", Rows.laid_holdfast_sha_firsts)] W) : Shg W := by
  rw [MakeChecks.laidMetH_plain _ _ _ (by kernel_rfl)] at h
  obtain ⟨ps, ⟨g0, t0, cs0, f0, p0, q0, hg0, ht0, hv0, hd0, ⟨g1, t1, cs1, f1, p1, q1, hg1, ht1, hv1, hd1, _, _⟩, _⟩, _, _⟩ := h
  obtain rfl := Option.some.inj (tShaK.symm.trans ((show some g0 = some 1 from hg0.symm.trans gShaK) |> fun e => by injection e with e; rw [← e]; exact ht0))
  obtain rfl := Option.some.inj (tShaF.symm.trans ((show some g1 = some 0 from hg1.symm.trans gShaF) |> fun e => by injection e with e; rw [← e]; exact ht1))
  refine ⟨fun i hi => ?_, fun i hi => ?_⟩
  · have h1 := laid_words (ks := shaK.map (·.toNat)) gShaK hv0 Tryz.underlying288 Tryz.underlying221 (by kernel_rfl) (by kernel_rfl) hd0 (by kernel_rfl) (by kernel_rfl) i hi
    rw [h1]
    have hl : i < shaK.length := hi
    simp [wn, List.getD_eq_getElem?_getD, hl]
  · have h1 := laid_words (ks := shaH.l.map (·.toNat)) gShaF hv1 Tryz.underlying222 Tryz.underlying221 (by kernel_rfl) (by kernel_rfl) hd1 (by kernel_rfl) (by kernel_rfl) i hi
    rw [h1]
    have hl : i < shaH.l.length := hi
    simp [wn, List.getD_eq_getElem?_getD, hl]
end Go.Proofs.YtabnndjdkjkciaaGreatDoor
