/- WHAT IT HOLDS: arguments that are slices of segments, of lists of cells, acts of a vault, opened to the words of Kit. | WHAT IT HOLDS: files by names, and disks, plainly (no program). | WHAT IT HOLDS: a map from names to slices of bytes in memory: looked up, written, struck, counted. | WHAT IT HOLDS: a row of the call's own, written in place; rows of other types beside it. | WHAT IT HOLDS: a call's own blocks, carried together through a walk. | WHAT IT HOLDS: changes done on files, walked; how many bytes there are. | WHAT IT HOLDS: how many bytes files have, walked; which texts are names, walked; a map's copy. -/
import Derived.Test.YtajfnmohlnkncaaGreatDoorVaultNilG04
import Derived.Test.YtajfnmohlnkncaaGreatDoorVaultNilG06
import Derived.Test.YtajfnmohlnkncaaGreatDoorVaultNilG08
import Derived.Maps.Own
import Derived.Maps.Views
import Derived.Sort.KeysCollected
import Derived.Test.YtajfnmohlnkncaaGreatDoorVaultNilG01
import Derived.Maps.RangeWalk
import Derived.StringKeys
import Derived.Test.YtajfnmohlnkncaaGreatDoorVaultNilG03
import Derived.Test.YtajfnmohlnkncaaGreatDoorShelf
namespace Go.Proofs.YtajfnmohlnkncaaGreatDoor
open Go.ChangeShapes Go.WideShapes Go.ChangeAt Go.RowKit Go.Deep

/-- a segment: its first address, its cells -/
abbrev SgV := Int × Option Addr × Nat × List CeV
def sgl (x : SgV) : List Value := [.int .i64 x.1, .slice x.2.1 x.2.2.2.length x.2.2.1]
theorem sgl_len (x : SgV) : (sgl x).length = 2 := rfl
def SgOk (w : World) (x : SgV) : Prop := SlC w x.2.1 x.2.2.1 x.2.2.2 ∧ (∀ y ∈ x.2.2.2, I64 y.1) ∧ I64 x.1
theorem SgOk.below {w w' : World} {x : SgV} (h : SgOk w x) (hb : Below w.heap.size w w') : SgOk w' x := ⟨h.1.below hb, h.2⟩
/-- an act of a vault: its kind, its numbers, whether it is made, a segment, a manifest, an act of its disk, what is kept -/
structure VA where
  k : Int
  n : Int
  p : Int
  x : Int
  au : Bool
  s : SgV
  m : Mf
  mA : Option Addr
  mc : Nat
  d : DA
  B : Option Addr
  kc : Nat
  ks : List Bool
def mfc (m : Mf) (A : Option Addr) (c : Nat) : List Value := mfl m.1 m.2.1 m.2.2.1 m.2.2.2.1 m.2.2.2.2.1 A m.2.2.2.2.2.length c
theorem mfc_len (m : Mf) (A : Option Addr) (c : Nat) : (mfc m A c).length = 37 := mfl_len _ _ _ _ _ _ _ _
def vac (a : VA) : List Value := [.int .i64 a.k, .int .i64 a.n, .int .i64 a.p, .int .i64 a.x, .bool a.au] ++ sgl a.s ++ mfc a.m a.mA a.mc ++ dac a.d ++ [.slice a.B a.ks.length a.kc]
def vaa (a : VA) : Array Value := (vac a).toArray
theorem vac_len (a : VA) : (vac a).length = 51 := by
  unfold vac
  simp only [List.length_append, mfc_len, sgl_len, dac_len, List.length_cons, List.length_nil]
theorem vaa_size (a : VA) : (vaa a).size = 51 := by
  have := vac_len a
  simpa [vaa] using this
/-- what lies where -/
theorem vaa_cells (a : VA) : (vaa a)[0]? = some (.int .i64 a.k) ∧ (vaa a)[1]? = some (.int .i64 a.n) ∧ (vaa a)[2]? = some (.int .i64 a.p) ∧ (vaa a)[3]? = some (.int .i64 a.x) ∧ (vaa a)[4]? = some (.bool a.au) ∧ (vaa a)[5]? = some (.int .i64 a.s.1) ∧ (vaa a)[6]? = some (.slice a.s.2.1 a.s.2.2.2.length a.s.2.2.1) ∧
    (vaa a)[43]? = some (.slice a.mA a.m.2.2.2.2.2.length a.mc) ∧ (vaa a)[44]? = some (.int .i64 a.d.k) ∧ (vaa a)[45]? = some (.string ⟨a.d.n.toArray⟩) ∧ (vaa a)[46]? = some (.string ⟨a.d.t.toArray⟩) ∧ (vaa a)[47]? = some (.slice a.d.A a.d.l.length a.d.c) ∧ (vaa a)[48]? = some (.int .i64 a.d.f) ∧ (vaa a)[49]? = some (.slice a.d.B a.d.ks.length a.d.kc) ∧ (vaa a)[50]? = some (.slice a.B a.ks.length a.kc) := by
  have h := a.m.2.2.2.2.1.2
  refine ⟨?_, ?_, ?_, ?_, ?_, ?_, ?_, ?_, ?_, ?_, ?_, ?_, ?_, ?_, ?_⟩ <;> simp [vaa, vac, sgl, mfc, mfl, dac, List.getElem?_append, h]
theorem vaa_mf (a : VA) (j : Nat) (hj : j < 37) : (vaa a)[7 + j]? = (mfc a.m a.mA a.mc)[j]? := by
  have h := mfc_len a.m a.mA a.mc
  unfold vaa vac
  rw [List.getElem?_toArray, List.append_assoc, List.append_assoc, List.append_assoc, List.getElem?_append_right (by simp; omega), List.getElem?_append_right (by simp [sgl]; omega), List.getElem?_append_left (by simp [sgl]; omega)]
  congr 1
  simp [sgl]
  omega
theorem vaa_one (a : VA) : (vaa a).all (·.oneCell') = true := by
  rw [Array.all_eq_true']
  intro u hu
  have h9 : u ∈ vac a := by simpa [vaa] using hu
  unfold vac at h9
  simp only [List.mem_append] at h9
  rcases h9 with (((h9 | h9) | h9) | h9) | h9
  · simp at h9
    rcases h9 with rfl | rfl | rfl | rfl | rfl <;> rfl
  · simp [sgl] at h9
    rcases h9 with rfl | rfl <;> rfl
  · have h8 := mfa_all a.m.1 a.m.2.1 a.m.2.2.1 a.m.2.2.2.1 a.m.2.2.2.2.1 a.mA a.m.2.2.2.2.2.length a.mc
    rw [Array.all_eq_true'] at h8
    exact h8 u (by simpa [mfa, mfc] using h9)
  · simp [dac] at h9
    rcases h9 with rfl | rfl | rfl | rfl | rfl | rfl <;> rfl
  · simp at h9
    subst h9
    rfl
def VAok (w : World) (a : VA) : Prop := SgOk w a.s ∧ SlP w a.mA a.mc a.m.2.2.2.2.2 ∧ DAok w a.d ∧ SlZ w a.B a.kc a.ks ∧ I64 a.k ∧ I64 a.n ∧ I64 a.p ∧ I64 a.x ∧ I64 a.m.1 ∧ I64 a.m.2.1 ∧ I64 a.m.2.2.1 ∧ I64 a.m.2.2.2.1 ∧ PtsI a.m.2.2.2.2.2
theorem VAok.below {w w' : World} {a : VA} (h : VAok w a) (hb : Below w.heap.size w w') : VAok w' a := ⟨h.1.below hb, h.2.1.below hb, h.2.2.1.below hb, Sl.below h.2.2.2.1 hb, h.2.2.2.2⟩
def SlVA (w : World) (A : Option Addr) (c : Nat) (s : List VA) : Prop := Sl w 51 A s.length c (s.flatMap vac) ∧ ∀ a ∈ s, VAok w a
theorem SlVA.below {w w' : World} {A : Option Addr} {c : Nat} {s : List VA} (h : SlVA w A c s) (hb : Below w.heap.size w w') : SlVA w' A c s := ⟨h.1.below hb, fun a ha => (h.2 a ha).below hb⟩
section
variable {H : Type} {enc : TypeId × Value → H} {P : Program} {w : World} {base b0 : Nat} {held : Bool} {r : Reach} {t e b z u pp ar : TypeId} {v : Value} {d : DataW H} {p : List MemPlace}
theorem cells_cell {f0 f1 : Field} {n : Nat} {y : DataW H × List MemPlace} (ht : P.underlying t = some (.slice b)) (hb : P.underlying b = some (.struct #[f0, f1])) (h0 : P.underlying f0.type = some (.int .i64)) (h1 : P.underlying f1.type = some (.slice e)) (he : P.underlying e = some (.int .u8))
    (hCe : P.cellsOf e = 1) (hone : oneCellFields P #[f0, f1] = true) (hC : P.cellsOf b = 2) (h : DataW.trod enc P w base (fun _ => true) held n t [v] = some y) : ∃ (A : Option Addr) (c : Nat) (l : List CeV), v = .slice A l.length c ∧ SlC w A c l ∧ ∀ x ∈ l, I64 x.1 := by
  obtain ⟨A, c, l, rfl, hl, hq⟩ := open_structsF cf (fun x => I64 x.1 ∧ SlB w x.2.1 x.2.2.1 x.2.2.2) (fun _ => rfl) ht hb hone hC (by
    intro vs hl hf
    obtain ⟨u0, n0, y0, e0, t0⟩ := hf 0 f0 rfl
    obtain ⟨u1, n1, y1, e1, t1⟩ := hf 1 f1 rfl
    obtain ⟨k, rfl, hk⟩ := int_cell h0 t0
    obtain ⟨A, c, l, rfl, hb⟩ := bytes_cell h1 he hCe t1
    match vs, hl with
    | [x0, x1], _ =>
      simp at e0 e1
      exact ⟨(k, A, c, l), by simp [cf, e0, e1], hk, hb⟩) h
  exact ⟨A, c, l, rfl, ⟨hl, fun x hx => (hq x hx).2⟩, fun x hx => (hq x hx).1⟩
/-- a segment inside of another value -/
theorem open_sg {g0 g1 f0 f1 : Field} (hs : P.underlying t = some (.struct #[g0, g1])) (hg0 : P.underlying g0.type = some (.int .i64)) (hg1 : P.underlying g1.type = some (.slice b)) (hb : P.underlying b = some (.struct #[f0, f1])) (h0 : P.underlying f0.type = some (.int .i64)) (h1 : P.underlying f1.type = some (.slice e)) (he : P.underlying e = some (.int .u8))
    (hCe : P.cellsOf e = 1) (hone : oneCellFields P #[f0, f1] = true) (hC : P.cellsOf b = 2) (hone2 : oneCellFields P #[g0, g1] = true) (hC2 : P.cellsOf t = 2)
    (cs : List Value) (fuel : Nat) (y : DataW H × List MemPlace) (h : DataW.trod enc P w base (fun _ => true) held fuel t cs = some y) : ∃ x : SgV, sgl x = cs ∧ SgOk w x := by
  obtain ⟨xs, n, _, _, hl, hxl, hf⟩ := DataW.trod_struct hs h
  rw [hC2] at hl
  have q0 := hf 0 g0 rfl
  have q1 := hf 1 g1 rfl
  obtain ⟨o0, k0⟩ := hone_of hone2 0 g0 rfl
  obtain ⟨o1, k1⟩ := hone_of hone2 1 g1 rfl
  have hxl2 : xs.length = 2 := hxl
  rw [List.getElem?_eq_getElem (by omega)] at q0 q1
  match cs, hl with
  | [c0, c1], _ =>
    simp only [o0, k0, List.drop_zero, List.take_succ_cons, List.take_zero] at q0
    simp only [o1, k1, List.drop_succ_cons, List.drop_zero, List.take_succ_cons, List.take_zero] at q1
    obtain ⟨k, rfl, hk⟩ := int_cell hg0 q0
    obtain ⟨A, c, l, rfl, hS, hI⟩ := cells_cell hg1 hb h0 h1 he hCe hone hC q1
    exact ⟨(k, A, c, l), rfl, hS, hI, hk⟩
/-- a manifest inside of another value -/
theorem open_mfE {f0 f1 f2 f3 f4 f5 g0 g1 g2 g3 : Field} (hs : P.underlying t = some (.struct #[f0, f1, f2, f3, f4, f5])) (k0 : P.underlying f0.type = some (.int .i64)) (k1 : P.underlying f1.type = some (.int .i64)) (k2 : P.underlying f2.type = some (.int .i64)) (k3 : P.underlying f3.type = some (.int .i64)) (k4 : P.underlying f4.type = some (.array 32 e)) (k5 : P.underlying f5.type = some (.slice b))
    (hb : P.underlying b = some (.struct #[g0, g1, g2, g3])) (h0 : P.underlying g0.type = some (.int .i64)) (h1 : P.underlying g1.type = some (.int .i64)) (h2 : P.underlying g2.type = some (.int .i64)) (h3 : P.underlying g3.type = some (.array 32 e)) (he : P.underlying e = some (.int .u8))
    (hE : P.cellsOf e = 1) (hC3 : P.cellsOf g3.type = 32) (hC : P.cellsOf b = 35) (o0 : g0.offset = 0) (o1 : g1.offset = 1) (o2 : g2.offset = 2) (o3 : g3.offset = 3) (c0 : P.cellsOf g0.type = 1) (c1 : P.cellsOf g1.type = 1) (c2 : P.cellsOf g2.type = 1)
    (hCt : P.cellsOf t = 37) (p0 : f0.offset = 0) (p1 : f1.offset = 1) (p2 : f2.offset = 2) (p3 : f3.offset = 3) (p4 : f4.offset = 4) (p5 : f5.offset = 36) (n0 : P.cellsOf f0.type = 1) (n1 : P.cellsOf f1.type = 1) (n2 : P.cellsOf f2.type = 1) (n3 : P.cellsOf f3.type = 1) (n4 : P.cellsOf f4.type = 32) (n5 : P.cellsOf f5.type = 1)
    (cs : List Value) (fuel : Nat) (y : DataW H × List MemPlace) (h : DataW.trod enc P w base (fun _ => true) held fuel t cs = some y) :
    ∃ (m : Mf) (A : Option Addr) (c : Nat), cs = mfc m A c ∧ SlP w A c m.2.2.2.2.2 ∧ I64 m.1 ∧ I64 m.2.1 ∧ I64 m.2.2.1 ∧ I64 m.2.2.2.1 ∧ PtsI m.2.2.2.2.2 := by
  obtain ⟨xs, n, _, _, hl, hxl, hff⟩ := DataW.trod_struct hs h
  have hxl6 : xs.length = 6 := hxl
  rw [hCt] at hl
  have q0 := hff 0 f0 rfl
  have q1 := hff 1 f1 rfl
  have q2 := hff 2 f2 rfl
  have q3 := hff 3 f3 rfl
  have q4 := hff 4 f4 rfl
  have q5 := hff 5 f5 rfl
  rw [List.getElem?_eq_getElem (by omega)] at q0 q1 q2 q3 q4 q5
  clear hff h
  match cs, hl with
  | v0 :: v1 :: v2 :: v3 :: rest, hl =>
    simp only [List.length_cons] at hl
    simp only [p0, n0, List.drop_zero, List.take_succ_cons, List.take_zero] at q0
    simp only [p1, n1, List.drop_succ_cons, List.drop_zero, List.take_succ_cons, List.take_zero] at q1
    simp only [p2, n2, List.drop_succ_cons, List.drop_zero, List.take_succ_cons, List.take_zero] at q2
    simp only [p3, n3, List.drop_succ_cons, List.drop_zero, List.take_succ_cons, List.take_zero] at q3
    simp only [p4, n4, List.drop_succ_cons, List.drop_zero] at q4
    simp only [p5, n5, List.drop_succ_cons] at q5
    obtain ⟨a0, rfl, j0⟩ := int_cell k0 q0
    obtain ⟨a1, rfl, j1⟩ := int_cell k1 q1
    obtain ⟨a2, rfl, j2⟩ := int_cell k2 q2
    obtain ⟨a3, rfl, j3⟩ := int_cell k3 q3
    obtain ⟨dd, hdd⟩ := open_dg k4 he hE n4 q4
    have hone : (rest.drop 32).take 1 = [rest[32]'(by omega)] := by
      rw [List.drop_eq_getElem_cons (by omega)]
      rfl
    rw [hone] at q5
    obtain ⟨A, c, ps, hA, hS, hQ⟩ := open_sliceG ptl (fun x => I64 x.1 ∧ I64 x.2.1 ∧ I64 x.2.2.1) ptl_len (by decide) k5 hC (fun cs' nn y hy => open_pt hb h0 h1 h2 h3 he hE hC3 hC o0 o1 o2 o3 c0 c1 c2 cs' nn y hy) q5
    have hrest : rest = bvs dd.1 ++ [.slice A ps.length c] := by
      rw [← List.take_append_drop 32 rest, hdd, List.drop_eq_getElem_cons (by omega), hA, List.drop_eq_nil_of_le (by omega)]
    exact ⟨(a0, a1, a2, a3, dd, ps), A, c, by rw [hrest]; rfl, hS, j0, j1, j2, j3, hQ⟩
/-- an act of a vault -/
theorem open_va {y0 y1 y2 y3 y4 y5 y6 y7 y8 s0 s1 l0 l1 m0 m1 m2 m3 m4 m5 g0 g1 g2 g3 f0 f1 f2 f3 f4 f5 : Field} (hg : P.underlying t = some (.struct #[y0, y1, y2, y3, y4, y5, y6, y7, y8]))
    (i0 : P.underlying y0.type = some (.int .i64)) (i1 : P.underlying y1.type = some (.int .i64)) (i2 : P.underlying y2.type = some (.int .i64)) (i3 : P.underlying y3.type = some (.int .i64)) (i4 : P.underlying y4.type = some .bool)
    (hs : P.underlying y5.type = some (.struct #[s0, s1])) (hs0 : P.underlying s0.type = some (.int .i64)) (hs1 : P.underlying s1.type = some (.slice b)) (hb : P.underlying b = some (.struct #[l0, l1])) (hl0 : P.underlying l0.type = some (.int .i64)) (hl1 : P.underlying l1.type = some (.slice e)) (he : P.underlying e = some (.int .u8))
    (hm : P.underlying y6.type = some (.struct #[m0, m1, m2, m3, m4, m5])) (k0 : P.underlying m0.type = some (.int .i64)) (k1 : P.underlying m1.type = some (.int .i64)) (k2 : P.underlying m2.type = some (.int .i64)) (k3 : P.underlying m3.type = some (.int .i64)) (k4 : P.underlying m4.type = some (.array 32 e)) (k5 : P.underlying m5.type = some (.slice pp))
    (hpt : P.underlying pp = some (.struct #[g0, g1, g2, g3])) (h0 : P.underlying g0.type = some (.int .i64)) (h1 : P.underlying g1.type = some (.int .i64)) (h2 : P.underlying g2.type = some (.int .i64)) (h3 : P.underlying g3.type = some (.array 32 e))
    (hd : P.underlying y7.type = some (.struct #[f0, f1, f2, f3, f4, f5])) (r0 : P.underlying f0.type = some (.int .i64)) (r1 : P.underlying f1.type = some .string) (r2 : P.underlying f2.type = some .string) (r3 : P.underlying f3.type = some (.slice e)) (r4 : P.underlying f4.type = some (.int .i64)) (r5 : P.underlying f5.type = some (.slice z))
    (i8 : P.underlying y8.type = some (.slice z)) (hz : P.underlying z = some .bool)
    (hCe : P.cellsOf e = 1) (hone : oneCellFields P #[l0, l1] = true) (hCb : P.cellsOf b = 2) (hone2 : oneCellFields P #[s0, s1] = true) (hC5 : P.cellsOf y5.type = 2)
    (hC3 : P.cellsOf g3.type = 32) (hCp : P.cellsOf pp = 35) (o0 : g0.offset = 0) (o1 : g1.offset = 1) (o2 : g2.offset = 2) (o3 : g3.offset = 3) (c0 : P.cellsOf g0.type = 1) (c1 : P.cellsOf g1.type = 1) (c2 : P.cellsOf g2.type = 1)
    (hC6 : P.cellsOf y6.type = 37) (p0 : m0.offset = 0) (p1 : m1.offset = 1) (p2 : m2.offset = 2) (p3 : m3.offset = 3) (p4 : m4.offset = 4) (p5 : m5.offset = 36) (n0 : P.cellsOf m0.type = 1) (n1 : P.cellsOf m1.type = 1) (n2 : P.cellsOf m2.type = 1) (n3 : P.cellsOf m3.type = 1) (n4 : P.cellsOf m4.type = 32) (n5 : P.cellsOf m5.type = 1)
    (hCz : P.cellsOf z = 1) (hone3 : oneCellFields P #[f0, f1, f2, f3, f4, f5] = true) (hC7 : P.cellsOf y7.type = 6) (hC : P.cellsOf t = 51)
    (u0 : y0.offset = 0) (u1 : y1.offset = 1) (u2 : y2.offset = 2) (u3 : y3.offset = 3) (u4 : y4.offset = 4) (u5 : y5.offset = 5) (u6 : y6.offset = 7) (u7 : y7.offset = 44) (u8 : y8.offset = 50)
    (w0 : P.cellsOf y0.type = 1) (w1 : P.cellsOf y1.type = 1) (w2 : P.cellsOf y2.type = 1) (w3 : P.cellsOf y3.type = 1) (w4 : P.cellsOf y4.type = 1) (w8 : P.cellsOf y8.type = 1)
    (cs : List Value) (fuel : Nat) (y : DataW H × List MemPlace) (h : DataW.trod enc P w base (fun _ => true) held fuel t cs = some y) : ∃ a : VA, vac a = cs ∧ VAok w a := by
  obtain ⟨xs, n, _, _, hl, hxl, hf⟩ := DataW.trod_struct hg h
  rw [hC] at hl
  have q0 := hf 0 y0 rfl
  have q1 := hf 1 y1 rfl
  have q2 := hf 2 y2 rfl
  have q3 := hf 3 y3 rfl
  have q4 := hf 4 y4 rfl
  have q5 := hf 5 y5 rfl
  have q6 := hf 6 y6 rfl
  have q7 := hf 7 y7 rfl
  have q8 := hf 8 y8 rfl
  have hxl9 : xs.length = 9 := hxl
  rw [List.getElem?_eq_getElem (by omega)] at q0 q1 q2 q3 q4 q5 q6 q7 q8
  clear hf h
  match cs, hl with
  | v0 :: v1 :: v2 :: v3 :: v4 :: v5 :: v6 :: rest, hl =>
    simp only [List.length_cons] at hl
    simp only [u0, w0, List.drop_zero, List.take_succ_cons, List.take_zero] at q0
    simp only [u1, w1, List.drop_succ_cons, List.drop_zero, List.take_succ_cons, List.take_zero] at q1
    simp only [u2, w2, List.drop_succ_cons, List.drop_zero, List.take_succ_cons, List.take_zero] at q2
    simp only [u3, w3, List.drop_succ_cons, List.drop_zero, List.take_succ_cons, List.take_zero] at q3
    simp only [u4, w4, List.drop_succ_cons, List.drop_zero, List.take_succ_cons, List.take_zero] at q4
    simp only [u5, hC5, List.drop_succ_cons, List.drop_zero, List.take_succ_cons, List.take_zero] at q5
    simp only [u6, hC6, List.drop_succ_cons, List.drop_zero] at q6
    simp only [u7, hC7, List.drop_succ_cons] at q7
    simp only [u8, w8, List.drop_succ_cons] at q8
    obtain ⟨a0, rfl, j0⟩ := int_cell i0 q0
    obtain ⟨a1, rfl, j1⟩ := int_cell i1 q1
    obtain ⟨a2, rfl, j2⟩ := int_cell i2 q2
    obtain ⟨a3, rfl, j3⟩ := int_cell i3 q3
    obtain ⟨a4, hb4, _⟩ := DataW.trod_bool i4 q4
    simp only [List.cons.injEq, and_true] at hb4
    subst hb4
    obtain ⟨sg, hsg, oks⟩ := open_sg hs hs0 hs1 hb hl0 hl1 he hCe hone hCb hone2 hC5 _ _ _ q5
    obtain ⟨m, mA, mc, hmm, okm, z0, z1, z2, z3, z4⟩ := open_mfE hm k0 k1 k2 k3 k4 k5 hpt h0 h1 h2 h3 he hCe hC3 hCp o0 o1 o2 o3 c0 c1 c2 hC6 p0 p1 p2 p3 p4 p5 n0 n1 n2 n3 n4 n5 _ _ _ q6
    obtain ⟨da, hda, okd⟩ := open_da hd r0 r1 r2 r3 r4 r5 he hz hCe hCz hone3 hC7 _ _ _ q7
    have hone9 : (rest.drop 43).take 1 = [rest[43]'(by omega)] := by
      rw [List.drop_eq_getElem_cons (by omega)]
      rfl
    rw [hone9] at q8
    obtain ⟨B, kc, ks, hB, okB⟩ := bools_cell i8 hz hCz q8
    have hrest : rest = mfc m mA mc ++ (dac da ++ [.slice B ks.length kc]) := by
      have e1 : rest = rest.take 37 ++ (rest.drop 37) := (List.take_append_drop 37 rest).symm
      have e2 : rest.drop 37 = (rest.drop 37).take 6 ++ (rest.drop 37).drop 6 := (List.take_append_drop 6 _).symm
      have e3 : (rest.drop 37).drop 6 = [.slice B ks.length kc] := by
        rw [List.drop_drop, List.drop_eq_getElem_cons (by omega), hB, List.drop_eq_nil_of_le (by omega)]
      rw [e1, e2, e3, hmm, hda]
    refine ⟨⟨a0, a1, a2, a3, a4, sg, m, mA, mc, da, B, kc, ks⟩, ?_, oks, okm, okd, okB, j0, j1, j2, j3, z0, z1, z2, z3, z4⟩
    unfold vac
    dsimp only
    rw [hsg, hrest]
    simp only [List.append_assoc]
    rfl
theorem open_vact {y0 y1 y2 y3 y4 y5 y6 y7 y8 s0 s1 l0 l1 m0 m1 m2 m3 m4 m5 g0 g1 g2 g3 f0 f1 f2 f3 f4 f5 : Field} (hg : P.underlying t = some (.struct #[y0, y1, y2, y3, y4, y5, y6, y7, y8]))
    (i0 : P.underlying y0.type = some (.int .i64)) (i1 : P.underlying y1.type = some (.int .i64)) (i2 : P.underlying y2.type = some (.int .i64)) (i3 : P.underlying y3.type = some (.int .i64)) (i4 : P.underlying y4.type = some .bool)
    (hs : P.underlying y5.type = some (.struct #[s0, s1])) (hs0 : P.underlying s0.type = some (.int .i64)) (hs1 : P.underlying s1.type = some (.slice b)) (hb : P.underlying b = some (.struct #[l0, l1])) (hl0 : P.underlying l0.type = some (.int .i64)) (hl1 : P.underlying l1.type = some (.slice e)) (he : P.underlying e = some (.int .u8))
    (hm : P.underlying y6.type = some (.struct #[m0, m1, m2, m3, m4, m5])) (k0 : P.underlying m0.type = some (.int .i64)) (k1 : P.underlying m1.type = some (.int .i64)) (k2 : P.underlying m2.type = some (.int .i64)) (k3 : P.underlying m3.type = some (.int .i64)) (k4 : P.underlying m4.type = some (.array 32 e)) (k5 : P.underlying m5.type = some (.slice pp))
    (hpt : P.underlying pp = some (.struct #[g0, g1, g2, g3])) (h0 : P.underlying g0.type = some (.int .i64)) (h1 : P.underlying g1.type = some (.int .i64)) (h2 : P.underlying g2.type = some (.int .i64)) (h3 : P.underlying g3.type = some (.array 32 e))
    (hd : P.underlying y7.type = some (.struct #[f0, f1, f2, f3, f4, f5])) (r0 : P.underlying f0.type = some (.int .i64)) (r1 : P.underlying f1.type = some .string) (r2 : P.underlying f2.type = some .string) (r3 : P.underlying f3.type = some (.slice e)) (r4 : P.underlying f4.type = some (.int .i64)) (r5 : P.underlying f5.type = some (.slice z))
    (i8 : P.underlying y8.type = some (.slice z)) (hz : P.underlying z = some .bool)
    (hCe : P.cellsOf e = 1) (hone : oneCellFields P #[l0, l1] = true) (hCb : P.cellsOf b = 2) (hone2 : oneCellFields P #[s0, s1] = true) (hC5 : P.cellsOf y5.type = 2)
    (hC3 : P.cellsOf g3.type = 32) (hCp : P.cellsOf pp = 35) (o0 : g0.offset = 0) (o1 : g1.offset = 1) (o2 : g2.offset = 2) (o3 : g3.offset = 3) (c0 : P.cellsOf g0.type = 1) (c1 : P.cellsOf g1.type = 1) (c2 : P.cellsOf g2.type = 1)
    (hC6 : P.cellsOf y6.type = 37) (p0 : m0.offset = 0) (p1 : m1.offset = 1) (p2 : m2.offset = 2) (p3 : m3.offset = 3) (p4 : m4.offset = 4) (p5 : m5.offset = 36) (n0 : P.cellsOf m0.type = 1) (n1 : P.cellsOf m1.type = 1) (n2 : P.cellsOf m2.type = 1) (n3 : P.cellsOf m3.type = 1) (n4 : P.cellsOf m4.type = 32) (n5 : P.cellsOf m5.type = 1)
    (hCz : P.cellsOf z = 1) (hone3 : oneCellFields P #[f0, f1, f2, f3, f4, f5] = true) (hC7 : P.cellsOf y7.type = 6) (hC : P.cellsOf t = 51)
    (u0 : y0.offset = 0) (u1 : y1.offset = 1) (u2 : y2.offset = 2) (u3 : y3.offset = 3) (u4 : y4.offset = 4) (u5 : y5.offset = 5) (u6 : y6.offset = 7) (u7 : y7.offset = 44) (u8 : y8.offset = 50)
    (w0 : P.cellsOf y0.type = 1) (w1 : P.cellsOf y1.type = 1) (w2 : P.cellsOf y2.type = 1) (w3 : P.cellsOf y3.type = 1) (w4 : P.cellsOf y4.type = 1) (w8 : P.cellsOf y8.type = 1)
    (hv : Value.okWide P w r b0 t v) (h : DataW.Trod enc P w base (fun _ => true) held t v d p) : ∃ a : VA, v = .agg (vaa a) ∧ VAok w a := by
  obtain ⟨cs, rfl, hsz⟩ := okWide_struct hg hv
  obtain ⟨fuel, hf⟩ := h
  obtain ⟨a, ha, hok⟩ := open_va hg i0 i1 i2 i3 i4 hs hs0 hs1 hb hl0 hl1 he hm k0 k1 k2 k3 k4 k5 hpt h0 h1 h2 h3 hd r0 r1 r2 r3 r4 r5 i8 hz hCe hone hCb hone2 hC5 hC3 hCp o0 o1 o2 o3 c0 c1 c2 hC6 p0 p1 p2 p3 p4 p5 n0 n1 n2 n3 n4 n5 hCz hone3 hC7 hC u0 u1 u2 u3 u4 u5 u6 u7 u8 w0 w1 w2 w3 w4 w8 _ _ _ hf
  refine ⟨a, ?_, hok⟩
  unfold vaa
  rw [ha]
  rfl
end
end Go.Proofs.YtajfnmohlnkncaaGreatDoor

namespace Go.Proofs.YtajfnmohlnkncaaGreatDoor

abbrev Bs := List UInt8

/-! ### the order of names -/
theorem bb_lit (a b : Bs) : bytesBefore a b = (Lit.string a).before (.string b) := rfl
theorem bb_irrefl (a : Bs) : bytesBefore a a = false := by
  cases h : bytesBefore a a
  · rfl
  · exact absurd h (by rw [bb_lit]; exact Bool.not_eq_true _ ▸ WideShapes.before_irrefl _)
theorem bb_trans {a b c : Bs} (h : bytesBefore a b = true) (k : bytesBefore b c = true) : bytesBefore a c = true := WideShapes.before_trans (a := .string a) (b := .string b) (c := .string c) h k
theorem bb_total : ∀ {a b : Bs}, a ≠ b → bytesBefore a b = true ∨ bytesBefore b a = true
  | [], [], h => absurd rfl h
  | [], _ :: _, _ => .inl rfl
  | _ :: _, [], _ => .inr rfl
  | x :: r, y :: s, h => by
    unfold bytesBefore
    by_cases hxy : x = y
    · subst hxy
      have hrs : r ≠ s := fun e => h (by rw [e])
      rcases bb_total hrs with h1 | h1
      · left; simp [h1]
      · right; simp [h1]
    · rcases Nat.lt_or_gt_of_ne (fun e => hxy (UInt8.toNat_inj.1 e)) with h1 | h1
      · left; simp [UInt8.lt_iff_toNat_lt, h1]
      · right; simp [UInt8.lt_iff_toNat_lt, h1]

/-! ### files by names: rising, no name twice -/
section
variable {α β : Type}
def gdel (k : Bs) (l : List (Bs × α)) : List (Bs × α) := l.filter fun p => !(p.1 == k)
def gins (x : Bs × α) : List (Bs × α) → List (Bs × α)
  | [] => [x]
  | y :: r => if bytesBefore x.1 y.1 = true then x :: y :: r else y :: gins x r
def gput (k : Bs) (v : α) (l : List (Bs × α)) : List (Bs × α) := gins (k, v) (gdel k l)
def gget (k : Bs) (l : List (Bs × α)) : Option α := (l.find? fun p => p.1 == k).map (·.2)
def gmap (f : α → β) (l : List (Bs × α)) : List (Bs × β) := l.map fun p => (p.1, f p.2)
theorem gins_map (f : α → β) (x : Bs × α) : ∀ l : List (Bs × α), gins (x.1, f x.2) (gmap f l) = gmap f (gins x l)
  | [] => rfl
  | y :: r => by
    have ih := gins_map f x r
    show (if bytesBefore x.1 y.1 = true then (x.1, f x.2) :: (y.1, f y.2) :: gmap f r else (y.1, f y.2) :: gins (x.1, f x.2) (gmap f r)) = gmap f (if bytesBefore x.1 y.1 = true then x :: y :: r else y :: gins x r)
    split
    · rfl
    · rw [ih]; rfl
theorem gmem_ins {x y : Bs × α} : ∀ {l : List (Bs × α)}, y ∈ gins x l ↔ y = x ∨ y ∈ l
  | [] => by simp [gins]
  | z :: r => by
    unfold gins
    split
    · simp
    · simp only [List.mem_cons, gmem_ins (l := r)]
      constructor
      · rintro (h | h | h) <;> simp [h]
      · rintro (h | h | h) <;> simp [h]
theorem gmem_del {k : Bs} {y : Bs × α} {l : List (Bs × α)} : y ∈ gdel k l ↔ y ∈ l ∧ y.1 ≠ k := by
  unfold gdel
  rw [List.mem_filter]
  simp
theorem gmem_put {k : Bs} {v : α} {y : Bs × α} {l : List (Bs × α)} : y ∈ gput k v l ↔ y = (k, v) ∨ (y ∈ l ∧ y.1 ≠ k) := by
  unfold gput
  rw [gmem_ins, gmem_del]
/-- rising by names -/
def Ris (l : List (Bs × α)) : Prop := l.Pairwise fun p q => bytesBefore p.1 q.1 = true
theorem Ris.nil : Ris ([] : List (Bs × α)) := List.Pairwise.nil
theorem Ris.del {l : List (Bs × α)} (h : Ris l) (k : Bs) : Ris (gdel k l) := h.filter _
theorem Ris.ins {x : Bs × α} : ∀ {l : List (Bs × α)}, Ris l → (∀ p ∈ l, p.1 ≠ x.1) → Ris (gins x l)
  | [], _, _ => List.pairwise_singleton _ _
  | y :: r, h, hn => by
    obtain ⟨h1, h2⟩ := List.pairwise_cons.1 h
    unfold gins
    split
    · rename_i hb
      refine List.pairwise_cons.2 ⟨fun q hq => ?_, h⟩
      rcases List.mem_cons.1 hq with rfl | hq
      · exact hb
      · exact bb_trans hb (h1 q hq)
    · rename_i hb
      have hyx : bytesBefore y.1 x.1 = true := by
        rcases bb_total (hn y (.head _)) with h' | h'
        · exact h'
        · exact absurd h' hb
      refine List.pairwise_cons.2 ⟨fun q hq => ?_, Ris.ins h2 fun p hp => hn p (.tail _ hp)⟩
      rcases gmem_ins.1 hq with rfl | hq
      · exact hyx
      · exact h1 q hq
theorem Ris.put {l : List (Bs × α)} (h : Ris l) (k : Bs) (v : α) : Ris (gput k v l) := (h.del k).ins fun p hp => (gmem_del.1 hp).2
theorem gget_mem {k : Bs} {v : α} {l : List (Bs × α)} (h : gget k l = some v) : (k, v) ∈ l := by
  unfold gget at h
  cases hq : l.find? (fun p => p.1 == k) with
  | none => rw [hq] at h; cases h
  | some p =>
    rw [hq] at h
    have hm := List.mem_of_find?_eq_some hq
    have hk := List.find?_some hq
    obtain ⟨a, b⟩ := p
    simp only [beq_iff_eq, Option.map_some, Option.some.injEq] at hk h
    subst hk h
    exact hm
theorem gget_none {k : Bs} {l : List (Bs × α)} : gget k l = none ↔ ∀ p ∈ l, p.1 ≠ k := by
  unfold gget
  rw [Option.map_eq_none_iff, List.find?_eq_none]
  simp
theorem gget_of_mem {k : Bs} {v : α} {l : List (Bs × α)} (hr : Ris l) (h : (k, v) ∈ l) : gget k l = some v := by
  induction l with
  | nil => cases h
  | cons y r ih =>
    obtain ⟨h1, h2⟩ := List.pairwise_cons.1 hr
    unfold gget
    rw [List.find?_cons]
    rcases List.mem_cons.1 h with rfl | h
    · simp
    · have hy : (y.1 == k) = false := by
        rw [beq_eq_false_iff_ne]
        rintro rfl
        have := h1 _ h
        rw [bb_irrefl] at this
        cases this
      rw [hy]
      exact ih h2 h
theorem gget_del_same (k : Bs) (l : List (Bs × α)) : gget k (gdel k l) = none := gget_none.2 fun p hp => (gmem_del.1 hp).2
theorem gget_del_other {k j : Bs} (h : j ≠ k) : ∀ l : List (Bs × α), gget j (gdel k l) = gget j l
  | [] => rfl
  | y :: r => by
    have ih := gget_del_other h r
    unfold gget gdel at ih ⊢
    rw [List.filter_cons]
    by_cases hy : y.1 = k
    · have hyj : (y.1 == j) = false := by rw [beq_eq_false_iff_ne, hy]; exact fun e => h e.symm
      rw [if_neg (by simp [hy]), List.find?_cons, hyj]
      exact ih
    · rw [if_pos (by simp [hy]), List.find?_cons, List.find?_cons]
      cases y.1 == j
      · exact ih
      · rfl
theorem gget_ins_same (k : Bs) (v : α) : ∀ l : List (Bs × α), (∀ p ∈ l, p.1 ≠ k) → gget k (gins (k, v) l) = some v
  | [], _ => by simp [gins, gget]
  | y :: r, h => by
    have ih := gget_ins_same k v r fun p hp => h p (.tail _ hp)
    unfold gins
    split
    · simp [gget]
    · unfold gget at ih ⊢
      rw [List.find?_cons, show (y.1 == k) = false from beq_eq_false_iff_ne.2 (h y (.head _))]
      exact ih
theorem gget_ins_other {k j : Bs} (v : α) (h : j ≠ k) : ∀ l : List (Bs × α), gget j (gins (k, v) l) = gget j l
  | [] => by
    have : (k == j) = false := beq_eq_false_iff_ne.2 fun e => h e.symm
    simp [gins, gget, this]
  | y :: r => by
    have ih := gget_ins_other v h r
    have hk : (k == j) = false := beq_eq_false_iff_ne.2 fun e => h e.symm
    unfold gins
    split
    · unfold gget
      rw [List.find?_cons, hk]
    · unfold gget at ih ⊢
      rw [List.find?_cons, List.find?_cons]
      cases y.1 == j
      · exact ih
      · rfl
theorem gget_put_same (k : Bs) (v : α) (l : List (Bs × α)) : gget k (gput k v l) = some v := gget_ins_same k v _ fun _ hp => (gmem_del.1 hp).2
theorem gget_put_other {k j : Bs} (v : α) (h : j ≠ k) (l : List (Bs × α)) : gget j (gput k v l) = gget j l := by
  unfold gput
  rw [gget_ins_other v h, gget_del_other h]
theorem glen_ins (x : Bs × α) : ∀ l : List (Bs × α), (gins x l).length = l.length + 1
  | [] => rfl
  | y :: r => by
    unfold gins
    split
    · rfl
    · simp [glen_ins x r]
theorem glen_put (k : Bs) (v : α) (l : List (Bs × α)) : (gput k v l).length ≤ l.length + 1 := by
  unfold gput gdel
  rw [glen_ins]
  have := List.length_filter_le (fun p : Bs × α => !(p.1 == k)) l
  omega
theorem glen_del (k : Bs) (l : List (Bs × α)) : (gdel k l).length ≤ l.length := List.length_filter_le _ _
/-- two that are rising and hold the same are one -/
theorem Ris.ext : ∀ {l l' : List (Bs × α)}, Ris l → Ris l' → (∀ p, p ∈ l ↔ p ∈ l') → l = l'
  | [], [], _, _, _ => rfl
  | [], y :: r, _, _, h => absurd ((h y).2 (.head _)) (by simp)
  | x :: r, [], _, _, h => absurd ((h x).1 (.head _)) (by simp)
  | x :: r, y :: s, hl, hl', h => by
    obtain ⟨h1, h2⟩ := List.pairwise_cons.1 hl
    obtain ⟨k1, k2⟩ := List.pairwise_cons.1 hl'
    have hxy : x = y := by
      rcases List.mem_cons.1 ((h x).1 (.head _)) with e | e
      · exact e
      · rcases List.mem_cons.1 ((h y).2 (.head _)) with e2 | e2
        · exact e2.symm
        · have a := k1 _ e
          have b := h1 _ e2
          have := bb_trans a b
          rw [bb_irrefl] at this
          cases this
    subst hxy
    congr 1
    refine Ris.ext h2 k2 fun p => ⟨fun hp => ?_, fun hp => ?_⟩
    · rcases List.mem_cons.1 ((h p).1 (.tail _ hp)) with rfl | e
      · have := h1 _ hp; rw [bb_irrefl] at this; cases this
      · exact e
    · rcases List.mem_cons.1 ((h p).2 (.tail _ hp)) with rfl | e
      · have := k1 _ hp; rw [bb_irrefl] at this; cases this
      · exact e
end

/-! ### changes, disks -/
/-- a change: its kind (0: a write, 1: a rename, 2: a removal), its name, the other name, its bytes -/
structure Chg (α : Type) where
  kind : Nat
  name : Bs
  «to» : Bs
  val : α
/-- a disk -/
structure Dk (α : Type) where
  room : Int
  sure : List (Bs × α)
  pend : List (Chg α)
  fuse : Int
  down : Bool
section
variable {α β : Type}
def fdo (l : List (Bs × α)) (c : Chg α) : List (Bs × α) :=
  if c.kind = 0 then gput c.name c.val l else match gget c.name l with
    | none => l
    | some b => if c.kind = 1 then gput c.to b (gdel c.name l) else gdel c.name l
theorem Ris.fdo {l : List (Bs × α)} (h : Ris l) (c : Chg α) : Ris (fdo l c) := by
  unfold Go.Proofs.YtajfnmohlnkncaaGreatDoor.fdo
  split
  · exact h.put _ _
  · split
    · exact h
    · split
      · exact (h.del _).put _ _
      · exact h.del _
theorem flen_do (l : List (Bs × α)) (c : Chg α) : (fdo l c).length ≤ l.length + 1 := by
  unfold fdo
  split
  · exact glen_put _ _ _
  · split
    · omega
    · split
      · have h1 := glen_del c.name l
        rename_i b _ _
        have h2 := glen_put c.to b (gdel c.name l)
        omega
      · have := glen_del c.name l
        omega
def fdos (l : List (Bs × α)) (cs : List (Chg α)) : List (Bs × α) := cs.foldl fdo l
theorem Ris.fdos {l : List (Bs × α)} (h : Ris l) (cs : List (Chg α)) : Ris (fdos l cs) := by
  unfold Go.Proofs.YtajfnmohlnkncaaGreatDoor.fdos
  induction cs generalizing l with
  | nil => exact h
  | cons c r ih => exact ih (h.fdo c)
theorem flen_dos (l : List (Bs × α)) (cs : List (Chg α)) : (fdos l cs).length ≤ l.length + cs.length := by
  unfold fdos
  induction cs generalizing l with
  | nil => simp
  | cons c r ih =>
    have h1 := ih (fdo l c)
    have h2 := flen_do l c
    simp only [List.foldl_cons, List.length_cons]
    omega
theorem fdos_snoc (l : List (Bs × α)) (cs : List (Chg α)) (c : Chg α) : fdos l (cs ++ [c]) = fdo (fdos l cs) c := by
  unfold fdos
  rw [List.foldl_append]
  rfl
def Dk.shown (d : Dk α) : List (Bs × α) := fdos d.sure d.pend
/-- an operation counted; an error's number -/
def dWorks (d : Dk α) : Dk α × Nat :=
  if d.down = true then (d, 14) else if d.fuse = 0 then ({ d with down := true }, 14) else if 0 < d.fuse then ({ d with fuse := d.fuse - 1 }, 0) else (d, 0)
def dAdd (d : Dk α) (c : Chg α) : Dk α := { d with pend := d.pend ++ [c] }
def isSign (c : UInt8) : Bool := (97 ≤ c && c ≤ 122) || (48 ≤ c && c ≤ 57) || c == 45 || c == 46 || c == 126
def named (s : Bs) : Bool := decide (1 ≤ s.length) && decide (s.length ≤ 24) && s.all isSign
def fused (len : α → Nat) (l : List (Bs × α)) : Nat := (l.map fun p => len p.2).sum
def dWrite (len : α → Nat) (d : Dk α) (n : Bs) (v : α) : Dk α × Nat :=
  if (dWorks d).2 ≠ 0 then dWorks d
  else if named n = false then ((dWorks d).1, 2)
  else if 65536 < len v then ((dWorks d).1, 3)
  else if (gget n d.shown).isNone = true ∧ 512 ≤ d.shown.length ∨ d.room < (fused len d.shown : Int) - ((gget n d.shown).map len).getD 0 + len v then ((dWorks d).1, 5)
  else (dAdd (dWorks d).1 ⟨0, n, [], v⟩, 0)
/-- z: no bytes -/
def dRename (z : α) (d : Dk α) (n t : Bs) : Dk α × Nat :=
  if (dWorks d).2 ≠ 0 then dWorks d
  else if named n = false ∨ named t = false then ((dWorks d).1, 2)
  else if (gget n d.shown).isNone = true then ((dWorks d).1, 4)
  else (dAdd (dWorks d).1 ⟨1, n, t, z⟩, 0)
def dRemove (z : α) (d : Dk α) (n : Bs) : Dk α × Nat :=
  if (dWorks d).2 ≠ 0 then dWorks d
  else if named n = false then ((dWorks d).1, 2)
  else if (gget n d.shown).isNone = true then ((dWorks d).1, 4)
  else (dAdd (dWorks d).1 ⟨2, n, [], z⟩, 0)
def dSync (d : Dk α) : Dk α × Nat :=
  if (dWorks d).2 ≠ 0 then dWorks d else ({ (dWorks d).1 with sure := d.shown, pend := [] }, 0)
def kept (keep : List Bool) (cs : List (Chg α)) : List (Chg α) := ((cs.zip keep).filter (·.2)).map (·.1)
end
end Go.Proofs.YtajfnmohlnkncaaGreatDoor

namespace Go.Proofs.YtajfnmohlnkncaaGreatDoor
open Go.RowKit Go.Maps Go.Sort

/-- a slice of bytes with what it holds -/
structure Sv where
  A : Option Addr
  c : Nat
  l : Bs
def Sv.v (s : Sv) : Value := .slice s.A s.l.length s.c
def Sv.nil : Sv := ⟨none, 0, []⟩
/-- how a map's element is kept: as it is -/
def tok (v : Value) : Option (DataW Value × List MemPlace) := some (.held v, [])
def dat (l : List (Bs × Sv)) : DataW Value := .map (l.map fun p => (.string p.1, .held p.2.v))
theorem sameKey_str (a b : Bs) : (Lit.string a).sameKey (.string b) = (a == b) := rfl
theorem dat_put (k : Bs) (s : Sv) (l : List (Bs × Sv)) : (dat l).put (.string k) (.held s.v) = dat (gput k s l) := by
  unfold dat gput gdel
  rw [DataW.put_eq]
  unfold ChangeMaps.putKey
  congr 1
  rw [List.filter_map]
  have hf : (ChangeMaps.notKey (Lit.string k) ∘ fun p : Bs × Sv => ((Lit.string p.1, DataW.held p.2.v) : Lit × DataW Value)) = fun p => !(p.1 == k) := rfl
  rw [hf]
  generalize List.filter (fun p : Bs × Sv => !(p.1 == k)) l = r
  induction r with
  | nil => rfl
  | cons y r ih =>
    show (if (Lit.string k).before (.string y.1) = true then _ else _) = List.map _ (if bytesBefore k y.1 = true then _ else _)
    rw [show (Lit.string k).before (.string y.1) = bytesBefore k y.1 from rfl]
    split
    · rfl
    · rw [List.map_cons, ← ih]
theorem dat_del (k : Bs) (l : List (Bs × Sv)) : (dat l).del (.string k) = dat (gdel k l) := by
  unfold dat gdel
  rw [DataW.del_eq]
  unfold ChangeMaps.delKey
  rw [List.filter_map]
  rfl
theorem dat_at (k : Bs) (l : List (Bs × Sv)) : (dat l).atKey (.string k) (.held (.slice none 0 0)) = .held (((gget k l).map Sv.v).getD (.slice none 0 0)) := by
  unfold dat gget DataW.atKey
  dsimp only
  rw [List.find?_map]
  have hf : ((fun p : Lit × DataW Value => p.1.sameKey (Lit.string k)) ∘ fun p : Bs × Sv => ((Lit.string p.1, DataW.held p.2.v) : Lit × DataW Value)) = fun p => p.1 == k := rfl
  rw [hf]
  cases l.find? (fun p => p.1 == k) <;> rfl
theorem dat_has (k : Bs) (l : List (Bs × Sv)) : Maps.has (dat l) (.string k) = (gget k l).isSome := by
  unfold dat gget
  rw [Maps.has_eq]
  induction l with
  | nil => rfl
  | cons y r ih =>
    rw [List.map_cons, List.any_cons, List.find?_cons]
    show (y.1 == k || _) = _
    cases hy : y.1 == k
    · rw [Bool.false_or]; exact ih
    · rfl
theorem dat_size (l : List (Bs × Sv)) : Maps.size (dat l) = l.length := by unfold dat; rw [Maps.size_eq, List.length_map]

section
variable {P : Program} {K T E : TypeId} {w w' : World} {b n : Nat} {l : List (Bs × Sv)}
/-- block b is a map that holds l -/
def Om (P : Program) (K : TypeId) (w : World) (b : Nat) (l : List (Bs × Sv)) : Prop := w.ownsMap P K tok b l.length (dat l)
theorem key_str (hK : P.underlying K = some .string) {k : Bs} (hk : k.length ≤ maxLen) : keyOf P K (.string ⟨k.toArray⟩) = some (.string k) := by
  have := Go.WideMaps.keyOf_string_mk hK (s := ⟨k.toArray⟩) (by simpa [ByteArray.size] using hk)
  simpa using this
theorem Om.of (h : w.ownsMap P K tok b n (dat l)) : Om P K w b l := by
  obtain ⟨es, clock, hb, F, _, hD⟩ := h
  refine ⟨es, clock, hb, F, ?_, hD⟩
  have h1 : (dat l) = .map (l.map fun p => (.string p.1, .held p.2.v)) := rfl
  rw [h1] at hD
  injection hD with hD
  have h2 := congrArg List.length hD
  rw [length_sorted] at h2
  simp at h2
  omega
theorem Om.lt (h : Om P K w b l) : b < w.heap.size := World.ownsMap.lt h
theorem Om.same (h : Om P K w b l) (e : w'.heap[b]? = w.heap[b]?) : Om P K w' b l := by
  obtain ⟨es, clock, hb, r⟩ := h
  exact ⟨es, clock, e.trans hb, r⟩
theorem Om.new (w : World) : Om P K (w.alloc (.map #[] 0)) w.heap.size [] := World.ownsMap_made w P K tok
theorem Om.look (h : Om P K w b l) (hK : P.underlying K = some .string) (hT : P.underlying T = some (.map K E)) (hz : (zeroValue E).run P w = .ok (.slice none 0 0) w) {k : Bs} (hk : k.length ≤ maxLen) :
    (Instr.lookup T (.map (some b)) (.string ⟨k.toArray⟩) true).run P w = .ok (.tuple #[((gget k l).map Sv.v).getD (.slice none 0 0), .bool (gget k l).isSome]) w := by
  obtain ⟨v, ps, hrun, hv⟩ := h.look_ok (string_keyed hK) hT hz (zd := .held (.slice none 0 0)) (zp := []) rfl (key := .string ⟨k.toArray⟩) (kl := .string k) (key_str hK hk)
  rw [dat_at, dat_has] at *
  unfold tok at hv
  injection hv with hv
  injection hv with hv
  injection hv with hv
  subst hv
  exact hrun
theorem Om.len (h : Om P K w b l) (hT : P.underlying T = some (.map K E)) (ty : TypeId) : (Builtin.len_ #[T] ty #[.map (some b)]).run P w = .ok (.int .i64 l.length) w := by
  have := World.ownsMap.len h hT ty
  rw [dat_size] at this
  exact this
theorem Om.store (h : Om P K w b l) (hK : P.underlying K = some .string) (hT : P.underlying T = some (.map K E)) (hn : l.length < maxLen) {k : Bs} (hk : k.length ≤ maxLen) (s : Sv) :
    ∃ w', (Instr.mapUpdate T (.map (some b)) (.string ⟨k.toArray⟩) s.v).run P w = .ok () w' ∧ Om P K w' b (gput k s l) ∧ w.grownBy w' (some b) := by
  obtain ⟨w', hrun, h1, h2⟩ := World.ownsMap.store h (string_keyed hK) hT hn (key := .string ⟨k.toArray⟩) (val := s.v) (kl := .string k) (d := .held s.v) (ps := []) (key_str hK hk) rfl
  rw [dat_put] at h1
  exact ⟨w', hrun, Om.of h1, h2.grown⟩
theorem Om.drop (h : Om P K w b l) (hK : P.underlying K = some .string) (hT : P.underlying T = some (.map K E)) {k : Bs} (hk : k.length ≤ maxLen) (ty : TypeId) :
    ∃ w', (Builtin.delete_ #[T, K] ty #[.map (some b), .string ⟨k.toArray⟩]).run P w = .ok (.tuple #[]) w' ∧ Om P K w' b (gdel k l) ∧ w.grownBy w' (some b) := by
  obtain ⟨w', hrun, h1, h2⟩ := World.ownsMap.drop h (string_keyed hK) hT (key := .string ⟨k.toArray⟩) (kl := .string k) (key_str hK hk) ty
  rw [dat_del] at h1
  exact ⟨w', hrun, Om.of h1, h2.grown⟩
end
end Go.Proofs.YtajfnmohlnkncaaGreatDoor

namespace Go.Proofs.YtajfnmohlnkncaaGreatDoor
open Go.RowKit

section
variable {w : World} {base base' : Nat} {e e' : TypeId} {size size' n n' c c' : Nat} {A B : Option Addr} {xs ys : List Value}
theorem Own.setOther (h : Own w base e size A n c xs) {g : Nat} (hg : A.map (·.block) ≠ some g) (i : Nat) (u : Value) : Own (w.setCell ⟨g, i, none⟩ u) base e size A n c xs :=
  ownsRow_setCell_other h (a := ⟨g, i, none⟩) (by rw [ownBlock_slice]; exact hg) u
end
end Go.Proofs.YtajfnmohlnkncaaGreatDoor

namespace Go.Proofs.YtajfnmohlnkncaaGreatDoor
open Go.RowKit

theorem gen1 {T R : World → Prop} {W : World} (hT : T W) (k : ∀ W, T W → R W) : R W := k W hT
/-- a call's own blocks: number, type, cells; and blocks that stay apart from them -/
abbrev BL := List (Nat × TypeId × Array Value)
structure Mm (w W : World) (L : BL) (G : List (Option Nat)) : Prop where
  bel : Below w.heap.size w W
  blk : ∀ x ∈ L, Blk W x.1 x.2.1 x.2.2
  low : ∀ x ∈ L, w.heap.size ≤ x.1
  dis : L.Pairwise fun x y => x.1 ≠ y.1
  far : ∀ g, some g ∈ G → g < W.heap.size ∧ ∀ x ∈ L, x.1 ≠ g
section
variable {w W W' : World} {L : BL} {G : List (Option Nat)} {g : Nat} {t : TypeId} {cs : Array Value}
theorem Mm.start (w : World) : Mm w w [] [] := ⟨Below.refl _ _, by simp, by simp, List.Pairwise.nil, by simp⟩
theorem Mm.allocO (h : Mm w W L G) (o : Obj) : Mm w (W.alloc o) L G :=
  ⟨bel_alloc h.bel o, fun x hx => (h.blk x hx).alloc o, h.low, h.dis, fun g hg => ⟨by have := (h.far g hg).1; simp; omega, (h.far g hg).2⟩⟩
theorem Mm.alloc (h : Mm w W L G) (cs : Array Value) (t : TypeId) : Mm w (W.alloc (.cells cs t)) ((W.heap.size, t, cs) :: L) G := by
  refine ⟨bel_alloc h.bel _, fun x hx => ?_, fun x hx => ?_, List.pairwise_cons.2 ⟨fun x hx => ?_, h.dis⟩, fun g hg => ⟨by have := (h.far g hg).1; simp; omega, fun x hx => ?_⟩⟩
  · rcases List.mem_cons.1 hx with rfl | hx
    · exact Blk.new W t cs
    · exact (h.blk x hx).alloc _
  · rcases List.mem_cons.1 hx with rfl | hx
    · exact h.bel.size
    · exact h.low x hx
  · have := (h.blk x hx).lt
    dsimp only
    omega
  · rcases List.mem_cons.1 hx with rfl | hx
    · have := (h.far g hg).1
      dsimp only
      omega
    · exact (h.far g hg).2 x hx
theorem Mm.call (h : Mm w W L G) (hb : Below W.heap.size W W') : Mm w W' L G :=
  ⟨bel_call h.bel hb, fun x hx => (h.blk x hx).below hb, h.low, h.dis, fun g hg => ⟨Nat.lt_of_lt_of_le (h.far g hg).1 hb.size, (h.far g hg).2⟩⟩
theorem Mm.drew (h : Mm w W L G) : Mm w W.drew L G := ⟨h.bel.drew, fun x hx => (h.blk x hx).drew, h.low, h.dis, h.far⟩
theorem Mm.drewN (h : Mm w W L G) (n : Nat) : Mm w (W.drewN n) L G := ⟨below_drewN h.bel n, fun x hx => (h.blk x hx).drewN n, h.low, h.dis, h.far⟩
/-- a row that a call has made stays apart -/
theorem Mm.callAdd (h : Mm w W L G) (hb : Below W.heap.size W W') {a : Option Nat} (hA : ∀ k, a = some k → W.heap.size ≤ k ∧ k < W'.heap.size) : Mm w W' L (a :: G) := by
  have h' := h.call hb
  refine ⟨h'.bel, h'.blk, h'.low, h'.dis, fun g hg => ?_⟩
  rcases List.mem_cons.1 hg with e | hg
  · obtain ⟨h1, h2⟩ := hA g e.symm
    exact ⟨h2, fun x hx => by have := (h.blk x hx).lt; omega⟩
  · exact h'.far g hg
theorem Mm.add (h : Mm w W L G) {a : Option Nat} (hA : ∀ k, a = some k → k < W.heap.size ∧ ∀ x ∈ L, x.1 ≠ k) : Mm w W L (a :: G) := by
  refine ⟨h.bel, h.blk, h.low, h.dis, fun g hg => ?_⟩
  rcases List.mem_cons.1 hg with e | hg
  · exact hA g e.symm
  · exact h.far g hg
theorem Mm.sub (h : Mm w W L G) {L' : BL} (hL : L'.Sublist L) : Mm w W L' G :=
  ⟨h.bel, fun x hx => h.blk x (hL.subset hx), fun x hx => h.low x (hL.subset hx), h.dis.sublist hL, fun g hg => ⟨(h.far g hg).1, fun x hx => (h.far g hg).2 x (hL.subset hx)⟩⟩
theorem Mm.subG (h : Mm w W L G) {G' : List (Option Nat)} (hG : ∀ x ∈ G', x ∈ G) : Mm w W L G' := ⟨h.bel, h.blk, h.low, h.dis, fun g hg => h.far g (hG _ hg)⟩
/-- a block apart is written -/
theorem Mm.wr (h : Mm w W L G) (hr : Wr W W' g) (hg : some g ∈ G) (hlo : w.heap.size ≤ g) : Mm w W' L G :=
  ⟨h.bel.trans (hr.below h.bel.size hlo), fun x hx => (h.blk x hx).wr hr ((h.far g hg).2 x hx), h.low, h.dis, fun k hk => ⟨Nat.lt_of_lt_of_le (h.far k hk).1 hr.size, (h.far k hk).2⟩⟩
theorem Mm.cons (h : Mm w W L G) (hB : Blk W g t cs) (hlo : w.heap.size ≤ g) (hd : ∀ x ∈ L, g ≠ x.1) (hf : some g ∉ G) : Mm w W ((g, t, cs) :: L) G := by
  refine ⟨h.bel, fun x hx => ?_, fun x hx => ?_, List.pairwise_cons.2 ⟨hd, h.dis⟩, fun k hk => ⟨(h.far k hk).1, fun x hx => ?_⟩⟩
  · rcases List.mem_cons.1 hx with rfl | hx
    · exact hB
    · exact h.blk x hx
  · rcases List.mem_cons.1 hx with rfl | hx
    · exact hlo
    · exact h.low x hx
  · rcases List.mem_cons.1 hx with rfl | hx
    · rintro rfl; exact hf hk
    · exact (h.far k hk).2 x hx
/-- the j-th block turns, and nothing else -/
theorem Mm.turn (h : Mm w W L G) (j : Nat) {cs' : Array Value} (hj : L[j]? = some (g, t, cs)) (hB : Blk W' g t cs') (hr : Wr W W' g) : Mm w W' (L.set j (g, t, cs')) G := by
  have hjl : j < L.length := (List.getElem?_eq_some_iff.1 hj).1
  have hje : L[j] = (g, t, cs) := (List.getElem?_eq_some_iff.1 hj).2
  have hmem : (g, t, cs) ∈ L := by rw [← hje]; exact List.getElem_mem hjl
  have hmap : (L.set j (g, t, cs')).map (·.1) = L.map (·.1) := by
    rw [List.map_set]
    apply List.ext_getElem? 
    intro i
    rw [List.getElem?_set]
    split
    · rename_i e
      subst e
      simp [hjl, hje]
    · rfl
  have hin : ∀ x ∈ L.set j (g, t, cs'), ∃ y ∈ L, y.1 = x.1 := fun x hx => by
    have : x.1 ∈ (L.set j (g, t, cs')).map (·.1) := List.mem_map_of_mem hx
    rw [hmap] at this
    obtain ⟨y, hy, e⟩ := List.mem_map.1 this
    exact ⟨y, hy, e⟩
  refine ⟨h.bel.trans (hr.below h.bel.size (h.low _ hmem)), fun x hx => ?_, fun x hx => ?_, ?_, fun k hk => ⟨Nat.lt_of_lt_of_le (h.far k hk).1 hr.size, fun x hx => ?_⟩⟩
  · rw [List.mem_iff_getElem?] at hx
    obtain ⟨i, hi⟩ := hx
    rw [List.getElem?_set] at hi
    split at hi
    · rename_i e
      injection hi with hi
      subst hi
      exact hB
    · rename_i e
      have hm := List.mem_of_getElem? hi
      refine (h.blk x hm).wr hr ?_
      obtain ⟨hil, hie⟩ := List.getElem?_eq_some_iff.1 hi
      have hp := List.pairwise_iff_getElem.1 h.dis
      rcases Nat.lt_or_gt_of_ne e with hlt | hlt
      · have := hp j i hjl hil hlt
        rw [hje, hie] at this
        exact fun e => this e.symm
      · have := hp i j hil hjl hlt
        rw [hje, hie] at this
        exact this
  · obtain ⟨y, hy, e⟩ := hin x hx
    rw [← e]
    exact h.low y hy
  · have h1 := h.dis
    rw [show (fun x y : Nat × TypeId × Array Value => x.1 ≠ y.1) = (fun x y => (fun a b : Nat => a ≠ b) x.1 y.1) from rfl, ← List.pairwise_map] at h1 ⊢
    rw [hmap]
    exact h1
  · obtain ⟨y, hy, e⟩ := hin x hx
    rw [← e]
    exact (h.far k hk).2 y hy
theorem Mm.set (h : Mm w W L G) (j i : Nat) (v : Value) (hj : L[j]? = some (g, t, cs)) : Mm w (W.setCell ⟨g, i, none⟩ v) (L.set j (g, t, cs.setIfInBounds i v)) G :=
  h.turn j hj ((h.blk _ (List.mem_of_getElem? hj)).set_ i v) ((Wr.refl _ _).set_ i v)
theorem Wr.row (cs2 : Array Value) : Wr W (W.setRow g cs2) g := ⟨rfl, rfl, rfl, by simp, fun i _ hn => setRow_other W g i cs2 (fun e => hn (by rw [e]))⟩
theorem Mm.row (h : Mm w W L G) (j : Nat) {cs' : Array Value} (hj : L[j]? = some (g, t, cs)) (hB : Blk (W.setRow g cs') g t cs') : Mm w (W.setRow g cs') (L.set j (g, t, cs')) G := h.turn j hj hB (Wr.row cs')
theorem Mm.b0 {L : BL} (h : Mm w W ((g, t, cs) :: L) G) : Blk W g t cs := h.blk _ (.head _)
theorem Mm.b1 {a : Nat × TypeId × Array Value} {L : BL} (h : Mm w W (a :: (g, t, cs) :: L) G) : Blk W g t cs := h.blk _ (.tail _ (.head _))
theorem Mm.b2 {a b : Nat × TypeId × Array Value} {L : BL} (h : Mm w W (a :: b :: (g, t, cs) :: L) G) : Blk W g t cs := h.blk _ (.tail _ (.tail _ (.head _)))
theorem Mm.b3 {a b c : Nat × TypeId × Array Value} {L : BL} (h : Mm w W (a :: b :: c :: (g, t, cs) :: L) G) : Blk W g t cs := h.blk _ (.tail _ (.tail _ (.tail _ (.head _))))
/-- a block that is none of these is written -/
theorem Mm.off (h : Mm w W L G) (hr : Wr W W' g) (hg : ∀ x ∈ L, x.1 ≠ g) (hlo : w.heap.size ≤ g) : Mm w W' L G :=
  ⟨h.bel.trans (hr.below h.bel.size hlo), fun x hx => (h.blk x hx).wr hr (hg x hx), h.low, h.dis, fun k hk => ⟨Nat.lt_of_lt_of_le (h.far k hk).1 hr.size, (h.far k hk).2⟩⟩
/-- what lies above all of them turns -/
theorem Mm.base (h : Mm w W L G) {B : Nat} (hb : Below B W W') (hL : ∀ x ∈ L, x.1 < B) (hlo : w.heap.size ≤ B) {a : Option Nat} (hA : ∀ k, a = some k → B ≤ k ∧ k < W'.heap.size) {G' : List (Option Nat)} (hG : ∀ x ∈ G', x ∈ G) : Mm w W' L (a :: G') := by
  refine ⟨h.bel.trans (hb.mono hlo), fun x hx => (hb.block _ (hL x hx)).trans (h.blk x hx), h.low, h.dis, fun g hg => ?_⟩
  rcases List.mem_cons.1 hg with e | hg
  · obtain ⟨h1, h2⟩ := hA g e.symm
    exact ⟨h2, fun x hx => by have := hL x hx; omega⟩
  · exact ⟨Nat.lt_of_lt_of_le (h.far g (hG _ hg)).1 hb.size, (h.far g (hG _ hg)).2⟩
theorem Mm.above (h : Mm w W L []) {B : Nat} (hb : Below B W W') (hL : ∀ x ∈ L, x.1 < B) (hlo : w.heap.size ≤ B) : Mm w W' L [] :=
  (h.base hb hL hlo (a := none) (fun _ h => by cases h) (G' := []) (fun _ h => h)).subG (fun _ h => .tail _ h)
end
end Go.Proofs.YtajfnmohlnkncaaGreatDoor

namespace Go.Proofs.YtajfnmohlnkncaaGreatDoor
open Go.RowKit Go.Maps Go.Sort
attribute [local go_sem ↓] Go.wp_at_zero Go.wp_at_succ

section
variable {P : Program} {K T E : TypeId} {w : World} {b : Nat} {l : List (Bs × Sv)} {ops : Array Oper} {rest : List Oper} {o : Oper} {a : Act} {Q : Exit → Act → World → Prop}
theorem wpl_putO (hg : o.guard = none) (m x v : Operand) (hop : o.op = Op.mapUpdate T m x v) (hK : P.underlying K = some .string) (hT : P.underlying T = some (.map K E)) (b : Nat) (l : List (Bs × Sv)) (hm : a.eval m = .map (some b)) (h : Om P K w b l) (hn : l.length < maxLen)
    (k : Bs) (hk : k.length ≤ maxLen) (hx : a.eval x = .string ⟨k.toArray⟩) (s : Sv) (hv : a.eval v = s.v) (hC : ∀ w', Om P K w' b (gput k s l) → w.grownBy w' (some b) → wpList P ops Q rest (a.put o.dst undef) w') : wpList P ops Q (o :: rest) a w := by
  refine wpList_plain hg fun K' hK' => ?_
  obtain ⟨w', hrun, r1, r2⟩ := h.store hK hT hn hk s
  unfold Oper.wp
  simp [execOp, hop, hm, hx, hv, hrun, Result.andThen]
  exact hK' _ _ (hC w' r1 r2)
theorem wpl_dropO (hg : o.guard = none) (m x : Operand) (hop : o.op = Op.call { callee := Callee.builtin Builtin.delete, args := #[m, x], argTypes := #[T, K] }) (hK : P.underlying K = some .string) (hT : P.underlying T = some (.map K E)) (b : Nat) (l : List (Bs × Sv)) (hm : a.eval m = .map (some b)) (h : Om P K w b l)
    (k : Bs) (hk : k.length ≤ maxLen) (hx : a.eval x = .string ⟨k.toArray⟩) (hC : ∀ w', Om P K w' b (gdel k l) → w.grownBy w' (some b) → wpList P ops Q rest (a.put o.dst (.tuple #[])) w') : wpList P ops Q (o :: rest) a w := by
  refine wpList_plain hg fun K' hK' => ?_
  obtain ⟨w', hrun, r1, r2⟩ := h.drop hK hT hk o.type
  unfold Oper.wp
  simp [execOp, hop, resolve, invoke, builtin, hm, hx, hrun, Result.andThen]
  exact hK' _ _ (hC w' r1 r2)
end
/-- a change's cells -/
def chl (x : Chg Sv) : List Value := [.int .i64 x.kind, .string ⟨x.name.toArray⟩, .string ⟨x.to.toArray⟩, x.val.v]
abbrev cha (x : Chg Sv) : Array Value := #[.int .i64 x.kind, .string ⟨x.name.toArray⟩, .string ⟨x.to.toArray⟩, x.val.v]
abbrev OmD (w : World) (b : Nat) (l : List (Bs × Sv)) : Prop := Om Tryz.prog 9 w b l
theorem zero_bs (w : World) : (zeroValue 52).run Tryz.prog w = .ok (.slice none 0 0) w := by kernel_rfl
theorem OmD.below {w w' : World} {b : Nat} {l : List (Bs × Sv)} (h : OmD w b l) (hb : Below w.heap.size w w') : OmD w' b l := Om.same h (hb.block b h.lt)
theorem OmD.wr {w w' : World} {b g : Nat} {l : List (Bs × Sv)} (h : OmD w b l) (hb : Wr w w' g) (hne : b ≠ g) : OmD w' b l := Om.same h (hb.block b h.lt (fun e => hne (by injection e)))
theorem Blk.fourC {w : World} {g : Nat} {t : TypeId} {a b c d : Value} (h : Blk w g t #[a, b, c, d]) : w.cell? ⟨g, 0, none⟩ = some a ∧ w.cell? ⟨g, 1, none⟩ = some b ∧ w.cell? ⟨g, 2, none⟩ = some c ∧ w.cell? ⟨g, 3, none⟩ = some d := ⟨h.cell 0, h.cell 1, h.cell 2, h.cell 3⟩
theorem Wr.thenB {w w1 w2 : World} {b : Nat} (h : Below w.heap.size w w1) (k : w1.grownBy w2 (some b)) : Wr w w2 b := (Wr.of_below h).trans k
theorem fdo_w {α : Type} {l : List (Bs × α)} {x : Chg α} (h : x.kind = 0) : fdo l x = gput x.name x.val l := by unfold fdo; rw [if_pos h]
theorem fdo_n {α : Type} {l : List (Bs × α)} {x : Chg α} (h : x.kind ≠ 0) (h2 : gget x.name l = none) : fdo l x = l := by unfold fdo; rw [if_neg h, h2]
theorem fdo_r {α : Type} {l : List (Bs × α)} {x : Chg α} {b : α} (h : x.kind = 1) (h2 : gget x.name l = some b) : fdo l x = gput x.to b (gdel x.name l) := by unfold fdo; rw [if_neg (by omega), h2]; dsimp only; rw [if_pos h]
theorem fdo_d {α : Type} {l : List (Bs × α)} {x : Chg α} {b : α} (h : x.kind ≠ 0) (h1 : x.kind ≠ 1) (h2 : gget x.name l = some b) : fdo l x = gdel x.name l := by unfold fdo; rw [if_neg h, h2]; dsimp only; rw [if_neg h1]
set_option maxRecDepth 100000 in
set_option maxHeartbeats 1000000 in
theorem Do_any {w : World} {b : Nat} {l : List (Bs × Sv)} (x : Chg Sv) (h : OmD w b l) (hl : l.length ≤ 100000000) (h1 : x.name.length ≤ 100000000) (h2 : x.to.length ≤ 100000000) :
    Calls Tryz.prog 52 #[.map (some b), .agg (cha x)] w fun e w' => e = .returned (.tuple #[]) ∧ OmD w' b (fdo l x) ∧ Wr w w' b := by
  obtain ⟨kd, nm, tt, s⟩ := x
  dsimp only at h1 h2
  have hB := Blk.new w 119 (cha ⟨kd, nm, tt, s⟩)
  have hbx := below_new w (.cells (cha ⟨kd, nm, tt, s⟩) 119)
  have hO := OmD.below h hbx
  have hbl : b < w.heap.size := h.lt
  obtain ⟨q0, q1, q2, q3⟩ := hB.fourC
  have hlk := hO.look (T := 87) (E := 52) Tryz.underlying9 Tryz.underlying87 (zero_bs _) (k := nm) (by unfold maxLen; omega)
  have hdl := glen_del nm l
  rcases Decidable.em (kd = 0) with hk0 | hk0
  · have hb0 : ((kd : Int) == 0) = true := by simp [hk0]
    have HF := Lib.hid (fdo_w (l := l) (x := ⟨kd, nm, tt, s⟩) hk0)
    clear hk0 hdl
    generalize ((gget nm l).map Sv.v).getD (.slice none 0 0) = v at *
    generalize (gget nm l).isSome = sm at *
    go_enter Tryz.func52, Tryz.ntmps52
    go_wp2_with (refine wpl_putO rfl _ _ _ rfl Tryz.underlying9 Tryz.underlying87 b l rfl hO (by unfold maxLen; omega) nm (by unfold maxLen; omega) rfl s rfl ?_; intro w2 hO2 hg2)
    go_end0
    exact ⟨rfl, by rw [HF.out]; exact hO2, Wr.thenB hbx hg2⟩
  have hb0 : ((kd : Int) == 0) = false := by simp; omega
  cases hgt : gget nm l with
  | none =>
    have HF := Lib.hid (fdo_n (l := l) (x := ⟨kd, nm, tt, s⟩) hk0 hgt)
    rw [hgt] at hlk
    clear hk0 hdl hgt
    go_enter Tryz.func52, Tryz.ntmps52
    go_wp2_with fail
    go_end0
    exact ⟨rfl, by rw [HF.out]; exact hO, Wr.of_below hbx⟩
  | some u =>
    rw [hgt] at hlk
    dsimp only [Option.map_some, Option.getD_some, Option.isSome_some] at hlk
    rcases Decidable.em (kd = 1) with hk1 | hk1
    · have hb1 : ((kd : Int) == 1) = true := by simp [hk1]
      have HF := Lib.hid (fdo_r (l := l) (x := ⟨kd, nm, tt, s⟩) hk1 hgt)
      clear hk0 hk1 hgt
      go_enter Tryz.func52, Tryz.ntmps52
      go_wp2_with (first | (refine wpl_dropO rfl _ _ rfl Tryz.underlying9 Tryz.underlying87 b l rfl hO nm (by unfold maxLen; omega) rfl ?_; intro w2 hO2 hg2; have hB2 : Blk w2 w.heap.size 119 (cha ⟨kd, nm, tt, s⟩) := (hg2.block _ hB.lt (fun e => by injection e; omega)).trans hB; obtain ⟨p0, p1, p2, p3⟩ := hB2.fourC) | (refine wpl_putO rfl _ _ _ rfl Tryz.underlying9 Tryz.underlying87 b (gdel nm l) rfl hO2 (by unfold maxLen; omega) tt (by unfold maxLen; omega) rfl u rfl ?_; intro w3 hO3 hg3))
      go_end0
      exact ⟨rfl, by rw [HF.out]; exact hO3, (Wr.thenB hbx hg2).trans hg3⟩
    · have hb1 : ((kd : Int) == 1) = false := by simp; omega
      have HF := Lib.hid (fdo_d (l := l) (x := ⟨kd, nm, tt, s⟩) hk0 hk1 hgt)
      clear hk0 hk1 hgt
      go_enter Tryz.func52, Tryz.ntmps52
      go_wp2_with (refine wpl_dropO rfl _ _ rfl Tryz.underlying9 Tryz.underlying87 b l rfl hO nm (by unfold maxLen; omega) rfl ?_; intro w2 hO2 hg2)
      go_end0
      exact ⟨rfl, by rw [HF.out]; exact hO2, Wr.thenB hbx hg2⟩
end Go.Proofs.YtajfnmohlnkncaaGreatDoor

namespace Go.Proofs.YtajfnmohlnkncaaGreatDoor
open Go.RowKit Go.Maps Go.Sort
attribute [local go_sem ↓] Go.wp_at_zero Go.wp_at_succ

/-- how many bytes the entries have that are no longer to come -/
def gone (left : Lit → Bool) (l : List (Bs × Sv)) : Nat := ((l.filter fun p => !left (.string p.1)).map fun p => p.2.l.length).sum
def svl (s : Sv) : Nat := s.l.length
theorem gone_start (l : List (Bs × Sv)) : gone (Maps.has (dat l)) l = 0 := by
  unfold gone
  have : l.filter (fun p => !Maps.has (dat l) (.string p.1)) = [] := by
    rw [List.filter_eq_nil_iff]
    intro p hp
    have h : (gget p.1 l).isSome = true := by
      cases hg : gget p.1 l with
      | none => exact absurd rfl (gget_none.1 hg p hp)
      | some _ => rfl
    rw [dat_has, h]
    simp
  rw [this]
  rfl
theorem gone_end {left : Lit → Bool} (h : ∀ kl, left kl = false) (l : List (Bs × Sv)) : gone left l = fused svl l := by
  unfold gone fused
  rw [List.filter_eq_self.2 (fun p _ => by rw [h]; rfl)]
  rfl
theorem gone_le (left : Lit → Bool) (l : List (Bs × Sv)) : gone left l ≤ fused svl l := by
  unfold gone fused
  induction l with
  | nil => exact Nat.le_refl _
  | cons y r ih =>
    rw [List.filter_cons]
    split
    · simp only [List.map_cons, List.sum_cons]; unfold svl at *; omega
    · simp only [List.map_cons, List.sum_cons]; unfold svl at *; omega
theorem gone_step {left : Lit → Bool} {k : Bs} {s : Sv} (hl : left (.string k) = true) : ∀ {l : List (Bs × Sv)}, Ris l → (k, s) ∈ l → gone (fun z => left z && !z.sameKey (.string k)) l = gone left l + s.l.length
  | y :: r, hr, hm => by
    obtain ⟨h1, h2⟩ := List.pairwise_cons.1 hr
    have hcons : ∀ (f : Lit → Bool), gone f (y :: r) = (if f (.string y.1) = true then 0 else y.2.l.length) + gone f r := fun f => by
      unfold gone
      rw [List.filter_cons]
      cases f (.string y.1) <;> simp
    rw [hcons, hcons]
    rcases List.mem_cons.1 hm with e | hm
    · subst e
      have hno : gone (fun z => left z && !z.sameKey (.string k)) r = gone left r := by
        unfold gone
        congr 2
        refine List.filter_congr fun p hp => ?_
        have hne : p.1 ≠ k := by
          intro e
          have := h1 p hp
          rw [e, bb_irrefl] at this
          cases this
        have : (Lit.string p.1).sameKey (.string k) = false := by rw [sameKey_str]; exact beq_eq_false_iff_ne.2 hne
        dsimp only
        rw [this]
        simp
      rw [hno]
      dsimp only
      rw [show (Lit.string k).sameKey (.string k) = true from by rw [sameKey_str]; simp]
      simp [hl]
      omega
    · have hne : y.1 ≠ k := by
        intro e
        have := h1 _ hm
        rw [e, bb_irrefl] at this
        cases this
      have : (Lit.string y.1).sameKey (.string k) = false := by rw [sameKey_str]; exact beq_eq_false_iff_ne.2 hne
      rw [gone_step hl h2 hm]
      simp only [this, Bool.not_false, Bool.and_true]
      omega
theorem dat_at_mem {k : Bs} {l : List (Bs × Sv)} {y : DataW Value} (h : ∀ zd, (dat l).atKey (.string k) zd = y) : ∃ s, (k, s) ∈ l ∧ y = .held s.v := by
  cases hg : gget k l with
  | none =>
    have hz : ∀ zd, (dat l).atKey (.string k) zd = zd := fun zd => by
      unfold dat DataW.atKey
      dsimp only
      rw [List.find?_map]
      have hf : ((fun p : Lit × DataW Value => p.1.sameKey (Lit.string k)) ∘ fun p : Bs × Sv => ((Lit.string p.1, DataW.held p.2.v) : Lit × DataW Value)) = fun p => p.1 == k := rfl
      rw [hf]
      unfold gget at hg
      rw [Option.map_eq_none_iff] at hg
      rw [hg]
      rfl
    have h1 := h .nil
    have h2 := h (.agg [])
    rw [hz] at h1 h2
    rw [← h1] at h2
    cases h2
  | some s =>
    refine ⟨s, gget_mem hg, ?_⟩
    rw [← h (.held (.slice none 0 0)), dat_at, hg]
    rfl
theorem wrap_ok {x : Int} (h0 : 0 ≤ x) (h1 : x ≤ 4611686018427387904) : wrap64 x = x ∧ IntKind.i64.wrap x = x := by
  constructor
  · simp only [wrap64]; omega
  · rw [IntKind.wrap_i64]; omega
set_option maxRecDepth 100000 in
set_option maxHeartbeats 1000000 in
theorem Used_any {w : World} {b : Nat} {l : List (Bs × Sv)} (h : OmD w b l) (hr : Ris l) (hs : fused svl l ≤ 4611686018427387904) :
    Calls Tryz.prog 110 #[.map (some b)] w fun e w' => e = .returned (.int .i64 (fused svl l : Nat)) ∧ Below w.heap.size w w' := by
  have hbl : b < w.heap.size := h.lt
  have h0 : w.ownsMap Tryz.prog 9 tok b l.length (dat l) := h
  go_enter Tryz.func110, Tryz.ntmps110
  go_wp2_with (at_range; refine wpList_range_own _ rfl _ 87 rfl 9 52 (string_keyed Tryz.underlying9) Tryz.underlying87 _ b l.length _ rfl h0 ?_; intro w0 hrg0 hg0 hs0)
  go_frame
  clear h0
  go_loopw [3] (fun x wr => ∃ (left : Lit → Bool) (cnt : Nat), wr.ranges Tryz.prog 9 tok b w.heap.size l.length (dat l) left cnt ∧ x = .int .i64 (gone left l : Nat) ∧ Below w.heap.size w wr) (fun x wr => wr.rangeLeft b w.heap.size)
  case atStart => exact ⟨_, _, hrg0, by rw [gone_start]; rfl, ⟨hg0.os, hg0.tape, hg0.output, hg0.size, fun i hi => hg0.block i hi (by simp)⟩⟩
  case round =>
    obtain ⟨left, cnt, hrg, rfl, hbw⟩ := hrel
    have hgl := gone_le left l
    go_wp2_with (at_next; refine wpList_next_ranges _ rfl _ rfl 9 (string_keyed Tryz.underlying9) tok encStr id (fun key kl hk => by obtain ⟨x, hx, _⟩ := Maps.keyOf_str Tryz.underlying9 hk; exact ⟨x, hx⟩) (fun v _ _ => ⟨v, rfl⟩) b w.heap.size l.length _ _ _ rfl hrg ?_ ?_)
    · intro hc0 hl0
      have HG := Lib.hid (gone_end hl0 l)
      go_wp2_with fail
      go_ret
      exact ⟨by rw [HG.out]; rfl, hbw⟩
    · intro x c kl yd yp w2 cnt2 hkey hlk hv hat hrg2 hlt hg2 hs2 hen
      obtain ⟨x', ex, rfl, _⟩ := Maps.keyOf_str Tryz.underlying9 hkey
      obtain rfl : x = x' := encStr_inj ex
      obtain ⟨s, hms, hyd⟩ := dat_at_mem hat
      have hcs : c = s.v := by
        unfold tok at hv
        injection hv with hv
        injection hv with hv _
        rw [hyd] at hv
        injection hv with hv
      subst hcs
      obtain ⟨A, cc, ll⟩ := s
      have HST := Lib.hid (gone_step hlk hr hms)
      have hgl2 := gone_le (fun z => left z && !z.sameKey (.string x)) l
      have hsum : gone left l + ll.length ≤ 4611686018427387904 := by rw [HST.out] at hgl2; dsimp only at hgl2; omega
      obtain ⟨hwr, hwr2⟩ := wrap_ok (x := (gone left l : Nat) + (ll.length : Nat)) (by omega) (by omega)
      have hb2 : Below w.heap.size w w2 := ⟨hg2.os.trans hbw.os, hg2.tape.trans hbw.tape, hg2.output.trans hbw.output, Nat.le_trans hbw.size hg2.size, fun i hi => (hg2.block i (Nat.lt_of_lt_of_le hi hbw.size) (fun e => by injection e; omega)).trans (hbw.block i hi)⟩
      have hen' : (Instr.entry (.pointer (some ⟨w.heap.size, 0, none⟩))).run Tryz.prog w2 = .ok (.tuple #[encStr x, .slice A ll.length cc]) w2 := hen
      clear hs2 hen hat hyd hv hms hgl2 hgl
      go_wp2_with fail
      go_roundw
      case rel => exact ⟨_, _, hrg2, by rw [HST.out]; go_num, hb2⟩
      case measure => rw [hrg2.left_eq, hrg.left_eq]; omega
end Go.Proofs.YtajfnmohlnkncaaGreatDoor
