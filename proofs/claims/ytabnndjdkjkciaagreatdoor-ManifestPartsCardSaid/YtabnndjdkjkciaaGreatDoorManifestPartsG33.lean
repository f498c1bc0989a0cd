/- WHAT IT HOLDS: arguments that are parts, manifests, opened to the words of ManK. | WHAT IT HOLDS: an argument that is a part, opened; what the laid condition says of the digest's tables. -/
import Derived.Test.YtabnndjdkjkciaaGreatDoorManifestPartsG32
import Derived.Test.YtabnndjdkjkciaaGreatDoorManifestPartsG09
import Derived.Test.YtabnndjdkjkciaaGreatDoorManifestPartsG15
import Derived.MakeChecks
import Derived.LaidMore
import Derived.OpenShut
namespace Go.Proofs.YtabnndjdkjkciaaGreatDoor
open Go.ChangeShapes Go.WideShapes Go.ChangeAt Go.RowKit Go.Deep

section
variable {H : Type} {enc : TypeId × Value → H} {P : Program} {w : World} {base b0 : Nat} {held : Bool} {r : Reach} {t e b u : TypeId} {v : Value} {d : DataW H} {p : List MemPlace}
/-- a digest -/
theorem open_dg {cs : List Value} {fuel : Nat} {y : DataW H × List MemPlace} (ht : P.underlying t = some (.array 32 e)) (he : P.underlying e = some (.int .u8)) (hE : P.cellsOf e = 1) (hC : P.cellsOf t = 32)
    (h : DataW.trod enc P w base (fun _ => true) held fuel t cs = some y) : ∃ d : Dg, cs = bvs d.1 := by
  obtain ⟨xs, m, _, _, hl, hlen, hg⟩ := DataW.trod_array ht h
  rw [hC] at hl
  have hx : ∀ i, i < 32 → ∃ b : UInt8, cs[i]? = some (bv b) := by
    intro i hi
    have hi2 := hg i hi
    rw [hE, List.getElem?_eq_getElem (by omega)] at hi2
    have hone : (cs.drop (i * 1)).take 1 = [cs[i]'(by omega)] := by
      rw [Nat.mul_one, List.drop_eq_getElem_cons (by omega)]
      rfl
    rw [hone] at hi2
    obtain ⟨a, hv, _, hw⟩ := DataW.trod_int he hi2
    simp at hv
    have hb := bounds_u8 hw
    refine ⟨UInt8.ofNat a.toNat, ?_⟩
    rw [List.getElem?_eq_getElem (by omega), hv]
    simp only [bv, UInt8.toNat_ofNat', Option.some.injEq, Value.int.injEq, true_and]
    omega
  obtain ⟨l, hll, hlr⟩ := list_choice _ 32 hx
  refine ⟨⟨l, hll⟩, ?_⟩
  apply List.ext_getElem?
  intro i
  rcases Nat.lt_or_ge i 32 with h1 | h1
  · rw [hlr i (by omega)]
    simp [List.getElem?_eq_getElem (show i < l.length from by omega)]
  · rw [List.getElem?_eq_none (by omega), List.getElem?_eq_none (by simp; omega)]
/-- a part -/
theorem open_pt {g0 g1 g2 g3 : Field} (hs : P.underlying t = some (.struct #[g0, g1, g2, g3])) (h0 : P.underlying g0.type = some (.int .i64)) (h1 : P.underlying g1.type = some (.int .i64)) (h2 : P.underlying g2.type = some (.int .i64)) (h3 : P.underlying g3.type = some (.array 32 e)) (he : P.underlying e = some (.int .u8))
    (hE : P.cellsOf e = 1) (hC3 : P.cellsOf g3.type = 32) (hC : P.cellsOf t = 35) (o0 : g0.offset = 0) (o1 : g1.offset = 1) (o2 : g2.offset = 2) (o3 : g3.offset = 3) (k0 : P.cellsOf g0.type = 1) (k1 : P.cellsOf g1.type = 1) (k2 : P.cellsOf g2.type = 1)
    (cs : List Value) (fuel : Nat) (y : DataW H × List MemPlace) (h : DataW.trod enc P w base (fun _ => true) held fuel t cs = some y) : ∃ x : Pt5, ptl x = cs ∧ (I64 x.1 ∧ I64 x.2.1 ∧ I64 x.2.2.1) := by
  obtain ⟨xs, n, _, _, hl, hxl, hf⟩ := DataW.trod_struct hs h
  rw [hC] at hl
  have q0 := hf 0 g0 rfl
  have q1 := hf 1 g1 rfl
  have q2 := hf 2 g2 rfl
  have q3 := hf 3 g3 rfl
  have hxl4 : xs.length = 4 := hxl
  rw [List.getElem?_eq_getElem (by omega)] at q0 q1 q2 q3
  match cs, hl with
  | c0 :: c1 :: c2 :: rest, hl =>
    simp only [o0, k0, List.drop_zero, List.take_succ_cons, List.take_zero] at q0
    simp only [o1, k1, List.drop_succ_cons, List.drop_zero, List.take_succ_cons, List.take_zero] at q1
    simp only [o2, k2, List.drop_succ_cons, List.drop_zero, List.take_succ_cons, List.take_zero] at q2
    simp only [o3, hC3, List.drop_succ_cons, List.drop_zero] at q3
    simp only [List.length_cons] at hl
    rw [List.take_of_length_le (by omega)] at q3
    obtain ⟨a0, rfl, i0⟩ := int_cell h0 q0
    obtain ⟨a1, rfl, i1⟩ := int_cell h1 q1
    obtain ⟨a2, rfl, i2⟩ := int_cell h2 q2
    obtain ⟨dd, rfl⟩ := open_dg h3 he hE hC3 q3
    exact ⟨(a0, a1, a2, dd), rfl, i0, i1, i2⟩
end
end Go.Proofs.YtabnndjdkjkciaaGreatDoor

namespace Go.Proofs.YtabnndjdkjkciaaGreatDoor
open Go.ChangeShapes Go.WideShapes Go.ChangeAt Go.RowKit Go.Deep

section
variable {H : Type} {enc : TypeId × Value → H} {P : Program} {w : World} {base b0 : Nat} {held : Bool} {r : Reach} {t e b u : TypeId} {v : Value} {d : DataW H} {p : List MemPlace}
theorem open_part {g0 g1 g2 g3 : Field} (hs : P.underlying t = some (.struct #[g0, g1, g2, g3])) (h0 : P.underlying g0.type = some (.int .i64)) (h1 : P.underlying g1.type = some (.int .i64)) (h2 : P.underlying g2.type = some (.int .i64)) (h3 : P.underlying g3.type = some (.array 32 e)) (he : P.underlying e = some (.int .u8))
    (hE : P.cellsOf e = 1) (hC3 : P.cellsOf g3.type = 32) (hC : P.cellsOf t = 35) (o0 : g0.offset = 0) (o1 : g1.offset = 1) (o2 : g2.offset = 2) (o3 : g3.offset = 3) (k0 : P.cellsOf g0.type = 1) (k1 : P.cellsOf g1.type = 1) (k2 : P.cellsOf g2.type = 1)
    (hv : Value.okWide P w r b0 t v) (h : DataW.Trod enc P w base (fun _ => true) held t v d p) :
    ∃ x : Pt5, v = .agg (pta x) ∧ (I64 x.1 ∧ I64 x.2.1 ∧ I64 x.2.2.1) := by
  obtain ⟨cs, rfl, hsz⟩ := okWide_struct hs hv
  obtain ⟨fuel, hf⟩ := h
  obtain ⟨x, hx, hq⟩ := open_pt hs h0 h1 h2 h3 he hE hC3 hC o0 o1 o2 o3 k0 k1 k2 _ _ _ hf
  refine ⟨x, ?_, hq⟩
  unfold pta
  rw [hx]
  rfl
end
/-- a laid array of words, cell by cell -/
theorem laid_words {P : Program} {W : World} {g : Nat} {nm : String} {t e : TypeId} {n fuel : Nat} {cs : Array Value} {xs : List (DataW Unit)} {p : List MemPlace} {ks : List Nat} (hg : P.globalNamed nm = some g) (hv : W.var? P nm = some cs)
    (ht : P.underlying t = some (.array n e)) (he : P.underlying e = some (.int .u32)) (hE : P.cellsOf e = 1) (hC : P.cellsOf t = n) (hd : DataW.trod (fun _ => ()) P W 0 (fun _ => true) false fuel t cs.toList = some (.agg xs, p))
    (hx : xs = ks.map fun k => .lit (.int .u32 (k : Nat))) (hn : ks.length = n) : ∀ i, i < n → W.cell? ⟨g, i, none⟩ = some (.int .u32 (ks.getD i 0 : Nat)) := fun i hi => by
  obtain ⟨ys, m, _, ex, hl, hyl, hel⟩ := DataW.trod_array ht hd
  rw [hC] at hl
  have h1 := hel i hi
  rw [hE, List.getElem?_eq_getElem (by omega)] at h1
  have hone : (cs.toList.drop (i * 1)).take 1 = [cs.toList[i]'(by omega)] := by
    rw [Nat.mul_one, List.drop_eq_getElem_cons (by omega)]
    rfl
  rw [hone] at h1
  obtain ⟨a, hc, hy, _⟩ := DataW.trod_int he h1
  simp only [List.cons.injEq, and_true] at hc
  have hex := (Prod.mk.injEq _ _ _ _).mp ex |>.1
  injection hex with hex
  rw [hx] at hex
  have h2 : (ks.map fun k => (DataW.lit (.int .u32 (k : Nat)) : DataW Unit))[i]? = (ys.map (·.1))[i]? := by rw [hex]
  rw [List.getElem?_map, List.getElem?_map, List.getElem?_eq_getElem (show i < ks.length by omega), List.getElem?_eq_getElem (show i < ys.length by omega), Option.map_some, Option.map_some, hy] at h2
  injection h2 with h2
  injection h2 with h2
  injection h2 with _ h2
  rw [World.var?_cell hg hv i, ← Array.getElem?_toList, List.getElem?_eq_getElem (by omega), hc, ← h2, List.getD_eq_getElem?_getD, List.getElem?_eq_getElem (show i < ks.length by omega)]
  rfl
theorem gShaK : Tryz.prog.globalNamed "holdfast/sha.constants" = some 1 := by kernel_rfl
theorem gShaF : Tryz.prog.globalNamed "holdfast/sha.firsts" = some 0 := by kernel_rfl
theorem tShaK : (Tryz.prog.globals[1]?).map (·.type) = some 288 := by kernel_rfl
theorem tShaF : (Tryz.prog.globals[0]?).map (·.type) = some 222 := by kernel_rfl
theorem of_sha {W : World} (h : laidMetH Tryz.prog [("holdfast/sha.constants", Rows.laid_holdfast_sha_constants), ("holdfast/sha.firsts", Rows.laid_holdfast_sha_firsts)] W) : Shg W := by
  rw [MakeChecks.laidMetH_plain _ _ _ (by kernel_rfl)] at h
  obtain ⟨ps, ⟨g0, t0, cs0, f0, p0, q0, hg0, ht0, hv0, hd0, ⟨g1, t1, cs1, f1, p1, q1, hg1, ht1, hv1, hd1, _, _⟩, _⟩, _, _⟩ := h
  obtain rfl := Option.some.inj (tShaK.symm.trans ((show some g0 = some 1 from hg0.symm.trans gShaK) |> fun e => by injection e with e; rw [← e]; exact ht0))
  obtain rfl := Option.some.inj (tShaF.symm.trans ((show some g1 = some 0 from hg1.symm.trans gShaF) |> fun e => by injection e with e; rw [← e]; exact ht1))
  refine ⟨fun i hi => ?_, fun i hi => ?_⟩
  · have h1 := laid_words (ks := shaK.map (·.toNat)) gShaK hv0 Tryz.underlying288 Tryz.underlying221 (by kernel_rfl) (by kernel_rfl) hd0 (by kernel_rfl) (by kernel_rfl) i hi
    rw [h1]
    have hl : i < shaK.length := hi
    simp [wn, List.getD_eq_getElem?_getD, hl]
  · have h1 := laid_words (ks := shaH.l.map (·.toNat)) gShaF hv1 Tryz.underlying222 Tryz.underlying221 (by kernel_rfl) (by kernel_rfl) hd1 (by kernel_rfl) (by kernel_rfl) i hi
    rw [h1]
    have hl : i < shaH.l.length := hi
    simp [wn, List.getD_eq_getElem?_getD, hl]
end Go.Proofs.YtabnndjdkjkciaaGreatDoor
