/- WHAT IT HOLDS: an argument that is a part, opened; what the laid condition says of the digest's tables. | WHAT IT HOLDS: what the laid condition of seven variables says of the digest's tables. -/
import Derived.Test.YtajfnmohlnkncaaGreatDoorVaultAgreesG30
import Derived.Test.YtajfnmohlnkncaaGreatDoorVaultAgreesG12
import Derived.MakeChecks
import Derived.LaidMore
import Derived.OpenShut
namespace Go.Proofs.YtajfnmohlnkncaaGreatDoor
section
open Go.ChangeShapes Go.WideShapes Go.ChangeAt Go.RowKit Go.Deep
section
variable {H : Type} {enc : TypeId × Value → H} {P : Program} {w : World} {base b0 : Nat} {held : Bool} {r : Reach} {t e b u : TypeId} {v : Value} {d : DataW H} {p : List MemPlace}
end
theorem laid_words {P : Program} {W : World} {g : Nat} {nm : String} {t e : TypeId} {n fuel : Nat} {cs : Array Value} {xs : List (DataW Unit)} {p : List MemPlace} {ks : List Nat} (hg : P.globalNamed nm = some g) (hv : W.var? P nm = some cs)
 (ht : P.underlying t = some (.array n e)) (he : P.underlying e = some (.int .u32)) (hE : P.cellsOf e = 1) (hC : P.cellsOf t = n) (hd : DataW.trod (fun _ => ()) P W 0 (fun _ => true) false fuel t cs.toList = some (.agg xs, p))
 (hx : xs = ks.map fun k => .lit (.int .u32 (k : Nat))) (hn : ks.length = n) : ∀ i, i < n → W.cell? ⟨g, i, none⟩ = some (.int .u32 (ks.getD i 0 : Nat)) := fun i hi => by
 obtain ⟨ys, m, _, ex, hl, hyl, hel⟩ := DataW.trod_array ht hd
 rw [hC] at hl
 have h1 := hel i hi
 rw [hE, List.getElem?_eq_getElem (by omega)] at h1
 have hone : (cs.toList.drop (i * 1)).take 1 = [cs.toList[i]'(by omega)] := by
  rw [Nat.mul_one, List.drop_eq_getElem_cons (by omega)]
  rfl
 rw [hone] at h1
 obtain ⟨a, hc, hy, _⟩ := DataW.trod_int he h1
 simp only [List.cons.injEq, and_true] at hc
 have hex := (Prod.mk.injEq _ _ _ _).mp ex |>.1
 injection hex with hex
 rw [hx] at hex
 have h2 : (ks.map fun k => (DataW.lit (.int .u32 (k : Nat)) : DataW Unit))[i]? = (ys.map (·.1))[i]? := by rw [hex]
 rw [List.getElem?_map, List.getElem?_map, List.getElem?_eq_getElem (show i < ks.length by omega), List.getElem?_eq_getElem (show i < ys.length by omega), Option.map_some, Option.map_some, hy] at h2
 injection h2 with h2
 injection h2 with h2
 injection h2 with _ h2
 rw [World.var?_cell hg hv i, ← Array.getElem?_toList, List.getElem?_eq_getElem (by omega), hc, ← h2, List.getD_eq_getElem?_getD, List.getElem?_eq_getElem (show i < ks.length by omega)]
 rfl
theorem gShaK : Tryz.prog.globalNamed "holdfast/sha.constants" = some 1 := by kernel_rfl
theorem gShaF : Tryz.prog.globalNamed "holdfast/sha.firsts" = some 0 := by kernel_rfl
theorem tShaK : (Tryz.prog.globals[1]?).map (·.type) = some 246 := by kernel_rfl
theorem tShaF : (Tryz.prog.globals[0]?).map (·.type) = some 199 := by kernel_rfl
theorem laidVars_get {P : Program} {w : World} : ∀ {laid : List (String × DataW Unit)} {ps : List MemPlace}, DataW.LaidVars P w laid ps → ∀ {i : Nat} {nm : String} {d : DataW Unit}, laid[i]? = some (nm, d) →
 ∃ g t cs fuel p, P.globalNamed nm = some g ∧ (P.globals[g]?).map (·.type) = some t ∧ w.var? P nm = some cs ∧ DataW.trod (fun _ => ()) P w 0 (fun _ => true) false fuel t cs.toList = some (d, p)
 | [], _, _, i, nm, d, hi => by simp at hi
 | (n, x) :: r, ps, h, i, nm, d, hi => by
  obtain ⟨g, t, cs, fuel, p, q, h1, h2, h3, h4, h5, h6⟩ := h
  cases i with
  | zero =>
   simp only [List.getElem?_cons_zero, Option.some.injEq, Prod.mk.injEq] at hi
   obtain ⟨rfl, rfl⟩ := hi
   exact ⟨g, t, cs, fuel, p, h1, h2, h3, h4⟩
  | succ i => exact laidVars_get h5 (i := i) (by simpa using hi)
theorem of_shaL {W : World} {laid : List (String × DataW Unit)} (h : laidMet Tryz.prog laid W) {i j : Nat} (hi : laid[i]? = some ("holdfast/sha.constants", Rows.laid_holdfast_sha_constants)) (hj : laid[j]? = some ("holdfast/sha.firsts", Rows.laid_holdfast_sha_firsts)) : Shg W := by
 obtain ⟨ps, h, _, _⟩ := h
 obtain ⟨g0, t0, cs0, f0, p0, hg0, ht0, hv0, hd0⟩ := laidVars_get h hi
 obtain ⟨g1, t1, cs1, f1, p1, hg1, ht1, hv1, hd1⟩ := laidVars_get h hj
 obtain rfl := Option.some.inj (tShaK.symm.trans ((show some g0 = some 1 from hg0.symm.trans gShaK) |> fun e => by injection e with e; rw [← e]; exact ht0))
 obtain rfl := Option.some.inj (tShaF.symm.trans ((show some g1 = some 0 from hg1.symm.trans gShaF) |> fun e => by injection e with e; rw [← e]; exact ht1))
 refine ⟨fun i hi => ?_, fun i hi => ?_⟩
 · have h1 := laid_words (ks := shaK.map (·.toNat)) gShaK hv0 Tryz.underlying246 Tryz.underlying198 (by kernel_rfl) (by kernel_rfl) hd0 (by kernel_rfl) (by kernel_rfl) i hi
   rw [h1]
   have hl : i < shaK.length := hi
   simp [wn, List.getD_eq_getElem?_getD, hl]
 · have h1 := laid_words (ks := shaH.l.map (·.toNat)) gShaF hv1 Tryz.underlying199 Tryz.underlying198 (by kernel_rfl) (by kernel_rfl) hd1 (by kernel_rfl) (by kernel_rfl) i hi
   rw [h1]
   have hl : i < shaH.l.length := hi
   simp [wn, List.getD_eq_getElem?_getD, hl]
theorem of_sha7 {W : World} (h : laidMetH Tryz.prog [("math/bits.deBruijn32tab", Rows.laid_math_bits_deBruijn32tab), ("math/bits.deBruijn64tab", Rows.laid_math_bits_deBruijn64tab), ("internal/strconv.uint64pow10", Rows.laid_internal_strconv_uint64pow10), ("unicode/utf8.acceptRanges", Rows.laid_unicode_utf8_acceptRanges), ("holdfast/sha.constants", Rows.laid_holdfast_sha_constants), ("holdfast/sha.firsts", Rows.laid_holdfast_sha_firsts), ("unicode/utf8.first", Rows.laid_unicode_utf8_first)] W) : Shg W := by
 rw [MakeChecks.laidMetH_plain _ _ _ (by kernel_rfl)] at h
 exact of_shaL h (i := 4) (j := 5) rfl rfl
end
end Go.Proofs.YtajfnmohlnkncaaGreatDoor
