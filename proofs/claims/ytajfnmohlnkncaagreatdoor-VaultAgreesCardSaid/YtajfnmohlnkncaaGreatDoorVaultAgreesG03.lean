/- WHAT IT HOLDS: arguments opened to the words of Kit (bytes, numbers, integers); over any program. -/
import Derived.Test.YtajfnmohlnkncaaGreatDoorVaultAgreesG01
import Derived.ProofKit
import Derived.OpenShut
import Derived.ChangeOld
import Derived.Lib.SmallJoins
namespace Go.Proofs.YtajfnmohlnkncaaGreatDoor
open Go.ChangeShapes Go.WideShapes Go.ChangeAt Go.RowKit Go.Deep
def I64 (a : Int) : Prop := -9223372036854775808 ≤ a ∧ a ≤ 9223372036854775807
theorem row_reads {w : World} {k : IntKind} {a : Addr} {len cap : Nat} {zs : List Int} (h1 : len ≤ cap) (h2 : cap ≤ maxLen) (hz : zs.length = cap) (hc : ∀ i, i < zs.length → w.cell? (a.add i) = some (.int k (zs.getD i 0))) :
 Sl w 1 (some a) len cap ((zs.take len).map (Value.int k)) := by
 refine ⟨by simp; omega, h1, h2, (fun h => by cases h), fun j u hj => ⟨a, rfl, ?_⟩⟩
 have hl : j < zs.length := by
  have := (List.getElem?_eq_some_iff.1 hj).1
  simp at this
  omega
 rw [hc j hl]
 simp only [List.getElem?_map, List.getElem?_take] at hj
 split at hj
 · rw [List.getElem?_eq_getElem hl] at hj
   simp at hj
   rw [← hj]
   simp [List.getElem?_eq_getElem hl]
 · simp at hj
section
variable {H : Type} {enc : TypeId × Value → H} {P : Program} {w : World} {base b0 : Nat} {held : Bool} {r : Reach} {t e : TypeId} {v : Value} {d : DataW H} {p : List MemPlace}
theorem open_i64 (ht : P.underlying t = some (.int .i64)) (hv : Value.okWide P w r b0 t v) (h : DataW.Trod enc P w base (fun _ => true) held t v d p) : ∃ a : Int, v = .int .i64 a ∧ I64 a := by
 obtain ⟨x, rfl, _, _, hw⟩ := open_int ht hv h
 exact ⟨x, rfl, bounds_i64 hw⟩
theorem int_cell {P : Program} {w : World} {base : Nat} {held : Bool} {sp : Nat → Bool} {t : TypeId} {n : Nat} {v : Value} {y : DataW H × List MemPlace} (ht : P.underlying t = some (.int .i64)) (h : DataW.trod enc P w base sp held n t [v] = some y) : ∃ a : Int, v = .int .i64 a ∧ I64 a := by
 obtain ⟨a, hv, _, hw⟩ := DataW.trod_int ht h
 simp at hv
 exact ⟨a, hv, bounds_i64 hw⟩
end
end Go.Proofs.YtajfnmohlnkncaaGreatDoor
