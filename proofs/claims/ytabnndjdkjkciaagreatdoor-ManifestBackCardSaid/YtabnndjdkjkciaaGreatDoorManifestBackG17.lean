/- WHAT IT HOLDS: a manifest as the document's, walked. -/
import Derived.Test.YtabnndjdkjkciaaGreatDoorManifestBackG16
namespace Go.Proofs.YtabnndjdkjkciaaGreatDoor
open Go.RowKit
attribute [local go_sem ↓] Go.wp_at_zero Go.wp_at_succ

theorem mfa_set (n f t r : Int) (A A' : Option Addr) (k c k' c' : Nat) : ∀ d : Dg, (mfa n f t r d A k c).setIfInBounds 36 (.slice A' k' c') = mfa n f t r d A' k' c' := by
  refine dg_cases ?_
  intros
  rfl
section
variable {w : World} {g : Nat} {T : TypeId} {n f t r : Int} {d : Dg} {A : Option Addr} {k c : Nat}
theorem Blm.five (h : Blk w g T (mfa n f t r d A k c)) : w.cell? ⟨g, 0, none⟩ = some (.int .i64 n) ∧ w.cell? ⟨g, 1, none⟩ = some (.int .i64 f) ∧ w.cell? ⟨g, 2, none⟩ = some (.int .i64 t) ∧ w.cell? ⟨g, 3, none⟩ = some (.int .i64 r) ∧ w.cell? ⟨g, 36, none⟩ = some (.slice A k c) := by
  refine ⟨(h.cell 0).trans rfl, (h.cell 1).trans rfl, (h.cell 2).trans rfl, (h.cell 3).trans rfl, (h.cell 36).trans ?_⟩
  have := d.2
  simp [mfa, mfl, this]
theorem Blm.dg (h : Blk w g T (mfa n f t r d A k c)) : ∀ j u, (dga d)[j]? = some u → w.cell? ((⟨g, 4, none⟩ : Addr).add j) = some u := fun j u hj => by
  rw [addr_lit, h.cell]
  replace hj : (bvs d.1)[j]? = some u := by simpa [dga] using hj
  have hj2 : j < (bvs d.1).length := (List.getElem?_eq_some_iff.1 hj).1
  rw [show 4 + j = j + 1 + 1 + 1 + 1 from by omega]
  simp only [mfa, mfl, List.getElem?_toArray, List.getElem?_cons_succ]
  rw [List.getElem?_append_left hj2]
  exact hj
end
end Go.Proofs.YtabnndjdkjkciaaGreatDoor
