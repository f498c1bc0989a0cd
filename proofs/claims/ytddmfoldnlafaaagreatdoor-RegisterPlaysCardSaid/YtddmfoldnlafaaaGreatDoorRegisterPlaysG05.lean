/- WHAT IS PROVED: the statement LeaseRenews: for every input the law returns true. No condition. -/
import Derived.Test.YtddmfoldnlafaaaGreatDoorRegisterPlaysG04
namespace Go.Proofs.YtddmfoldnlafaaaGreatDoor
open Go.ChangeShapes Go.WideShapes Go.ChangeAt Go.RowKit

theorem ownb_of {o : Int} (h1 : o ≠ 0) (h2 : 0 ≤ o ∧ o ≤ 2) : ownb o = true := by unfold ownb; exact decide_eq_true (by omega)
namespace LeaseRenews
end LeaseRenews
end Go.Proofs.YtddmfoldnlafaaaGreatDoor
