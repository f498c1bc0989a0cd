/- WHAT IT HOLDS: a manifest as the document's, walked. -/
import Derived.Test.YtabnndjdkjkciaaGreatDoorManifestPartsG18
namespace Go.Proofs.YtabnndjdkjkciaaGreatDoor
open Go.RowKit
attribute [local go_sem ↓] Go.wp_at_zero Go.wp_at_succ

section
variable {w : World} {g : Nat} {T : TypeId} {n f t r : Int} {d : Dg} {A : Option Addr} {k c : Nat}
end
end Go.Proofs.YtabnndjdkjkciaaGreatDoor
