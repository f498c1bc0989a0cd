/- WHAT IT HOLDS: the document's TakeRun, walked. | WHAT IT HOLDS: what it says that cells are not too long, plainly. -/
import Derived.Test.YtabnndjdkjkciaaGreatDoorManifestBackG26
import Derived.Test.YtabnndjdkjkciaaGreatDoorManifestBackG09
namespace Go.Proofs.YtabnndjdkjkciaaGreatDoor
open Go.RowKit
attribute [local go_sem ↓] Go.wp_at_zero Go.wp_at_succ

end Go.Proofs.YtabnndjdkjkciaaGreatDoor

namespace Go.Proofs.YtabnndjdkjkciaaGreatDoor
end Go.Proofs.YtabnndjdkjkciaaGreatDoor
