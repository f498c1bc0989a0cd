/- WHAT IT HOLDS: cursor.Take, walked, for all bytes. -/
import Derived.Test.YtabnndjdkjkciaaGreatDoorManifestPartsG16
import Derived.Test.YtabnndjdkjkciaaGreatDoorManifestPartsG09
namespace Go.Proofs.YtabnndjdkjkciaaGreatDoor
open Go.RowKit
attribute [local go_sem ↓] Go.wp_at_zero Go.wp_at_succ

end Go.Proofs.YtabnndjdkjkciaaGreatDoor
