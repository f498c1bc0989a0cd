/-
  DERIVED. GIVEN WITH THE SEED: THE CARDS: each row of YtabnndjdkjkciaaGreatDoorRows.lean that lists a variable, with what it lists TIED to the program's text (the seventh form; the later family's looks); each row that meets fmt, with fmt's text TOLD by the authors' own Lean function (tested against real Go, not proved from fmt's source: count such statements apart). THE CARD IS WHAT COUNTS. Prove the row's statement (the work); the ties are given (YtabnndjdkjkciaaGreatDoorTie.lean); close each card by the builder's one call (the guide's Derived/Test/ToyasCard.lean, 'card_holds'). Laid BY PROGRAM, IN A SANDBOX (cutbox-door.mjs). By AI agents, Wed Nov 11 2026. No macro, syntax, notation, axiom, sorry.
-/
import Derived.Test.YtabnndjdkjkciaaGreatDoorRows
import GoSem.ClaimSeven
namespace Go.Proofs.YtabnndjdkjkciaaGreatDoor
namespace Rows

/-- THE TIED CARD OF 'holdfastlaw15.ManifestParts'. -/
def manifestPartsCard : Claim7 := { stood := { row := manifestPartsRow, standIns := [], harness := (true, "e9dde3715d89288ffb46933e430a5802ad516347f322703b15e8089b47d0dad1"), looks := true }, kinds := [], alts := [], laidByText := true, laidKinds := [.data, .data], laidTests := true, laidLooks := .later }
def ManifestPartsCardSaid : Prop := Claim7.holds Tryz.pinned (.plain (OpenSpec.ofChange manifestPartsSpec)) manifestPartsCard

/-- THE TIED CARD OF 'holdfastlaw15.ManifestBack'. -/
def manifestBackCard : Claim7 := { stood := { row := manifestBackRow, standIns := [], harness := (true, "e9dde3715d89288ffb46933e430a5802ad516347f322703b15e8089b47d0dad1"), looks := true }, kinds := [], alts := [], laidByText := true, laidKinds := [.data, .data], laidTests := true, laidLooks := .later }
def ManifestBackCardSaid : Prop := Claim7.holds Tryz.pinned (.plain (OpenSpec.ofChange manifestBackSpec)) manifestBackCard

/-- THE TIED CARD OF 'holdfastlaw18.CursorKeeps'. -/
def cursorKeepsCard : Claim7 := { stood := { row := cursorKeepsRow, standIns := [], harness := (true, "e9dde3715d89288ffb46933e430a5802ad516347f322703b15e8089b47d0dad1"), looks := true }, kinds := [], alts := [], laidByText := true, laidKinds := [.data, .pinned], laidTests := true, laidLooks := .later }
def CursorKeepsCardSaid : Prop := Claim7.holds Tryz.pinned (.plain (OpenSpec.ofChange cursorKeepsSpec)) cursorKeepsCard

/-- THE SECOND FORM's CARD OF 'holdfastlaw15.ManifestParts'. -/
def manifestPartsUptoCard : Claim7 := { stood := { row := manifestPartsUptoRow, standIns := [], harness := (true, "e9dde3715d89288ffb46933e430a5802ad516347f322703b15e8089b47d0dad1"), looks := true }, kinds := [], alts := [], laidByText := true, laidKinds := [.data, .data], laidTests := true, laidLooks := .later }
def ManifestPartsUptoCardSaid : Prop := Claim7.holds Tryz.pinned (.plain (OpenSpec.upto manifestPartsSpec)) manifestPartsUptoCard

/-- THE SECOND FORM's CARD OF 'holdfastlaw15.ManifestBack'. -/
def manifestBackUptoCard : Claim7 := { stood := { row := manifestBackUptoRow, standIns := [], harness := (true, "e9dde3715d89288ffb46933e430a5802ad516347f322703b15e8089b47d0dad1"), looks := true }, kinds := [], alts := [], laidByText := true, laidKinds := [.data, .data], laidTests := true, laidLooks := .later }
def ManifestBackUptoCardSaid : Prop := Claim7.holds Tryz.pinned (.plain (OpenSpec.upto manifestBackSpec)) manifestBackUptoCard

/-- THE SECOND FORM's CARD OF 'holdfastlaw18.CursorKeeps'. -/
def cursorKeepsUptoCard : Claim7 := { stood := { row := cursorKeepsUptoRow, standIns := [], harness := (true, "e9dde3715d89288ffb46933e430a5802ad516347f322703b15e8089b47d0dad1"), looks := true }, kinds := [], alts := [], laidByText := true, laidKinds := [.data, .pinned], laidTests := true, laidLooks := .later }
def CursorKeepsUptoCardSaid : Prop := Claim7.holds Tryz.pinned (.plain (OpenSpec.upto cursorKeepsSpec)) cursorKeepsUptoCard
end Rows
end Go.Proofs.YtabnndjdkjkciaaGreatDoor
