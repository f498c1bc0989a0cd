/-
  DERIVED. GIVEN WITH THE SEED: THE CARDS: each row of YtnndlmkcckgkhaaGreatDoorRows.lean that lists a variable, with what it lists TIED to the program's text (the seventh form; the later family's looks); each row that meets fmt, with fmt's text TOLD by the authors' own Lean function (tested against real Go, not proved from fmt's source: count such statements apart). THE CARD IS WHAT COUNTS. Prove the row's statement (the work); the ties are given (YtnndlmkcckgkhaaGreatDoorTie.lean); close each card by the builder's one call (the guide's Derived/Test/ToyasCard.lean, 'card_holds'). Laid BY PROGRAM, IN A SANDBOX (cutbox-door.mjs). By AI agents, Wed Nov 11 2026. No macro, syntax, notation, axiom, sorry.
-/
import Derived.Test.YtnndlmkcckgkhaaGreatDoorRows
import GoSem.ClaimSeven
namespace Go.Proofs.YtnndlmkcckgkhaaGreatDoor
namespace Rows

/-- THE TIED CARD OF 'holdfastlaw15.ManifestParts'. -/
def manifestPartsCard : Claim7 := { stood := { row := manifestPartsRow, standIns := [], harness := (true, "93106481ec714d54c4e2bef4f372e51cc9ede1a0a08026129d651adae15872cd"), looks := true }, kinds := [], alts := [], laidByText := true, laidKinds := [.data, .data], laidTests := true, laidLooks := .later }
def ManifestPartsCardSaid : Prop := Claim7.holds Tryz.pinned (.plain (OpenSpec.ofChange manifestPartsSpec)) manifestPartsCard

/-- THE TIED CARD OF 'holdfastlaw15.ManifestBack'. -/
def manifestBackCard : Claim7 := { stood := { row := manifestBackRow, standIns := [], harness := (true, "93106481ec714d54c4e2bef4f372e51cc9ede1a0a08026129d651adae15872cd"), looks := true }, kinds := [], alts := [], laidByText := true, laidKinds := [.data, .data], laidTests := true, laidLooks := .later }
def ManifestBackCardSaid : Prop := Claim7.holds Tryz.pinned (.plain (OpenSpec.ofChange manifestBackSpec)) manifestBackCard

/-- THE TIED CARD OF 'holdfastlaw07.StorePlays'. -/
def storePlaysCard : Claim7 := { stood := { row := storePlaysRow, standIns := [], harness := (true, "93106481ec714d54c4e2bef4f372e51cc9ede1a0a08026129d651adae15872cd"), looks := true }, kinds := [], alts := [], laidByText := true, laidKinds := [.data, .pinned], laidTests := true, laidLooks := .later }
def StorePlaysCardSaid : Prop := Claim7.holds Tryz.pinned (.plain (OpenSpec.ofChange storePlaysSpec)) storePlaysCard

/-- THE TIED CARD OF 'holdfastlaw07.StoreOpens'. -/
def storeOpensCard : Claim7 := { stood := { row := storeOpensRow, standIns := [], harness := (true, "93106481ec714d54c4e2bef4f372e51cc9ede1a0a08026129d651adae15872cd"), looks := true }, kinds := [], alts := [], laidByText := true, laidKinds := [.data, .pinned], laidTests := true, laidLooks := .later }
def StoreOpensCardSaid : Prop := Claim7.holds Tryz.pinned (.plain (OpenSpec.ofChange storeOpensSpec)) storeOpensCard

/-- THE SECOND FORM's CARD OF 'holdfastlaw15.ManifestParts'. -/
def manifestPartsUptoCard : Claim7 := { stood := { row := manifestPartsUptoRow, standIns := [], harness := (true, "93106481ec714d54c4e2bef4f372e51cc9ede1a0a08026129d651adae15872cd"), looks := true }, kinds := [], alts := [], laidByText := true, laidKinds := [.data, .data], laidTests := true, laidLooks := .later }
def ManifestPartsUptoCardSaid : Prop := Claim7.holds Tryz.pinned (.plain (OpenSpec.upto manifestPartsSpec)) manifestPartsUptoCard

/-- THE SECOND FORM's CARD OF 'holdfastlaw15.ManifestBack'. -/
def manifestBackUptoCard : Claim7 := { stood := { row := manifestBackUptoRow, standIns := [], harness := (true, "93106481ec714d54c4e2bef4f372e51cc9ede1a0a08026129d651adae15872cd"), looks := true }, kinds := [], alts := [], laidByText := true, laidKinds := [.data, .data], laidTests := true, laidLooks := .later }
def ManifestBackUptoCardSaid : Prop := Claim7.holds Tryz.pinned (.plain (OpenSpec.upto manifestBackSpec)) manifestBackUptoCard

/-- THE SECOND FORM's CARD OF 'holdfastlaw07.StorePlays'. -/
def storePlaysUptoCard : Claim7 := { stood := { row := storePlaysUptoRow, standIns := [], harness := (true, "93106481ec714d54c4e2bef4f372e51cc9ede1a0a08026129d651adae15872cd"), looks := true }, kinds := [], alts := [], laidByText := true, laidKinds := [.data, .pinned], laidTests := true, laidLooks := .later }
def StorePlaysUptoCardSaid : Prop := Claim7.holds Tryz.pinned (.plain (OpenSpec.upto storePlaysSpec)) storePlaysUptoCard

/-- THE SECOND FORM's CARD OF 'holdfastlaw07.StoreOpens'. -/
def storeOpensUptoCard : Claim7 := { stood := { row := storeOpensUptoRow, standIns := [], harness := (true, "93106481ec714d54c4e2bef4f372e51cc9ede1a0a08026129d651adae15872cd"), looks := true }, kinds := [], alts := [], laidByText := true, laidKinds := [.data, .pinned], laidTests := true, laidLooks := .later }
def StoreOpensUptoCardSaid : Prop := Claim7.holds Tryz.pinned (.plain (OpenSpec.upto storeOpensSpec)) storeOpensUptoCard
end Rows
end Go.Proofs.YtnndlmkcckgkhaaGreatDoor
