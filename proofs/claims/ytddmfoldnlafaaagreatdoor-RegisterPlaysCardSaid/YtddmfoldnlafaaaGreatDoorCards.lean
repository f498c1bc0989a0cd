/-
  DERIVED. GIVEN WITH THE SEED: THE CARDS: each row of YtddmfoldnlafaaaGreatDoorRows.lean that lists a variable, with what it lists TIED to the program's text (the seventh form; the later family's looks); each row that meets fmt, with fmt's text TOLD by the authors' own Lean function (tested against real Go, not proved from fmt's source: count such statements apart). THE CARD IS WHAT COUNTS. Prove the row's statement (the work); the ties are given (YtddmfoldnlafaaaGreatDoorTie.lean); close each card by the builder's one call (the guide's Derived/Test/ToyasCard.lean, 'card_holds'). Laid BY PROGRAM, IN A SANDBOX (cutbox-door.mjs). By AI agents, Wed Nov 11 2026. No macro, syntax, notation, axiom, sorry.
-/
import Derived.Test.YtddmfoldnlafaaaGreatDoorRows
import GoSem.ClaimSeven
namespace Go.Proofs.YtddmfoldnlafaaaGreatDoor
namespace Rows

/-- THE TIED CARD OF 'holdfastlaw18.CursorBack'. -/
def cursorBackCard : Claim7 := { stood := { row := cursorBackRow, standIns := [], harness := (true, "ff9f3c3f13f31663d198774213c73f97ad2118b7cca8fbb4e60e2a4f44c9bf1d"), looks := true }, kinds := [], alts := [], laidByText := true, laidKinds := [.data, .pinned], laidTests := true, laidLooks := .later }
def CursorBackCardSaid : Prop := Claim7.holds Tryz.pinned (.plain (OpenSpec.ofChange cursorBackSpec)) cursorBackCard

/-- THE TIED CARD OF 'holdfastlaw29.RegisterAlone'. -/
def registerAloneCard : Claim7 := { stood := { row := registerAloneRow, standIns := [], harness := (true, "ff9f3c3f13f31663d198774213c73f97ad2118b7cca8fbb4e60e2a4f44c9bf1d"), looks := true }, kinds := [], alts := [], laidByText := true, laidKinds := [.data, .pinned], laidTests := true, laidLooks := .later }
def RegisterAloneCardSaid : Prop := Claim7.holds Tryz.pinned (.plain (OpenSpec.ofChange registerAloneSpec)) registerAloneCard

/-- THE TIED CARD OF 'holdfastlaw18.CursorKeeps'. -/
def cursorKeepsCard : Claim7 := { stood := { row := cursorKeepsRow, standIns := [], harness := (true, "ff9f3c3f13f31663d198774213c73f97ad2118b7cca8fbb4e60e2a4f44c9bf1d"), looks := true }, kinds := [], alts := [], laidByText := true, laidKinds := [.data, .pinned], laidTests := true, laidLooks := .later }
def CursorKeepsCardSaid : Prop := Claim7.holds Tryz.pinned (.plain (OpenSpec.ofChange cursorKeepsSpec)) cursorKeepsCard

/-- THE TIED CARD OF 'holdfastlaw29.RegisterPlays'. -/
def registerPlaysCard : Claim7 := { stood := { row := registerPlaysRow, standIns := [], harness := (true, "ff9f3c3f13f31663d198774213c73f97ad2118b7cca8fbb4e60e2a4f44c9bf1d"), looks := true }, kinds := [], alts := [], laidByText := true, laidKinds := [.data, .pinned], laidTests := true, laidLooks := .later }
def RegisterPlaysCardSaid : Prop := Claim7.holds Tryz.pinned (.plain (OpenSpec.ofChange registerPlaysSpec)) registerPlaysCard

/-- THE SECOND FORM's CARD OF 'holdfastlaw18.CursorBack'. -/
def cursorBackUptoCard : Claim7 := { stood := { row := cursorBackUptoRow, standIns := [], harness := (true, "ff9f3c3f13f31663d198774213c73f97ad2118b7cca8fbb4e60e2a4f44c9bf1d"), looks := true }, kinds := [], alts := [], laidByText := true, laidKinds := [.data, .pinned], laidTests := true, laidLooks := .later }
def CursorBackUptoCardSaid : Prop := Claim7.holds Tryz.pinned (.plain (OpenSpec.upto cursorBackSpec)) cursorBackUptoCard

/-- THE SECOND FORM's CARD OF 'holdfastlaw29.RegisterAlone'. -/
def registerAloneUptoCard : Claim7 := { stood := { row := registerAloneUptoRow, standIns := [], harness := (true, "ff9f3c3f13f31663d198774213c73f97ad2118b7cca8fbb4e60e2a4f44c9bf1d"), looks := true }, kinds := [], alts := [], laidByText := true, laidKinds := [.data, .pinned], laidTests := true, laidLooks := .later }
def RegisterAloneUptoCardSaid : Prop := Claim7.holds Tryz.pinned (.plain (OpenSpec.upto registerAloneSpec)) registerAloneUptoCard

/-- THE SECOND FORM's CARD OF 'holdfastlaw18.CursorKeeps'. -/
def cursorKeepsUptoCard : Claim7 := { stood := { row := cursorKeepsUptoRow, standIns := [], harness := (true, "ff9f3c3f13f31663d198774213c73f97ad2118b7cca8fbb4e60e2a4f44c9bf1d"), looks := true }, kinds := [], alts := [], laidByText := true, laidKinds := [.data, .pinned], laidTests := true, laidLooks := .later }
def CursorKeepsUptoCardSaid : Prop := Claim7.holds Tryz.pinned (.plain (OpenSpec.upto cursorKeepsSpec)) cursorKeepsUptoCard

/-- THE SECOND FORM's CARD OF 'holdfastlaw29.RegisterPlays'. -/
def registerPlaysUptoCard : Claim7 := { stood := { row := registerPlaysUptoRow, standIns := [], harness := (true, "ff9f3c3f13f31663d198774213c73f97ad2118b7cca8fbb4e60e2a4f44c9bf1d"), looks := true }, kinds := [], alts := [], laidByText := true, laidKinds := [.data, .pinned], laidTests := true, laidLooks := .later }
def RegisterPlaysUptoCardSaid : Prop := Claim7.holds Tryz.pinned (.plain (OpenSpec.upto registerPlaysSpec)) registerPlaysUptoCard
end Rows
end Go.Proofs.YtddmfoldnlafaaaGreatDoor
