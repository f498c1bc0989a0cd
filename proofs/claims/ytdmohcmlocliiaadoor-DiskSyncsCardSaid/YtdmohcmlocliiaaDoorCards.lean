/-
  DERIVED. GIVEN WITH THE SEED: THE CARDS: each row of YtdmohcmlocliiaaDoorRows.lean that lists a variable, with what it lists TIED to the program's text (the seventh form; the later family's looks); each row that meets fmt, with fmt's text TOLD by the authors' own Lean function (tested against real Go, not proved from fmt's source: count such statements apart). THE CARD IS WHAT COUNTS. Prove the row's statement (the work); the ties are given (YtdmohcmlocliiaaDoorTie.lean); close each card by the builder's one call (the guide's Derived/Test/ToyasCard.lean, 'card_holds'). Laid BY PROGRAM, IN A SANDBOX (cutbox-door.mjs). By AI agents, Wed Nov 11 2026. No macro, syntax, notation, axiom, sorry.
-/
import Derived.Test.YtdmohcmlocliiaaDoorRows
import GoSem.ClaimSeven
namespace Go.Proofs.YtdmohcmlocliiaaDoor
namespace Rows

/-- THE TIED CARD OF 'holdfastlaw06.DiskFuses'. -/
def diskFusesCard : Claim7 := { stood := { row := diskFusesRow, standIns := [], harness := (true, "bd5efd9e18e1bc331eaf80113b7a58c6ab9cc1ff0b9376db5ec30147a09ee3a1"), looks := true }, kinds := [], alts := [], laidByText := true, laidKinds := [.data, .pinned], laidTests := true, laidLooks := .later }
def DiskFusesCardSaid : Prop := Claim7.holds Tryd.pinned (.plain (OpenSpec.ofChange diskFusesSpec)) diskFusesCard

/-- THE TIED CARD OF 'holdfastlaw06.DiskKeeps'. -/
def diskKeepsCard : Claim7 := { stood := { row := diskKeepsRow, standIns := [], harness := (true, "bd5efd9e18e1bc331eaf80113b7a58c6ab9cc1ff0b9376db5ec30147a09ee3a1"), looks := true }, kinds := [], alts := [], laidByText := true, laidKinds := [.data, .pinned], laidTests := true, laidLooks := .later }
def DiskKeepsCardSaid : Prop := Claim7.holds Tryd.pinned (.plain (OpenSpec.ofChange diskKeepsSpec)) diskKeepsCard

/-- THE TIED CARD OF 'holdfastlaw06.DiskSyncs'. -/
def diskSyncsCard : Claim7 := { stood := { row := diskSyncsRow, standIns := [], harness := (true, "bd5efd9e18e1bc331eaf80113b7a58c6ab9cc1ff0b9376db5ec30147a09ee3a1"), looks := true }, kinds := [], alts := [], laidByText := true, laidKinds := [.data, .pinned], laidTests := true, laidLooks := .later }
def DiskSyncsCardSaid : Prop := Claim7.holds Tryd.pinned (.plain (OpenSpec.ofChange diskSyncsSpec)) diskSyncsCard

/-- THE TIED CARD OF 'holdfastlaw06.DiskPlays'. -/
def diskPlaysCard : Claim7 := { stood := { row := diskPlaysRow, standIns := [], harness := (true, "bd5efd9e18e1bc331eaf80113b7a58c6ab9cc1ff0b9376db5ec30147a09ee3a1"), looks := true }, kinds := [], alts := [], laidByText := true, laidKinds := [.data, .pinned], laidTests := true, laidLooks := .later }
def DiskPlaysCardSaid : Prop := Claim7.holds Tryd.pinned (.plain (OpenSpec.ofChange diskPlaysSpec)) diskPlaysCard

/-- THE TIED CARD OF 'holdfastlaw06.DiskNames'. -/
def diskNamesCard : Claim7 := { stood := { row := diskNamesRow, standIns := [], harness := (true, "bd5efd9e18e1bc331eaf80113b7a58c6ab9cc1ff0b9376db5ec30147a09ee3a1"), looks := true }, kinds := [], alts := [], laidByText := true, laidKinds := [.data, .pinned], laidTests := true, laidLooks := .later }
def DiskNamesCardSaid : Prop := Claim7.holds Tryd.pinned (.plain (OpenSpec.ofChange diskNamesSpec)) diskNamesCard

/-- THE SECOND FORM's CARD OF 'holdfastlaw06.DiskFuses'. -/
def diskFusesUptoCard : Claim7 := { stood := { row := diskFusesUptoRow, standIns := [], harness := (true, "bd5efd9e18e1bc331eaf80113b7a58c6ab9cc1ff0b9376db5ec30147a09ee3a1"), looks := true }, kinds := [], alts := [], laidByText := true, laidKinds := [.data, .pinned], laidTests := true, laidLooks := .later }
def DiskFusesUptoCardSaid : Prop := Claim7.holds Tryd.pinned (.plain (OpenSpec.upto diskFusesSpec)) diskFusesUptoCard

/-- THE SECOND FORM's CARD OF 'holdfastlaw06.DiskKeeps'. -/
def diskKeepsUptoCard : Claim7 := { stood := { row := diskKeepsUptoRow, standIns := [], harness := (true, "bd5efd9e18e1bc331eaf80113b7a58c6ab9cc1ff0b9376db5ec30147a09ee3a1"), looks := true }, kinds := [], alts := [], laidByText := true, laidKinds := [.data, .pinned], laidTests := true, laidLooks := .later }
def DiskKeepsUptoCardSaid : Prop := Claim7.holds Tryd.pinned (.plain (OpenSpec.upto diskKeepsSpec)) diskKeepsUptoCard

/-- THE SECOND FORM's CARD OF 'holdfastlaw06.DiskSyncs'. -/
def diskSyncsUptoCard : Claim7 := { stood := { row := diskSyncsUptoRow, standIns := [], harness := (true, "bd5efd9e18e1bc331eaf80113b7a58c6ab9cc1ff0b9376db5ec30147a09ee3a1"), looks := true }, kinds := [], alts := [], laidByText := true, laidKinds := [.data, .pinned], laidTests := true, laidLooks := .later }
def DiskSyncsUptoCardSaid : Prop := Claim7.holds Tryd.pinned (.plain (OpenSpec.upto diskSyncsSpec)) diskSyncsUptoCard

/-- THE SECOND FORM's CARD OF 'holdfastlaw06.DiskPlays'. -/
def diskPlaysUptoCard : Claim7 := { stood := { row := diskPlaysUptoRow, standIns := [], harness := (true, "bd5efd9e18e1bc331eaf80113b7a58c6ab9cc1ff0b9376db5ec30147a09ee3a1"), looks := true }, kinds := [], alts := [], laidByText := true, laidKinds := [.data, .pinned], laidTests := true, laidLooks := .later }
def DiskPlaysUptoCardSaid : Prop := Claim7.holds Tryd.pinned (.plain (OpenSpec.upto diskPlaysSpec)) diskPlaysUptoCard

/-- THE SECOND FORM's CARD OF 'holdfastlaw06.DiskNames'. -/
def diskNamesUptoCard : Claim7 := { stood := { row := diskNamesUptoRow, standIns := [], harness := (true, "bd5efd9e18e1bc331eaf80113b7a58c6ab9cc1ff0b9376db5ec30147a09ee3a1"), looks := true }, kinds := [], alts := [], laidByText := true, laidKinds := [.data, .pinned], laidTests := true, laidLooks := .later }
def DiskNamesUptoCardSaid : Prop := Claim7.holds Tryd.pinned (.plain (OpenSpec.upto diskNamesSpec)) diskNamesUptoCard
end Rows
end Go.Proofs.YtdmohcmlocliiaaDoor
