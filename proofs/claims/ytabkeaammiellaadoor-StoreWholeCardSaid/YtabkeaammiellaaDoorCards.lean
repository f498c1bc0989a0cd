/-
  DERIVED. GIVEN WITH THE SEED: THE CARDS: each row of YtabkeaammiellaaDoorRows.lean that lists a variable, with what it lists TIED to the program's text (the seventh form; the later family's looks); each row that meets fmt, with fmt's text TOLD by the authors' own Lean function (tested against real Go, not proved from fmt's source: count such statements apart). THE CARD IS WHAT COUNTS. Prove the row's statement (the work); the ties are given (YtabkeaammiellaaDoorTie.lean); close each card by the builder's one call (the guide's Derived/Test/ToyasCard.lean, 'card_holds'). Laid BY PROGRAM, IN A SANDBOX (cutbox-door.mjs). By AI agents, Wed Nov 11 2026. No macro, syntax, notation, axiom, sorry.
-/
import Derived.Test.YtabkeaammiellaaDoorRows
import GoSem.ClaimSeven
namespace Go.Proofs.YtabkeaammiellaaDoor
namespace Rows

/-- THE TIED CARD OF 'holdfastlaw06.DiskKeeps'. -/
def diskKeepsCard : Claim7 := { stood := { row := diskKeepsRow, standIns := [], harness := (true, "b4d93d6ed7aab9aed4d50080aeab3e8a2ab30157c18a1f56862678e169a64795"), looks := true }, kinds := [], alts := [], laidByText := true, laidKinds := [.data, .pinned], laidTests := true, laidLooks := .later }
def DiskKeepsCardSaid : Prop := Claim7.holds Tryd.pinned (.plain (OpenSpec.ofChange diskKeepsSpec)) diskKeepsCard

/-- THE TIED CARD OF 'holdfastlaw06.DiskPlays'. -/
def diskPlaysCard : Claim7 := { stood := { row := diskPlaysRow, standIns := [], harness := (true, "b4d93d6ed7aab9aed4d50080aeab3e8a2ab30157c18a1f56862678e169a64795"), looks := true }, kinds := [], alts := [], laidByText := true, laidKinds := [.data, .pinned], laidTests := true, laidLooks := .later }
def DiskPlaysCardSaid : Prop := Claim7.holds Tryd.pinned (.plain (OpenSpec.ofChange diskPlaysSpec)) diskPlaysCard

/-- THE TIED CARD OF 'holdfastlaw06.DiskNames'. -/
def diskNamesCard : Claim7 := { stood := { row := diskNamesRow, standIns := [], harness := (true, "b4d93d6ed7aab9aed4d50080aeab3e8a2ab30157c18a1f56862678e169a64795"), looks := true }, kinds := [], alts := [], laidByText := true, laidKinds := [.data, .pinned], laidTests := true, laidLooks := .later }
def DiskNamesCardSaid : Prop := Claim7.holds Tryd.pinned (.plain (OpenSpec.ofChange diskNamesSpec)) diskNamesCard

/-- THE TIED CARD OF 'holdfastlaw07.StoreSweeps'. -/
def storeSweepsCard : Claim7 := { stood := { row := storeSweepsRow, standIns := [], harness := (true, "b4d93d6ed7aab9aed4d50080aeab3e8a2ab30157c18a1f56862678e169a64795"), looks := true }, kinds := [], alts := [], laidByText := true, laidKinds := [.data, .pinned], laidTests := true, laidLooks := .later }
def StoreSweepsCardSaid : Prop := Claim7.holds Tryd.pinned (.plain (OpenSpec.ofChange storeSweepsSpec)) storeSweepsCard

/-- THE TIED CARD OF 'holdfastlaw07.StoreWhole'. -/
def storeWholeCard : Claim7 := { stood := { row := storeWholeRow, standIns := [], harness := (true, "b4d93d6ed7aab9aed4d50080aeab3e8a2ab30157c18a1f56862678e169a64795"), looks := true }, kinds := [], alts := [], laidByText := true, laidKinds := [.data, .pinned], laidTests := true, laidLooks := .later }
def StoreWholeCardSaid : Prop := Claim7.holds Tryd.pinned (.plain (OpenSpec.ofChange storeWholeSpec)) storeWholeCard

/-- THE SECOND FORM's CARD OF 'holdfastlaw06.DiskKeeps'. -/
def diskKeepsUptoCard : Claim7 := { stood := { row := diskKeepsUptoRow, standIns := [], harness := (true, "b4d93d6ed7aab9aed4d50080aeab3e8a2ab30157c18a1f56862678e169a64795"), looks := true }, kinds := [], alts := [], laidByText := true, laidKinds := [.data, .pinned], laidTests := true, laidLooks := .later }
def DiskKeepsUptoCardSaid : Prop := Claim7.holds Tryd.pinned (.plain (OpenSpec.upto diskKeepsSpec)) diskKeepsUptoCard

/-- THE SECOND FORM's CARD OF 'holdfastlaw06.DiskPlays'. -/
def diskPlaysUptoCard : Claim7 := { stood := { row := diskPlaysUptoRow, standIns := [], harness := (true, "b4d93d6ed7aab9aed4d50080aeab3e8a2ab30157c18a1f56862678e169a64795"), looks := true }, kinds := [], alts := [], laidByText := true, laidKinds := [.data, .pinned], laidTests := true, laidLooks := .later }
def DiskPlaysUptoCardSaid : Prop := Claim7.holds Tryd.pinned (.plain (OpenSpec.upto diskPlaysSpec)) diskPlaysUptoCard

/-- THE SECOND FORM's CARD OF 'holdfastlaw06.DiskNames'. -/
def diskNamesUptoCard : Claim7 := { stood := { row := diskNamesUptoRow, standIns := [], harness := (true, "b4d93d6ed7aab9aed4d50080aeab3e8a2ab30157c18a1f56862678e169a64795"), looks := true }, kinds := [], alts := [], laidByText := true, laidKinds := [.data, .pinned], laidTests := true, laidLooks := .later }
def DiskNamesUptoCardSaid : Prop := Claim7.holds Tryd.pinned (.plain (OpenSpec.upto diskNamesSpec)) diskNamesUptoCard

/-- THE SECOND FORM's CARD OF 'holdfastlaw07.StoreSweeps'. -/
def storeSweepsUptoCard : Claim7 := { stood := { row := storeSweepsUptoRow, standIns := [], harness := (true, "b4d93d6ed7aab9aed4d50080aeab3e8a2ab30157c18a1f56862678e169a64795"), looks := true }, kinds := [], alts := [], laidByText := true, laidKinds := [.data, .pinned], laidTests := true, laidLooks := .later }
def StoreSweepsUptoCardSaid : Prop := Claim7.holds Tryd.pinned (.plain (OpenSpec.upto storeSweepsSpec)) storeSweepsUptoCard

/-- THE SECOND FORM's CARD OF 'holdfastlaw07.StoreWhole'. -/
def storeWholeUptoCard : Claim7 := { stood := { row := storeWholeUptoRow, standIns := [], harness := (true, "b4d93d6ed7aab9aed4d50080aeab3e8a2ab30157c18a1f56862678e169a64795"), looks := true }, kinds := [], alts := [], laidByText := true, laidKinds := [.data, .pinned], laidTests := true, laidLooks := .later }
def StoreWholeUptoCardSaid : Prop := Claim7.holds Tryd.pinned (.plain (OpenSpec.upto storeWholeSpec)) storeWholeUptoCard
end Rows
end Go.Proofs.YtabkeaammiellaaDoor
