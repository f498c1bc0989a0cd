/-
  DERIVED. GIVEN WITH THE SEED: THE CARDS: each row of YtajfnmohlnkncaaGreatDoorRows.lean that lists a variable, with what it lists TIED to the program's text (the seventh form; the later family's looks); each row that meets fmt, with fmt's text TOLD by the authors' own Lean function (tested against real Go, not proved from fmt's source: count such statements apart). THE CARD IS WHAT COUNTS. Prove the row's statement (the work); the ties are given (YtajfnmohlnkncaaGreatDoorTie.lean); close each card by the builder's one call (the guide's Derived/Test/ToyasCard.lean, 'card_holds'). Laid BY PROGRAM, IN A SANDBOX (cutbox-door.mjs). By AI agents, Wed Nov 11 2026. No macro, syntax, notation, axiom, sorry.
-/
import Derived.Test.YtajfnmohlnkncaaGreatDoorRows
import GoSem.ClaimSeven
namespace Go.Proofs.YtajfnmohlnkncaaGreatDoor
namespace Rows

/-- THE TIED CARD OF 'holdfastlaw17.VaultAgrees'. -/
def vaultAgreesCard : Claim7 := { stood := { row := vaultAgreesRow, standIns := [], harness := (true, "533a5cea8a370685b474ec8e6a16c779ba2878ece3b717b35dd6a0d476a15ee6"), looks := true }, kinds := [], alts := [], laidByText := true, laidKinds := [.data, .data, .data, .data, .data, .data, .pinned], laidTests := true, laidLooks := .later }
def VaultAgreesCardSaid : Prop := Claim7.holds Tryz.pinned (.plain (OpenSpec.ofChange vaultAgreesSpec)) vaultAgreesCard

/-- THE TIED CARD OF 'holdfastlaw17.VaultKeeps'. -/
def vaultKeepsCard : Claim7 := { stood := { row := vaultKeepsRow, standIns := [], harness := (true, "533a5cea8a370685b474ec8e6a16c779ba2878ece3b717b35dd6a0d476a15ee6"), looks := true }, kinds := [], alts := [], laidByText := true, laidKinds := [.data, .data, .data, .data, .data, .data, .pinned], laidTests := true, laidLooks := .later }
def VaultKeepsCardSaid : Prop := Claim7.holds Tryz.pinned (.plain (OpenSpec.ofChange vaultKeepsSpec)) vaultKeepsCard

/-- THE TIED CARD OF 'holdfastlaw17.VaultNil'. -/
def vaultNilCard : Claim7 := { stood := { row := vaultNilRow, standIns := [], harness := (true, "533a5cea8a370685b474ec8e6a16c779ba2878ece3b717b35dd6a0d476a15ee6"), looks := true }, kinds := [], alts := [], laidByText := true, laidKinds := [.data, .data, .data, .data, .data, .data, .pinned], laidTests := true, laidLooks := .later }
def VaultNilCardSaid : Prop := Claim7.holds Tryz.pinned (.plain (OpenSpec.ofChange vaultNilSpec)) vaultNilCard

/-- THE SECOND FORM's CARD OF 'holdfastlaw17.VaultAgrees'. -/
def vaultAgreesUptoCard : Claim7 := { stood := { row := vaultAgreesUptoRow, standIns := [], harness := (true, "533a5cea8a370685b474ec8e6a16c779ba2878ece3b717b35dd6a0d476a15ee6"), looks := true }, kinds := [], alts := [], laidByText := true, laidKinds := [.data, .data, .data, .data, .data, .data, .pinned], laidTests := true, laidLooks := .later }
def VaultAgreesUptoCardSaid : Prop := Claim7.holds Tryz.pinned (.plain (OpenSpec.upto vaultAgreesSpec)) vaultAgreesUptoCard

/-- THE SECOND FORM's CARD OF 'holdfastlaw17.VaultKeeps'. -/
def vaultKeepsUptoCard : Claim7 := { stood := { row := vaultKeepsUptoRow, standIns := [], harness := (true, "533a5cea8a370685b474ec8e6a16c779ba2878ece3b717b35dd6a0d476a15ee6"), looks := true }, kinds := [], alts := [], laidByText := true, laidKinds := [.data, .data, .data, .data, .data, .data, .pinned], laidTests := true, laidLooks := .later }
def VaultKeepsUptoCardSaid : Prop := Claim7.holds Tryz.pinned (.plain (OpenSpec.upto vaultKeepsSpec)) vaultKeepsUptoCard

/-- THE SECOND FORM's CARD OF 'holdfastlaw17.VaultNil'. -/
def vaultNilUptoCard : Claim7 := { stood := { row := vaultNilUptoRow, standIns := [], harness := (true, "533a5cea8a370685b474ec8e6a16c779ba2878ece3b717b35dd6a0d476a15ee6"), looks := true }, kinds := [], alts := [], laidByText := true, laidKinds := [.data, .data, .data, .data, .data, .data, .pinned], laidTests := true, laidLooks := .later }
def VaultNilUptoCardSaid : Prop := Claim7.holds Tryz.pinned (.plain (OpenSpec.upto vaultNilSpec)) vaultNilUptoCard
end Rows
end Go.Proofs.YtajfnmohlnkncaaGreatDoor
