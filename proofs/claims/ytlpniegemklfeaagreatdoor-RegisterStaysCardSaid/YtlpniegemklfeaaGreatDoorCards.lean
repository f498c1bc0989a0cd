/-
  DERIVED. GIVEN WITH THE SEED: THE CARDS: each row of YtlpniegemklfeaaGreatDoorRows.lean that lists a variable, with what it lists TIED to the program's text (the seventh form; the later family's looks); each row that meets fmt, with fmt's text TOLD by the authors' own Lean function (tested against real Go, not proved from fmt's source: count such statements apart). THE CARD IS WHAT COUNTS. Prove the row's statement (the work); the ties are given (YtlpniegemklfeaaGreatDoorTie.lean); close each card by the builder's one call (the guide's Derived/Test/ToyasCard.lean, 'card_holds'). Laid BY PROGRAM, IN A SANDBOX (cutbox-door.mjs). By AI agents, Wed Nov 11 2026. No macro, syntax, notation, axiom, sorry.
-/
import Derived.Test.YtlpniegemklfeaaGreatDoorRows
import GoSem.ClaimSeven
namespace Go.Proofs.YtlpniegemklfeaaGreatDoor
namespace Rows

/-- THE TIED CARD OF 'holdfastlaw29.RegisterStays'. -/
def registerStaysCard : Claim7 := { stood := { row := registerStaysRow, standIns := [], harness := (true, "e0d62eeb9568392e210e1fcaf0e9b8afb3741d1ddd864d5526b16d9c34fbb9b8"), looks := true }, kinds := [], alts := [], laidByText := true, laidKinds := [.data, .pinned], laidTests := true, laidLooks := .later }
def RegisterStaysCardSaid : Prop := Claim7.holds Tryz.pinned (.plain (OpenSpec.ofChange registerStaysSpec)) registerStaysCard

/-- THE TIED CARD OF 'holdfastlaw29.RegisterAlone'. -/
def registerAloneCard : Claim7 := { stood := { row := registerAloneRow, standIns := [], harness := (true, "e0d62eeb9568392e210e1fcaf0e9b8afb3741d1ddd864d5526b16d9c34fbb9b8"), looks := true }, kinds := [], alts := [], laidByText := true, laidKinds := [.data, .pinned], laidTests := true, laidLooks := .later }
def RegisterAloneCardSaid : Prop := Claim7.holds Tryz.pinned (.plain (OpenSpec.ofChange registerAloneSpec)) registerAloneCard

/-- THE TIED CARD OF 'holdfastlaw29.RegisterPlays'. -/
def registerPlaysCard : Claim7 := { stood := { row := registerPlaysRow, standIns := [], harness := (true, "e0d62eeb9568392e210e1fcaf0e9b8afb3741d1ddd864d5526b16d9c34fbb9b8"), looks := true }, kinds := [], alts := [], laidByText := true, laidKinds := [.data, .pinned], laidTests := true, laidLooks := .later }
def RegisterPlaysCardSaid : Prop := Claim7.holds Tryz.pinned (.plain (OpenSpec.ofChange registerPlaysSpec)) registerPlaysCard

/-- THE SECOND FORM's CARD OF 'holdfastlaw29.RegisterStays'. -/
def registerStaysUptoCard : Claim7 := { stood := { row := registerStaysUptoRow, standIns := [], harness := (true, "e0d62eeb9568392e210e1fcaf0e9b8afb3741d1ddd864d5526b16d9c34fbb9b8"), looks := true }, kinds := [], alts := [], laidByText := true, laidKinds := [.data, .pinned], laidTests := true, laidLooks := .later }
def RegisterStaysUptoCardSaid : Prop := Claim7.holds Tryz.pinned (.plain (OpenSpec.upto registerStaysSpec)) registerStaysUptoCard

/-- THE SECOND FORM's CARD OF 'holdfastlaw29.RegisterAlone'. -/
def registerAloneUptoCard : Claim7 := { stood := { row := registerAloneUptoRow, standIns := [], harness := (true, "e0d62eeb9568392e210e1fcaf0e9b8afb3741d1ddd864d5526b16d9c34fbb9b8"), looks := true }, kinds := [], alts := [], laidByText := true, laidKinds := [.data, .pinned], laidTests := true, laidLooks := .later }
def RegisterAloneUptoCardSaid : Prop := Claim7.holds Tryz.pinned (.plain (OpenSpec.upto registerAloneSpec)) registerAloneUptoCard

/-- THE SECOND FORM's CARD OF 'holdfastlaw29.RegisterPlays'. -/
def registerPlaysUptoCard : Claim7 := { stood := { row := registerPlaysUptoRow, standIns := [], harness := (true, "e0d62eeb9568392e210e1fcaf0e9b8afb3741d1ddd864d5526b16d9c34fbb9b8"), looks := true }, kinds := [], alts := [], laidByText := true, laidKinds := [.data, .pinned], laidTests := true, laidLooks := .later }
def RegisterPlaysUptoCardSaid : Prop := Claim7.holds Tryz.pinned (.plain (OpenSpec.upto registerPlaysSpec)) registerPlaysUptoCard
end Rows
end Go.Proofs.YtlpniegemklfeaaGreatDoor
