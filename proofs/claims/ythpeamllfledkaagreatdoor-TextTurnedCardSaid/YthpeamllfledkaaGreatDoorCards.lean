/-
  DERIVED. GIVEN WITH THE SEED: THE CARDS: each row of YthpeamllfledkaaGreatDoorRows.lean that lists a variable, with what it lists TIED to the program's text (the seventh form; the later family's looks); each row that meets fmt, with fmt's text TOLD by the authors' own Lean function (tested against real Go, not proved from fmt's source: count such statements apart). THE CARD IS WHAT COUNTS. Prove the row's statement (the work); the ties are given (YthpeamllfledkaaGreatDoorTie.lean); close each card by the builder's one call (the guide's Derived/Test/ToyasCard.lean, 'card_holds'). Laid BY PROGRAM, IN A SANDBOX (cutbox-door.mjs). By AI agents, Wed Nov 11 2026. No macro, syntax, notation, axiom, sorry.
-/
import Derived.Test.YthpeamllfledkaaGreatDoorRows
import GoSem.ClaimSeven
namespace Go.Proofs.YthpeamllfledkaaGreatDoor
namespace Rows

/-- THE TIED CARD OF 'swingbridgelaw9.TextTells'. -/
def textTellsCard : Claim7 := { stood := { row := textTellsRow, standIns := [], harness := (true, "7e3294c64afcb9e34e4f7c8530f7f5912c90ab2d486ee4a318f4807f4abcc240"), looks := true }, kinds := [], alts := [], laidByText := true, laidKinds := [.data, .data, .data, .data, .sentinel, .sentinel, .pinned], laidTests := true, laidLooks := .later }
def TextTellsCardSaid : Prop := Claim7.holds Tryz.pinned (.plain (OpenSpec.ofChange textTellsSpec)) textTellsCard

/-- THE TIED CARD OF 'swingbridgelaw9.TextTurned'. -/
def textTurnedCard : Claim7 := { stood := { row := textTurnedRow, standIns := [], harness := (true, "7e3294c64afcb9e34e4f7c8530f7f5912c90ab2d486ee4a318f4807f4abcc240"), looks := true }, kinds := [], alts := [], laidByText := true, laidKinds := [.data, .data, .data, .data, .sentinel, .sentinel, .pinned], laidTests := true, laidLooks := .later }
def TextTurnedCardSaid : Prop := Claim7.holds Tryz.pinned (.plain (OpenSpec.ofChange textTurnedSpec)) textTurnedCard

/-- THE SECOND FORM's CARD OF 'swingbridgelaw9.TextTells'. -/
def textTellsUptoCard : Claim7 := { stood := { row := textTellsUptoRow, standIns := [], harness := (true, "7e3294c64afcb9e34e4f7c8530f7f5912c90ab2d486ee4a318f4807f4abcc240"), looks := true }, kinds := [], alts := [], laidByText := true, laidKinds := [.data, .data, .data, .data, .sentinel, .sentinel, .pinned], laidTests := true, laidLooks := .later }
def TextTellsUptoCardSaid : Prop := Claim7.holds Tryz.pinned (.plain (OpenSpec.upto textTellsSpec)) textTellsUptoCard

/-- THE SECOND FORM's CARD OF 'swingbridgelaw9.TextTurned'. -/
def textTurnedUptoCard : Claim7 := { stood := { row := textTurnedUptoRow, standIns := [], harness := (true, "7e3294c64afcb9e34e4f7c8530f7f5912c90ab2d486ee4a318f4807f4abcc240"), looks := true }, kinds := [], alts := [], laidByText := true, laidKinds := [.data, .data, .data, .data, .sentinel, .sentinel, .pinned], laidTests := true, laidLooks := .later }
def TextTurnedUptoCardSaid : Prop := Claim7.holds Tryz.pinned (.plain (OpenSpec.upto textTurnedSpec)) textTurnedUptoCard
end Rows
end Go.Proofs.YthpeamllfledkaaGreatDoor
