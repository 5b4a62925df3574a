/-
  DERIVED. GIVEN WITH THE SEED: THE CARDS: each row of YthpeamllfledkaaDoorRows.lean that lists a variable, with what it lists TIED to the program's text (the seventh form; the later family's looks); each row that meets fmt, with fmt's text TOLD by the authors' own Lean function (tested against real Go, not proved from fmt's source: count such statements apart). THE CARD IS WHAT COUNTS. Prove the row's statement (the work); the ties are given (YthpeamllfledkaaDoorTie.lean); close each card by the builder's one call (the guide's Derived/Test/ToyasCard.lean, 'card_holds'). Laid BY PROGRAM, IN A SANDBOX (cutbox-door.mjs). By AI agents, Wed Nov 11 2026. No macro, syntax, notation, axiom, sorry.
-/
import Derived.Test.YthpeamllfledkaaDoorRows
import GoSem.ClaimSeven
namespace Go.Proofs.YthpeamllfledkaaDoor
namespace Rows

/-- THE TIED CARD OF 'swingbridgelaw7.WordsTell'. -/
def wordsTellCard : Claim7 := { stood := { row := wordsTellRow, standIns := [], harness := (true, "b447263b9656760d2ad8f8ce18389490886c4594abaf2e7bfec25e5d76d316e2"), looks := true }, kinds := [], alts := [], laidByText := true, laidKinds := [.data, .data, .data, .data, .sentinel, .sentinel, .pinned], laidTests := true, laidLooks := .later }
def WordsTellCardSaid : Prop := Claim7.holds Tryd.pinned (.plain (OpenSpec.ofChange wordsTellSpec)) wordsTellCard

/-- THE TIED CARD OF 'swingbridgelaw7.WordsBack'. -/
def wordsBackCard : Claim7 := { stood := { row := wordsBackRow, standIns := [], harness := (true, "b447263b9656760d2ad8f8ce18389490886c4594abaf2e7bfec25e5d76d316e2"), looks := true }, kinds := [], alts := [], laidByText := true, laidKinds := [.data, .data, .data, .data, .sentinel, .sentinel, .pinned], laidTests := true, laidLooks := .later }
def WordsBackCardSaid : Prop := Claim7.holds Tryd.pinned (.plain (OpenSpec.ofChange wordsBackSpec)) wordsBackCard

/-- THE TIED CARD OF 'swingbridgelaw7.WordsNumbers'. -/
def wordsNumbersCard : Claim7 := { stood := { row := wordsNumbersRow, standIns := [], harness := (true, "b447263b9656760d2ad8f8ce18389490886c4594abaf2e7bfec25e5d76d316e2"), looks := true }, kinds := [], alts := [], laidByText := true, laidKinds := [.data, .data, .data, .data, .sentinel, .sentinel, .pinned], laidTests := true, laidLooks := .later }
def WordsNumbersCardSaid : Prop := Claim7.holds Tryd.pinned (.plain (OpenSpec.ofChange wordsNumbersSpec)) wordsNumbersCard

/-- THE TIED CARD OF 'swingbridgelaw7.WordsNames'. -/
def wordsNamesCard : Claim7 := { stood := { row := wordsNamesRow, standIns := [], harness := (true, "b447263b9656760d2ad8f8ce18389490886c4594abaf2e7bfec25e5d76d316e2"), looks := true }, kinds := [], alts := [], laidByText := true, laidKinds := [.data, .data, .data, .data, .sentinel, .sentinel, .pinned], laidTests := true, laidLooks := .later }
def WordsNamesCardSaid : Prop := Claim7.holds Tryd.pinned (.plain (OpenSpec.ofChange wordsNamesSpec)) wordsNamesCard

/-- THE TIED CARD OF 'swingbridgelaw7.WordsEmpty'. -/
def wordsEmptyCard : Claim7 := { stood := { row := wordsEmptyRow, standIns := [], harness := (true, "b447263b9656760d2ad8f8ce18389490886c4594abaf2e7bfec25e5d76d316e2"), looks := true }, kinds := [], alts := [], laidByText := true, laidKinds := [.data, .data, .data, .data, .sentinel, .sentinel, .pinned], laidTests := true, laidLooks := .later }
def WordsEmptyCardSaid : Prop := Claim7.holds Tryd.pinned (.plain (OpenSpec.ofChange wordsEmptySpec)) wordsEmptyCard

/-- THE TIED CARD OF 'swingbridgelaw9.TextBack'. -/
def textBackCard : Claim7 := { stood := { row := textBackRow, standIns := [], harness := (true, "b447263b9656760d2ad8f8ce18389490886c4594abaf2e7bfec25e5d76d316e2"), looks := true }, kinds := [], alts := [], laidByText := true, laidKinds := [.data, .data, .data, .data, .sentinel, .sentinel, .pinned], laidTests := true, laidLooks := .later }
def TextBackCardSaid : Prop := Claim7.holds Tryd.pinned (.plain (OpenSpec.ofChange textBackSpec)) textBackCard

/-- THE TIED CARD OF 'swingbridgelaw9.TextSpoilt'. -/
def textSpoiltCard : Claim7 := { stood := { row := textSpoiltRow, standIns := [], harness := (true, "b447263b9656760d2ad8f8ce18389490886c4594abaf2e7bfec25e5d76d316e2"), looks := true }, kinds := [], alts := [], laidByText := true, laidKinds := [.data, .data, .data, .data, .sentinel, .sentinel, .pinned], laidTests := true, laidLooks := .later }
def TextSpoiltCardSaid : Prop := Claim7.holds Tryd.pinned (.plain (OpenSpec.ofChange textSpoiltSpec)) textSpoiltCard

/-- THE TIED CARD OF 'swingbridgelaw9.TextNumbers'. -/
def textNumbersCard : Claim7 := { stood := { row := textNumbersRow, standIns := [], harness := (true, "b447263b9656760d2ad8f8ce18389490886c4594abaf2e7bfec25e5d76d316e2"), looks := true }, kinds := [], alts := [], laidByText := true, laidKinds := [.data, .data, .data, .data, .sentinel, .sentinel, .pinned], laidTests := true, laidLooks := .later }
def TextNumbersCardSaid : Prop := Claim7.holds Tryd.pinned (.plain (OpenSpec.ofChange textNumbersSpec)) textNumbersCard

/-- THE TIED CARD OF 'swingbridgelaw9.TextNested'. -/
def textNestedCard : Claim7 := { stood := { row := textNestedRow, standIns := [], harness := (true, "b447263b9656760d2ad8f8ce18389490886c4594abaf2e7bfec25e5d76d316e2"), looks := true }, kinds := [], alts := [], laidByText := true, laidKinds := [.data, .data, .data, .data, .sentinel, .sentinel, .pinned], laidTests := true, laidLooks := .later }
def TextNestedCardSaid : Prop := Claim7.holds Tryd.pinned (.plain (OpenSpec.ofChange textNestedSpec)) textNestedCard

/-- THE SECOND FORM's CARD OF 'swingbridgelaw7.WordsTell'. -/
def wordsTellUptoCard : Claim7 := { stood := { row := wordsTellUptoRow, standIns := [], harness := (true, "b447263b9656760d2ad8f8ce18389490886c4594abaf2e7bfec25e5d76d316e2"), looks := true }, kinds := [], alts := [], laidByText := true, laidKinds := [.data, .data, .data, .data, .sentinel, .sentinel, .pinned], laidTests := true, laidLooks := .later }
def WordsTellUptoCardSaid : Prop := Claim7.holds Tryd.pinned (.plain (OpenSpec.upto wordsTellSpec)) wordsTellUptoCard

/-- THE SECOND FORM's CARD OF 'swingbridgelaw7.WordsBack'. -/
def wordsBackUptoCard : Claim7 := { stood := { row := wordsBackUptoRow, standIns := [], harness := (true, "b447263b9656760d2ad8f8ce18389490886c4594abaf2e7bfec25e5d76d316e2"), looks := true }, kinds := [], alts := [], laidByText := true, laidKinds := [.data, .data, .data, .data, .sentinel, .sentinel, .pinned], laidTests := true, laidLooks := .later }
def WordsBackUptoCardSaid : Prop := Claim7.holds Tryd.pinned (.plain (OpenSpec.upto wordsBackSpec)) wordsBackUptoCard

/-- THE SECOND FORM's CARD OF 'swingbridgelaw7.WordsNumbers'. -/
def wordsNumbersUptoCard : Claim7 := { stood := { row := wordsNumbersUptoRow, standIns := [], harness := (true, "b447263b9656760d2ad8f8ce18389490886c4594abaf2e7bfec25e5d76d316e2"), looks := true }, kinds := [], alts := [], laidByText := true, laidKinds := [.data, .data, .data, .data, .sentinel, .sentinel, .pinned], laidTests := true, laidLooks := .later }
def WordsNumbersUptoCardSaid : Prop := Claim7.holds Tryd.pinned (.plain (OpenSpec.upto wordsNumbersSpec)) wordsNumbersUptoCard

/-- THE SECOND FORM's CARD OF 'swingbridgelaw7.WordsNames'. -/
def wordsNamesUptoCard : Claim7 := { stood := { row := wordsNamesUptoRow, standIns := [], harness := (true, "b447263b9656760d2ad8f8ce18389490886c4594abaf2e7bfec25e5d76d316e2"), looks := true }, kinds := [], alts := [], laidByText := true, laidKinds := [.data, .data, .data, .data, .sentinel, .sentinel, .pinned], laidTests := true, laidLooks := .later }
def WordsNamesUptoCardSaid : Prop := Claim7.holds Tryd.pinned (.plain (OpenSpec.upto wordsNamesSpec)) wordsNamesUptoCard

/-- THE SECOND FORM's CARD OF 'swingbridgelaw7.WordsEmpty'. -/
def wordsEmptyUptoCard : Claim7 := { stood := { row := wordsEmptyUptoRow, standIns := [], harness := (true, "b447263b9656760d2ad8f8ce18389490886c4594abaf2e7bfec25e5d76d316e2"), looks := true }, kinds := [], alts := [], laidByText := true, laidKinds := [.data, .data, .data, .data, .sentinel, .sentinel, .pinned], laidTests := true, laidLooks := .later }
def WordsEmptyUptoCardSaid : Prop := Claim7.holds Tryd.pinned (.plain (OpenSpec.upto wordsEmptySpec)) wordsEmptyUptoCard

/-- THE SECOND FORM's CARD OF 'swingbridgelaw9.TextBack'. -/
def textBackUptoCard : Claim7 := { stood := { row := textBackUptoRow, standIns := [], harness := (true, "b447263b9656760d2ad8f8ce18389490886c4594abaf2e7bfec25e5d76d316e2"), looks := true }, kinds := [], alts := [], laidByText := true, laidKinds := [.data, .data, .data, .data, .sentinel, .sentinel, .pinned], laidTests := true, laidLooks := .later }
def TextBackUptoCardSaid : Prop := Claim7.holds Tryd.pinned (.plain (OpenSpec.upto textBackSpec)) textBackUptoCard

/-- THE SECOND FORM's CARD OF 'swingbridgelaw9.TextSpoilt'. -/
def textSpoiltUptoCard : Claim7 := { stood := { row := textSpoiltUptoRow, standIns := [], harness := (true, "b447263b9656760d2ad8f8ce18389490886c4594abaf2e7bfec25e5d76d316e2"), looks := true }, kinds := [], alts := [], laidByText := true, laidKinds := [.data, .data, .data, .data, .sentinel, .sentinel, .pinned], laidTests := true, laidLooks := .later }
def TextSpoiltUptoCardSaid : Prop := Claim7.holds Tryd.pinned (.plain (OpenSpec.upto textSpoiltSpec)) textSpoiltUptoCard

/-- THE SECOND FORM's CARD OF 'swingbridgelaw9.TextNumbers'. -/
def textNumbersUptoCard : Claim7 := { stood := { row := textNumbersUptoRow, standIns := [], harness := (true, "b447263b9656760d2ad8f8ce18389490886c4594abaf2e7bfec25e5d76d316e2"), looks := true }, kinds := [], alts := [], laidByText := true, laidKinds := [.data, .data, .data, .data, .sentinel, .sentinel, .pinned], laidTests := true, laidLooks := .later }
def TextNumbersUptoCardSaid : Prop := Claim7.holds Tryd.pinned (.plain (OpenSpec.upto textNumbersSpec)) textNumbersUptoCard

/-- THE SECOND FORM's CARD OF 'swingbridgelaw9.TextNested'. -/
def textNestedUptoCard : Claim7 := { stood := { row := textNestedUptoRow, standIns := [], harness := (true, "b447263b9656760d2ad8f8ce18389490886c4594abaf2e7bfec25e5d76d316e2"), looks := true }, kinds := [], alts := [], laidByText := true, laidKinds := [.data, .data, .data, .data, .sentinel, .sentinel, .pinned], laidTests := true, laidLooks := .later }
def TextNestedUptoCardSaid : Prop := Claim7.holds Tryd.pinned (.plain (OpenSpec.upto textNestedSpec)) textNestedUptoCard
end Rows
end Go.Proofs.YthpeamllfledkaaDoor
