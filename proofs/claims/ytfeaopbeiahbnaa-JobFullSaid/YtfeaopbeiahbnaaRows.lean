/-
  No cell of these rows narrows 'for every input' (looked for: loops, veiled, ifaces, maps, wideKeys, modest, calm, conditions, laid).
  DERIVED. THE GIVEN ROWS OF THIS SEAT. 13 by the template 'for every input the law returns true; each argument reads behind the call as it read before'; 0 by the template 'total and deterministic' (their statements: YtfeaopbeiahbnaaTotals.lean).
  GIVEN WITH THE SEED: the statements are not yours to turn. If you find one false, say at which input.
  Laid BY PROGRAM, IN A SANDBOX (cutbox-rows.mjs): the forced cells as the released guide's own fill.sh prints them over the translation 6a5ec161b80f90e3… (all of the seat's roots in one cut). By AI agents, Wed Nov 11 2026. No macro, syntax, notation, axiom, sorry.
-/
import Derived.Test.YtfeaopbeiahbnaaChecked
import GoSem.Claim
import GoSem.ClaimJoined
import GoSem.ClaimMapViews
import Derived.JoinedTies
import Derived.KernelRfl
namespace Go.Proofs.Ytfeaopbeiahbnaa
/- THE CELL 'sum', in the pinned program and in every row, IS THE sha256 OF THE DUMP (.gsa) THAT YtfeaopbeiahbnaaProg.lean LOADS. Nothing in Lean hashes anything: it is a label: what it is worth is what the hold of that sum in a sandbox is worth. -/
noncomputable def Try.pinned : Pinned := { name := "ytfeaopbeiahbnaa", sum := "6a5ec161b80f90e39808e90dde88e6292bbafc4fe2be8d8ea55322b452c87889", checked := Try.checked }
namespace Rows
def none {H : Type} : Left H := { results := [], args := [] }

/-- 'swingbridgelaw20.TapePlays': WHATEVER THE INPUT: true; the input reads as it did. -/
def tapePlaysSpec : ChangeSpec := { name := "tapePlays", fn := fun _ => fun
  | [d1, d2, d3] => { results := [.lit (.bool true)], args := [d1, d2, d3] }
  | _ => none }
def tapePlaysRow : OpenClaim := { program := "ytfeaopbeiahbnaa", sum := "6a5ec161b80f90e39808e90dde88e6292bbafc4fe2be8d8ea55322b452c87889", func := "swingbridge/swingbridgelaw20.TapePlays", spec := "tapePlays", apart := false }
def TapePlaysSaid : Prop := tapePlaysRow.holds Try.pinned (OpenSpec.ofChange tapePlaysSpec)

/-- ITS FALSE NEIGHBOUR: 'it returns false'. Refute it at one input. -/
def tapePlaysWrong : ChangeSpec := { name := "tapePlays", fn := fun _ => fun
  | [d1, d2, d3] => { results := [.lit (.bool false)], args := [d1, d2, d3] }
  | _ => none }
def TapePlaysWrongFalsely : Prop := tapePlaysRow.holds Try.pinned (OpenSpec.ofChange tapePlaysWrong)

/-- 'swingbridgelaw20.TapeBetween': WHATEVER THE INPUT: true; the input reads as it did. -/
def tapeBetweenSpec : ChangeSpec := { name := "tapeBetween", fn := fun _ => fun
  | [d1, d2, d3] => { results := [.lit (.bool true)], args := [d1, d2, d3] }
  | _ => none }
def tapeBetweenRow : OpenClaim := { program := "ytfeaopbeiahbnaa", sum := "6a5ec161b80f90e39808e90dde88e6292bbafc4fe2be8d8ea55322b452c87889", func := "swingbridge/swingbridgelaw20.TapeBetween", spec := "tapeBetween", apart := false }
def TapeBetweenSaid : Prop := tapeBetweenRow.holds Try.pinned (OpenSpec.ofChange tapeBetweenSpec)

/-- ITS FALSE NEIGHBOUR: 'it returns false'. Refute it at one input. -/
def tapeBetweenWrong : ChangeSpec := { name := "tapeBetween", fn := fun _ => fun
  | [d1, d2, d3] => { results := [.lit (.bool false)], args := [d1, d2, d3] }
  | _ => none }
def TapeBetweenWrongFalsely : Prop := tapeBetweenRow.holds Try.pinned (OpenSpec.ofChange tapeBetweenWrong)

/-- 'swingbridgelaw20.TapeNothing': WHATEVER THE INPUT: true; the input reads as it did. -/
def tapeNothingSpec : ChangeSpec := { name := "tapeNothing", fn := fun _ => fun
  | [d1, d2, d3] => { results := [.lit (.bool true)], args := [d1, d2, d3] }
  | _ => none }
def tapeNothingRow : OpenClaim := { program := "ytfeaopbeiahbnaa", sum := "6a5ec161b80f90e39808e90dde88e6292bbafc4fe2be8d8ea55322b452c87889", func := "swingbridge/swingbridgelaw20.TapeNothing", spec := "tapeNothing", apart := false }
def TapeNothingSaid : Prop := tapeNothingRow.holds Try.pinned (OpenSpec.ofChange tapeNothingSpec)

/-- ITS FALSE NEIGHBOUR: 'it returns false'. Refute it at one input. -/
def tapeNothingWrong : ChangeSpec := { name := "tapeNothing", fn := fun _ => fun
  | [d1, d2, d3] => { results := [.lit (.bool false)], args := [d1, d2, d3] }
  | _ => none }
def TapeNothingWrongFalsely : Prop := tapeNothingRow.holds Try.pinned (OpenSpec.ofChange tapeNothingWrong)

/-- 'swingbridgelaw3.LinePlays': WHATEVER THE INPUT: true; the input reads as it did. -/
def linePlaysSpec : ChangeSpec := { name := "linePlays", fn := fun _ => fun
  | [d1, d2] => { results := [.lit (.bool true)], args := [d1, d2] }
  | _ => none }
def linePlaysRow : OpenClaim := { program := "ytfeaopbeiahbnaa", sum := "6a5ec161b80f90e39808e90dde88e6292bbafc4fe2be8d8ea55322b452c87889", func := "swingbridge/swingbridgelaw3.LinePlays", spec := "linePlays", apart := false }
def LinePlaysSaid : Prop := linePlaysRow.holds Try.pinned (OpenSpec.ofChange linePlaysSpec)

/-- ITS FALSE NEIGHBOUR: 'it returns false'. Refute it at one input. -/
def linePlaysWrong : ChangeSpec := { name := "linePlays", fn := fun _ => fun
  | [d1, d2] => { results := [.lit (.bool false)], args := [d1, d2] }
  | _ => none }
def LinePlaysWrongFalsely : Prop := linePlaysRow.holds Try.pinned (OpenSpec.ofChange linePlaysWrong)

/-- 'swingbridgelaw3.LineOrder': WHATEVER THE INPUT: true; the input reads as it did. -/
def lineOrderSpec : ChangeSpec := { name := "lineOrder", fn := fun _ => fun
  | [d1, d2] => { results := [.lit (.bool true)], args := [d1, d2] }
  | _ => none }
def lineOrderRow : OpenClaim := { program := "ytfeaopbeiahbnaa", sum := "6a5ec161b80f90e39808e90dde88e6292bbafc4fe2be8d8ea55322b452c87889", func := "swingbridge/swingbridgelaw3.LineOrder", spec := "lineOrder", apart := false }
def LineOrderSaid : Prop := lineOrderRow.holds Try.pinned (OpenSpec.ofChange lineOrderSpec)

/-- ITS FALSE NEIGHBOUR: 'it returns false'. Refute it at one input. -/
def lineOrderWrong : ChangeSpec := { name := "lineOrder", fn := fun _ => fun
  | [d1, d2] => { results := [.lit (.bool false)], args := [d1, d2] }
  | _ => none }
def LineOrderWrongFalsely : Prop := lineOrderRow.holds Try.pinned (OpenSpec.ofChange lineOrderWrong)

/-- 'swingbridgelaw3.LineFull': WHATEVER THE INPUT: true; the input reads as it did. -/
def lineFullSpec : ChangeSpec := { name := "lineFull", fn := fun _ => fun
  | [d1, d2] => { results := [.lit (.bool true)], args := [d1, d2] }
  | _ => none }
def lineFullRow : OpenClaim := { program := "ytfeaopbeiahbnaa", sum := "6a5ec161b80f90e39808e90dde88e6292bbafc4fe2be8d8ea55322b452c87889", func := "swingbridge/swingbridgelaw3.LineFull", spec := "lineFull", apart := false }
def LineFullSaid : Prop := lineFullRow.holds Try.pinned (OpenSpec.ofChange lineFullSpec)

/-- ITS FALSE NEIGHBOUR: 'it returns false'. Refute it at one input. -/
def lineFullWrong : ChangeSpec := { name := "lineFull", fn := fun _ => fun
  | [d1, d2] => { results := [.lit (.bool false)], args := [d1, d2] }
  | _ => none }
def LineFullWrongFalsely : Prop := lineFullRow.holds Try.pinned (OpenSpec.ofChange lineFullWrong)

/-- 'swingbridgelaw3.LineTwice': WHATEVER THE INPUT: true; the input reads as it did. -/
def lineTwiceSpec : ChangeSpec := { name := "lineTwice", fn := fun _ => fun
  | [d1, d2] => { results := [.lit (.bool true)], args := [d1, d2] }
  | _ => none }
def lineTwiceRow : OpenClaim := { program := "ytfeaopbeiahbnaa", sum := "6a5ec161b80f90e39808e90dde88e6292bbafc4fe2be8d8ea55322b452c87889", func := "swingbridge/swingbridgelaw3.LineTwice", spec := "lineTwice", apart := false }
def LineTwiceSaid : Prop := lineTwiceRow.holds Try.pinned (OpenSpec.ofChange lineTwiceSpec)

/-- ITS FALSE NEIGHBOUR: 'it returns false'. Refute it at one input. -/
def lineTwiceWrong : ChangeSpec := { name := "lineTwice", fn := fun _ => fun
  | [d1, d2] => { results := [.lit (.bool false)], args := [d1, d2] }
  | _ => none }
def LineTwiceWrongFalsely : Prop := lineTwiceRow.holds Try.pinned (OpenSpec.ofChange lineTwiceWrong)

/-- 'swingbridgelaw21.JobLengths': WHATEVER THE INPUT: true; the input reads as it did. -/
def jobLengthsSpec : ChangeSpec := { name := "jobLengths", fn := fun _ => fun
  | [d1, d2] => { results := [.lit (.bool true)], args := [d1, d2] }
  | _ => none }
def jobLengthsRow : OpenClaim := { program := "ytfeaopbeiahbnaa", sum := "6a5ec161b80f90e39808e90dde88e6292bbafc4fe2be8d8ea55322b452c87889", func := "swingbridge/swingbridgelaw21.JobLengths", spec := "jobLengths", apart := false }
def JobLengthsSaid : Prop := jobLengthsRow.holds Try.pinned (OpenSpec.ofChange jobLengthsSpec)

/-- ITS FALSE NEIGHBOUR: 'it returns false'. Refute it at one input. -/
def jobLengthsWrong : ChangeSpec := { name := "jobLengths", fn := fun _ => fun
  | [d1, d2] => { results := [.lit (.bool false)], args := [d1, d2] }
  | _ => none }
def JobLengthsWrongFalsely : Prop := jobLengthsRow.holds Try.pinned (OpenSpec.ofChange jobLengthsWrong)

/-- 'swingbridgelaw21.JobFull': WHATEVER THE INPUT: true; the input reads as it did. -/
def jobFullSpec : ChangeSpec := { name := "jobFull", fn := fun _ => fun
  | [d1, d2] => { results := [.lit (.bool true)], args := [d1, d2] }
  | _ => none }
def jobFullRow : OpenClaim := { program := "ytfeaopbeiahbnaa", sum := "6a5ec161b80f90e39808e90dde88e6292bbafc4fe2be8d8ea55322b452c87889", func := "swingbridge/swingbridgelaw21.JobFull", spec := "jobFull", apart := false }
def JobFullSaid : Prop := jobFullRow.holds Try.pinned (OpenSpec.ofChange jobFullSpec)

/-- ITS FALSE NEIGHBOUR: 'it returns false'. Refute it at one input. -/
def jobFullWrong : ChangeSpec := { name := "jobFull", fn := fun _ => fun
  | [d1, d2] => { results := [.lit (.bool false)], args := [d1, d2] }
  | _ => none }
def JobFullWrongFalsely : Prop := jobFullRow.holds Try.pinned (OpenSpec.ofChange jobFullWrong)

/-- 'swingbridgelaw21.JobPlays': WHATEVER THE INPUT: true; the input reads as it did. -/
def jobPlaysSpec : ChangeSpec := { name := "jobPlays", fn := fun _ => fun
  | [d1, d2, d3, d4] => { results := [.lit (.bool true)], args := [d1, d2, d3, d4] }
  | _ => none }
def jobPlaysRow : OpenClaim := { program := "ytfeaopbeiahbnaa", sum := "6a5ec161b80f90e39808e90dde88e6292bbafc4fe2be8d8ea55322b452c87889", func := "swingbridge/swingbridgelaw21.JobPlays", spec := "jobPlays", apart := false }
def JobPlaysSaid : Prop := jobPlaysRow.holds Try.pinned (OpenSpec.ofChange jobPlaysSpec)

/-- ITS FALSE NEIGHBOUR: 'it returns false'. Refute it at one input. -/
def jobPlaysWrong : ChangeSpec := { name := "jobPlays", fn := fun _ => fun
  | [d1, d2, d3, d4] => { results := [.lit (.bool false)], args := [d1, d2, d3, d4] }
  | _ => none }
def JobPlaysWrongFalsely : Prop := jobPlaysRow.holds Try.pinned (OpenSpec.ofChange jobPlaysWrong)

/-- 'swingbridgelaw6.GatePlays': WHATEVER THE INPUT: true; the input reads as it did. -/
def gatePlaysSpec : ChangeSpec := { name := "gatePlays", fn := fun _ => fun
  | [d1, d2] => { results := [.lit (.bool true)], args := [d1, d2] }
  | _ => none }
def gatePlaysRow : OpenClaim := { program := "ytfeaopbeiahbnaa", sum := "6a5ec161b80f90e39808e90dde88e6292bbafc4fe2be8d8ea55322b452c87889", func := "swingbridge/swingbridgelaw6.GatePlays", spec := "gatePlays", apart := false }
def GatePlaysSaid : Prop := gatePlaysRow.holds Try.pinned (OpenSpec.ofChange gatePlaysSpec)

/-- ITS FALSE NEIGHBOUR: 'it returns false'. Refute it at one input. -/
def gatePlaysWrong : ChangeSpec := { name := "gatePlays", fn := fun _ => fun
  | [d1, d2] => { results := [.lit (.bool false)], args := [d1, d2] }
  | _ => none }
def GatePlaysWrongFalsely : Prop := gatePlaysRow.holds Try.pinned (OpenSpec.ofChange gatePlaysWrong)

/-- 'swingbridgelaw6.GateFair': WHATEVER THE INPUT: true; the input reads as it did. -/
def gateFairSpec : ChangeSpec := { name := "gateFair", fn := fun _ => fun
  | [d1, d2] => { results := [.lit (.bool true)], args := [d1, d2] }
  | _ => none }
def gateFairRow : OpenClaim := { program := "ytfeaopbeiahbnaa", sum := "6a5ec161b80f90e39808e90dde88e6292bbafc4fe2be8d8ea55322b452c87889", func := "swingbridge/swingbridgelaw6.GateFair", spec := "gateFair", apart := false }
def GateFairSaid : Prop := gateFairRow.holds Try.pinned (OpenSpec.ofChange gateFairSpec)

/-- ITS FALSE NEIGHBOUR: 'it returns false'. Refute it at one input. -/
def gateFairWrong : ChangeSpec := { name := "gateFair", fn := fun _ => fun
  | [d1, d2] => { results := [.lit (.bool false)], args := [d1, d2] }
  | _ => none }
def GateFairWrongFalsely : Prop := gateFairRow.holds Try.pinned (OpenSpec.ofChange gateFairWrong)

/-- 'swingbridgelaw6.GateFull': WHATEVER THE INPUT: true; the input reads as it did. -/
def gateFullSpec : ChangeSpec := { name := "gateFull", fn := fun _ => fun
  | [d1, d2] => { results := [.lit (.bool true)], args := [d1, d2] }
  | _ => none }
def gateFullRow : OpenClaim := { program := "ytfeaopbeiahbnaa", sum := "6a5ec161b80f90e39808e90dde88e6292bbafc4fe2be8d8ea55322b452c87889", func := "swingbridge/swingbridgelaw6.GateFull", spec := "gateFull", apart := false }
def GateFullSaid : Prop := gateFullRow.holds Try.pinned (OpenSpec.ofChange gateFullSpec)

/-- ITS FALSE NEIGHBOUR: 'it returns false'. Refute it at one input. -/
def gateFullWrong : ChangeSpec := { name := "gateFull", fn := fun _ => fun
  | [d1, d2] => { results := [.lit (.bool false)], args := [d1, d2] }
  | _ => none }
def GateFullWrongFalsely : Prop := gateFullRow.holds Try.pinned (OpenSpec.ofChange gateFullWrong)

/- THE SECOND FORM. 'bulk': how many values and letters a reading holds, each counted each time it is reached (what is shared counts as often as it is met; a slice's spare places count too). A statement '..UptoSaid' is the law's where the arguments, and the package variables that the reading takes, are together of bulk at most 1048576: NARROWER than '..Said'. Prove '..Said' where nothing that the law and all that it calls make is longer than what came in: it says more and counts as full. Else prove '..UptoSaid'. A law counts once. -/
mutual
def uptoBulk {H : Type} : DataW H → Nat
  | .lit (.string bytes) => bytes.length + 1
  | .lit _ => 1
  | .nil => 1
  | .ptr d => uptoBulk d + 1
  | .slice elems spare => uptoBulkAll elems + uptoBulkAll spare + 1
  | .agg parts => uptoBulkAll parts + 1
  | .iface _ d => uptoBulk d + 1
  | .map entries => uptoBulkEntries entries + 1
  | .held _ => 1
def uptoBulkAll {H : Type} : List (DataW H) → Nat
  | [] => 0
  | d :: r => uptoBulk d + uptoBulkAll r
def uptoBulkEntries {H : Type} : List (Lit × DataW H) → Nat
  | [] => 0
  | x :: r => uptoBulkEntry x + uptoBulkEntries r
def uptoBulkEntry {H : Type} : Lit × DataW H → Nat
  | (.string bytes, d) => bytes.length + uptoBulk d + 1
  | (_, d) => uptoBulk d + 1
 end
def uptoSmall : (H : Type) → List (DataW H) → Bool := fun _ ds => decide (uptoBulkAll ds ≤ 1048576)
def OpenSpec.upto (s : _root_.Go.ChangeSpec) : _root_.Go.OpenSpec := { _root_.Go.OpenSpec.ofChange s with cond := some uptoSmall }

/-- 'swingbridgelaw20.TapePlays', WHERE WHAT IT READS IS OF BULK AT MOST 1048576: true; the input reads as it did. -/
def tapePlaysUptoRow : OpenClaim := { program := "ytfeaopbeiahbnaa", sum := "6a5ec161b80f90e39808e90dde88e6292bbafc4fe2be8d8ea55322b452c87889", func := "swingbridge/swingbridgelaw20.TapePlays", spec := "tapePlays", apart := false, narrowed := true }
def TapePlaysUptoSaid : Prop := tapePlaysUptoRow.holds Try.pinned (OpenSpec.upto tapePlaysSpec)

/-- 'swingbridgelaw20.TapeBetween', WHERE WHAT IT READS IS OF BULK AT MOST 1048576: true; the input reads as it did. -/
def tapeBetweenUptoRow : OpenClaim := { program := "ytfeaopbeiahbnaa", sum := "6a5ec161b80f90e39808e90dde88e6292bbafc4fe2be8d8ea55322b452c87889", func := "swingbridge/swingbridgelaw20.TapeBetween", spec := "tapeBetween", apart := false, narrowed := true }
def TapeBetweenUptoSaid : Prop := tapeBetweenUptoRow.holds Try.pinned (OpenSpec.upto tapeBetweenSpec)

/-- 'swingbridgelaw20.TapeNothing', WHERE WHAT IT READS IS OF BULK AT MOST 1048576: true; the input reads as it did. -/
def tapeNothingUptoRow : OpenClaim := { program := "ytfeaopbeiahbnaa", sum := "6a5ec161b80f90e39808e90dde88e6292bbafc4fe2be8d8ea55322b452c87889", func := "swingbridge/swingbridgelaw20.TapeNothing", spec := "tapeNothing", apart := false, narrowed := true }
def TapeNothingUptoSaid : Prop := tapeNothingUptoRow.holds Try.pinned (OpenSpec.upto tapeNothingSpec)

/-- 'swingbridgelaw3.LinePlays', WHERE WHAT IT READS IS OF BULK AT MOST 1048576: true; the input reads as it did. -/
def linePlaysUptoRow : OpenClaim := { program := "ytfeaopbeiahbnaa", sum := "6a5ec161b80f90e39808e90dde88e6292bbafc4fe2be8d8ea55322b452c87889", func := "swingbridge/swingbridgelaw3.LinePlays", spec := "linePlays", apart := false, narrowed := true }
def LinePlaysUptoSaid : Prop := linePlaysUptoRow.holds Try.pinned (OpenSpec.upto linePlaysSpec)

/-- 'swingbridgelaw3.LineOrder', WHERE WHAT IT READS IS OF BULK AT MOST 1048576: true; the input reads as it did. -/
def lineOrderUptoRow : OpenClaim := { program := "ytfeaopbeiahbnaa", sum := "6a5ec161b80f90e39808e90dde88e6292bbafc4fe2be8d8ea55322b452c87889", func := "swingbridge/swingbridgelaw3.LineOrder", spec := "lineOrder", apart := false, narrowed := true }
def LineOrderUptoSaid : Prop := lineOrderUptoRow.holds Try.pinned (OpenSpec.upto lineOrderSpec)

/-- 'swingbridgelaw3.LineFull', WHERE WHAT IT READS IS OF BULK AT MOST 1048576: true; the input reads as it did. -/
def lineFullUptoRow : OpenClaim := { program := "ytfeaopbeiahbnaa", sum := "6a5ec161b80f90e39808e90dde88e6292bbafc4fe2be8d8ea55322b452c87889", func := "swingbridge/swingbridgelaw3.LineFull", spec := "lineFull", apart := false, narrowed := true }
def LineFullUptoSaid : Prop := lineFullUptoRow.holds Try.pinned (OpenSpec.upto lineFullSpec)

/-- 'swingbridgelaw3.LineTwice', WHERE WHAT IT READS IS OF BULK AT MOST 1048576: true; the input reads as it did. -/
def lineTwiceUptoRow : OpenClaim := { program := "ytfeaopbeiahbnaa", sum := "6a5ec161b80f90e39808e90dde88e6292bbafc4fe2be8d8ea55322b452c87889", func := "swingbridge/swingbridgelaw3.LineTwice", spec := "lineTwice", apart := false, narrowed := true }
def LineTwiceUptoSaid : Prop := lineTwiceUptoRow.holds Try.pinned (OpenSpec.upto lineTwiceSpec)

/-- 'swingbridgelaw21.JobLengths', WHERE WHAT IT READS IS OF BULK AT MOST 1048576: true; the input reads as it did. -/
def jobLengthsUptoRow : OpenClaim := { program := "ytfeaopbeiahbnaa", sum := "6a5ec161b80f90e39808e90dde88e6292bbafc4fe2be8d8ea55322b452c87889", func := "swingbridge/swingbridgelaw21.JobLengths", spec := "jobLengths", apart := false, narrowed := true }
def JobLengthsUptoSaid : Prop := jobLengthsUptoRow.holds Try.pinned (OpenSpec.upto jobLengthsSpec)

/-- 'swingbridgelaw21.JobFull', WHERE WHAT IT READS IS OF BULK AT MOST 1048576: true; the input reads as it did. -/
def jobFullUptoRow : OpenClaim := { program := "ytfeaopbeiahbnaa", sum := "6a5ec161b80f90e39808e90dde88e6292bbafc4fe2be8d8ea55322b452c87889", func := "swingbridge/swingbridgelaw21.JobFull", spec := "jobFull", apart := false, narrowed := true }
def JobFullUptoSaid : Prop := jobFullUptoRow.holds Try.pinned (OpenSpec.upto jobFullSpec)

/-- 'swingbridgelaw21.JobPlays', WHERE WHAT IT READS IS OF BULK AT MOST 1048576: true; the input reads as it did. -/
def jobPlaysUptoRow : OpenClaim := { program := "ytfeaopbeiahbnaa", sum := "6a5ec161b80f90e39808e90dde88e6292bbafc4fe2be8d8ea55322b452c87889", func := "swingbridge/swingbridgelaw21.JobPlays", spec := "jobPlays", apart := false, narrowed := true }
def JobPlaysUptoSaid : Prop := jobPlaysUptoRow.holds Try.pinned (OpenSpec.upto jobPlaysSpec)

/-- 'swingbridgelaw6.GatePlays', WHERE WHAT IT READS IS OF BULK AT MOST 1048576: true; the input reads as it did. -/
def gatePlaysUptoRow : OpenClaim := { program := "ytfeaopbeiahbnaa", sum := "6a5ec161b80f90e39808e90dde88e6292bbafc4fe2be8d8ea55322b452c87889", func := "swingbridge/swingbridgelaw6.GatePlays", spec := "gatePlays", apart := false, narrowed := true }
def GatePlaysUptoSaid : Prop := gatePlaysUptoRow.holds Try.pinned (OpenSpec.upto gatePlaysSpec)

/-- 'swingbridgelaw6.GateFair', WHERE WHAT IT READS IS OF BULK AT MOST 1048576: true; the input reads as it did. -/
def gateFairUptoRow : OpenClaim := { program := "ytfeaopbeiahbnaa", sum := "6a5ec161b80f90e39808e90dde88e6292bbafc4fe2be8d8ea55322b452c87889", func := "swingbridge/swingbridgelaw6.GateFair", spec := "gateFair", apart := false, narrowed := true }
def GateFairUptoSaid : Prop := gateFairUptoRow.holds Try.pinned (OpenSpec.upto gateFairSpec)

/-- 'swingbridgelaw6.GateFull', WHERE WHAT IT READS IS OF BULK AT MOST 1048576: true; the input reads as it did. -/
def gateFullUptoRow : OpenClaim := { program := "ytfeaopbeiahbnaa", sum := "6a5ec161b80f90e39808e90dde88e6292bbafc4fe2be8d8ea55322b452c87889", func := "swingbridge/swingbridgelaw6.GateFull", spec := "gateFull", apart := false, narrowed := true }
def GateFullUptoSaid : Prop := gateFullUptoRow.holds Try.pinned (OpenSpec.upto gateFullSpec)

end Rows
end Go.Proofs.Ytfeaopbeiahbnaa
