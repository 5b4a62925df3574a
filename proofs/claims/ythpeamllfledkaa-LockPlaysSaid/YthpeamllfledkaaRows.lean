/-
  No cell of these rows narrows 'for every input' (looked for: loops, veiled, ifaces, maps, wideKeys, modest, calm, conditions, laid).
  DERIVED. THE GIVEN ROWS OF THIS SEAT. 5 by the template 'for every input the law returns true; each argument reads behind the call as it read before'; 0 by the template 'total and deterministic' (their statements: YthpeamllfledkaaTotals.lean).
  GIVEN WITH THE SEED: the statements are not yours to turn. If you find one false, say at which input.
  Laid BY PROGRAM, IN A SANDBOX (cutbox-rows.mjs): the forced cells as the released guide's own fill.sh prints them over the translation 8033ffd49433fa85… (all of the seat's roots in one cut). By AI agents, Wed Nov 11 2026. No macro, syntax, notation, axiom, sorry.
-/
import Derived.Test.YthpeamllfledkaaChecked
import GoSem.Claim
import GoSem.ClaimJoined
import GoSem.ClaimMapViews
import Derived.JoinedTies
import Derived.KernelRfl
namespace Go.Proofs.Ythpeamllfledkaa
/- THE CELL 'sum', in the pinned program and in every row, IS THE sha256 OF THE DUMP (.gsa) THAT YthpeamllfledkaaProg.lean LOADS. Nothing in Lean hashes anything: it is a label: what it is worth is what the hold of that sum in a sandbox is worth. -/
noncomputable def Try.pinned : Pinned := { name := "ythpeamllfledkaa", sum := "8033ffd49433fa856d963b68cbdf36391d00fb28e6abe9b9bf75fe98e6bc8bd8", checked := Try.checked }
namespace Rows
def none {H : Type} : Left H := { results := [], args := [] }

/-- 'swingbridgelaw23.LockPlays': WHATEVER THE INPUT: true; the input reads as it did. -/
def lockPlaysSpec : ChangeSpec := { name := "lockPlays", fn := fun _ => fun
  | [d1, d2] => { results := [.lit (.bool true)], args := [d1, d2] }
  | _ => none }
def lockPlaysRow : OpenClaim := { program := "ythpeamllfledkaa", sum := "8033ffd49433fa856d963b68cbdf36391d00fb28e6abe9b9bf75fe98e6bc8bd8", func := "swingbridge/swingbridgelaw23.LockPlays", spec := "lockPlays", inPlace := ["slices.overlaps[swingbridge/rank.entry]"], unfollowed := true, recurses := true, apart := false }
def LockPlaysSaid : Prop := lockPlaysRow.holds Try.pinned (OpenSpec.ofChange lockPlaysSpec)

/-- ITS FALSE NEIGHBOUR: 'it returns false'. Refute it at one input. -/
def lockPlaysWrong : ChangeSpec := { name := "lockPlays", fn := fun _ => fun
  | [d1, d2] => { results := [.lit (.bool false)], args := [d1, d2] }
  | _ => none }
def LockPlaysWrongFalsely : Prop := lockPlaysRow.holds Try.pinned (OpenSpec.ofChange lockPlaysWrong)

/-- 'swingbridgelaw23.LockOne': WHATEVER THE INPUT: true; the input reads as it did. -/
def lockOneSpec : ChangeSpec := { name := "lockOne", fn := fun _ => fun
  | [d1, d2] => { results := [.lit (.bool true)], args := [d1, d2] }
  | _ => none }
def lockOneRow : OpenClaim := { program := "ythpeamllfledkaa", sum := "8033ffd49433fa856d963b68cbdf36391d00fb28e6abe9b9bf75fe98e6bc8bd8", func := "swingbridge/swingbridgelaw23.LockOne", spec := "lockOne", inPlace := ["slices.overlaps[swingbridge/rank.entry]"], unfollowed := true, recurses := true, apart := false }
def LockOneSaid : Prop := lockOneRow.holds Try.pinned (OpenSpec.ofChange lockOneSpec)

/-- ITS FALSE NEIGHBOUR: 'it returns false'. Refute it at one input. -/
def lockOneWrong : ChangeSpec := { name := "lockOne", fn := fun _ => fun
  | [d1, d2] => { results := [.lit (.bool false)], args := [d1, d2] }
  | _ => none }
def LockOneWrongFalsely : Prop := lockOneRow.holds Try.pinned (OpenSpec.ofChange lockOneWrong)

/-- 'swingbridgelaw23.LockFair': WHATEVER THE INPUT: true; the input reads as it did. -/
def lockFairSpec : ChangeSpec := { name := "lockFair", fn := fun _ => fun
  | [d] => { results := [.lit (.bool true)], args := [d] }
  | _ => none }
def lockFairRow : OpenClaim := { program := "ythpeamllfledkaa", sum := "8033ffd49433fa856d963b68cbdf36391d00fb28e6abe9b9bf75fe98e6bc8bd8", func := "swingbridge/swingbridgelaw23.LockFair", spec := "lockFair", inPlace := ["slices.overlaps[swingbridge/rank.entry]"], unfollowed := true, recurses := true, apart := false }
def LockFairSaid : Prop := lockFairRow.holds Try.pinned (OpenSpec.ofChange lockFairSpec)

/-- ITS FALSE NEIGHBOUR: 'it returns false'. Refute it at one input. -/
def lockFairWrong : ChangeSpec := { name := "lockFair", fn := fun _ => fun
  | [d] => { results := [.lit (.bool false)], args := [d] }
  | _ => none }
def LockFairWrongFalsely : Prop := lockFairRow.holds Try.pinned (OpenSpec.ofChange lockFairWrong)

/-- 'swingbridgelaw23.LockAgents': WHATEVER THE INPUT: true; the input reads as it did. -/
def lockAgentsSpec : ChangeSpec := { name := "lockAgents", fn := fun _ => fun
  | [d] => { results := [.lit (.bool true)], args := [d] }
  | _ => none }
def lockAgentsRow : OpenClaim := { program := "ythpeamllfledkaa", sum := "8033ffd49433fa856d963b68cbdf36391d00fb28e6abe9b9bf75fe98e6bc8bd8", func := "swingbridge/swingbridgelaw23.LockAgents", spec := "lockAgents", inPlace := ["slices.overlaps[swingbridge/rank.entry]"], unfollowed := true, recurses := true, apart := false }
def LockAgentsSaid : Prop := lockAgentsRow.holds Try.pinned (OpenSpec.ofChange lockAgentsSpec)

/-- ITS FALSE NEIGHBOUR: 'it returns false'. Refute it at one input. -/
def lockAgentsWrong : ChangeSpec := { name := "lockAgents", fn := fun _ => fun
  | [d] => { results := [.lit (.bool false)], args := [d] }
  | _ => none }
def LockAgentsWrongFalsely : Prop := lockAgentsRow.holds Try.pinned (OpenSpec.ofChange lockAgentsWrong)

/-- 'swingbridgelaw23.LockGates': WHATEVER THE INPUT: true; the input reads as it did. -/
def lockGatesSpec : ChangeSpec := { name := "lockGates", fn := fun _ => fun
  | [d1, d2] => { results := [.lit (.bool true)], args := [d1, d2] }
  | _ => none }
def lockGatesRow : OpenClaim := { program := "ythpeamllfledkaa", sum := "8033ffd49433fa856d963b68cbdf36391d00fb28e6abe9b9bf75fe98e6bc8bd8", func := "swingbridge/swingbridgelaw23.LockGates", spec := "lockGates", inPlace := ["slices.overlaps[swingbridge/rank.entry]"], unfollowed := true, recurses := true, apart := false }
def LockGatesSaid : Prop := lockGatesRow.holds Try.pinned (OpenSpec.ofChange lockGatesSpec)

/-- ITS FALSE NEIGHBOUR: 'it returns false'. Refute it at one input. -/
def lockGatesWrong : ChangeSpec := { name := "lockGates", fn := fun _ => fun
  | [d1, d2] => { results := [.lit (.bool false)], args := [d1, d2] }
  | _ => none }
def LockGatesWrongFalsely : Prop := lockGatesRow.holds Try.pinned (OpenSpec.ofChange lockGatesWrong)

/- THE SECOND FORM. 'bulk': how many values and letters a reading holds, each counted each time it is reached (what is shared counts as often as it is met; a slice's spare places count too). A statement '..UptoSaid' is the law's where the arguments, and the package variables that the reading takes, are together of bulk at most 1048576: NARROWER than '..Said'. Prove '..Said' where nothing that the law and all that it calls make is longer than what came in: it says more and counts as full. Else prove '..UptoSaid'. A law counts once. -/
mutual
def uptoBulk {H : Type} : DataW H → Nat
  | .lit (.string bytes) => bytes.length + 1
  | .lit _ => 1
  | .nil => 1
  | .ptr d => uptoBulk d + 1
  | .slice elems spare => uptoBulkAll elems + uptoBulkAll spare + 1
  | .agg parts => uptoBulkAll parts + 1
  | .iface _ d => uptoBulk d + 1
  | .map entries => uptoBulkEntries entries + 1
  | .held _ => 1
def uptoBulkAll {H : Type} : List (DataW H) → Nat
  | [] => 0
  | d :: r => uptoBulk d + uptoBulkAll r
def uptoBulkEntries {H : Type} : List (Lit × DataW H) → Nat
  | [] => 0
  | x :: r => uptoBulkEntry x + uptoBulkEntries r
def uptoBulkEntry {H : Type} : Lit × DataW H → Nat
  | (.string bytes, d) => bytes.length + uptoBulk d + 1
  | (_, d) => uptoBulk d + 1
 end
def uptoSmall : (H : Type) → List (DataW H) → Bool := fun _ ds => decide (uptoBulkAll ds ≤ 1048576)
def OpenSpec.upto (s : _root_.Go.ChangeSpec) : _root_.Go.OpenSpec := { _root_.Go.OpenSpec.ofChange s with cond := some uptoSmall }

/-- 'swingbridgelaw23.LockPlays', WHERE WHAT IT READS IS OF BULK AT MOST 1048576: true; the input reads as it did. -/
def lockPlaysUptoRow : OpenClaim := { program := "ythpeamllfledkaa", sum := "8033ffd49433fa856d963b68cbdf36391d00fb28e6abe9b9bf75fe98e6bc8bd8", func := "swingbridge/swingbridgelaw23.LockPlays", spec := "lockPlays", inPlace := ["slices.overlaps[swingbridge/rank.entry]"], unfollowed := true, recurses := true, apart := false, narrowed := true }
def LockPlaysUptoSaid : Prop := lockPlaysUptoRow.holds Try.pinned (OpenSpec.upto lockPlaysSpec)

/-- 'swingbridgelaw23.LockOne', WHERE WHAT IT READS IS OF BULK AT MOST 1048576: true; the input reads as it did. -/
def lockOneUptoRow : OpenClaim := { program := "ythpeamllfledkaa", sum := "8033ffd49433fa856d963b68cbdf36391d00fb28e6abe9b9bf75fe98e6bc8bd8", func := "swingbridge/swingbridgelaw23.LockOne", spec := "lockOne", inPlace := ["slices.overlaps[swingbridge/rank.entry]"], unfollowed := true, recurses := true, apart := false, narrowed := true }
def LockOneUptoSaid : Prop := lockOneUptoRow.holds Try.pinned (OpenSpec.upto lockOneSpec)

/-- 'swingbridgelaw23.LockFair', WHERE WHAT IT READS IS OF BULK AT MOST 1048576: true; the input reads as it did. -/
def lockFairUptoRow : OpenClaim := { program := "ythpeamllfledkaa", sum := "8033ffd49433fa856d963b68cbdf36391d00fb28e6abe9b9bf75fe98e6bc8bd8", func := "swingbridge/swingbridgelaw23.LockFair", spec := "lockFair", inPlace := ["slices.overlaps[swingbridge/rank.entry]"], unfollowed := true, recurses := true, apart := false, narrowed := true }
def LockFairUptoSaid : Prop := lockFairUptoRow.holds Try.pinned (OpenSpec.upto lockFairSpec)

/-- 'swingbridgelaw23.LockAgents', WHERE WHAT IT READS IS OF BULK AT MOST 1048576: true; the input reads as it did. -/
def lockAgentsUptoRow : OpenClaim := { program := "ythpeamllfledkaa", sum := "8033ffd49433fa856d963b68cbdf36391d00fb28e6abe9b9bf75fe98e6bc8bd8", func := "swingbridge/swingbridgelaw23.LockAgents", spec := "lockAgents", inPlace := ["slices.overlaps[swingbridge/rank.entry]"], unfollowed := true, recurses := true, apart := false, narrowed := true }
def LockAgentsUptoSaid : Prop := lockAgentsUptoRow.holds Try.pinned (OpenSpec.upto lockAgentsSpec)

/-- 'swingbridgelaw23.LockGates', WHERE WHAT IT READS IS OF BULK AT MOST 1048576: true; the input reads as it did. -/
def lockGatesUptoRow : OpenClaim := { program := "ythpeamllfledkaa", sum := "8033ffd49433fa856d963b68cbdf36391d00fb28e6abe9b9bf75fe98e6bc8bd8", func := "swingbridge/swingbridgelaw23.LockGates", spec := "lockGates", inPlace := ["slices.overlaps[swingbridge/rank.entry]"], unfollowed := true, recurses := true, apart := false, narrowed := true }
def LockGatesUptoSaid : Prop := lockGatesUptoRow.holds Try.pinned (OpenSpec.upto lockGatesSpec)

end Rows
end Go.Proofs.Ythpeamllfledkaa
