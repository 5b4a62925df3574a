/-
  No cell of these rows narrows 'for every input' (looked for: loops, veiled, ifaces, maps, wideKeys, modest, calm, conditions, laid).
  DERIVED. THE GIVEN ROWS OF THIS SEAT. 14 by the template 'for every input the law returns true; each argument reads behind the call as it read before'; 0 by the template 'total and deterministic' (their statements: YtpdkmcnoidbjoaaTotals.lean).
  GIVEN WITH THE SEED: the statements are not yours to turn. If you find one false, say at which input.
  Laid BY PROGRAM, IN A SANDBOX (cutbox-rows.mjs): the forced cells as the released guide's own fill.sh prints them over the translation 26ba9b2b2c602967… (all of the seat's roots in one cut). By AI agents, Wed Nov 11 2026. No macro, syntax, notation, axiom, sorry.
-/
import Derived.Test.YtpdkmcnoidbjoaaChecked
import GoSem.Claim
import GoSem.ClaimJoined
import GoSem.ClaimMapViews
import Derived.JoinedTies
import Derived.KernelRfl
namespace Go.Proofs.Ytpdkmcnoidbjoaa
/- THE CELL 'sum', in the pinned program and in every row, IS THE sha256 OF THE DUMP (.gsa) THAT YtpdkmcnoidbjoaaProg.lean LOADS. Nothing in Lean hashes anything: it is a label: what it is worth is what the hold of that sum in a sandbox is worth. -/
noncomputable def Try.pinned : Pinned := { name := "ytpdkmcnoidbjoaa", sum := "26ba9b2b2c602967eb90eab33b2f9776244edb87ad42756653e24bb90245e45c", checked := Try.checked }
namespace Rows
def none {H : Type} : Left H := { results := [], args := [] }

/-- 'swingbridgelaw26.DelayTells': WHATEVER THE INPUT: true; the input reads as it did. -/
def delayTellsSpec : ChangeSpec := { name := "delayTells", fn := fun _ => fun
  | [d1, d2, d3, d4] => { results := [.lit (.bool true)], args := [d1, d2, d3, d4] }
  | _ => none }
def delayTellsRow : OpenClaim := { program := "ytpdkmcnoidbjoaa", sum := "26ba9b2b2c602967eb90eab33b2f9776244edb87ad42756653e24bb90245e45c", func := "swingbridge/swingbridgelaw26.DelayTells", spec := "delayTells", unfollowed := true, recurses := true, apart := false }
def DelayTellsSaid : Prop := delayTellsRow.holds Try.pinned (OpenSpec.ofChange delayTellsSpec)

/-- ITS FALSE NEIGHBOUR: 'it returns false'. Refute it at one input. -/
def delayTellsWrong : ChangeSpec := { name := "delayTells", fn := fun _ => fun
  | [d1, d2, d3, d4] => { results := [.lit (.bool false)], args := [d1, d2, d3, d4] }
  | _ => none }
def DelayTellsWrongFalsely : Prop := delayTellsRow.holds Try.pinned (OpenSpec.ofChange delayTellsWrong)

/-- 'swingbridgelaw26.DelayShapes': WHATEVER THE INPUT: true; the input reads as it did. -/
def delayShapesSpec : ChangeSpec := { name := "delayShapes", fn := fun _ => fun
  | [d1, d2, d3, d4, d5, d6] => { results := [.lit (.bool true)], args := [d1, d2, d3, d4, d5, d6] }
  | _ => none }
def delayShapesRow : OpenClaim := { program := "ytpdkmcnoidbjoaa", sum := "26ba9b2b2c602967eb90eab33b2f9776244edb87ad42756653e24bb90245e45c", func := "swingbridge/swingbridgelaw26.DelayShapes", spec := "delayShapes", unfollowed := true, recurses := true, apart := false }
def DelayShapesSaid : Prop := delayShapesRow.holds Try.pinned (OpenSpec.ofChange delayShapesSpec)

/-- ITS FALSE NEIGHBOUR: 'it returns false'. Refute it at one input. -/
def delayShapesWrong : ChangeSpec := { name := "delayShapes", fn := fun _ => fun
  | [d1, d2, d3, d4, d5, d6] => { results := [.lit (.bool false)], args := [d1, d2, d3, d4, d5, d6] }
  | _ => none }
def DelayShapesWrongFalsely : Prop := delayShapesRow.holds Try.pinned (OpenSpec.ofChange delayShapesWrong)

/-- 'swingbridgelaw4.RankPlays': WHATEVER THE INPUT: true; the input reads as it did. -/
def rankPlaysSpec : ChangeSpec := { name := "rankPlays", fn := fun _ => fun
  | [d1, d2] => { results := [.lit (.bool true)], args := [d1, d2] }
  | _ => none }
def rankPlaysRow : OpenClaim := { program := "ytpdkmcnoidbjoaa", sum := "26ba9b2b2c602967eb90eab33b2f9776244edb87ad42756653e24bb90245e45c", func := "swingbridge/swingbridgelaw4.RankPlays", spec := "rankPlays", inPlace := ["slices.overlaps[swingbridge/rank.entry]"], unfollowed := true, recurses := true, apart := false }
def RankPlaysSaid : Prop := rankPlaysRow.holds Try.pinned (OpenSpec.ofChange rankPlaysSpec)

/-- ITS FALSE NEIGHBOUR: 'it returns false'. Refute it at one input. -/
def rankPlaysWrong : ChangeSpec := { name := "rankPlays", fn := fun _ => fun
  | [d1, d2] => { results := [.lit (.bool false)], args := [d1, d2] }
  | _ => none }
def RankPlaysWrongFalsely : Prop := rankPlaysRow.holds Try.pinned (OpenSpec.ofChange rankPlaysWrong)

/-- 'swingbridgelaw4.RankSorts': WHATEVER THE INPUT: true; the input reads as it did. -/
def rankSortsSpec : ChangeSpec := { name := "rankSorts", fn := fun _ => fun
  | [d] => { results := [.lit (.bool true)], args := [d] }
  | _ => none }
def rankSortsRow : OpenClaim := { program := "ytpdkmcnoidbjoaa", sum := "26ba9b2b2c602967eb90eab33b2f9776244edb87ad42756653e24bb90245e45c", func := "swingbridge/swingbridgelaw4.RankSorts", spec := "rankSorts", inPlace := ["slices.overlaps[swingbridge/rank.entry]"], unfollowed := true, recurses := true, apart := false }
def RankSortsSaid : Prop := rankSortsRow.holds Try.pinned (OpenSpec.ofChange rankSortsSpec)

/-- ITS FALSE NEIGHBOUR: 'it returns false'. Refute it at one input. -/
def rankSortsWrong : ChangeSpec := { name := "rankSorts", fn := fun _ => fun
  | [d] => { results := [.lit (.bool false)], args := [d] }
  | _ => none }
def RankSortsWrongFalsely : Prop := rankSortsRow.holds Try.pinned (OpenSpec.ofChange rankSortsWrong)

/-- 'swingbridgelaw4.RankMixed': WHATEVER THE INPUT: true; the input reads as it did. -/
def rankMixedSpec : ChangeSpec := { name := "rankMixed", fn := fun _ => fun
  | [d1, d2] => { results := [.lit (.bool true)], args := [d1, d2] }
  | _ => none }
def rankMixedRow : OpenClaim := { program := "ytpdkmcnoidbjoaa", sum := "26ba9b2b2c602967eb90eab33b2f9776244edb87ad42756653e24bb90245e45c", func := "swingbridge/swingbridgelaw4.RankMixed", spec := "rankMixed", inPlace := ["slices.overlaps[swingbridge/rank.entry]"], unfollowed := true, recurses := true, apart := false }
def RankMixedSaid : Prop := rankMixedRow.holds Try.pinned (OpenSpec.ofChange rankMixedSpec)

/-- ITS FALSE NEIGHBOUR: 'it returns false'. Refute it at one input. -/
def rankMixedWrong : ChangeSpec := { name := "rankMixed", fn := fun _ => fun
  | [d1, d2] => { results := [.lit (.bool false)], args := [d1, d2] }
  | _ => none }
def RankMixedWrongFalsely : Prop := rankMixedRow.holds Try.pinned (OpenSpec.ofChange rankMixedWrong)

/-- 'swingbridgelaw4.RankDrops': WHATEVER THE INPUT: true; the input reads as it did. -/
def rankDropsSpec : ChangeSpec := { name := "rankDrops", fn := fun _ => fun
  | [d1, d2] => { results := [.lit (.bool true)], args := [d1, d2] }
  | _ => none }
def rankDropsRow : OpenClaim := { program := "ytpdkmcnoidbjoaa", sum := "26ba9b2b2c602967eb90eab33b2f9776244edb87ad42756653e24bb90245e45c", func := "swingbridge/swingbridgelaw4.RankDrops", spec := "rankDrops", inPlace := ["slices.overlaps[swingbridge/rank.entry]"], unfollowed := true, recurses := true, apart := false }
def RankDropsSaid : Prop := rankDropsRow.holds Try.pinned (OpenSpec.ofChange rankDropsSpec)

/-- ITS FALSE NEIGHBOUR: 'it returns false'. Refute it at one input. -/
def rankDropsWrong : ChangeSpec := { name := "rankDrops", fn := fun _ => fun
  | [d1, d2] => { results := [.lit (.bool false)], args := [d1, d2] }
  | _ => none }
def RankDropsWrongFalsely : Prop := rankDropsRow.holds Try.pinned (OpenSpec.ofChange rankDropsWrong)

/-- 'swingbridgelaw5.ClockPlays': WHATEVER THE INPUT: true; the input reads as it did. -/
def clockPlaysSpec : ChangeSpec := { name := "clockPlays", fn := fun _ => fun
  | [d] => { results := [.lit (.bool true)], args := [d] }
  | _ => none }
def clockPlaysRow : OpenClaim := { program := "ytpdkmcnoidbjoaa", sum := "26ba9b2b2c602967eb90eab33b2f9776244edb87ad42756653e24bb90245e45c", func := "swingbridge/swingbridgelaw5.ClockPlays", spec := "clockPlays", inPlace := ["slices.overlaps[swingbridge/api.Due]"], unfollowed := true, recurses := true, apart := false }
def ClockPlaysSaid : Prop := clockPlaysRow.holds Try.pinned (OpenSpec.ofChange clockPlaysSpec)

/-- ITS FALSE NEIGHBOUR: 'it returns false'. Refute it at one input. -/
def clockPlaysWrong : ChangeSpec := { name := "clockPlays", fn := fun _ => fun
  | [d] => { results := [.lit (.bool false)], args := [d] }
  | _ => none }
def ClockPlaysWrongFalsely : Prop := clockPlaysRow.holds Try.pinned (OpenSpec.ofChange clockPlaysWrong)

/-- 'swingbridgelaw5.ClockTimes': WHATEVER THE INPUT: true; the input reads as it did. -/
def clockTimesSpec : ChangeSpec := { name := "clockTimes", fn := fun _ => fun
  | [d] => { results := [.lit (.bool true)], args := [d] }
  | _ => none }
def clockTimesRow : OpenClaim := { program := "ytpdkmcnoidbjoaa", sum := "26ba9b2b2c602967eb90eab33b2f9776244edb87ad42756653e24bb90245e45c", func := "swingbridge/swingbridgelaw5.ClockTimes", spec := "clockTimes", inPlace := ["slices.overlaps[swingbridge/api.Due]"], unfollowed := true, recurses := true, apart := false }
def ClockTimesSaid : Prop := clockTimesRow.holds Try.pinned (OpenSpec.ofChange clockTimesSpec)

/-- ITS FALSE NEIGHBOUR: 'it returns false'. Refute it at one input. -/
def clockTimesWrong : ChangeSpec := { name := "clockTimes", fn := fun _ => fun
  | [d] => { results := [.lit (.bool false)], args := [d] }
  | _ => none }
def ClockTimesWrongFalsely : Prop := clockTimesRow.holds Try.pinned (OpenSpec.ofChange clockTimesWrong)

/-- 'swingbridgelaw5.ClockFull': WHATEVER THE INPUT: true; the input reads as it did. -/
def clockFullSpec : ChangeSpec := { name := "clockFull", fn := fun _ => fun
  | [d1, d2, d3] => { results := [.lit (.bool true)], args := [d1, d2, d3] }
  | _ => none }
def clockFullRow : OpenClaim := { program := "ytpdkmcnoidbjoaa", sum := "26ba9b2b2c602967eb90eab33b2f9776244edb87ad42756653e24bb90245e45c", func := "swingbridge/swingbridgelaw5.ClockFull", spec := "clockFull", inPlace := ["slices.overlaps[swingbridge/api.Due]"], unfollowed := true, recurses := true, apart := false }
def ClockFullSaid : Prop := clockFullRow.holds Try.pinned (OpenSpec.ofChange clockFullSpec)

/-- ITS FALSE NEIGHBOUR: 'it returns false'. Refute it at one input. -/
def clockFullWrong : ChangeSpec := { name := "clockFull", fn := fun _ => fun
  | [d1, d2, d3] => { results := [.lit (.bool false)], args := [d1, d2, d3] }
  | _ => none }
def ClockFullWrongFalsely : Prop := clockFullRow.holds Try.pinned (OpenSpec.ofChange clockFullWrong)

/-- 'swingbridgelaw5.ClockDrops': WHATEVER THE INPUT: true; the input reads as it did. -/
def clockDropsSpec : ChangeSpec := { name := "clockDrops", fn := fun _ => fun
  | [d1, d2, d3] => { results := [.lit (.bool true)], args := [d1, d2, d3] }
  | _ => none }
def clockDropsRow : OpenClaim := { program := "ytpdkmcnoidbjoaa", sum := "26ba9b2b2c602967eb90eab33b2f9776244edb87ad42756653e24bb90245e45c", func := "swingbridge/swingbridgelaw5.ClockDrops", spec := "clockDrops", inPlace := ["slices.overlaps[swingbridge/api.Due]"], unfollowed := true, recurses := true, apart := false }
def ClockDropsSaid : Prop := clockDropsRow.holds Try.pinned (OpenSpec.ofChange clockDropsSpec)

/-- ITS FALSE NEIGHBOUR: 'it returns false'. Refute it at one input. -/
def clockDropsWrong : ChangeSpec := { name := "clockDrops", fn := fun _ => fun
  | [d1, d2, d3] => { results := [.lit (.bool false)], args := [d1, d2, d3] }
  | _ => none }
def ClockDropsWrongFalsely : Prop := clockDropsRow.holds Try.pinned (OpenSpec.ofChange clockDropsWrong)

/-- 'swingbridgelaw25.LegalTells': WHATEVER THE INPUT: true; the input reads as it did. -/
def legalTellsSpec : ChangeSpec := { name := "legalTells", fn := fun _ => fun
  | [d1, d2, d3, d4, d5] => { results := [.lit (.bool true)], args := [d1, d2, d3, d4, d5] }
  | _ => none }
def legalTellsRow : OpenClaim := { program := "ytpdkmcnoidbjoaa", sum := "26ba9b2b2c602967eb90eab33b2f9776244edb87ad42756653e24bb90245e45c", func := "swingbridge/swingbridgelaw25.LegalTells", spec := "legalTells", unfollowed := true, recurses := true, apart := false }
def LegalTellsSaid : Prop := legalTellsRow.holds Try.pinned (OpenSpec.ofChange legalTellsSpec)

/-- ITS FALSE NEIGHBOUR: 'it returns false'. Refute it at one input. -/
def legalTellsWrong : ChangeSpec := { name := "legalTells", fn := fun _ => fun
  | [d1, d2, d3, d4, d5] => { results := [.lit (.bool false)], args := [d1, d2, d3, d4, d5] }
  | _ => none }
def LegalTellsWrongFalsely : Prop := legalTellsRow.holds Try.pinned (OpenSpec.ofChange legalTellsWrong)

/-- 'swingbridgelaw25.LegalShapes': WHATEVER THE INPUT: true; the input reads as it did. -/
def legalShapesSpec : ChangeSpec := { name := "legalShapes", fn := fun _ => fun
  | [d1, d2] => { results := [.lit (.bool true)], args := [d1, d2] }
  | _ => none }
def legalShapesRow : OpenClaim := { program := "ytpdkmcnoidbjoaa", sum := "26ba9b2b2c602967eb90eab33b2f9776244edb87ad42756653e24bb90245e45c", func := "swingbridge/swingbridgelaw25.LegalShapes", spec := "legalShapes", unfollowed := true, recurses := true, apart := false }
def LegalShapesSaid : Prop := legalShapesRow.holds Try.pinned (OpenSpec.ofChange legalShapesSpec)

/-- ITS FALSE NEIGHBOUR: 'it returns false'. Refute it at one input. -/
def legalShapesWrong : ChangeSpec := { name := "legalShapes", fn := fun _ => fun
  | [d1, d2] => { results := [.lit (.bool false)], args := [d1, d2] }
  | _ => none }
def LegalShapesWrongFalsely : Prop := legalShapesRow.holds Try.pinned (OpenSpec.ofChange legalShapesWrong)

/-- 'swingbridgelaw25.LegalHolders': WHATEVER THE INPUT: true; the input reads as it did. -/
def legalHoldersSpec : ChangeSpec := { name := "legalHolders", fn := fun _ => fun
  | [d1, d2, d3, d4] => { results := [.lit (.bool true)], args := [d1, d2, d3, d4] }
  | _ => none }
def legalHoldersRow : OpenClaim := { program := "ytpdkmcnoidbjoaa", sum := "26ba9b2b2c602967eb90eab33b2f9776244edb87ad42756653e24bb90245e45c", func := "swingbridge/swingbridgelaw25.LegalHolders", spec := "legalHolders", unfollowed := true, recurses := true, apart := false }
def LegalHoldersSaid : Prop := legalHoldersRow.holds Try.pinned (OpenSpec.ofChange legalHoldersSpec)

/-- ITS FALSE NEIGHBOUR: 'it returns false'. Refute it at one input. -/
def legalHoldersWrong : ChangeSpec := { name := "legalHolders", fn := fun _ => fun
  | [d1, d2, d3, d4] => { results := [.lit (.bool false)], args := [d1, d2, d3, d4] }
  | _ => none }
def LegalHoldersWrongFalsely : Prop := legalHoldersRow.holds Try.pinned (OpenSpec.ofChange legalHoldersWrong)

/-- 'swingbridgelaw25.LegalBusy': WHATEVER THE INPUT: true; the input reads as it did. -/
def legalBusySpec : ChangeSpec := { name := "legalBusy", fn := fun _ => fun
  | [d1, d2, d3, d4] => { results := [.lit (.bool true)], args := [d1, d2, d3, d4] }
  | _ => none }
def legalBusyRow : OpenClaim := { program := "ytpdkmcnoidbjoaa", sum := "26ba9b2b2c602967eb90eab33b2f9776244edb87ad42756653e24bb90245e45c", func := "swingbridge/swingbridgelaw25.LegalBusy", spec := "legalBusy", unfollowed := true, recurses := true, apart := false }
def LegalBusySaid : Prop := legalBusyRow.holds Try.pinned (OpenSpec.ofChange legalBusySpec)

/-- ITS FALSE NEIGHBOUR: 'it returns false'. Refute it at one input. -/
def legalBusyWrong : ChangeSpec := { name := "legalBusy", fn := fun _ => fun
  | [d1, d2, d3, d4] => { results := [.lit (.bool false)], args := [d1, d2, d3, d4] }
  | _ => none }
def LegalBusyWrongFalsely : Prop := legalBusyRow.holds Try.pinned (OpenSpec.ofChange legalBusyWrong)

/- THE SECOND FORM. 'bulk': how many values and letters a reading holds, each counted each time it is reached (what is shared counts as often as it is met; a slice's spare places count too). A statement '..UptoSaid' is the law's where the arguments, and the package variables that the reading takes, are together of bulk at most 1048576: NARROWER than '..Said'. Prove '..Said' where nothing that the law and all that it calls make is longer than what came in: it says more and counts as full. Else prove '..UptoSaid'. A law counts once. -/
mutual
def uptoBulk {H : Type} : DataW H → Nat
  | .lit (.string bytes) => bytes.length + 1
  | .lit _ => 1
  | .nil => 1
  | .ptr d => uptoBulk d + 1
  | .slice elems spare => uptoBulkAll elems + uptoBulkAll spare + 1
  | .agg parts => uptoBulkAll parts + 1
  | .iface _ d => uptoBulk d + 1
  | .map entries => uptoBulkEntries entries + 1
  | .held _ => 1
def uptoBulkAll {H : Type} : List (DataW H) → Nat
  | [] => 0
  | d :: r => uptoBulk d + uptoBulkAll r
def uptoBulkEntries {H : Type} : List (Lit × DataW H) → Nat
  | [] => 0
  | x :: r => uptoBulkEntry x + uptoBulkEntries r
def uptoBulkEntry {H : Type} : Lit × DataW H → Nat
  | (.string bytes, d) => bytes.length + uptoBulk d + 1
  | (_, d) => uptoBulk d + 1
 end
def uptoSmall : (H : Type) → List (DataW H) → Bool := fun _ ds => decide (uptoBulkAll ds ≤ 1048576)
def OpenSpec.upto (s : _root_.Go.ChangeSpec) : _root_.Go.OpenSpec := { _root_.Go.OpenSpec.ofChange s with cond := some uptoSmall }

/-- 'swingbridgelaw26.DelayTells', WHERE WHAT IT READS IS OF BULK AT MOST 1048576: true; the input reads as it did. -/
def delayTellsUptoRow : OpenClaim := { program := "ytpdkmcnoidbjoaa", sum := "26ba9b2b2c602967eb90eab33b2f9776244edb87ad42756653e24bb90245e45c", func := "swingbridge/swingbridgelaw26.DelayTells", spec := "delayTells", unfollowed := true, recurses := true, apart := false, narrowed := true }
def DelayTellsUptoSaid : Prop := delayTellsUptoRow.holds Try.pinned (OpenSpec.upto delayTellsSpec)

/-- 'swingbridgelaw26.DelayShapes', WHERE WHAT IT READS IS OF BULK AT MOST 1048576: true; the input reads as it did. -/
def delayShapesUptoRow : OpenClaim := { program := "ytpdkmcnoidbjoaa", sum := "26ba9b2b2c602967eb90eab33b2f9776244edb87ad42756653e24bb90245e45c", func := "swingbridge/swingbridgelaw26.DelayShapes", spec := "delayShapes", unfollowed := true, recurses := true, apart := false, narrowed := true }
def DelayShapesUptoSaid : Prop := delayShapesUptoRow.holds Try.pinned (OpenSpec.upto delayShapesSpec)

/-- 'swingbridgelaw4.RankPlays', WHERE WHAT IT READS IS OF BULK AT MOST 1048576: true; the input reads as it did. -/
def rankPlaysUptoRow : OpenClaim := { program := "ytpdkmcnoidbjoaa", sum := "26ba9b2b2c602967eb90eab33b2f9776244edb87ad42756653e24bb90245e45c", func := "swingbridge/swingbridgelaw4.RankPlays", spec := "rankPlays", inPlace := ["slices.overlaps[swingbridge/rank.entry]"], unfollowed := true, recurses := true, apart := false, narrowed := true }
def RankPlaysUptoSaid : Prop := rankPlaysUptoRow.holds Try.pinned (OpenSpec.upto rankPlaysSpec)

/-- 'swingbridgelaw4.RankSorts', WHERE WHAT IT READS IS OF BULK AT MOST 1048576: true; the input reads as it did. -/
def rankSortsUptoRow : OpenClaim := { program := "ytpdkmcnoidbjoaa", sum := "26ba9b2b2c602967eb90eab33b2f9776244edb87ad42756653e24bb90245e45c", func := "swingbridge/swingbridgelaw4.RankSorts", spec := "rankSorts", inPlace := ["slices.overlaps[swingbridge/rank.entry]"], unfollowed := true, recurses := true, apart := false, narrowed := true }
def RankSortsUptoSaid : Prop := rankSortsUptoRow.holds Try.pinned (OpenSpec.upto rankSortsSpec)

/-- 'swingbridgelaw4.RankMixed', WHERE WHAT IT READS IS OF BULK AT MOST 1048576: true; the input reads as it did. -/
def rankMixedUptoRow : OpenClaim := { program := "ytpdkmcnoidbjoaa", sum := "26ba9b2b2c602967eb90eab33b2f9776244edb87ad42756653e24bb90245e45c", func := "swingbridge/swingbridgelaw4.RankMixed", spec := "rankMixed", inPlace := ["slices.overlaps[swingbridge/rank.entry]"], unfollowed := true, recurses := true, apart := false, narrowed := true }
def RankMixedUptoSaid : Prop := rankMixedUptoRow.holds Try.pinned (OpenSpec.upto rankMixedSpec)

/-- 'swingbridgelaw4.RankDrops', WHERE WHAT IT READS IS OF BULK AT MOST 1048576: true; the input reads as it did. -/
def rankDropsUptoRow : OpenClaim := { program := "ytpdkmcnoidbjoaa", sum := "26ba9b2b2c602967eb90eab33b2f9776244edb87ad42756653e24bb90245e45c", func := "swingbridge/swingbridgelaw4.RankDrops", spec := "rankDrops", inPlace := ["slices.overlaps[swingbridge/rank.entry]"], unfollowed := true, recurses := true, apart := false, narrowed := true }
def RankDropsUptoSaid : Prop := rankDropsUptoRow.holds Try.pinned (OpenSpec.upto rankDropsSpec)

/-- 'swingbridgelaw5.ClockPlays', WHERE WHAT IT READS IS OF BULK AT MOST 1048576: true; the input reads as it did. -/
def clockPlaysUptoRow : OpenClaim := { program := "ytpdkmcnoidbjoaa", sum := "26ba9b2b2c602967eb90eab33b2f9776244edb87ad42756653e24bb90245e45c", func := "swingbridge/swingbridgelaw5.ClockPlays", spec := "clockPlays", inPlace := ["slices.overlaps[swingbridge/api.Due]"], unfollowed := true, recurses := true, apart := false, narrowed := true }
def ClockPlaysUptoSaid : Prop := clockPlaysUptoRow.holds Try.pinned (OpenSpec.upto clockPlaysSpec)

/-- 'swingbridgelaw5.ClockTimes', WHERE WHAT IT READS IS OF BULK AT MOST 1048576: true; the input reads as it did. -/
def clockTimesUptoRow : OpenClaim := { program := "ytpdkmcnoidbjoaa", sum := "26ba9b2b2c602967eb90eab33b2f9776244edb87ad42756653e24bb90245e45c", func := "swingbridge/swingbridgelaw5.ClockTimes", spec := "clockTimes", inPlace := ["slices.overlaps[swingbridge/api.Due]"], unfollowed := true, recurses := true, apart := false, narrowed := true }
def ClockTimesUptoSaid : Prop := clockTimesUptoRow.holds Try.pinned (OpenSpec.upto clockTimesSpec)

/-- 'swingbridgelaw5.ClockFull', WHERE WHAT IT READS IS OF BULK AT MOST 1048576: true; the input reads as it did. -/
def clockFullUptoRow : OpenClaim := { program := "ytpdkmcnoidbjoaa", sum := "26ba9b2b2c602967eb90eab33b2f9776244edb87ad42756653e24bb90245e45c", func := "swingbridge/swingbridgelaw5.ClockFull", spec := "clockFull", inPlace := ["slices.overlaps[swingbridge/api.Due]"], unfollowed := true, recurses := true, apart := false, narrowed := true }
def ClockFullUptoSaid : Prop := clockFullUptoRow.holds Try.pinned (OpenSpec.upto clockFullSpec)

/-- 'swingbridgelaw5.ClockDrops', WHERE WHAT IT READS IS OF BULK AT MOST 1048576: true; the input reads as it did. -/
def clockDropsUptoRow : OpenClaim := { program := "ytpdkmcnoidbjoaa", sum := "26ba9b2b2c602967eb90eab33b2f9776244edb87ad42756653e24bb90245e45c", func := "swingbridge/swingbridgelaw5.ClockDrops", spec := "clockDrops", inPlace := ["slices.overlaps[swingbridge/api.Due]"], unfollowed := true, recurses := true, apart := false, narrowed := true }
def ClockDropsUptoSaid : Prop := clockDropsUptoRow.holds Try.pinned (OpenSpec.upto clockDropsSpec)

/-- 'swingbridgelaw25.LegalTells', WHERE WHAT IT READS IS OF BULK AT MOST 1048576: true; the input reads as it did. -/
def legalTellsUptoRow : OpenClaim := { program := "ytpdkmcnoidbjoaa", sum := "26ba9b2b2c602967eb90eab33b2f9776244edb87ad42756653e24bb90245e45c", func := "swingbridge/swingbridgelaw25.LegalTells", spec := "legalTells", unfollowed := true, recurses := true, apart := false, narrowed := true }
def LegalTellsUptoSaid : Prop := legalTellsUptoRow.holds Try.pinned (OpenSpec.upto legalTellsSpec)

/-- 'swingbridgelaw25.LegalShapes', WHERE WHAT IT READS IS OF BULK AT MOST 1048576: true; the input reads as it did. -/
def legalShapesUptoRow : OpenClaim := { program := "ytpdkmcnoidbjoaa", sum := "26ba9b2b2c602967eb90eab33b2f9776244edb87ad42756653e24bb90245e45c", func := "swingbridge/swingbridgelaw25.LegalShapes", spec := "legalShapes", unfollowed := true, recurses := true, apart := false, narrowed := true }
def LegalShapesUptoSaid : Prop := legalShapesUptoRow.holds Try.pinned (OpenSpec.upto legalShapesSpec)

/-- 'swingbridgelaw25.LegalHolders', WHERE WHAT IT READS IS OF BULK AT MOST 1048576: true; the input reads as it did. -/
def legalHoldersUptoRow : OpenClaim := { program := "ytpdkmcnoidbjoaa", sum := "26ba9b2b2c602967eb90eab33b2f9776244edb87ad42756653e24bb90245e45c", func := "swingbridge/swingbridgelaw25.LegalHolders", spec := "legalHolders", unfollowed := true, recurses := true, apart := false, narrowed := true }
def LegalHoldersUptoSaid : Prop := legalHoldersUptoRow.holds Try.pinned (OpenSpec.upto legalHoldersSpec)

/-- 'swingbridgelaw25.LegalBusy', WHERE WHAT IT READS IS OF BULK AT MOST 1048576: true; the input reads as it did. -/
def legalBusyUptoRow : OpenClaim := { program := "ytpdkmcnoidbjoaa", sum := "26ba9b2b2c602967eb90eab33b2f9776244edb87ad42756653e24bb90245e45c", func := "swingbridge/swingbridgelaw25.LegalBusy", spec := "legalBusy", unfollowed := true, recurses := true, apart := false, narrowed := true }
def LegalBusyUptoSaid : Prop := legalBusyUptoRow.holds Try.pinned (OpenSpec.upto legalBusySpec)

end Rows
end Go.Proofs.Ytpdkmcnoidbjoaa
