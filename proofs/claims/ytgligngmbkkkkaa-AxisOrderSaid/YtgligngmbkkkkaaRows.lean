/-
  No cell of these rows narrows 'for every input' (looked for: loops, veiled, ifaces, maps, wideKeys, modest, calm, conditions, laid).
  DERIVED. THE GIVEN ROWS OF THIS SEAT. 9 by the template 'for every input the law returns true; each argument reads behind the call as it read before'; 0 by the template 'total and deterministic' (their statements: YtgligngmbkkkkaaTotals.lean).
  GIVEN WITH THE SEED: the statements are not yours to turn. If you find one false, say at which input.
  Laid BY PROGRAM, IN A SANDBOX (cutbox-rows.mjs): the forced cells as the released guide's own fill.sh prints them over the translation 04397c564e141b91… (all of the seat's roots in one cut). By AI agents, Wed Nov 11 2026. No macro, syntax, notation, axiom, sorry.
-/
import Derived.Test.YtgligngmbkkkkaaChecked
import GoSem.Claim
import GoSem.ClaimJoined
import GoSem.ClaimMapViews
import Derived.JoinedTies
import Derived.KernelRfl
namespace Go.Proofs.Ytgligngmbkkkkaa
/- THE CELL 'sum', in the pinned program and in every row, IS THE sha256 OF THE DUMP (.gsa) THAT YtgligngmbkkkkaaProg.lean LOADS. Nothing in Lean hashes anything: it is a label: what it is worth is what the hold of that sum in a sandbox is worth. -/
noncomputable def Try.pinned : Pinned := { name := "ytgligngmbkkkkaa", sum := "04397c564e141b916aa94bfcc2a3d775d5a5c00641acc9ff4e79231885c66d5d", checked := Try.checked }
namespace Rows
def none {H : Type} : Left H := { results := [], args := [] }

/-- 'coinagelaw10.AxisDistances': WHATEVER THE INPUT: true; the input reads as it did. -/
def axisDistancesSpec : ChangeSpec := { name := "axisDistances", fn := fun _ => fun
  | [d1, d2, d3] => { results := [.lit (.bool true)], args := [d1, d2, d3] }
  | _ => none }
def axisDistancesRow : OpenClaim := { program := "ytgligngmbkkkkaa", sum := "04397c564e141b916aa94bfcc2a3d775d5a5c00641acc9ff4e79231885c66d5d", func := "coinage/coinagelaw10.AxisDistances", spec := "axisDistances", unfollowed := true, recurses := true, apart := false }
def AxisDistancesSaid : Prop := axisDistancesRow.holds Try.pinned (OpenSpec.ofChange axisDistancesSpec)

/-- ITS FALSE NEIGHBOUR: 'it returns false'. Refute it at one input. -/
def axisDistancesWrong : ChangeSpec := { name := "axisDistances", fn := fun _ => fun
  | [d1, d2, d3] => { results := [.lit (.bool false)], args := [d1, d2, d3] }
  | _ => none }
def AxisDistancesWrongFalsely : Prop := axisDistancesRow.holds Try.pinned (OpenSpec.ofChange axisDistancesWrong)

/-- 'coinagelaw10.AxisArcs': WHATEVER THE INPUT: true; the input reads as it did. -/
def axisArcsSpec : ChangeSpec := { name := "axisArcs", fn := fun _ => fun
  | [d] => { results := [.lit (.bool true)], args := [d] }
  | _ => none }
def axisArcsRow : OpenClaim := { program := "ytgligngmbkkkkaa", sum := "04397c564e141b916aa94bfcc2a3d775d5a5c00641acc9ff4e79231885c66d5d", func := "coinage/coinagelaw10.AxisArcs", spec := "axisArcs", unfollowed := true, recurses := true, apart := false }
def AxisArcsSaid : Prop := axisArcsRow.holds Try.pinned (OpenSpec.ofChange axisArcsSpec)

/-- ITS FALSE NEIGHBOUR: 'it returns false'. Refute it at one input. -/
def axisArcsWrong : ChangeSpec := { name := "axisArcs", fn := fun _ => fun
  | [d] => { results := [.lit (.bool false)], args := [d] }
  | _ => none }
def AxisArcsWrongFalsely : Prop := axisArcsRow.holds Try.pinned (OpenSpec.ofChange axisArcsWrong)

/-- 'coinagelaw10.AxisMedian': WHATEVER THE INPUT: true; the input reads as it did. -/
def axisMedianSpec : ChangeSpec := { name := "axisMedian", fn := fun _ => fun
  | [d] => { results := [.lit (.bool true)], args := [d] }
  | _ => none }
def axisMedianRow : OpenClaim := { program := "ytgligngmbkkkkaa", sum := "04397c564e141b916aa94bfcc2a3d775d5a5c00641acc9ff4e79231885c66d5d", func := "coinage/coinagelaw10.AxisMedian", spec := "axisMedian", unfollowed := true, recurses := true, apart := false }
def AxisMedianSaid : Prop := axisMedianRow.holds Try.pinned (OpenSpec.ofChange axisMedianSpec)

/-- ITS FALSE NEIGHBOUR: 'it returns false'. Refute it at one input. -/
def axisMedianWrong : ChangeSpec := { name := "axisMedian", fn := fun _ => fun
  | [d] => { results := [.lit (.bool false)], args := [d] }
  | _ => none }
def AxisMedianWrongFalsely : Prop := axisMedianRow.holds Try.pinned (OpenSpec.ofChange axisMedianWrong)

/-- 'coinagelaw10.AxisFixed': WHATEVER THE INPUT: true; the input reads as it did. -/
def axisFixedSpec : ChangeSpec := { name := "axisFixed", fn := fun _ => fun
  | [d1, d2] => { results := [.lit (.bool true)], args := [d1, d2] }
  | _ => none }
def axisFixedRow : OpenClaim := { program := "ytgligngmbkkkkaa", sum := "04397c564e141b916aa94bfcc2a3d775d5a5c00641acc9ff4e79231885c66d5d", func := "coinage/coinagelaw10.AxisFixed", spec := "axisFixed", unfollowed := true, recurses := true, apart := false }
def AxisFixedSaid : Prop := axisFixedRow.holds Try.pinned (OpenSpec.ofChange axisFixedSpec)

/-- ITS FALSE NEIGHBOUR: 'it returns false'. Refute it at one input. -/
def axisFixedWrong : ChangeSpec := { name := "axisFixed", fn := fun _ => fun
  | [d1, d2] => { results := [.lit (.bool false)], args := [d1, d2] }
  | _ => none }
def AxisFixedWrongFalsely : Prop := axisFixedRow.holds Try.pinned (OpenSpec.ofChange axisFixedWrong)

/-- 'coinagelaw10.AxisShortest': WHATEVER THE INPUT: true; the input reads as it did. -/
def axisShortestSpec : ChangeSpec := { name := "axisShortest", fn := fun _ => fun
  | [d] => { results := [.lit (.bool true)], args := [d] }
  | _ => none }
def axisShortestRow : OpenClaim := { program := "ytgligngmbkkkkaa", sum := "04397c564e141b916aa94bfcc2a3d775d5a5c00641acc9ff4e79231885c66d5d", func := "coinage/coinagelaw10.AxisShortest", spec := "axisShortest", unfollowed := true, recurses := true, apart := false }
def AxisShortestSaid : Prop := axisShortestRow.holds Try.pinned (OpenSpec.ofChange axisShortestSpec)

/-- ITS FALSE NEIGHBOUR: 'it returns false'. Refute it at one input. -/
def axisShortestWrong : ChangeSpec := { name := "axisShortest", fn := fun _ => fun
  | [d] => { results := [.lit (.bool false)], args := [d] }
  | _ => none }
def AxisShortestWrongFalsely : Prop := axisShortestRow.holds Try.pinned (OpenSpec.ofChange axisShortestWrong)

/-- 'coinagelaw10.AxisDensest': WHATEVER THE INPUT: true; the input reads as it did. -/
def axisDensestSpec : ChangeSpec := { name := "axisDensest", fn := fun _ => fun
  | [d1, d2] => { results := [.lit (.bool true)], args := [d1, d2] }
  | _ => none }
def axisDensestRow : OpenClaim := { program := "ytgligngmbkkkkaa", sum := "04397c564e141b916aa94bfcc2a3d775d5a5c00641acc9ff4e79231885c66d5d", func := "coinage/coinagelaw10.AxisDensest", spec := "axisDensest", unfollowed := true, recurses := true, apart := false }
def AxisDensestSaid : Prop := axisDensestRow.holds Try.pinned (OpenSpec.ofChange axisDensestSpec)

/-- ITS FALSE NEIGHBOUR: 'it returns false'. Refute it at one input. -/
def axisDensestWrong : ChangeSpec := { name := "axisDensest", fn := fun _ => fun
  | [d1, d2] => { results := [.lit (.bool false)], args := [d1, d2] }
  | _ => none }
def AxisDensestWrongFalsely : Prop := axisDensestRow.holds Try.pinned (OpenSpec.ofChange axisDensestWrong)

/-- 'coinagelaw10.AxisOrder': WHATEVER THE INPUT: true; the input reads as it did. -/
def axisOrderSpec : ChangeSpec := { name := "axisOrder", fn := fun _ => fun
  | [d1, d2, d3] => { results := [.lit (.bool true)], args := [d1, d2, d3] }
  | _ => none }
def axisOrderRow : OpenClaim := { program := "ytgligngmbkkkkaa", sum := "04397c564e141b916aa94bfcc2a3d775d5a5c00641acc9ff4e79231885c66d5d", func := "coinage/coinagelaw10.AxisOrder", spec := "axisOrder", unfollowed := true, recurses := true, apart := false }
def AxisOrderSaid : Prop := axisOrderRow.holds Try.pinned (OpenSpec.ofChange axisOrderSpec)

/-- ITS FALSE NEIGHBOUR: 'it returns false'. Refute it at one input. -/
def axisOrderWrong : ChangeSpec := { name := "axisOrder", fn := fun _ => fun
  | [d1, d2, d3] => { results := [.lit (.bool false)], args := [d1, d2, d3] }
  | _ => none }
def AxisOrderWrongFalsely : Prop := axisOrderRow.holds Try.pinned (OpenSpec.ofChange axisOrderWrong)

/-- 'coinagelaw10.AxisCounts': WHATEVER THE INPUT: true; the input reads as it did. -/
def axisCountsSpec : ChangeSpec := { name := "axisCounts", fn := fun _ => fun
  | [d1, d2] => { results := [.lit (.bool true)], args := [d1, d2] }
  | _ => none }
def axisCountsRow : OpenClaim := { program := "ytgligngmbkkkkaa", sum := "04397c564e141b916aa94bfcc2a3d775d5a5c00641acc9ff4e79231885c66d5d", func := "coinage/coinagelaw10.AxisCounts", spec := "axisCounts", unfollowed := true, recurses := true, apart := false }
def AxisCountsSaid : Prop := axisCountsRow.holds Try.pinned (OpenSpec.ofChange axisCountsSpec)

/-- ITS FALSE NEIGHBOUR: 'it returns false'. Refute it at one input. -/
def axisCountsWrong : ChangeSpec := { name := "axisCounts", fn := fun _ => fun
  | [d1, d2] => { results := [.lit (.bool false)], args := [d1, d2] }
  | _ => none }
def AxisCountsWrongFalsely : Prop := axisCountsRow.holds Try.pinned (OpenSpec.ofChange axisCountsWrong)

/-- 'coinagelaw10.AxisTurns': WHATEVER THE INPUT: true; the input reads as it did. -/
def axisTurnsSpec : ChangeSpec := { name := "axisTurns", fn := fun _ => fun
  | [d1, d2, d3] => { results := [.lit (.bool true)], args := [d1, d2, d3] }
  | _ => none }
def axisTurnsRow : OpenClaim := { program := "ytgligngmbkkkkaa", sum := "04397c564e141b916aa94bfcc2a3d775d5a5c00641acc9ff4e79231885c66d5d", func := "coinage/coinagelaw10.AxisTurns", spec := "axisTurns", unfollowed := true, recurses := true, apart := false }
def AxisTurnsSaid : Prop := axisTurnsRow.holds Try.pinned (OpenSpec.ofChange axisTurnsSpec)

/-- ITS FALSE NEIGHBOUR: 'it returns false'. Refute it at one input. -/
def axisTurnsWrong : ChangeSpec := { name := "axisTurns", fn := fun _ => fun
  | [d1, d2, d3] => { results := [.lit (.bool false)], args := [d1, d2, d3] }
  | _ => none }
def AxisTurnsWrongFalsely : Prop := axisTurnsRow.holds Try.pinned (OpenSpec.ofChange axisTurnsWrong)

/- THE SECOND FORM. 'bulk': how many values and letters a reading holds, each counted each time it is reached (what is shared counts as often as it is met; a slice's spare places count too). A statement '..UptoSaid' is the law's where the arguments, and the package variables that the reading takes, are together of bulk at most 1048576: NARROWER than '..Said'. Prove '..Said' where nothing that the law and all that it calls make is longer than what came in: it says more and counts as full. Else prove '..UptoSaid'. A law counts once. -/
mutual
def uptoBulk {H : Type} : DataW H → Nat
  | .lit (.string bytes) => bytes.length + 1
  | .lit _ => 1
  | .nil => 1
  | .ptr d => uptoBulk d + 1
  | .slice elems spare => uptoBulkAll elems + uptoBulkAll spare + 1
  | .agg parts => uptoBulkAll parts + 1
  | .iface _ d => uptoBulk d + 1
  | .map entries => uptoBulkEntries entries + 1
  | .held _ => 1
def uptoBulkAll {H : Type} : List (DataW H) → Nat
  | [] => 0
  | d :: r => uptoBulk d + uptoBulkAll r
def uptoBulkEntries {H : Type} : List (Lit × DataW H) → Nat
  | [] => 0
  | x :: r => uptoBulkEntry x + uptoBulkEntries r
def uptoBulkEntry {H : Type} : Lit × DataW H → Nat
  | (.string bytes, d) => bytes.length + uptoBulk d + 1
  | (_, d) => uptoBulk d + 1
 end
def uptoSmall : (H : Type) → List (DataW H) → Bool := fun _ ds => decide (uptoBulkAll ds ≤ 1048576)
def OpenSpec.upto (s : _root_.Go.ChangeSpec) : _root_.Go.OpenSpec := { _root_.Go.OpenSpec.ofChange s with cond := some uptoSmall }

/-- 'coinagelaw10.AxisDistances', WHERE WHAT IT READS IS OF BULK AT MOST 1048576: true; the input reads as it did. -/
def axisDistancesUptoRow : OpenClaim := { program := "ytgligngmbkkkkaa", sum := "04397c564e141b916aa94bfcc2a3d775d5a5c00641acc9ff4e79231885c66d5d", func := "coinage/coinagelaw10.AxisDistances", spec := "axisDistances", unfollowed := true, recurses := true, apart := false, narrowed := true }
def AxisDistancesUptoSaid : Prop := axisDistancesUptoRow.holds Try.pinned (OpenSpec.upto axisDistancesSpec)

/-- 'coinagelaw10.AxisArcs', WHERE WHAT IT READS IS OF BULK AT MOST 1048576: true; the input reads as it did. -/
def axisArcsUptoRow : OpenClaim := { program := "ytgligngmbkkkkaa", sum := "04397c564e141b916aa94bfcc2a3d775d5a5c00641acc9ff4e79231885c66d5d", func := "coinage/coinagelaw10.AxisArcs", spec := "axisArcs", unfollowed := true, recurses := true, apart := false, narrowed := true }
def AxisArcsUptoSaid : Prop := axisArcsUptoRow.holds Try.pinned (OpenSpec.upto axisArcsSpec)

/-- 'coinagelaw10.AxisMedian', WHERE WHAT IT READS IS OF BULK AT MOST 1048576: true; the input reads as it did. -/
def axisMedianUptoRow : OpenClaim := { program := "ytgligngmbkkkkaa", sum := "04397c564e141b916aa94bfcc2a3d775d5a5c00641acc9ff4e79231885c66d5d", func := "coinage/coinagelaw10.AxisMedian", spec := "axisMedian", unfollowed := true, recurses := true, apart := false, narrowed := true }
def AxisMedianUptoSaid : Prop := axisMedianUptoRow.holds Try.pinned (OpenSpec.upto axisMedianSpec)

/-- 'coinagelaw10.AxisFixed', WHERE WHAT IT READS IS OF BULK AT MOST 1048576: true; the input reads as it did. -/
def axisFixedUptoRow : OpenClaim := { program := "ytgligngmbkkkkaa", sum := "04397c564e141b916aa94bfcc2a3d775d5a5c00641acc9ff4e79231885c66d5d", func := "coinage/coinagelaw10.AxisFixed", spec := "axisFixed", unfollowed := true, recurses := true, apart := false, narrowed := true }
def AxisFixedUptoSaid : Prop := axisFixedUptoRow.holds Try.pinned (OpenSpec.upto axisFixedSpec)

/-- 'coinagelaw10.AxisShortest', WHERE WHAT IT READS IS OF BULK AT MOST 1048576: true; the input reads as it did. -/
def axisShortestUptoRow : OpenClaim := { program := "ytgligngmbkkkkaa", sum := "04397c564e141b916aa94bfcc2a3d775d5a5c00641acc9ff4e79231885c66d5d", func := "coinage/coinagelaw10.AxisShortest", spec := "axisShortest", unfollowed := true, recurses := true, apart := false, narrowed := true }
def AxisShortestUptoSaid : Prop := axisShortestUptoRow.holds Try.pinned (OpenSpec.upto axisShortestSpec)

/-- 'coinagelaw10.AxisDensest', WHERE WHAT IT READS IS OF BULK AT MOST 1048576: true; the input reads as it did. -/
def axisDensestUptoRow : OpenClaim := { program := "ytgligngmbkkkkaa", sum := "04397c564e141b916aa94bfcc2a3d775d5a5c00641acc9ff4e79231885c66d5d", func := "coinage/coinagelaw10.AxisDensest", spec := "axisDensest", unfollowed := true, recurses := true, apart := false, narrowed := true }
def AxisDensestUptoSaid : Prop := axisDensestUptoRow.holds Try.pinned (OpenSpec.upto axisDensestSpec)

/-- 'coinagelaw10.AxisOrder', WHERE WHAT IT READS IS OF BULK AT MOST 1048576: true; the input reads as it did. -/
def axisOrderUptoRow : OpenClaim := { program := "ytgligngmbkkkkaa", sum := "04397c564e141b916aa94bfcc2a3d775d5a5c00641acc9ff4e79231885c66d5d", func := "coinage/coinagelaw10.AxisOrder", spec := "axisOrder", unfollowed := true, recurses := true, apart := false, narrowed := true }
def AxisOrderUptoSaid : Prop := axisOrderUptoRow.holds Try.pinned (OpenSpec.upto axisOrderSpec)

/-- 'coinagelaw10.AxisCounts', WHERE WHAT IT READS IS OF BULK AT MOST 1048576: true; the input reads as it did. -/
def axisCountsUptoRow : OpenClaim := { program := "ytgligngmbkkkkaa", sum := "04397c564e141b916aa94bfcc2a3d775d5a5c00641acc9ff4e79231885c66d5d", func := "coinage/coinagelaw10.AxisCounts", spec := "axisCounts", unfollowed := true, recurses := true, apart := false, narrowed := true }
def AxisCountsUptoSaid : Prop := axisCountsUptoRow.holds Try.pinned (OpenSpec.upto axisCountsSpec)

/-- 'coinagelaw10.AxisTurns', WHERE WHAT IT READS IS OF BULK AT MOST 1048576: true; the input reads as it did. -/
def axisTurnsUptoRow : OpenClaim := { program := "ytgligngmbkkkkaa", sum := "04397c564e141b916aa94bfcc2a3d775d5a5c00641acc9ff4e79231885c66d5d", func := "coinage/coinagelaw10.AxisTurns", spec := "axisTurns", unfollowed := true, recurses := true, apart := false, narrowed := true }
def AxisTurnsUptoSaid : Prop := axisTurnsUptoRow.holds Try.pinned (OpenSpec.upto axisTurnsSpec)

end Rows
end Go.Proofs.Ytgligngmbkkkkaa
