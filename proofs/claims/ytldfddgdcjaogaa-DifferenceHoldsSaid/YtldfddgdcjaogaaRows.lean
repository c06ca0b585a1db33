/-
  No cell of these rows narrows 'for every input' (looked for: loops, veiled, ifaces, maps, wideKeys, modest, calm, conditions, laid).
  DERIVED. THE GIVEN ROWS OF THIS SEAT. 9 by the template 'for every input the law returns true; each argument reads behind the call as it read before'; 0 by the template 'total and deterministic' (their statements: YtldfddgdcjaogaaTotals.lean).
  GIVEN WITH THE SEED: the statements are not yours to turn. If you find one false, say at which input.
  Laid BY PROGRAM, IN A SANDBOX (cutbox-rows.mjs): the forced cells as the released guide's own fill.sh prints them over the translation 33a5c4f5ad999427… (all of the seat's roots in one cut). By AI agents, Wed Nov 11 2026. No macro, syntax, notation, axiom, sorry.
-/
import Derived.Test.YtldfddgdcjaogaaChecked
import GoSem.Claim
import GoSem.ClaimJoined
import GoSem.ClaimMapViews
import Derived.JoinedTies
import Derived.KernelRfl
namespace Go.Proofs.Ytldfddgdcjaogaa
/- THE CELL 'sum', in the pinned program and in every row, IS THE sha256 OF THE DUMP (.gsa) THAT YtldfddgdcjaogaaProg.lean LOADS. Nothing in Lean hashes anything: it is a label: what it is worth is what the hold of that sum in a sandbox is worth. -/
noncomputable def Try.pinned : Pinned := { name := "ytldfddgdcjaogaa", sum := "33a5c4f5ad99942761e92d7d1961eabaa9116bb5779be156fca77c84940dee7a", checked := Try.checked }
namespace Rows
def none {H : Type} : Left H := { results := [], args := [] }

/-- 'coinagelaw33.DifferenceTight': WHATEVER THE INPUT: true; the input reads as it did. -/
def differenceTightSpec : ChangeSpec := { name := "differenceTight", fn := fun _ => fun
  | [d1, d2, d3] => { results := [.lit (.bool true)], args := [d1, d2, d3] }
  | _ => none }
def differenceTightRow : OpenClaim := { program := "ytldfddgdcjaogaa", sum := "33a5c4f5ad99942761e92d7d1961eabaa9116bb5779be156fca77c84940dee7a", func := "coinage/coinagelaw33.DifferenceTight", spec := "differenceTight", unfollowed := true, recurses := true, apart := false }
def DifferenceTightSaid : Prop := differenceTightRow.holds Try.pinned (OpenSpec.ofChange differenceTightSpec)

/-- ITS FALSE NEIGHBOUR: 'it returns false'. Refute it at one input. -/
def differenceTightWrong : ChangeSpec := { name := "differenceTight", fn := fun _ => fun
  | [d1, d2, d3] => { results := [.lit (.bool false)], args := [d1, d2, d3] }
  | _ => none }
def DifferenceTightWrongFalsely : Prop := differenceTightRow.holds Try.pinned (OpenSpec.ofChange differenceTightWrong)

/-- 'coinagelaw33.DifferenceSolves': WHATEVER THE INPUT: true; the input reads as it did. -/
def differenceSolvesSpec : ChangeSpec := { name := "differenceSolves", fn := fun _ => fun
  | [d1, d2] => { results := [.lit (.bool true)], args := [d1, d2] }
  | _ => none }
def differenceSolvesRow : OpenClaim := { program := "ytldfddgdcjaogaa", sum := "33a5c4f5ad99942761e92d7d1961eabaa9116bb5779be156fca77c84940dee7a", func := "coinage/coinagelaw33.DifferenceSolves", spec := "differenceSolves", unfollowed := true, recurses := true, apart := false }
def DifferenceSolvesSaid : Prop := differenceSolvesRow.holds Try.pinned (OpenSpec.ofChange differenceSolvesSpec)

/-- ITS FALSE NEIGHBOUR: 'it returns false'. Refute it at one input. -/
def differenceSolvesWrong : ChangeSpec := { name := "differenceSolves", fn := fun _ => fun
  | [d1, d2] => { results := [.lit (.bool false)], args := [d1, d2] }
  | _ => none }
def DifferenceSolvesWrongFalsely : Prop := differenceSolvesRow.holds Try.pinned (OpenSpec.ofChange differenceSolvesWrong)

/-- 'coinagelaw33.DifferenceRefutes': WHATEVER THE INPUT: true; the input reads as it did. -/
def differenceRefutesSpec : ChangeSpec := { name := "differenceRefutes", fn := fun _ => fun
  | [d1, d2] => { results := [.lit (.bool true)], args := [d1, d2] }
  | _ => none }
def differenceRefutesRow : OpenClaim := { program := "ytldfddgdcjaogaa", sum := "33a5c4f5ad99942761e92d7d1961eabaa9116bb5779be156fca77c84940dee7a", func := "coinage/coinagelaw33.DifferenceRefutes", spec := "differenceRefutes", unfollowed := true, recurses := true, apart := false }
def DifferenceRefutesSaid : Prop := differenceRefutesRow.holds Try.pinned (OpenSpec.ofChange differenceRefutesSpec)

/-- ITS FALSE NEIGHBOUR: 'it returns false'. Refute it at one input. -/
def differenceRefutesWrong : ChangeSpec := { name := "differenceRefutes", fn := fun _ => fun
  | [d1, d2] => { results := [.lit (.bool false)], args := [d1, d2] }
  | _ => none }
def DifferenceRefutesWrongFalsely : Prop := differenceRefutesRow.holds Try.pinned (OpenSpec.ofChange differenceRefutesWrong)

/-- 'coinagelaw33.DifferenceGreatest': WHATEVER THE INPUT: true; the input reads as it did. -/
def differenceGreatestSpec : ChangeSpec := { name := "differenceGreatest", fn := fun _ => fun
  | [d1, d2, d3] => { results := [.lit (.bool true)], args := [d1, d2, d3] }
  | _ => none }
def differenceGreatestRow : OpenClaim := { program := "ytldfddgdcjaogaa", sum := "33a5c4f5ad99942761e92d7d1961eabaa9116bb5779be156fca77c84940dee7a", func := "coinage/coinagelaw33.DifferenceGreatest", spec := "differenceGreatest", unfollowed := true, recurses := true, apart := false }
def DifferenceGreatestSaid : Prop := differenceGreatestRow.holds Try.pinned (OpenSpec.ofChange differenceGreatestSpec)

/-- ITS FALSE NEIGHBOUR: 'it returns false'. Refute it at one input. -/
def differenceGreatestWrong : ChangeSpec := { name := "differenceGreatest", fn := fun _ => fun
  | [d1, d2, d3] => { results := [.lit (.bool false)], args := [d1, d2, d3] }
  | _ => none }
def DifferenceGreatestWrongFalsely : Prop := differenceGreatestRow.holds Try.pinned (OpenSpec.ofChange differenceGreatestWrong)

/-- 'coinagelaw33.DifferenceTriangles': WHATEVER THE INPUT: true; the input reads as it did. -/
def differenceTrianglesSpec : ChangeSpec := { name := "differenceTriangles", fn := fun _ => fun
  | [d1, d2, d3] => { results := [.lit (.bool true)], args := [d1, d2, d3] }
  | _ => none }
def differenceTrianglesRow : OpenClaim := { program := "ytldfddgdcjaogaa", sum := "33a5c4f5ad99942761e92d7d1961eabaa9116bb5779be156fca77c84940dee7a", func := "coinage/coinagelaw33.DifferenceTriangles", spec := "differenceTriangles", unfollowed := true, recurses := true, apart := false }
def DifferenceTrianglesSaid : Prop := differenceTrianglesRow.holds Try.pinned (OpenSpec.ofChange differenceTrianglesSpec)

/-- ITS FALSE NEIGHBOUR: 'it returns false'. Refute it at one input. -/
def differenceTrianglesWrong : ChangeSpec := { name := "differenceTriangles", fn := fun _ => fun
  | [d1, d2, d3] => { results := [.lit (.bool false)], args := [d1, d2, d3] }
  | _ => none }
def DifferenceTrianglesWrongFalsely : Prop := differenceTrianglesRow.holds Try.pinned (OpenSpec.ofChange differenceTrianglesWrong)

/-- 'coinagelaw33.DifferenceMore': WHATEVER THE INPUT: true; the input reads as it did. -/
def differenceMoreSpec : ChangeSpec := { name := "differenceMore", fn := fun _ => fun
  | [d1, d2, d3] => { results := [.lit (.bool true)], args := [d1, d2, d3] }
  | _ => none }
def differenceMoreRow : OpenClaim := { program := "ytldfddgdcjaogaa", sum := "33a5c4f5ad99942761e92d7d1961eabaa9116bb5779be156fca77c84940dee7a", func := "coinage/coinagelaw33.DifferenceMore", spec := "differenceMore", unfollowed := true, recurses := true, apart := false }
def DifferenceMoreSaid : Prop := differenceMoreRow.holds Try.pinned (OpenSpec.ofChange differenceMoreSpec)

/-- ITS FALSE NEIGHBOUR: 'it returns false'. Refute it at one input. -/
def differenceMoreWrong : ChangeSpec := { name := "differenceMore", fn := fun _ => fun
  | [d1, d2, d3] => { results := [.lit (.bool false)], args := [d1, d2, d3] }
  | _ => none }
def DifferenceMoreWrongFalsely : Prop := differenceMoreRow.holds Try.pinned (OpenSpec.ofChange differenceMoreWrong)

/-- 'coinagelaw33.DifferenceImplies': WHATEVER THE INPUT: true; the input reads as it did. -/
def differenceImpliesSpec : ChangeSpec := { name := "differenceImplies", fn := fun _ => fun
  | [d1, d2, d3] => { results := [.lit (.bool true)], args := [d1, d2, d3] }
  | _ => none }
def differenceImpliesRow : OpenClaim := { program := "ytldfddgdcjaogaa", sum := "33a5c4f5ad99942761e92d7d1961eabaa9116bb5779be156fca77c84940dee7a", func := "coinage/coinagelaw33.DifferenceImplies", spec := "differenceImplies", unfollowed := true, recurses := true, apart := false }
def DifferenceImpliesSaid : Prop := differenceImpliesRow.holds Try.pinned (OpenSpec.ofChange differenceImpliesSpec)

/-- ITS FALSE NEIGHBOUR: 'it returns false'. Refute it at one input. -/
def differenceImpliesWrong : ChangeSpec := { name := "differenceImplies", fn := fun _ => fun
  | [d1, d2, d3] => { results := [.lit (.bool false)], args := [d1, d2, d3] }
  | _ => none }
def DifferenceImpliesWrongFalsely : Prop := differenceImpliesRow.holds Try.pinned (OpenSpec.ofChange differenceImpliesWrong)

/-- 'coinagelaw33.DifferenceHolds': WHATEVER THE INPUT: true; the input reads as it did. -/
def differenceHoldsSpec : ChangeSpec := { name := "differenceHolds", fn := fun _ => fun
  | [d1, d2, d3] => { results := [.lit (.bool true)], args := [d1, d2, d3] }
  | _ => none }
def differenceHoldsRow : OpenClaim := { program := "ytldfddgdcjaogaa", sum := "33a5c4f5ad99942761e92d7d1961eabaa9116bb5779be156fca77c84940dee7a", func := "coinage/coinagelaw33.DifferenceHolds", spec := "differenceHolds", unfollowed := true, recurses := true, apart := false }
def DifferenceHoldsSaid : Prop := differenceHoldsRow.holds Try.pinned (OpenSpec.ofChange differenceHoldsSpec)

/-- ITS FALSE NEIGHBOUR: 'it returns false'. Refute it at one input. -/
def differenceHoldsWrong : ChangeSpec := { name := "differenceHolds", fn := fun _ => fun
  | [d1, d2, d3] => { results := [.lit (.bool false)], args := [d1, d2, d3] }
  | _ => none }
def DifferenceHoldsWrongFalsely : Prop := differenceHoldsRow.holds Try.pinned (OpenSpec.ofChange differenceHoldsWrong)

/-- 'coinagelaw33.DifferenceSplits': WHATEVER THE INPUT: true; the input reads as it did. -/
def differenceSplitsSpec : ChangeSpec := { name := "differenceSplits", fn := fun _ => fun
  | [d1, d2] => { results := [.lit (.bool true)], args := [d1, d2] }
  | _ => none }
def differenceSplitsRow : OpenClaim := { program := "ytldfddgdcjaogaa", sum := "33a5c4f5ad99942761e92d7d1961eabaa9116bb5779be156fca77c84940dee7a", func := "coinage/coinagelaw33.DifferenceSplits", spec := "differenceSplits", unfollowed := true, recurses := true, apart := false }
def DifferenceSplitsSaid : Prop := differenceSplitsRow.holds Try.pinned (OpenSpec.ofChange differenceSplitsSpec)

/-- ITS FALSE NEIGHBOUR: 'it returns false'. Refute it at one input. -/
def differenceSplitsWrong : ChangeSpec := { name := "differenceSplits", fn := fun _ => fun
  | [d1, d2] => { results := [.lit (.bool false)], args := [d1, d2] }
  | _ => none }
def DifferenceSplitsWrongFalsely : Prop := differenceSplitsRow.holds Try.pinned (OpenSpec.ofChange differenceSplitsWrong)

/- THE SECOND FORM. 'bulk': how many values and letters a reading holds, each counted each time it is reached (what is shared counts as often as it is met; a slice's spare places count too). A statement '..UptoSaid' is the law's where the arguments, and the package variables that the reading takes, are together of bulk at most 1048576: NARROWER than '..Said'. Prove '..Said' where nothing that the law and all that it calls make is longer than what came in: it says more and counts as full. Else prove '..UptoSaid'. A law counts once. -/
mutual
def uptoBulk {H : Type} : DataW H → Nat
  | .lit (.string bytes) => bytes.length + 1
  | .lit _ => 1
  | .nil => 1
  | .ptr d => uptoBulk d + 1
  | .slice elems spare => uptoBulkAll elems + uptoBulkAll spare + 1
  | .agg parts => uptoBulkAll parts + 1
  | .iface _ d => uptoBulk d + 1
  | .map entries => uptoBulkEntries entries + 1
  | .held _ => 1
def uptoBulkAll {H : Type} : List (DataW H) → Nat
  | [] => 0
  | d :: r => uptoBulk d + uptoBulkAll r
def uptoBulkEntries {H : Type} : List (Lit × DataW H) → Nat
  | [] => 0
  | x :: r => uptoBulkEntry x + uptoBulkEntries r
def uptoBulkEntry {H : Type} : Lit × DataW H → Nat
  | (.string bytes, d) => bytes.length + uptoBulk d + 1
  | (_, d) => uptoBulk d + 1
 end
def uptoSmall : (H : Type) → List (DataW H) → Bool := fun _ ds => decide (uptoBulkAll ds ≤ 1048576)
def OpenSpec.upto (s : _root_.Go.ChangeSpec) : _root_.Go.OpenSpec := { _root_.Go.OpenSpec.ofChange s with cond := some uptoSmall }

/-- 'coinagelaw33.DifferenceTight', WHERE WHAT IT READS IS OF BULK AT MOST 1048576: true; the input reads as it did. -/
def differenceTightUptoRow : OpenClaim := { program := "ytldfddgdcjaogaa", sum := "33a5c4f5ad99942761e92d7d1961eabaa9116bb5779be156fca77c84940dee7a", func := "coinage/coinagelaw33.DifferenceTight", spec := "differenceTight", unfollowed := true, recurses := true, apart := false, narrowed := true }
def DifferenceTightUptoSaid : Prop := differenceTightUptoRow.holds Try.pinned (OpenSpec.upto differenceTightSpec)

/-- 'coinagelaw33.DifferenceSolves', WHERE WHAT IT READS IS OF BULK AT MOST 1048576: true; the input reads as it did. -/
def differenceSolvesUptoRow : OpenClaim := { program := "ytldfddgdcjaogaa", sum := "33a5c4f5ad99942761e92d7d1961eabaa9116bb5779be156fca77c84940dee7a", func := "coinage/coinagelaw33.DifferenceSolves", spec := "differenceSolves", unfollowed := true, recurses := true, apart := false, narrowed := true }
def DifferenceSolvesUptoSaid : Prop := differenceSolvesUptoRow.holds Try.pinned (OpenSpec.upto differenceSolvesSpec)

/-- 'coinagelaw33.DifferenceRefutes', WHERE WHAT IT READS IS OF BULK AT MOST 1048576: true; the input reads as it did. -/
def differenceRefutesUptoRow : OpenClaim := { program := "ytldfddgdcjaogaa", sum := "33a5c4f5ad99942761e92d7d1961eabaa9116bb5779be156fca77c84940dee7a", func := "coinage/coinagelaw33.DifferenceRefutes", spec := "differenceRefutes", unfollowed := true, recurses := true, apart := false, narrowed := true }
def DifferenceRefutesUptoSaid : Prop := differenceRefutesUptoRow.holds Try.pinned (OpenSpec.upto differenceRefutesSpec)

/-- 'coinagelaw33.DifferenceGreatest', WHERE WHAT IT READS IS OF BULK AT MOST 1048576: true; the input reads as it did. -/
def differenceGreatestUptoRow : OpenClaim := { program := "ytldfddgdcjaogaa", sum := "33a5c4f5ad99942761e92d7d1961eabaa9116bb5779be156fca77c84940dee7a", func := "coinage/coinagelaw33.DifferenceGreatest", spec := "differenceGreatest", unfollowed := true, recurses := true, apart := false, narrowed := true }
def DifferenceGreatestUptoSaid : Prop := differenceGreatestUptoRow.holds Try.pinned (OpenSpec.upto differenceGreatestSpec)

/-- 'coinagelaw33.DifferenceTriangles', WHERE WHAT IT READS IS OF BULK AT MOST 1048576: true; the input reads as it did. -/
def differenceTrianglesUptoRow : OpenClaim := { program := "ytldfddgdcjaogaa", sum := "33a5c4f5ad99942761e92d7d1961eabaa9116bb5779be156fca77c84940dee7a", func := "coinage/coinagelaw33.DifferenceTriangles", spec := "differenceTriangles", unfollowed := true, recurses := true, apart := false, narrowed := true }
def DifferenceTrianglesUptoSaid : Prop := differenceTrianglesUptoRow.holds Try.pinned (OpenSpec.upto differenceTrianglesSpec)

/-- 'coinagelaw33.DifferenceMore', WHERE WHAT IT READS IS OF BULK AT MOST 1048576: true; the input reads as it did. -/
def differenceMoreUptoRow : OpenClaim := { program := "ytldfddgdcjaogaa", sum := "33a5c4f5ad99942761e92d7d1961eabaa9116bb5779be156fca77c84940dee7a", func := "coinage/coinagelaw33.DifferenceMore", spec := "differenceMore", unfollowed := true, recurses := true, apart := false, narrowed := true }
def DifferenceMoreUptoSaid : Prop := differenceMoreUptoRow.holds Try.pinned (OpenSpec.upto differenceMoreSpec)

/-- 'coinagelaw33.DifferenceImplies', WHERE WHAT IT READS IS OF BULK AT MOST 1048576: true; the input reads as it did. -/
def differenceImpliesUptoRow : OpenClaim := { program := "ytldfddgdcjaogaa", sum := "33a5c4f5ad99942761e92d7d1961eabaa9116bb5779be156fca77c84940dee7a", func := "coinage/coinagelaw33.DifferenceImplies", spec := "differenceImplies", unfollowed := true, recurses := true, apart := false, narrowed := true }
def DifferenceImpliesUptoSaid : Prop := differenceImpliesUptoRow.holds Try.pinned (OpenSpec.upto differenceImpliesSpec)

/-- 'coinagelaw33.DifferenceHolds', WHERE WHAT IT READS IS OF BULK AT MOST 1048576: true; the input reads as it did. -/
def differenceHoldsUptoRow : OpenClaim := { program := "ytldfddgdcjaogaa", sum := "33a5c4f5ad99942761e92d7d1961eabaa9116bb5779be156fca77c84940dee7a", func := "coinage/coinagelaw33.DifferenceHolds", spec := "differenceHolds", unfollowed := true, recurses := true, apart := false, narrowed := true }
def DifferenceHoldsUptoSaid : Prop := differenceHoldsUptoRow.holds Try.pinned (OpenSpec.upto differenceHoldsSpec)

/-- 'coinagelaw33.DifferenceSplits', WHERE WHAT IT READS IS OF BULK AT MOST 1048576: true; the input reads as it did. -/
def differenceSplitsUptoRow : OpenClaim := { program := "ytldfddgdcjaogaa", sum := "33a5c4f5ad99942761e92d7d1961eabaa9116bb5779be156fca77c84940dee7a", func := "coinage/coinagelaw33.DifferenceSplits", spec := "differenceSplits", unfollowed := true, recurses := true, apart := false, narrowed := true }
def DifferenceSplitsUptoSaid : Prop := differenceSplitsUptoRow.holds Try.pinned (OpenSpec.upto differenceSplitsSpec)

end Rows
end Go.Proofs.Ytldfddgdcjaogaa
