/-
  No cell of these rows narrows 'for every input' (looked for: loops, veiled, ifaces, maps, wideKeys, modest, calm, conditions, laid).
  DERIVED. THE GIVEN ROWS OF THIS SEAT. 8 by the template 'for every input the law returns true; each argument reads behind the call as it read before'; 0 by the template 'total and deterministic' (their statements: YtnmdjhmhdpiecaaTotals.lean).
  GIVEN WITH THE SEED: the statements are not yours to turn. If you find one false, say at which input.
  Laid BY PROGRAM, IN A SANDBOX (cutbox-rows.mjs): the forced cells as the released guide's own fill.sh prints them over the translation fb173d52a455faa5… (all of the seat's roots in one cut). By AI agents, Wed Nov 11 2026. No macro, syntax, notation, axiom, sorry.
-/
import Derived.Test.YtnmdjhmhdpiecaaChecked
import GoSem.Claim
import GoSem.ClaimJoined
import GoSem.ClaimMapViews
import Derived.JoinedTies
import Derived.KernelRfl
namespace Go.Proofs.Ytnmdjhmhdpiecaa
/- THE CELL 'sum', in the pinned program and in every row, IS THE sha256 OF THE DUMP (.gsa) THAT YtnmdjhmhdpiecaaProg.lean LOADS. Nothing in Lean hashes anything: it is a label: what it is worth is what the hold of that sum in a sandbox is worth. -/
noncomputable def Try.pinned : Pinned := { name := "ytnmdjhmhdpiecaa", sum := "fb173d52a455faa590c212157b4257f44566696c1e0dbbfe25ab248567a8896d", checked := Try.checked }
namespace Rows
def none {H : Type} : Left H := { results := [], args := [] }

/-- 'coinagelaw23.SequenceAll': WHATEVER THE INPUT: true; the input reads as it did. -/
def sequenceAllSpec : ChangeSpec := { name := "sequenceAll", fn := fun _ => fun
  | [d1, d2, d3] => { results := [.lit (.bool true)], args := [d1, d2, d3] }
  | _ => none }
def sequenceAllRow : OpenClaim := { program := "ytnmdjhmhdpiecaa", sum := "fb173d52a455faa590c212157b4257f44566696c1e0dbbfe25ab248567a8896d", func := "coinage/coinagelaw23.SequenceAll", spec := "sequenceAll", apart := false }
def SequenceAllSaid : Prop := sequenceAllRow.holds Try.pinned (OpenSpec.ofChange sequenceAllSpec)

/-- ITS FALSE NEIGHBOUR: 'it returns false'. Refute it at one input. -/
def sequenceAllWrong : ChangeSpec := { name := "sequenceAll", fn := fun _ => fun
  | [d1, d2, d3] => { results := [.lit (.bool false)], args := [d1, d2, d3] }
  | _ => none }
def SequenceAllWrongFalsely : Prop := sequenceAllRow.holds Try.pinned (OpenSpec.ofChange sequenceAllWrong)

/-- 'coinagelaw23.SequenceArcs': WHATEVER THE INPUT: true; the input reads as it did. -/
def sequenceArcsSpec : ChangeSpec := { name := "sequenceArcs", fn := fun _ => fun
  | [d1, d2, d3] => { results := [.lit (.bool true)], args := [d1, d2, d3] }
  | _ => none }
def sequenceArcsRow : OpenClaim := { program := "ytnmdjhmhdpiecaa", sum := "fb173d52a455faa590c212157b4257f44566696c1e0dbbfe25ab248567a8896d", func := "coinage/coinagelaw23.SequenceArcs", spec := "sequenceArcs", apart := false }
def SequenceArcsSaid : Prop := sequenceArcsRow.holds Try.pinned (OpenSpec.ofChange sequenceArcsSpec)

/-- ITS FALSE NEIGHBOUR: 'it returns false'. Refute it at one input. -/
def sequenceArcsWrong : ChangeSpec := { name := "sequenceArcs", fn := fun _ => fun
  | [d1, d2, d3] => { results := [.lit (.bool false)], args := [d1, d2, d3] }
  | _ => none }
def SequenceArcsWrongFalsely : Prop := sequenceArcsRow.holds Try.pinned (OpenSpec.ofChange sequenceArcsWrong)

/-- 'coinagelaw23.SequenceTurns': WHATEVER THE INPUT: true; the input reads as it did. -/
def sequenceTurnsSpec : ChangeSpec := { name := "sequenceTurns", fn := fun _ => fun
  | [d1, d2, d3] => { results := [.lit (.bool true)], args := [d1, d2, d3] }
  | _ => none }
def sequenceTurnsRow : OpenClaim := { program := "ytnmdjhmhdpiecaa", sum := "fb173d52a455faa590c212157b4257f44566696c1e0dbbfe25ab248567a8896d", func := "coinage/coinagelaw23.SequenceTurns", spec := "sequenceTurns", apart := false }
def SequenceTurnsSaid : Prop := sequenceTurnsRow.holds Try.pinned (OpenSpec.ofChange sequenceTurnsSpec)

/-- ITS FALSE NEIGHBOUR: 'it returns false'. Refute it at one input. -/
def sequenceTurnsWrong : ChangeSpec := { name := "sequenceTurns", fn := fun _ => fun
  | [d1, d2, d3] => { results := [.lit (.bool false)], args := [d1, d2, d3] }
  | _ => none }
def SequenceTurnsWrongFalsely : Prop := sequenceTurnsRow.holds Try.pinned (OpenSpec.ofChange sequenceTurnsWrong)

/-- 'coinagelaw23.SequenceCounts': WHATEVER THE INPUT: true; the input reads as it did. -/
def sequenceCountsSpec : ChangeSpec := { name := "sequenceCounts", fn := fun _ => fun
  | [d1, d2] => { results := [.lit (.bool true)], args := [d1, d2] }
  | _ => none }
def sequenceCountsRow : OpenClaim := { program := "ytnmdjhmhdpiecaa", sum := "fb173d52a455faa590c212157b4257f44566696c1e0dbbfe25ab248567a8896d", func := "coinage/coinagelaw23.SequenceCounts", spec := "sequenceCounts", apart := false }
def SequenceCountsSaid : Prop := sequenceCountsRow.holds Try.pinned (OpenSpec.ofChange sequenceCountsSpec)

/-- ITS FALSE NEIGHBOUR: 'it returns false'. Refute it at one input. -/
def sequenceCountsWrong : ChangeSpec := { name := "sequenceCounts", fn := fun _ => fun
  | [d1, d2] => { results := [.lit (.bool false)], args := [d1, d2] }
  | _ => none }
def SequenceCountsWrongFalsely : Prop := sequenceCountsRow.holds Try.pinned (OpenSpec.ofChange sequenceCountsWrong)

/-- 'coinagelaw23.SequenceSteps': WHATEVER THE INPUT: true; the input reads as it did. -/
def sequenceStepsSpec : ChangeSpec := { name := "sequenceSteps", fn := fun _ => fun
  | [d1, d2, d3] => { results := [.lit (.bool true)], args := [d1, d2, d3] }
  | _ => none }
def sequenceStepsRow : OpenClaim := { program := "ytnmdjhmhdpiecaa", sum := "fb173d52a455faa590c212157b4257f44566696c1e0dbbfe25ab248567a8896d", func := "coinage/coinagelaw23.SequenceSteps", spec := "sequenceSteps", apart := false }
def SequenceStepsSaid : Prop := sequenceStepsRow.holds Try.pinned (OpenSpec.ofChange sequenceStepsSpec)

/-- ITS FALSE NEIGHBOUR: 'it returns false'. Refute it at one input. -/
def sequenceStepsWrong : ChangeSpec := { name := "sequenceSteps", fn := fun _ => fun
  | [d1, d2, d3] => { results := [.lit (.bool false)], args := [d1, d2, d3] }
  | _ => none }
def SequenceStepsWrongFalsely : Prop := sequenceStepsRow.holds Try.pinned (OpenSpec.ofChange sequenceStepsWrong)

/-- 'coinagelaw23.SequenceInverse': WHATEVER THE INPUT: true; the input reads as it did. -/
def sequenceInverseSpec : ChangeSpec := { name := "sequenceInverse", fn := fun _ => fun
  | [d1, d2, d3] => { results := [.lit (.bool true)], args := [d1, d2, d3] }
  | _ => none }
def sequenceInverseRow : OpenClaim := { program := "ytnmdjhmhdpiecaa", sum := "fb173d52a455faa590c212157b4257f44566696c1e0dbbfe25ab248567a8896d", func := "coinage/coinagelaw23.SequenceInverse", spec := "sequenceInverse", apart := false }
def SequenceInverseSaid : Prop := sequenceInverseRow.holds Try.pinned (OpenSpec.ofChange sequenceInverseSpec)

/-- ITS FALSE NEIGHBOUR: 'it returns false'. Refute it at one input. -/
def sequenceInverseWrong : ChangeSpec := { name := "sequenceInverse", fn := fun _ => fun
  | [d1, d2, d3] => { results := [.lit (.bool false)], args := [d1, d2, d3] }
  | _ => none }
def SequenceInverseWrongFalsely : Prop := sequenceInverseRow.holds Try.pinned (OpenSpec.ofChange sequenceInverseWrong)

/-- 'coinagelaw23.SequenceSums': WHATEVER THE INPUT: true; the input reads as it did. -/
def sequenceSumsSpec : ChangeSpec := { name := "sequenceSums", fn := fun _ => fun
  | [d1, d2] => { results := [.lit (.bool true)], args := [d1, d2] }
  | _ => none }
def sequenceSumsRow : OpenClaim := { program := "ytnmdjhmhdpiecaa", sum := "fb173d52a455faa590c212157b4257f44566696c1e0dbbfe25ab248567a8896d", func := "coinage/coinagelaw23.SequenceSums", spec := "sequenceSums", apart := false }
def SequenceSumsSaid : Prop := sequenceSumsRow.holds Try.pinned (OpenSpec.ofChange sequenceSumsSpec)

/-- ITS FALSE NEIGHBOUR: 'it returns false'. Refute it at one input. -/
def sequenceSumsWrong : ChangeSpec := { name := "sequenceSums", fn := fun _ => fun
  | [d1, d2] => { results := [.lit (.bool false)], args := [d1, d2] }
  | _ => none }
def SequenceSumsWrongFalsely : Prop := sequenceSumsRow.holds Try.pinned (OpenSpec.ofChange sequenceSumsWrong)

/-- 'coinagelaw23.SequencePlaces': WHATEVER THE INPUT: true; the input reads as it did. -/
def sequencePlacesSpec : ChangeSpec := { name := "sequencePlaces", fn := fun _ => fun
  | [d1, d2, d3] => { results := [.lit (.bool true)], args := [d1, d2, d3] }
  | _ => none }
def sequencePlacesRow : OpenClaim := { program := "ytnmdjhmhdpiecaa", sum := "fb173d52a455faa590c212157b4257f44566696c1e0dbbfe25ab248567a8896d", func := "coinage/coinagelaw23.SequencePlaces", spec := "sequencePlaces", apart := false }
def SequencePlacesSaid : Prop := sequencePlacesRow.holds Try.pinned (OpenSpec.ofChange sequencePlacesSpec)

/-- ITS FALSE NEIGHBOUR: 'it returns false'. Refute it at one input. -/
def sequencePlacesWrong : ChangeSpec := { name := "sequencePlaces", fn := fun _ => fun
  | [d1, d2, d3] => { results := [.lit (.bool false)], args := [d1, d2, d3] }
  | _ => none }
def SequencePlacesWrongFalsely : Prop := sequencePlacesRow.holds Try.pinned (OpenSpec.ofChange sequencePlacesWrong)

/- THE SECOND FORM. 'bulk': how many values and letters a reading holds, each counted each time it is reached (what is shared counts as often as it is met; a slice's spare places count too). A statement '..UptoSaid' is the law's where the arguments, and the package variables that the reading takes, are together of bulk at most 1048576: NARROWER than '..Said'. Prove '..Said' where nothing that the law and all that it calls make is longer than what came in: it says more and counts as full. Else prove '..UptoSaid'. A law counts once. -/
mutual
def uptoBulk {H : Type} : DataW H → Nat
  | .lit (.string bytes) => bytes.length + 1
  | .lit _ => 1
  | .nil => 1
  | .ptr d => uptoBulk d + 1
  | .slice elems spare => uptoBulkAll elems + uptoBulkAll spare + 1
  | .agg parts => uptoBulkAll parts + 1
  | .iface _ d => uptoBulk d + 1
  | .map entries => uptoBulkEntries entries + 1
  | .held _ => 1
def uptoBulkAll {H : Type} : List (DataW H) → Nat
  | [] => 0
  | d :: r => uptoBulk d + uptoBulkAll r
def uptoBulkEntries {H : Type} : List (Lit × DataW H) → Nat
  | [] => 0
  | x :: r => uptoBulkEntry x + uptoBulkEntries r
def uptoBulkEntry {H : Type} : Lit × DataW H → Nat
  | (.string bytes, d) => bytes.length + uptoBulk d + 1
  | (_, d) => uptoBulk d + 1
 end
def uptoSmall : (H : Type) → List (DataW H) → Bool := fun _ ds => decide (uptoBulkAll ds ≤ 1048576)
def OpenSpec.upto (s : _root_.Go.ChangeSpec) : _root_.Go.OpenSpec := { _root_.Go.OpenSpec.ofChange s with cond := some uptoSmall }

/-- 'coinagelaw23.SequenceAll', WHERE WHAT IT READS IS OF BULK AT MOST 1048576: true; the input reads as it did. -/
def sequenceAllUptoRow : OpenClaim := { program := "ytnmdjhmhdpiecaa", sum := "fb173d52a455faa590c212157b4257f44566696c1e0dbbfe25ab248567a8896d", func := "coinage/coinagelaw23.SequenceAll", spec := "sequenceAll", apart := false, narrowed := true }
def SequenceAllUptoSaid : Prop := sequenceAllUptoRow.holds Try.pinned (OpenSpec.upto sequenceAllSpec)

/-- 'coinagelaw23.SequenceArcs', WHERE WHAT IT READS IS OF BULK AT MOST 1048576: true; the input reads as it did. -/
def sequenceArcsUptoRow : OpenClaim := { program := "ytnmdjhmhdpiecaa", sum := "fb173d52a455faa590c212157b4257f44566696c1e0dbbfe25ab248567a8896d", func := "coinage/coinagelaw23.SequenceArcs", spec := "sequenceArcs", apart := false, narrowed := true }
def SequenceArcsUptoSaid : Prop := sequenceArcsUptoRow.holds Try.pinned (OpenSpec.upto sequenceArcsSpec)

/-- 'coinagelaw23.SequenceTurns', WHERE WHAT IT READS IS OF BULK AT MOST 1048576: true; the input reads as it did. -/
def sequenceTurnsUptoRow : OpenClaim := { program := "ytnmdjhmhdpiecaa", sum := "fb173d52a455faa590c212157b4257f44566696c1e0dbbfe25ab248567a8896d", func := "coinage/coinagelaw23.SequenceTurns", spec := "sequenceTurns", apart := false, narrowed := true }
def SequenceTurnsUptoSaid : Prop := sequenceTurnsUptoRow.holds Try.pinned (OpenSpec.upto sequenceTurnsSpec)

/-- 'coinagelaw23.SequenceCounts', WHERE WHAT IT READS IS OF BULK AT MOST 1048576: true; the input reads as it did. -/
def sequenceCountsUptoRow : OpenClaim := { program := "ytnmdjhmhdpiecaa", sum := "fb173d52a455faa590c212157b4257f44566696c1e0dbbfe25ab248567a8896d", func := "coinage/coinagelaw23.SequenceCounts", spec := "sequenceCounts", apart := false, narrowed := true }
def SequenceCountsUptoSaid : Prop := sequenceCountsUptoRow.holds Try.pinned (OpenSpec.upto sequenceCountsSpec)

/-- 'coinagelaw23.SequenceSteps', WHERE WHAT IT READS IS OF BULK AT MOST 1048576: true; the input reads as it did. -/
def sequenceStepsUptoRow : OpenClaim := { program := "ytnmdjhmhdpiecaa", sum := "fb173d52a455faa590c212157b4257f44566696c1e0dbbfe25ab248567a8896d", func := "coinage/coinagelaw23.SequenceSteps", spec := "sequenceSteps", apart := false, narrowed := true }
def SequenceStepsUptoSaid : Prop := sequenceStepsUptoRow.holds Try.pinned (OpenSpec.upto sequenceStepsSpec)

/-- 'coinagelaw23.SequenceInverse', WHERE WHAT IT READS IS OF BULK AT MOST 1048576: true; the input reads as it did. -/
def sequenceInverseUptoRow : OpenClaim := { program := "ytnmdjhmhdpiecaa", sum := "fb173d52a455faa590c212157b4257f44566696c1e0dbbfe25ab248567a8896d", func := "coinage/coinagelaw23.SequenceInverse", spec := "sequenceInverse", apart := false, narrowed := true }
def SequenceInverseUptoSaid : Prop := sequenceInverseUptoRow.holds Try.pinned (OpenSpec.upto sequenceInverseSpec)

/-- 'coinagelaw23.SequenceSums', WHERE WHAT IT READS IS OF BULK AT MOST 1048576: true; the input reads as it did. -/
def sequenceSumsUptoRow : OpenClaim := { program := "ytnmdjhmhdpiecaa", sum := "fb173d52a455faa590c212157b4257f44566696c1e0dbbfe25ab248567a8896d", func := "coinage/coinagelaw23.SequenceSums", spec := "sequenceSums", apart := false, narrowed := true }
def SequenceSumsUptoSaid : Prop := sequenceSumsUptoRow.holds Try.pinned (OpenSpec.upto sequenceSumsSpec)

/-- 'coinagelaw23.SequencePlaces', WHERE WHAT IT READS IS OF BULK AT MOST 1048576: true; the input reads as it did. -/
def sequencePlacesUptoRow : OpenClaim := { program := "ytnmdjhmhdpiecaa", sum := "fb173d52a455faa590c212157b4257f44566696c1e0dbbfe25ab248567a8896d", func := "coinage/coinagelaw23.SequencePlaces", spec := "sequencePlaces", apart := false, narrowed := true }
def SequencePlacesUptoSaid : Prop := sequencePlacesUptoRow.holds Try.pinned (OpenSpec.upto sequencePlacesSpec)

end Rows
end Go.Proofs.Ytnmdjhmhdpiecaa
