/-
  No cell of these rows narrows 'for every input' (looked for: loops, veiled, ifaces, maps, wideKeys, modest, calm, conditions, laid).
  DERIVED. THE GIVEN ROWS OF THIS SEAT. 7 by the template 'for every input the law returns true; each argument reads behind the call as it read before'; 0 by the template 'total and deterministic' (their statements: YtohmmlgnjiolfaaTotals.lean).
  GIVEN WITH THE SEED: the statements are not yours to turn. If you find one false, say at which input.
  Laid BY PROGRAM, IN A SANDBOX (cutbox-rows.mjs): the forced cells as the released guide's own fill.sh prints them over the translation 2f4b84b9fc1ee43b… (all of the seat's roots in one cut). By AI agents, Wed Nov 11 2026. No macro, syntax, notation, axiom, sorry.
-/
import Derived.Test.YtohmmlgnjiolfaaChecked
import GoSem.Claim
import GoSem.ClaimJoined
import GoSem.ClaimMapViews
import Derived.JoinedTies
import Derived.KernelRfl
namespace Go.Proofs.Ytohmmlgnjiolfaa
/- THE CELL 'sum', in the pinned program and in every row, IS THE sha256 OF THE DUMP (.gsa) THAT YtohmmlgnjiolfaaProg.lean LOADS. Nothing in Lean hashes anything: it is a label: what it is worth is what the hold of that sum in a sandbox is worth. -/
noncomputable def Try.pinned : Pinned := { name := "ytohmmlgnjiolfaa", sum := "2f4b84b9fc1ee43bea2c732c756736caf469c3b23e7129f975f1040485f84e61", checked := Try.checked }
namespace Rows
def none {H : Type} : Left H := { results := [], args := [] }

/-- 'coinagelaw07.FrameSums': WHATEVER THE INPUT: true; the input reads as it did. -/
def frameSumsSpec : ChangeSpec := { name := "frameSums", fn := fun _ => fun
  | [d] => { results := [.lit (.bool true)], args := [d] }
  | _ => none }
def frameSumsRow : OpenClaim := { program := "ytohmmlgnjiolfaa", sum := "2f4b84b9fc1ee43bea2c732c756736caf469c3b23e7129f975f1040485f84e61", func := "coinage/coinagelaw07.FrameSums", spec := "frameSums", apart := false }
def FrameSumsSaid : Prop := frameSumsRow.holds Try.pinned (OpenSpec.ofChange frameSumsSpec)

/-- ITS FALSE NEIGHBOUR: 'it returns false'. Refute it at one input. -/
def frameSumsWrong : ChangeSpec := { name := "frameSums", fn := fun _ => fun
  | [d] => { results := [.lit (.bool false)], args := [d] }
  | _ => none }
def FrameSumsWrongFalsely : Prop := frameSumsRow.holds Try.pinned (OpenSpec.ofChange frameSumsWrong)

/-- 'coinagelaw07.FrameSeals': WHATEVER THE INPUT: true; the input reads as it did. -/
def frameSealsSpec : ChangeSpec := { name := "frameSeals", fn := fun _ => fun
  | [d1, d2, d3] => { results := [.lit (.bool true)], args := [d1, d2, d3] }
  | _ => none }
def frameSealsRow : OpenClaim := { program := "ytohmmlgnjiolfaa", sum := "2f4b84b9fc1ee43bea2c732c756736caf469c3b23e7129f975f1040485f84e61", func := "coinage/coinagelaw07.FrameSeals", spec := "frameSeals", apart := false }
def FrameSealsSaid : Prop := frameSealsRow.holds Try.pinned (OpenSpec.ofChange frameSealsSpec)

/-- ITS FALSE NEIGHBOUR: 'it returns false'. Refute it at one input. -/
def frameSealsWrong : ChangeSpec := { name := "frameSeals", fn := fun _ => fun
  | [d1, d2, d3] => { results := [.lit (.bool false)], args := [d1, d2, d3] }
  | _ => none }
def FrameSealsWrongFalsely : Prop := frameSealsRow.holds Try.pinned (OpenSpec.ofChange frameSealsWrong)

/-- 'coinagelaw07.FrameOpens': WHATEVER THE INPUT: true; the input reads as it did. -/
def frameOpensSpec : ChangeSpec := { name := "frameOpens", fn := fun _ => fun
  | [d] => { results := [.lit (.bool true)], args := [d] }
  | _ => none }
def frameOpensRow : OpenClaim := { program := "ytohmmlgnjiolfaa", sum := "2f4b84b9fc1ee43bea2c732c756736caf469c3b23e7129f975f1040485f84e61", func := "coinage/coinagelaw07.FrameOpens", spec := "frameOpens", apart := false }
def FrameOpensSaid : Prop := frameOpensRow.holds Try.pinned (OpenSpec.ofChange frameOpensSpec)

/-- ITS FALSE NEIGHBOUR: 'it returns false'. Refute it at one input. -/
def frameOpensWrong : ChangeSpec := { name := "frameOpens", fn := fun _ => fun
  | [d] => { results := [.lit (.bool false)], args := [d] }
  | _ => none }
def FrameOpensWrongFalsely : Prop := frameOpensRow.holds Try.pinned (OpenSpec.ofChange frameOpensWrong)

/-- 'coinagelaw07.FrameTorn': WHATEVER THE INPUT: true; the input reads as it did. -/
def frameTornSpec : ChangeSpec := { name := "frameTorn", fn := fun _ => fun
  | [d1, d2, d3] => { results := [.lit (.bool true)], args := [d1, d2, d3] }
  | _ => none }
def frameTornRow : OpenClaim := { program := "ytohmmlgnjiolfaa", sum := "2f4b84b9fc1ee43bea2c732c756736caf469c3b23e7129f975f1040485f84e61", func := "coinage/coinagelaw07.FrameTorn", spec := "frameTorn", apart := false }
def FrameTornSaid : Prop := frameTornRow.holds Try.pinned (OpenSpec.ofChange frameTornSpec)

/-- ITS FALSE NEIGHBOUR: 'it returns false'. Refute it at one input. -/
def frameTornWrong : ChangeSpec := { name := "frameTorn", fn := fun _ => fun
  | [d1, d2, d3] => { results := [.lit (.bool false)], args := [d1, d2, d3] }
  | _ => none }
def FrameTornWrongFalsely : Prop := frameTornRow.holds Try.pinned (OpenSpec.ofChange frameTornWrong)

/-- 'coinagelaw07.FrameChanges': WHATEVER THE INPUT: true; the input reads as it did. -/
def frameChangesSpec : ChangeSpec := { name := "frameChanges", fn := fun _ => fun
  | [d1, d2, d3] => { results := [.lit (.bool true)], args := [d1, d2, d3] }
  | _ => none }
def frameChangesRow : OpenClaim := { program := "ytohmmlgnjiolfaa", sum := "2f4b84b9fc1ee43bea2c732c756736caf469c3b23e7129f975f1040485f84e61", func := "coinage/coinagelaw07.FrameChanges", spec := "frameChanges", apart := false }
def FrameChangesSaid : Prop := frameChangesRow.holds Try.pinned (OpenSpec.ofChange frameChangesSpec)

/-- ITS FALSE NEIGHBOUR: 'it returns false'. Refute it at one input. -/
def frameChangesWrong : ChangeSpec := { name := "frameChanges", fn := fun _ => fun
  | [d1, d2, d3] => { results := [.lit (.bool false)], args := [d1, d2, d3] }
  | _ => none }
def FrameChangesWrongFalsely : Prop := frameChangesRow.holds Try.pinned (OpenSpec.ofChange frameChangesWrong)

/-- 'coinagelaw07.FrameIntegers': WHATEVER THE INPUT: true; the input reads as it did. -/
def frameIntegersSpec : ChangeSpec := { name := "frameIntegers", fn := fun _ => fun
  | [d1, d2] => { results := [.lit (.bool true)], args := [d1, d2] }
  | _ => none }
def frameIntegersRow : OpenClaim := { program := "ytohmmlgnjiolfaa", sum := "2f4b84b9fc1ee43bea2c732c756736caf469c3b23e7129f975f1040485f84e61", func := "coinage/coinagelaw07.FrameIntegers", spec := "frameIntegers", apart := false }
def FrameIntegersSaid : Prop := frameIntegersRow.holds Try.pinned (OpenSpec.ofChange frameIntegersSpec)

/-- ITS FALSE NEIGHBOUR: 'it returns false'. Refute it at one input. -/
def frameIntegersWrong : ChangeSpec := { name := "frameIntegers", fn := fun _ => fun
  | [d1, d2] => { results := [.lit (.bool false)], args := [d1, d2] }
  | _ => none }
def FrameIntegersWrongFalsely : Prop := frameIntegersRow.holds Try.pinned (OpenSpec.ofChange frameIntegersWrong)

/-- 'coinagelaw07.FrameStrings': WHATEVER THE INPUT: true; the input reads as it did. -/
def frameStringsSpec : ChangeSpec := { name := "frameStrings", fn := fun _ => fun
  | [d1, d2] => { results := [.lit (.bool true)], args := [d1, d2] }
  | _ => none }
def frameStringsRow : OpenClaim := { program := "ytohmmlgnjiolfaa", sum := "2f4b84b9fc1ee43bea2c732c756736caf469c3b23e7129f975f1040485f84e61", func := "coinage/coinagelaw07.FrameStrings", spec := "frameStrings", apart := false }
def FrameStringsSaid : Prop := frameStringsRow.holds Try.pinned (OpenSpec.ofChange frameStringsSpec)

/-- ITS FALSE NEIGHBOUR: 'it returns false'. Refute it at one input. -/
def frameStringsWrong : ChangeSpec := { name := "frameStrings", fn := fun _ => fun
  | [d1, d2] => { results := [.lit (.bool false)], args := [d1, d2] }
  | _ => none }
def FrameStringsWrongFalsely : Prop := frameStringsRow.holds Try.pinned (OpenSpec.ofChange frameStringsWrong)

/- THE SECOND FORM. 'bulk': how many values and letters a reading holds, each counted each time it is reached (what is shared counts as often as it is met; a slice's spare places count too). A statement '..UptoSaid' is the law's where the arguments, and the package variables that the reading takes, are together of bulk at most 1048576: NARROWER than '..Said'. Prove '..Said' where nothing that the law and all that it calls make is longer than what came in: it says more and counts as full. Else prove '..UptoSaid'. A law counts once. -/
mutual
def uptoBulk {H : Type} : DataW H → Nat
  | .lit (.string bytes) => bytes.length + 1
  | .lit _ => 1
  | .nil => 1
  | .ptr d => uptoBulk d + 1
  | .slice elems spare => uptoBulkAll elems + uptoBulkAll spare + 1
  | .agg parts => uptoBulkAll parts + 1
  | .iface _ d => uptoBulk d + 1
  | .map entries => uptoBulkEntries entries + 1
  | .held _ => 1
def uptoBulkAll {H : Type} : List (DataW H) → Nat
  | [] => 0
  | d :: r => uptoBulk d + uptoBulkAll r
def uptoBulkEntries {H : Type} : List (Lit × DataW H) → Nat
  | [] => 0
  | x :: r => uptoBulkEntry x + uptoBulkEntries r
def uptoBulkEntry {H : Type} : Lit × DataW H → Nat
  | (.string bytes, d) => bytes.length + uptoBulk d + 1
  | (_, d) => uptoBulk d + 1
 end
def uptoSmall : (H : Type) → List (DataW H) → Bool := fun _ ds => decide (uptoBulkAll ds ≤ 1048576)
def OpenSpec.upto (s : _root_.Go.ChangeSpec) : _root_.Go.OpenSpec := { _root_.Go.OpenSpec.ofChange s with cond := some uptoSmall }

/-- 'coinagelaw07.FrameSums', WHERE WHAT IT READS IS OF BULK AT MOST 1048576: true; the input reads as it did. -/
def frameSumsUptoRow : OpenClaim := { program := "ytohmmlgnjiolfaa", sum := "2f4b84b9fc1ee43bea2c732c756736caf469c3b23e7129f975f1040485f84e61", func := "coinage/coinagelaw07.FrameSums", spec := "frameSums", apart := false, narrowed := true }
def FrameSumsUptoSaid : Prop := frameSumsUptoRow.holds Try.pinned (OpenSpec.upto frameSumsSpec)

/-- 'coinagelaw07.FrameSeals', WHERE WHAT IT READS IS OF BULK AT MOST 1048576: true; the input reads as it did. -/
def frameSealsUptoRow : OpenClaim := { program := "ytohmmlgnjiolfaa", sum := "2f4b84b9fc1ee43bea2c732c756736caf469c3b23e7129f975f1040485f84e61", func := "coinage/coinagelaw07.FrameSeals", spec := "frameSeals", apart := false, narrowed := true }
def FrameSealsUptoSaid : Prop := frameSealsUptoRow.holds Try.pinned (OpenSpec.upto frameSealsSpec)

/-- 'coinagelaw07.FrameOpens', WHERE WHAT IT READS IS OF BULK AT MOST 1048576: true; the input reads as it did. -/
def frameOpensUptoRow : OpenClaim := { program := "ytohmmlgnjiolfaa", sum := "2f4b84b9fc1ee43bea2c732c756736caf469c3b23e7129f975f1040485f84e61", func := "coinage/coinagelaw07.FrameOpens", spec := "frameOpens", apart := false, narrowed := true }
def FrameOpensUptoSaid : Prop := frameOpensUptoRow.holds Try.pinned (OpenSpec.upto frameOpensSpec)

/-- 'coinagelaw07.FrameTorn', WHERE WHAT IT READS IS OF BULK AT MOST 1048576: true; the input reads as it did. -/
def frameTornUptoRow : OpenClaim := { program := "ytohmmlgnjiolfaa", sum := "2f4b84b9fc1ee43bea2c732c756736caf469c3b23e7129f975f1040485f84e61", func := "coinage/coinagelaw07.FrameTorn", spec := "frameTorn", apart := false, narrowed := true }
def FrameTornUptoSaid : Prop := frameTornUptoRow.holds Try.pinned (OpenSpec.upto frameTornSpec)

/-- 'coinagelaw07.FrameChanges', WHERE WHAT IT READS IS OF BULK AT MOST 1048576: true; the input reads as it did. -/
def frameChangesUptoRow : OpenClaim := { program := "ytohmmlgnjiolfaa", sum := "2f4b84b9fc1ee43bea2c732c756736caf469c3b23e7129f975f1040485f84e61", func := "coinage/coinagelaw07.FrameChanges", spec := "frameChanges", apart := false, narrowed := true }
def FrameChangesUptoSaid : Prop := frameChangesUptoRow.holds Try.pinned (OpenSpec.upto frameChangesSpec)

/-- 'coinagelaw07.FrameIntegers', WHERE WHAT IT READS IS OF BULK AT MOST 1048576: true; the input reads as it did. -/
def frameIntegersUptoRow : OpenClaim := { program := "ytohmmlgnjiolfaa", sum := "2f4b84b9fc1ee43bea2c732c756736caf469c3b23e7129f975f1040485f84e61", func := "coinage/coinagelaw07.FrameIntegers", spec := "frameIntegers", apart := false, narrowed := true }
def FrameIntegersUptoSaid : Prop := frameIntegersUptoRow.holds Try.pinned (OpenSpec.upto frameIntegersSpec)

/-- 'coinagelaw07.FrameStrings', WHERE WHAT IT READS IS OF BULK AT MOST 1048576: true; the input reads as it did. -/
def frameStringsUptoRow : OpenClaim := { program := "ytohmmlgnjiolfaa", sum := "2f4b84b9fc1ee43bea2c732c756736caf469c3b23e7129f975f1040485f84e61", func := "coinage/coinagelaw07.FrameStrings", spec := "frameStrings", apart := false, narrowed := true }
def FrameStringsUptoSaid : Prop := frameStringsUptoRow.holds Try.pinned (OpenSpec.upto frameStringsSpec)

end Rows
end Go.Proofs.Ytohmmlgnjiolfaa
