/-
  No cell of these rows narrows 'for every input' (looked for: loops, veiled, ifaces, maps, wideKeys, modest, calm, conditions, laid).
  DERIVED. THE GIVEN ROWS OF THIS SEAT. 7 by the template 'for every input the law returns true; each argument reads behind the call as it read before'; 0 by the template 'total and deterministic' (their statements: YtigplgminjhgmaaTotals.lean).
  GIVEN WITH THE SEED: the statements are not yours to turn. If you find one false, say at which input.
  Laid BY PROGRAM, IN A SANDBOX (cutbox-rows.mjs): the forced cells as the released guide's own fill.sh prints them over the translation d0a4588a931cef6b… (all of the seat's roots in one cut). By AI agents, Wed Nov 11 2026. No macro, syntax, notation, axiom, sorry.
-/
import Derived.Test.YtigplgminjhgmaaChecked
import GoSem.Claim
import GoSem.ClaimJoined
import GoSem.ClaimMapViews
import Derived.JoinedTies
import Derived.KernelRfl
namespace Go.Proofs.Ytigplgminjhgmaa
/- THE CELL 'sum', in the pinned program and in every row, IS THE sha256 OF THE DUMP (.gsa) THAT YtigplgminjhgmaaProg.lean LOADS. Nothing in Lean hashes anything: it is a label: what it is worth is what the hold of that sum in a sandbox is worth. -/
noncomputable def Try.pinned : Pinned := { name := "ytigplgminjhgmaa", sum := "d0a4588a931cef6ba8e2f708b270d26e50508360b80b8d3919840ac99c887133", checked := Try.checked }
namespace Rows
def none {H : Type} : Left H := { results := [], args := [] }

/-- 'coinagelaw08.JournalAppends': WHATEVER THE INPUT: true; the input reads as it did. -/
def journalAppendsSpec : ChangeSpec := { name := "journalAppends", fn := fun _ => fun
  | [d] => { results := [.lit (.bool true)], args := [d] }
  | _ => none }
def journalAppendsRow : OpenClaim := { program := "ytigplgminjhgmaa", sum := "d0a4588a931cef6ba8e2f708b270d26e50508360b80b8d3919840ac99c887133", func := "coinage/coinagelaw08.JournalAppends", spec := "journalAppends", apart := false }
def JournalAppendsSaid : Prop := journalAppendsRow.holds Try.pinned (OpenSpec.ofChange journalAppendsSpec)

/-- ITS FALSE NEIGHBOUR: 'it returns false'. Refute it at one input. -/
def journalAppendsWrong : ChangeSpec := { name := "journalAppends", fn := fun _ => fun
  | [d] => { results := [.lit (.bool false)], args := [d] }
  | _ => none }
def JournalAppendsWrongFalsely : Prop := journalAppendsRow.holds Try.pinned (OpenSpec.ofChange journalAppendsWrong)

/-- 'coinagelaw08.JournalFills': WHATEVER THE INPUT: true; the input reads as it did. -/
def journalFillsSpec : ChangeSpec := { name := "journalFills", fn := fun _ => fun
  | [d1, d2, d3] => { results := [.lit (.bool true)], args := [d1, d2, d3] }
  | _ => none }
def journalFillsRow : OpenClaim := { program := "ytigplgminjhgmaa", sum := "d0a4588a931cef6ba8e2f708b270d26e50508360b80b8d3919840ac99c887133", func := "coinage/coinagelaw08.JournalFills", spec := "journalFills", apart := false }
def JournalFillsSaid : Prop := journalFillsRow.holds Try.pinned (OpenSpec.ofChange journalFillsSpec)

/-- ITS FALSE NEIGHBOUR: 'it returns false'. Refute it at one input. -/
def journalFillsWrong : ChangeSpec := { name := "journalFills", fn := fun _ => fun
  | [d1, d2, d3] => { results := [.lit (.bool false)], args := [d1, d2, d3] }
  | _ => none }
def JournalFillsWrongFalsely : Prop := journalFillsRow.holds Try.pinned (OpenSpec.ofChange journalFillsWrong)

/-- 'coinagelaw08.JournalOpens': WHATEVER THE INPUT: true; the input reads as it did. -/
def journalOpensSpec : ChangeSpec := { name := "journalOpens", fn := fun _ => fun
  | [d1, d2] => { results := [.lit (.bool true)], args := [d1, d2] }
  | _ => none }
def journalOpensRow : OpenClaim := { program := "ytigplgminjhgmaa", sum := "d0a4588a931cef6ba8e2f708b270d26e50508360b80b8d3919840ac99c887133", func := "coinage/coinagelaw08.JournalOpens", spec := "journalOpens", apart := false }
def JournalOpensSaid : Prop := journalOpensRow.holds Try.pinned (OpenSpec.ofChange journalOpensSpec)

/-- ITS FALSE NEIGHBOUR: 'it returns false'. Refute it at one input. -/
def journalOpensWrong : ChangeSpec := { name := "journalOpens", fn := fun _ => fun
  | [d1, d2] => { results := [.lit (.bool false)], args := [d1, d2] }
  | _ => none }
def JournalOpensWrongFalsely : Prop := journalOpensRow.holds Try.pinned (OpenSpec.ofChange journalOpensWrong)

/-- 'coinagelaw08.JournalReads': WHATEVER THE INPUT: true; the input reads as it did. -/
def journalReadsSpec : ChangeSpec := { name := "journalReads", fn := fun _ => fun
  | [d] => { results := [.lit (.bool true)], args := [d] }
  | _ => none }
def journalReadsRow : OpenClaim := { program := "ytigplgminjhgmaa", sum := "d0a4588a931cef6ba8e2f708b270d26e50508360b80b8d3919840ac99c887133", func := "coinage/coinagelaw08.JournalReads", spec := "journalReads", apart := false }
def JournalReadsSaid : Prop := journalReadsRow.holds Try.pinned (OpenSpec.ofChange journalReadsSpec)

/-- ITS FALSE NEIGHBOUR: 'it returns false'. Refute it at one input. -/
def journalReadsWrong : ChangeSpec := { name := "journalReads", fn := fun _ => fun
  | [d] => { results := [.lit (.bool false)], args := [d] }
  | _ => none }
def JournalReadsWrongFalsely : Prop := journalReadsRow.holds Try.pinned (OpenSpec.ofChange journalReadsWrong)

/-- 'coinagelaw08.JournalAgain': WHATEVER THE INPUT: true; the input reads as it did. -/
def journalAgainSpec : ChangeSpec := { name := "journalAgain", fn := fun _ => fun
  | [d1, d2] => { results := [.lit (.bool true)], args := [d1, d2] }
  | _ => none }
def journalAgainRow : OpenClaim := { program := "ytigplgminjhgmaa", sum := "d0a4588a931cef6ba8e2f708b270d26e50508360b80b8d3919840ac99c887133", func := "coinage/coinagelaw08.JournalAgain", spec := "journalAgain", apart := false }
def JournalAgainSaid : Prop := journalAgainRow.holds Try.pinned (OpenSpec.ofChange journalAgainSpec)

/-- ITS FALSE NEIGHBOUR: 'it returns false'. Refute it at one input. -/
def journalAgainWrong : ChangeSpec := { name := "journalAgain", fn := fun _ => fun
  | [d1, d2] => { results := [.lit (.bool false)], args := [d1, d2] }
  | _ => none }
def JournalAgainWrongFalsely : Prop := journalAgainRow.holds Try.pinned (OpenSpec.ofChange journalAgainWrong)

/-- 'coinagelaw08.JournalCuts': WHATEVER THE INPUT: true; the input reads as it did. -/
def journalCutsSpec : ChangeSpec := { name := "journalCuts", fn := fun _ => fun
  | [d1, d2] => { results := [.lit (.bool true)], args := [d1, d2] }
  | _ => none }
def journalCutsRow : OpenClaim := { program := "ytigplgminjhgmaa", sum := "d0a4588a931cef6ba8e2f708b270d26e50508360b80b8d3919840ac99c887133", func := "coinage/coinagelaw08.JournalCuts", spec := "journalCuts", apart := false }
def JournalCutsSaid : Prop := journalCutsRow.holds Try.pinned (OpenSpec.ofChange journalCutsSpec)

/-- ITS FALSE NEIGHBOUR: 'it returns false'. Refute it at one input. -/
def journalCutsWrong : ChangeSpec := { name := "journalCuts", fn := fun _ => fun
  | [d1, d2] => { results := [.lit (.bool false)], args := [d1, d2] }
  | _ => none }
def JournalCutsWrongFalsely : Prop := journalCutsRow.holds Try.pinned (OpenSpec.ofChange journalCutsWrong)

/-- 'coinagelaw08.JournalClones': WHATEVER THE INPUT: true; the input reads as it did. -/
def journalClonesSpec : ChangeSpec := { name := "journalClones", fn := fun _ => fun
  | [d1, d2, d3] => { results := [.lit (.bool true)], args := [d1, d2, d3] }
  | _ => none }
def journalClonesRow : OpenClaim := { program := "ytigplgminjhgmaa", sum := "d0a4588a931cef6ba8e2f708b270d26e50508360b80b8d3919840ac99c887133", func := "coinage/coinagelaw08.JournalClones", spec := "journalClones", apart := false }
def JournalClonesSaid : Prop := journalClonesRow.holds Try.pinned (OpenSpec.ofChange journalClonesSpec)

/-- ITS FALSE NEIGHBOUR: 'it returns false'. Refute it at one input. -/
def journalClonesWrong : ChangeSpec := { name := "journalClones", fn := fun _ => fun
  | [d1, d2, d3] => { results := [.lit (.bool false)], args := [d1, d2, d3] }
  | _ => none }
def JournalClonesWrongFalsely : Prop := journalClonesRow.holds Try.pinned (OpenSpec.ofChange journalClonesWrong)

/- THE SECOND FORM. 'bulk': how many values and letters a reading holds, each counted each time it is reached (what is shared counts as often as it is met; a slice's spare places count too). A statement '..UptoSaid' is the law's where the arguments, and the package variables that the reading takes, are together of bulk at most 1048576: NARROWER than '..Said'. Prove '..Said' where nothing that the law and all that it calls make is longer than what came in: it says more and counts as full. Else prove '..UptoSaid'. A law counts once. -/
mutual
def uptoBulk {H : Type} : DataW H → Nat
  | .lit (.string bytes) => bytes.length + 1
  | .lit _ => 1
  | .nil => 1
  | .ptr d => uptoBulk d + 1
  | .slice elems spare => uptoBulkAll elems + uptoBulkAll spare + 1
  | .agg parts => uptoBulkAll parts + 1
  | .iface _ d => uptoBulk d + 1
  | .map entries => uptoBulkEntries entries + 1
  | .held _ => 1
def uptoBulkAll {H : Type} : List (DataW H) → Nat
  | [] => 0
  | d :: r => uptoBulk d + uptoBulkAll r
def uptoBulkEntries {H : Type} : List (Lit × DataW H) → Nat
  | [] => 0
  | x :: r => uptoBulkEntry x + uptoBulkEntries r
def uptoBulkEntry {H : Type} : Lit × DataW H → Nat
  | (.string bytes, d) => bytes.length + uptoBulk d + 1
  | (_, d) => uptoBulk d + 1
 end
def uptoSmall : (H : Type) → List (DataW H) → Bool := fun _ ds => decide (uptoBulkAll ds ≤ 1048576)
def OpenSpec.upto (s : _root_.Go.ChangeSpec) : _root_.Go.OpenSpec := { _root_.Go.OpenSpec.ofChange s with cond := some uptoSmall }

/-- 'coinagelaw08.JournalAppends', WHERE WHAT IT READS IS OF BULK AT MOST 1048576: true; the input reads as it did. -/
def journalAppendsUptoRow : OpenClaim := { program := "ytigplgminjhgmaa", sum := "d0a4588a931cef6ba8e2f708b270d26e50508360b80b8d3919840ac99c887133", func := "coinage/coinagelaw08.JournalAppends", spec := "journalAppends", apart := false, narrowed := true }
def JournalAppendsUptoSaid : Prop := journalAppendsUptoRow.holds Try.pinned (OpenSpec.upto journalAppendsSpec)

/-- 'coinagelaw08.JournalFills', WHERE WHAT IT READS IS OF BULK AT MOST 1048576: true; the input reads as it did. -/
def journalFillsUptoRow : OpenClaim := { program := "ytigplgminjhgmaa", sum := "d0a4588a931cef6ba8e2f708b270d26e50508360b80b8d3919840ac99c887133", func := "coinage/coinagelaw08.JournalFills", spec := "journalFills", apart := false, narrowed := true }
def JournalFillsUptoSaid : Prop := journalFillsUptoRow.holds Try.pinned (OpenSpec.upto journalFillsSpec)

/-- 'coinagelaw08.JournalOpens', WHERE WHAT IT READS IS OF BULK AT MOST 1048576: true; the input reads as it did. -/
def journalOpensUptoRow : OpenClaim := { program := "ytigplgminjhgmaa", sum := "d0a4588a931cef6ba8e2f708b270d26e50508360b80b8d3919840ac99c887133", func := "coinage/coinagelaw08.JournalOpens", spec := "journalOpens", apart := false, narrowed := true }
def JournalOpensUptoSaid : Prop := journalOpensUptoRow.holds Try.pinned (OpenSpec.upto journalOpensSpec)

/-- 'coinagelaw08.JournalReads', WHERE WHAT IT READS IS OF BULK AT MOST 1048576: true; the input reads as it did. -/
def journalReadsUptoRow : OpenClaim := { program := "ytigplgminjhgmaa", sum := "d0a4588a931cef6ba8e2f708b270d26e50508360b80b8d3919840ac99c887133", func := "coinage/coinagelaw08.JournalReads", spec := "journalReads", apart := false, narrowed := true }
def JournalReadsUptoSaid : Prop := journalReadsUptoRow.holds Try.pinned (OpenSpec.upto journalReadsSpec)

/-- 'coinagelaw08.JournalAgain', WHERE WHAT IT READS IS OF BULK AT MOST 1048576: true; the input reads as it did. -/
def journalAgainUptoRow : OpenClaim := { program := "ytigplgminjhgmaa", sum := "d0a4588a931cef6ba8e2f708b270d26e50508360b80b8d3919840ac99c887133", func := "coinage/coinagelaw08.JournalAgain", spec := "journalAgain", apart := false, narrowed := true }
def JournalAgainUptoSaid : Prop := journalAgainUptoRow.holds Try.pinned (OpenSpec.upto journalAgainSpec)

/-- 'coinagelaw08.JournalCuts', WHERE WHAT IT READS IS OF BULK AT MOST 1048576: true; the input reads as it did. -/
def journalCutsUptoRow : OpenClaim := { program := "ytigplgminjhgmaa", sum := "d0a4588a931cef6ba8e2f708b270d26e50508360b80b8d3919840ac99c887133", func := "coinage/coinagelaw08.JournalCuts", spec := "journalCuts", apart := false, narrowed := true }
def JournalCutsUptoSaid : Prop := journalCutsUptoRow.holds Try.pinned (OpenSpec.upto journalCutsSpec)

/-- 'coinagelaw08.JournalClones', WHERE WHAT IT READS IS OF BULK AT MOST 1048576: true; the input reads as it did. -/
def journalClonesUptoRow : OpenClaim := { program := "ytigplgminjhgmaa", sum := "d0a4588a931cef6ba8e2f708b270d26e50508360b80b8d3919840ac99c887133", func := "coinage/coinagelaw08.JournalClones", spec := "journalClones", apart := false, narrowed := true }
def JournalClonesUptoSaid : Prop := journalClonesUptoRow.holds Try.pinned (OpenSpec.upto journalClonesSpec)

end Rows
end Go.Proofs.Ytigplgminjhgmaa
