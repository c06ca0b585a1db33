/-
  No cell of these rows narrows 'for every input' (looked for: loops, veiled, ifaces, maps, wideKeys, modest, calm, conditions, laid).
  DERIVED. THE GIVEN ROWS OF THIS SEAT. 8 by the template 'for every input the law returns true; each argument reads behind the call as it read before'; 0 by the template 'total and deterministic' (their statements: YtidjaglfjinngaaTotals.lean).
  GIVEN WITH THE SEED: the statements are not yours to turn. If you find one false, say at which input.
  Laid BY PROGRAM, IN A SANDBOX (cutbox-rows.mjs): the forced cells as the released guide's own fill.sh prints them over the translation 8b1d2e5f4ae248ff… (all of the seat's roots in one cut). By AI agents, Wed Nov 11 2026. No macro, syntax, notation, axiom, sorry.
-/
import Derived.Test.YtidjaglfjinngaaChecked
import GoSem.Claim
import GoSem.ClaimJoined
import GoSem.ClaimMapViews
import Derived.JoinedTies
import Derived.KernelRfl
namespace Go.Proofs.Ytidjaglfjinngaa
/- THE CELL 'sum', in the pinned program and in every row, IS THE sha256 OF THE DUMP (.gsa) THAT YtidjaglfjinngaaProg.lean LOADS. Nothing in Lean hashes anything: it is a label: what it is worth is what the hold of that sum in a sandbox is worth. -/
noncomputable def Try.pinned : Pinned := { name := "ytidjaglfjinngaa", sum := "8b1d2e5f4ae248ff73f72b4d7eeee3499c6f0f4a9aa0dbe2f5bffe84d691d96c", checked := Try.checked }
namespace Rows
def none {H : Type} : Left H := { results := [], args := [] }

/-- 'coinagelaw31.AnvilRounds': WHATEVER THE INPUT: true; the input reads as it did. -/
def anvilRoundsSpec : ChangeSpec := { name := "anvilRounds", fn := fun _ => fun
  | [d1, d2, d3] => { results := [.lit (.bool true)], args := [d1, d2, d3] }
  | _ => none }
def anvilRoundsRow : OpenClaim := { program := "ytidjaglfjinngaa", sum := "8b1d2e5f4ae248ff73f72b4d7eeee3499c6f0f4a9aa0dbe2f5bffe84d691d96c", func := "coinage/coinagelaw31.AnvilRounds", spec := "anvilRounds", unfollowed := true, recurses := true, apart := false }
def AnvilRoundsSaid : Prop := anvilRoundsRow.holds Try.pinned (OpenSpec.ofChange anvilRoundsSpec)

/-- ITS FALSE NEIGHBOUR: 'it returns false'. Refute it at one input. -/
def anvilRoundsWrong : ChangeSpec := { name := "anvilRounds", fn := fun _ => fun
  | [d1, d2, d3] => { results := [.lit (.bool false)], args := [d1, d2, d3] }
  | _ => none }
def AnvilRoundsWrongFalsely : Prop := anvilRoundsRow.holds Try.pinned (OpenSpec.ofChange anvilRoundsWrong)

/-- 'coinagelaw31.AnvilStreams': WHATEVER THE INPUT: true; the input reads as it did. -/
def anvilStreamsSpec : ChangeSpec := { name := "anvilStreams", fn := fun _ => fun
  | [d1, d2, d3] => { results := [.lit (.bool true)], args := [d1, d2, d3] }
  | _ => none }
def anvilStreamsRow : OpenClaim := { program := "ytidjaglfjinngaa", sum := "8b1d2e5f4ae248ff73f72b4d7eeee3499c6f0f4a9aa0dbe2f5bffe84d691d96c", func := "coinage/coinagelaw31.AnvilStreams", spec := "anvilStreams", unfollowed := true, recurses := true, apart := false }
def AnvilStreamsSaid : Prop := anvilStreamsRow.holds Try.pinned (OpenSpec.ofChange anvilStreamsSpec)

/-- ITS FALSE NEIGHBOUR: 'it returns false'. Refute it at one input. -/
def anvilStreamsWrong : ChangeSpec := { name := "anvilStreams", fn := fun _ => fun
  | [d1, d2, d3] => { results := [.lit (.bool false)], args := [d1, d2, d3] }
  | _ => none }
def AnvilStreamsWrongFalsely : Prop := anvilStreamsRow.holds Try.pinned (OpenSpec.ofChange anvilStreamsWrong)

/-- 'coinagelaw31.AnvilArcs': WHATEVER THE INPUT: true; the input reads as it did. -/
def anvilArcsSpec : ChangeSpec := { name := "anvilArcs", fn := fun _ => fun
  | [d1, d2, d3] => { results := [.lit (.bool true)], args := [d1, d2, d3] }
  | _ => none }
def anvilArcsRow : OpenClaim := { program := "ytidjaglfjinngaa", sum := "8b1d2e5f4ae248ff73f72b4d7eeee3499c6f0f4a9aa0dbe2f5bffe84d691d96c", func := "coinage/coinagelaw31.AnvilArcs", spec := "anvilArcs", unfollowed := true, recurses := true, apart := false }
def AnvilArcsSaid : Prop := anvilArcsRow.holds Try.pinned (OpenSpec.ofChange anvilArcsSpec)

/-- ITS FALSE NEIGHBOUR: 'it returns false'. Refute it at one input. -/
def anvilArcsWrong : ChangeSpec := { name := "anvilArcs", fn := fun _ => fun
  | [d1, d2, d3] => { results := [.lit (.bool false)], args := [d1, d2, d3] }
  | _ => none }
def AnvilArcsWrongFalsely : Prop := anvilArcsRow.holds Try.pinned (OpenSpec.ofChange anvilArcsWrong)

/-- 'coinagelaw31.AnvilTurns': WHATEVER THE INPUT: true; the input reads as it did. -/
def anvilTurnsSpec : ChangeSpec := { name := "anvilTurns", fn := fun _ => fun
  | [d1, d2, d3] => { results := [.lit (.bool true)], args := [d1, d2, d3] }
  | _ => none }
def anvilTurnsRow : OpenClaim := { program := "ytidjaglfjinngaa", sum := "8b1d2e5f4ae248ff73f72b4d7eeee3499c6f0f4a9aa0dbe2f5bffe84d691d96c", func := "coinage/coinagelaw31.AnvilTurns", spec := "anvilTurns", unfollowed := true, recurses := true, apart := false }
def AnvilTurnsSaid : Prop := anvilTurnsRow.holds Try.pinned (OpenSpec.ofChange anvilTurnsSpec)

/-- ITS FALSE NEIGHBOUR: 'it returns false'. Refute it at one input. -/
def anvilTurnsWrong : ChangeSpec := { name := "anvilTurns", fn := fun _ => fun
  | [d1, d2, d3] => { results := [.lit (.bool false)], args := [d1, d2, d3] }
  | _ => none }
def AnvilTurnsWrongFalsely : Prop := anvilTurnsRow.holds Try.pinned (OpenSpec.ofChange anvilTurnsWrong)

/-- 'coinagelaw31.AnvilMirsky': WHATEVER THE INPUT: true; the input reads as it did. -/
def anvilMirskySpec : ChangeSpec := { name := "anvilMirsky", fn := fun _ => fun
  | [d1, d2] => { results := [.lit (.bool true)], args := [d1, d2] }
  | _ => none }
def anvilMirskyRow : OpenClaim := { program := "ytidjaglfjinngaa", sum := "8b1d2e5f4ae248ff73f72b4d7eeee3499c6f0f4a9aa0dbe2f5bffe84d691d96c", func := "coinage/coinagelaw31.AnvilMirsky", spec := "anvilMirsky", unfollowed := true, recurses := true, apart := false }
def AnvilMirskySaid : Prop := anvilMirskyRow.holds Try.pinned (OpenSpec.ofChange anvilMirskySpec)

/-- ITS FALSE NEIGHBOUR: 'it returns false'. Refute it at one input. -/
def anvilMirskyWrong : ChangeSpec := { name := "anvilMirsky", fn := fun _ => fun
  | [d1, d2] => { results := [.lit (.bool false)], args := [d1, d2] }
  | _ => none }
def AnvilMirskyWrongFalsely : Prop := anvilMirskyRow.holds Try.pinned (OpenSpec.ofChange anvilMirskyWrong)

/-- 'coinagelaw31.AnvilWidths': WHATEVER THE INPUT: true; the input reads as it did. -/
def anvilWidthsSpec : ChangeSpec := { name := "anvilWidths", fn := fun _ => fun
  | [d1, d2] => { results := [.lit (.bool true)], args := [d1, d2] }
  | _ => none }
def anvilWidthsRow : OpenClaim := { program := "ytidjaglfjinngaa", sum := "8b1d2e5f4ae248ff73f72b4d7eeee3499c6f0f4a9aa0dbe2f5bffe84d691d96c", func := "coinage/coinagelaw31.AnvilWidths", spec := "anvilWidths", unfollowed := true, recurses := true, apart := false }
def AnvilWidthsSaid : Prop := anvilWidthsRow.holds Try.pinned (OpenSpec.ofChange anvilWidthsSpec)

/-- ITS FALSE NEIGHBOUR: 'it returns false'. Refute it at one input. -/
def anvilWidthsWrong : ChangeSpec := { name := "anvilWidths", fn := fun _ => fun
  | [d1, d2] => { results := [.lit (.bool false)], args := [d1, d2] }
  | _ => none }
def AnvilWidthsWrongFalsely : Prop := anvilWidthsRow.holds Try.pinned (OpenSpec.ofChange anvilWidthsWrong)

/-- 'coinagelaw31.AnvilChains': WHATEVER THE INPUT: true; the input reads as it did. -/
def anvilChainsSpec : ChangeSpec := { name := "anvilChains", fn := fun _ => fun
  | [d1, d2, d3] => { results := [.lit (.bool true)], args := [d1, d2, d3] }
  | _ => none }
def anvilChainsRow : OpenClaim := { program := "ytidjaglfjinngaa", sum := "8b1d2e5f4ae248ff73f72b4d7eeee3499c6f0f4a9aa0dbe2f5bffe84d691d96c", func := "coinage/coinagelaw31.AnvilChains", spec := "anvilChains", unfollowed := true, recurses := true, apart := false }
def AnvilChainsSaid : Prop := anvilChainsRow.holds Try.pinned (OpenSpec.ofChange anvilChainsSpec)

/-- ITS FALSE NEIGHBOUR: 'it returns false'. Refute it at one input. -/
def anvilChainsWrong : ChangeSpec := { name := "anvilChains", fn := fun _ => fun
  | [d1, d2, d3] => { results := [.lit (.bool false)], args := [d1, d2, d3] }
  | _ => none }
def AnvilChainsWrongFalsely : Prop := anvilChainsRow.holds Try.pinned (OpenSpec.ofChange anvilChainsWrong)

/-- 'coinagelaw31.AnvilDilworth': WHATEVER THE INPUT: true; the input reads as it did. -/
def anvilDilworthSpec : ChangeSpec := { name := "anvilDilworth", fn := fun _ => fun
  | [d1, d2, d3] => { results := [.lit (.bool true)], args := [d1, d2, d3] }
  | _ => none }
def anvilDilworthRow : OpenClaim := { program := "ytidjaglfjinngaa", sum := "8b1d2e5f4ae248ff73f72b4d7eeee3499c6f0f4a9aa0dbe2f5bffe84d691d96c", func := "coinage/coinagelaw31.AnvilDilworth", spec := "anvilDilworth", unfollowed := true, recurses := true, apart := false }
def AnvilDilworthSaid : Prop := anvilDilworthRow.holds Try.pinned (OpenSpec.ofChange anvilDilworthSpec)

/-- ITS FALSE NEIGHBOUR: 'it returns false'. Refute it at one input. -/
def anvilDilworthWrong : ChangeSpec := { name := "anvilDilworth", fn := fun _ => fun
  | [d1, d2, d3] => { results := [.lit (.bool false)], args := [d1, d2, d3] }
  | _ => none }
def AnvilDilworthWrongFalsely : Prop := anvilDilworthRow.holds Try.pinned (OpenSpec.ofChange anvilDilworthWrong)

/- THE SECOND FORM. 'bulk': how many values and letters a reading holds, each counted each time it is reached (what is shared counts as often as it is met; a slice's spare places count too). A statement '..UptoSaid' is the law's where the arguments, and the package variables that the reading takes, are together of bulk at most 1048576: NARROWER than '..Said'. Prove '..Said' where nothing that the law and all that it calls make is longer than what came in: it says more and counts as full. Else prove '..UptoSaid'. A law counts once. -/
mutual
def uptoBulk {H : Type} : DataW H → Nat
  | .lit (.string bytes) => bytes.length + 1
  | .lit _ => 1
  | .nil => 1
  | .ptr d => uptoBulk d + 1
  | .slice elems spare => uptoBulkAll elems + uptoBulkAll spare + 1
  | .agg parts => uptoBulkAll parts + 1
  | .iface _ d => uptoBulk d + 1
  | .map entries => uptoBulkEntries entries + 1
  | .held _ => 1
def uptoBulkAll {H : Type} : List (DataW H) → Nat
  | [] => 0
  | d :: r => uptoBulk d + uptoBulkAll r
def uptoBulkEntries {H : Type} : List (Lit × DataW H) → Nat
  | [] => 0
  | x :: r => uptoBulkEntry x + uptoBulkEntries r
def uptoBulkEntry {H : Type} : Lit × DataW H → Nat
  | (.string bytes, d) => bytes.length + uptoBulk d + 1
  | (_, d) => uptoBulk d + 1
 end
def uptoSmall : (H : Type) → List (DataW H) → Bool := fun _ ds => decide (uptoBulkAll ds ≤ 1048576)
def OpenSpec.upto (s : _root_.Go.ChangeSpec) : _root_.Go.OpenSpec := { _root_.Go.OpenSpec.ofChange s with cond := some uptoSmall }

/-- 'coinagelaw31.AnvilRounds', WHERE WHAT IT READS IS OF BULK AT MOST 1048576: true; the input reads as it did. -/
def anvilRoundsUptoRow : OpenClaim := { program := "ytidjaglfjinngaa", sum := "8b1d2e5f4ae248ff73f72b4d7eeee3499c6f0f4a9aa0dbe2f5bffe84d691d96c", func := "coinage/coinagelaw31.AnvilRounds", spec := "anvilRounds", unfollowed := true, recurses := true, apart := false, narrowed := true }
def AnvilRoundsUptoSaid : Prop := anvilRoundsUptoRow.holds Try.pinned (OpenSpec.upto anvilRoundsSpec)

/-- 'coinagelaw31.AnvilStreams', WHERE WHAT IT READS IS OF BULK AT MOST 1048576: true; the input reads as it did. -/
def anvilStreamsUptoRow : OpenClaim := { program := "ytidjaglfjinngaa", sum := "8b1d2e5f4ae248ff73f72b4d7eeee3499c6f0f4a9aa0dbe2f5bffe84d691d96c", func := "coinage/coinagelaw31.AnvilStreams", spec := "anvilStreams", unfollowed := true, recurses := true, apart := false, narrowed := true }
def AnvilStreamsUptoSaid : Prop := anvilStreamsUptoRow.holds Try.pinned (OpenSpec.upto anvilStreamsSpec)

/-- 'coinagelaw31.AnvilArcs', WHERE WHAT IT READS IS OF BULK AT MOST 1048576: true; the input reads as it did. -/
def anvilArcsUptoRow : OpenClaim := { program := "ytidjaglfjinngaa", sum := "8b1d2e5f4ae248ff73f72b4d7eeee3499c6f0f4a9aa0dbe2f5bffe84d691d96c", func := "coinage/coinagelaw31.AnvilArcs", spec := "anvilArcs", unfollowed := true, recurses := true, apart := false, narrowed := true }
def AnvilArcsUptoSaid : Prop := anvilArcsUptoRow.holds Try.pinned (OpenSpec.upto anvilArcsSpec)

/-- 'coinagelaw31.AnvilTurns', WHERE WHAT IT READS IS OF BULK AT MOST 1048576: true; the input reads as it did. -/
def anvilTurnsUptoRow : OpenClaim := { program := "ytidjaglfjinngaa", sum := "8b1d2e5f4ae248ff73f72b4d7eeee3499c6f0f4a9aa0dbe2f5bffe84d691d96c", func := "coinage/coinagelaw31.AnvilTurns", spec := "anvilTurns", unfollowed := true, recurses := true, apart := false, narrowed := true }
def AnvilTurnsUptoSaid : Prop := anvilTurnsUptoRow.holds Try.pinned (OpenSpec.upto anvilTurnsSpec)

/-- 'coinagelaw31.AnvilMirsky', WHERE WHAT IT READS IS OF BULK AT MOST 1048576: true; the input reads as it did. -/
def anvilMirskyUptoRow : OpenClaim := { program := "ytidjaglfjinngaa", sum := "8b1d2e5f4ae248ff73f72b4d7eeee3499c6f0f4a9aa0dbe2f5bffe84d691d96c", func := "coinage/coinagelaw31.AnvilMirsky", spec := "anvilMirsky", unfollowed := true, recurses := true, apart := false, narrowed := true }
def AnvilMirskyUptoSaid : Prop := anvilMirskyUptoRow.holds Try.pinned (OpenSpec.upto anvilMirskySpec)

/-- 'coinagelaw31.AnvilWidths', WHERE WHAT IT READS IS OF BULK AT MOST 1048576: true; the input reads as it did. -/
def anvilWidthsUptoRow : OpenClaim := { program := "ytidjaglfjinngaa", sum := "8b1d2e5f4ae248ff73f72b4d7eeee3499c6f0f4a9aa0dbe2f5bffe84d691d96c", func := "coinage/coinagelaw31.AnvilWidths", spec := "anvilWidths", unfollowed := true, recurses := true, apart := false, narrowed := true }
def AnvilWidthsUptoSaid : Prop := anvilWidthsUptoRow.holds Try.pinned (OpenSpec.upto anvilWidthsSpec)

/-- 'coinagelaw31.AnvilChains', WHERE WHAT IT READS IS OF BULK AT MOST 1048576: true; the input reads as it did. -/
def anvilChainsUptoRow : OpenClaim := { program := "ytidjaglfjinngaa", sum := "8b1d2e5f4ae248ff73f72b4d7eeee3499c6f0f4a9aa0dbe2f5bffe84d691d96c", func := "coinage/coinagelaw31.AnvilChains", spec := "anvilChains", unfollowed := true, recurses := true, apart := false, narrowed := true }
def AnvilChainsUptoSaid : Prop := anvilChainsUptoRow.holds Try.pinned (OpenSpec.upto anvilChainsSpec)

/-- 'coinagelaw31.AnvilDilworth', WHERE WHAT IT READS IS OF BULK AT MOST 1048576: true; the input reads as it did. -/
def anvilDilworthUptoRow : OpenClaim := { program := "ytidjaglfjinngaa", sum := "8b1d2e5f4ae248ff73f72b4d7eeee3499c6f0f4a9aa0dbe2f5bffe84d691d96c", func := "coinage/coinagelaw31.AnvilDilworth", spec := "anvilDilworth", unfollowed := true, recurses := true, apart := false, narrowed := true }
def AnvilDilworthUptoSaid : Prop := anvilDilworthUptoRow.holds Try.pinned (OpenSpec.upto anvilDilworthSpec)

end Rows
end Go.Proofs.Ytidjaglfjinngaa
