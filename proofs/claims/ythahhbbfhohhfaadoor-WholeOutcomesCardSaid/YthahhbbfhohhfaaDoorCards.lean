/-
  DERIVED. GIVEN WITH THE SEED: THE CARDS: each row of YthahhbbfhohhfaaDoorRows.lean that lists a variable, with what it lists TIED to the program's text (the seventh form; the later family's looks); each row that meets fmt, with fmt's text TOLD by the authors' own Lean function (tested against real Go, not proved from fmt's source: count such statements apart). THE CARD IS WHAT COUNTS. Prove the row's statement (the work); the ties are given (YthahhbbfhohhfaaDoorTie.lean); close each card by the builder's one call (the guide's Derived/Test/ToyasCard.lean, 'card_holds'). Laid BY PROGRAM, IN A SANDBOX (cutbox-door.mjs). By AI agents, Wed Nov 11 2026. No macro, syntax, notation, axiom, sorry.
-/
import Derived.Test.YthahhbbfhohhfaaDoorRows
import GoSem.ClaimSeven
namespace Go.Proofs.YthahhbbfhohhfaaDoor
namespace Rows

/-- THE TIED CARD OF 'coinagetop.WholeLoss'. -/
def wholeLossCard : Claim7 := { stood := { row := wholeLossRow, standIns := [], harness := (true, "a1f51c286aa392ab807e1a566726e741f6773506b06a2616a133130404e6ebc9"), looks := false }, kinds := [], alts := [], laidByText := true, laidKinds := [.data, .data, .data], laidTests := true, laidLooks := .later }
def WholeLossCardSaid : Prop := Claim7.holds Tryd.pinned (.plain (OpenSpec.ofChange wholeLossSpec)) wholeLossCard

/-- THE TIED CARD OF 'coinagetop.WholeMetal'. -/
def wholeMetalCard : Claim7 := { stood := { row := wholeMetalRow, standIns := [], harness := (true, "a1f51c286aa392ab807e1a566726e741f6773506b06a2616a133130404e6ebc9"), looks := false }, kinds := [], alts := [], laidByText := true, laidKinds := [.data, .data, .data], laidTests := true, laidLooks := .later }
def WholeMetalCardSaid : Prop := Claim7.holds Tryd.pinned (.plain (OpenSpec.ofChange wholeMetalSpec)) wholeMetalCard

/-- THE TIED CARD OF 'coinagetop.WholeOutcomes'. -/
def wholeOutcomesCard : Claim7 := { stood := { row := wholeOutcomesRow, standIns := [], harness := (true, "a1f51c286aa392ab807e1a566726e741f6773506b06a2616a133130404e6ebc9"), looks := false }, kinds := [], alts := [], laidByText := true, laidKinds := [.data, .data, .data], laidTests := true, laidLooks := .later }
def WholeOutcomesCardSaid : Prop := Claim7.holds Tryd.pinned (.plain (OpenSpec.ofChange wholeOutcomesSpec)) wholeOutcomesCard

/-- THE SECOND FORM's CARD OF 'coinagetop.WholeLoss'. -/
def wholeLossUptoCard : Claim7 := { stood := { row := wholeLossUptoRow, standIns := [], harness := (true, "a1f51c286aa392ab807e1a566726e741f6773506b06a2616a133130404e6ebc9"), looks := false }, kinds := [], alts := [], laidByText := true, laidKinds := [.data, .data, .data], laidTests := true, laidLooks := .later }
def WholeLossUptoCardSaid : Prop := Claim7.holds Tryd.pinned (.plain (OpenSpec.upto wholeLossSpec)) wholeLossUptoCard

/-- THE SECOND FORM's CARD OF 'coinagetop.WholeMetal'. -/
def wholeMetalUptoCard : Claim7 := { stood := { row := wholeMetalUptoRow, standIns := [], harness := (true, "a1f51c286aa392ab807e1a566726e741f6773506b06a2616a133130404e6ebc9"), looks := false }, kinds := [], alts := [], laidByText := true, laidKinds := [.data, .data, .data], laidTests := true, laidLooks := .later }
def WholeMetalUptoCardSaid : Prop := Claim7.holds Tryd.pinned (.plain (OpenSpec.upto wholeMetalSpec)) wholeMetalUptoCard

/-- THE SECOND FORM's CARD OF 'coinagetop.WholeOutcomes'. -/
def wholeOutcomesUptoCard : Claim7 := { stood := { row := wholeOutcomesUptoRow, standIns := [], harness := (true, "a1f51c286aa392ab807e1a566726e741f6773506b06a2616a133130404e6ebc9"), looks := false }, kinds := [], alts := [], laidByText := true, laidKinds := [.data, .data, .data], laidTests := true, laidLooks := .later }
def WholeOutcomesUptoCardSaid : Prop := Claim7.holds Tryd.pinned (.plain (OpenSpec.upto wholeOutcomesSpec)) wholeOutcomesUptoCard
end Rows
end Go.Proofs.YthahhbbfhohhfaaDoor
