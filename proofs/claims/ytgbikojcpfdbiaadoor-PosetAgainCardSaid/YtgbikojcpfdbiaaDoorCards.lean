/-
  DERIVED. GIVEN WITH THE SEED: THE CARDS: each row of YtgbikojcpfdbiaaDoorRows.lean that lists a variable, with what it lists TIED to the program's text (the seventh form; the later family's looks); each row that meets fmt, with fmt's text TOLD by the authors' own Lean function (tested against real Go, not proved from fmt's source: count such statements apart). THE CARD IS WHAT COUNTS. Prove the row's statement (the work); the ties are given (YtgbikojcpfdbiaaDoorTie.lean); close each card by the builder's one call (the guide's Derived/Test/ToyasCard.lean, 'card_holds'). Laid BY PROGRAM, IN A SANDBOX (cutbox-door.mjs). By AI agents, Wed Nov 11 2026. No macro, syntax, notation, axiom, sorry.
-/
import Derived.Test.YtgbikojcpfdbiaaDoorRows
import GoSem.ClaimSeven
namespace Go.Proofs.YtgbikojcpfdbiaaDoor
namespace Rows

/-- THE TIED CARD OF 'coinagelaw06.PosetClosures'. -/
def posetClosuresCard : Claim7 := { stood := { row := posetClosuresRow, standIns := [], harness := (true, "3beeaa79393247e30431f9a2c87af84d3c823029b9c3677ee21854c3b9288c7f"), looks := false }, kinds := [], alts := [], laidByText := true, laidKinds := [.data], laidTests := true, laidLooks := .later }
def PosetClosuresCardSaid : Prop := Claim7.holds Tryd.pinned (.plain (OpenSpec.ofChange posetClosuresSpec)) posetClosuresCard

/-- THE TIED CARD OF 'coinagelaw06.PosetAgain'. -/
def posetAgainCard : Claim7 := { stood := { row := posetAgainRow, standIns := [], harness := (true, "3beeaa79393247e30431f9a2c87af84d3c823029b9c3677ee21854c3b9288c7f"), looks := false }, kinds := [], alts := [], laidByText := true, laidKinds := [.data], laidTests := true, laidLooks := .later }
def PosetAgainCardSaid : Prop := Claim7.holds Tryd.pinned (.plain (OpenSpec.ofChange posetAgainSpec)) posetAgainCard

/-- THE SECOND FORM's CARD OF 'coinagelaw06.PosetClosures'. -/
def posetClosuresUptoCard : Claim7 := { stood := { row := posetClosuresUptoRow, standIns := [], harness := (true, "3beeaa79393247e30431f9a2c87af84d3c823029b9c3677ee21854c3b9288c7f"), looks := false }, kinds := [], alts := [], laidByText := true, laidKinds := [.data], laidTests := true, laidLooks := .later }
def PosetClosuresUptoCardSaid : Prop := Claim7.holds Tryd.pinned (.plain (OpenSpec.upto posetClosuresSpec)) posetClosuresUptoCard

/-- THE SECOND FORM's CARD OF 'coinagelaw06.PosetAgain'. -/
def posetAgainUptoCard : Claim7 := { stood := { row := posetAgainUptoRow, standIns := [], harness := (true, "3beeaa79393247e30431f9a2c87af84d3c823029b9c3677ee21854c3b9288c7f"), looks := false }, kinds := [], alts := [], laidByText := true, laidKinds := [.data], laidTests := true, laidLooks := .later }
def PosetAgainUptoCardSaid : Prop := Claim7.holds Tryd.pinned (.plain (OpenSpec.upto posetAgainSpec)) posetAgainUptoCard
end Rows
end Go.Proofs.YtgbikojcpfdbiaaDoor
