/-
  No cell of these rows narrows 'for every input' (looked for: loops, veiled, ifaces, maps, wideKeys, modest, calm, conditions, laid).
  DERIVED. THE GIVEN ROWS OF THIS SEAT. 6 by the template 'for every input the law returns true; each argument reads behind the call as it read before'; 0 by the template 'total and deterministic' (their statements: YtgbikojcpfdbiaaTotals.lean).
  GIVEN WITH THE SEED: the statements are not yours to turn. If you find one false, say at which input.
  Laid BY PROGRAM, IN A SANDBOX (cutbox-rows.mjs): the forced cells as the released guide's own fill.sh prints them over the translation 3865e00cb7cebdb0… (all of the seat's roots in one cut). By AI agents, Wed Nov 11 2026. No macro, syntax, notation, axiom, sorry.
-/
import Derived.Test.YtgbikojcpfdbiaaChecked
import GoSem.Claim
import GoSem.ClaimJoined
import GoSem.ClaimMapViews
import Derived.JoinedTies
import Derived.KernelRfl
namespace Go.Proofs.Ytgbikojcpfdbiaa
/- THE CELL 'sum', in the pinned program and in every row, IS THE sha256 OF THE DUMP (.gsa) THAT YtgbikojcpfdbiaaProg.lean LOADS. Nothing in Lean hashes anything: it is a label: what it is worth is what the hold of that sum in a sandbox is worth. -/
noncomputable def Try.pinned : Pinned := { name := "ytgbikojcpfdbiaa", sum := "3865e00cb7cebdb0f89f24f6e912740725e920ec704d1fb41cec5755f9b27953", checked := Try.checked }
namespace Rows
def none {H : Type} : Left H := { results := [], args := [] }

/-- 'coinagelaw06.PosetOrders': WHATEVER THE INPUT: true; the input reads as it did. -/
def posetOrdersSpec : ChangeSpec := { name := "posetOrders", fn := fun _ => fun
  | [d1, d2] => { results := [.lit (.bool true)], args := [d1, d2] }
  | _ => none }
def posetOrdersRow : OpenClaim := { program := "ytgbikojcpfdbiaa", sum := "3865e00cb7cebdb0f89f24f6e912740725e920ec704d1fb41cec5755f9b27953", func := "coinage/coinagelaw06.PosetOrders", spec := "posetOrders", apart := false }
def PosetOrdersSaid : Prop := posetOrdersRow.holds Try.pinned (OpenSpec.ofChange posetOrdersSpec)

/-- ITS FALSE NEIGHBOUR: 'it returns false'. Refute it at one input. -/
def posetOrdersWrong : ChangeSpec := { name := "posetOrders", fn := fun _ => fun
  | [d1, d2] => { results := [.lit (.bool false)], args := [d1, d2] }
  | _ => none }
def PosetOrdersWrongFalsely : Prop := posetOrdersRow.holds Try.pinned (OpenSpec.ofChange posetOrdersWrong)

/-- 'coinagelaw06.PosetTransitive': WHATEVER THE INPUT: true; the input reads as it did. -/
def posetTransitiveSpec : ChangeSpec := { name := "posetTransitive", fn := fun _ => fun
  | [d1, d2, d3] => { results := [.lit (.bool true)], args := [d1, d2, d3] }
  | _ => none }
def posetTransitiveRow : OpenClaim := { program := "ytgbikojcpfdbiaa", sum := "3865e00cb7cebdb0f89f24f6e912740725e920ec704d1fb41cec5755f9b27953", func := "coinage/coinagelaw06.PosetTransitive", spec := "posetTransitive", apart := false }
def PosetTransitiveSaid : Prop := posetTransitiveRow.holds Try.pinned (OpenSpec.ofChange posetTransitiveSpec)

/-- ITS FALSE NEIGHBOUR: 'it returns false'. Refute it at one input. -/
def posetTransitiveWrong : ChangeSpec := { name := "posetTransitive", fn := fun _ => fun
  | [d1, d2, d3] => { results := [.lit (.bool false)], args := [d1, d2, d3] }
  | _ => none }
def PosetTransitiveWrongFalsely : Prop := posetTransitiveRow.holds Try.pinned (OpenSpec.ofChange posetTransitiveWrong)

/-- 'coinagelaw06.PosetInduces': WHATEVER THE INPUT: true; the input reads as it did. -/
def posetInducesSpec : ChangeSpec := { name := "posetInduces", fn := fun _ => fun
  | [d1, d2, d3] => { results := [.lit (.bool true)], args := [d1, d2, d3] }
  | _ => none }
def posetInducesRow : OpenClaim := { program := "ytgbikojcpfdbiaa", sum := "3865e00cb7cebdb0f89f24f6e912740725e920ec704d1fb41cec5755f9b27953", func := "coinage/coinagelaw06.PosetInduces", spec := "posetInduces", apart := false }
def PosetInducesSaid : Prop := posetInducesRow.holds Try.pinned (OpenSpec.ofChange posetInducesSpec)

/-- ITS FALSE NEIGHBOUR: 'it returns false'. Refute it at one input. -/
def posetInducesWrong : ChangeSpec := { name := "posetInduces", fn := fun _ => fun
  | [d1, d2, d3] => { results := [.lit (.bool false)], args := [d1, d2, d3] }
  | _ => none }
def PosetInducesWrongFalsely : Prop := posetInducesRow.holds Try.pinned (OpenSpec.ofChange posetInducesWrong)

/-- 'coinagelaw06.PosetValid': WHATEVER THE INPUT: true; the input reads as it did. -/
def posetValidSpec : ChangeSpec := { name := "posetValid", fn := fun _ => fun
  | [d1, d2, d3] => { results := [.lit (.bool true)], args := [d1, d2, d3] }
  | _ => none }
def posetValidRow : OpenClaim := { program := "ytgbikojcpfdbiaa", sum := "3865e00cb7cebdb0f89f24f6e912740725e920ec704d1fb41cec5755f9b27953", func := "coinage/coinagelaw06.PosetValid", spec := "posetValid", apart := false }
def PosetValidSaid : Prop := posetValidRow.holds Try.pinned (OpenSpec.ofChange posetValidSpec)

/-- ITS FALSE NEIGHBOUR: 'it returns false'. Refute it at one input. -/
def posetValidWrong : ChangeSpec := { name := "posetValid", fn := fun _ => fun
  | [d1, d2, d3] => { results := [.lit (.bool false)], args := [d1, d2, d3] }
  | _ => none }
def PosetValidWrongFalsely : Prop := posetValidRow.holds Try.pinned (OpenSpec.ofChange posetValidWrong)

/-- 'coinagelaw06.PosetCycles': WHATEVER THE INPUT: true; the input reads as it did. -/
def posetCyclesSpec : ChangeSpec := { name := "posetCycles", fn := fun _ => fun
  | [d1, d2] => { results := [.lit (.bool true)], args := [d1, d2] }
  | _ => none }
def posetCyclesRow : OpenClaim := { program := "ytgbikojcpfdbiaa", sum := "3865e00cb7cebdb0f89f24f6e912740725e920ec704d1fb41cec5755f9b27953", func := "coinage/coinagelaw06.PosetCycles", spec := "posetCycles", apart := false }
def PosetCyclesSaid : Prop := posetCyclesRow.holds Try.pinned (OpenSpec.ofChange posetCyclesSpec)

/-- ITS FALSE NEIGHBOUR: 'it returns false'. Refute it at one input. -/
def posetCyclesWrong : ChangeSpec := { name := "posetCycles", fn := fun _ => fun
  | [d1, d2] => { results := [.lit (.bool false)], args := [d1, d2] }
  | _ => none }
def PosetCyclesWrongFalsely : Prop := posetCyclesRow.holds Try.pinned (OpenSpec.ofChange posetCyclesWrong)

/-- 'coinagelaw06.PosetEither': WHATEVER THE INPUT: true; the input reads as it did. -/
def posetEitherSpec : ChangeSpec := { name := "posetEither", fn := fun _ => fun
  | [d1, d2] => { results := [.lit (.bool true)], args := [d1, d2] }
  | _ => none }
def posetEitherRow : OpenClaim := { program := "ytgbikojcpfdbiaa", sum := "3865e00cb7cebdb0f89f24f6e912740725e920ec704d1fb41cec5755f9b27953", func := "coinage/coinagelaw06.PosetEither", spec := "posetEither", apart := false }
def PosetEitherSaid : Prop := posetEitherRow.holds Try.pinned (OpenSpec.ofChange posetEitherSpec)

/-- ITS FALSE NEIGHBOUR: 'it returns false'. Refute it at one input. -/
def posetEitherWrong : ChangeSpec := { name := "posetEither", fn := fun _ => fun
  | [d1, d2] => { results := [.lit (.bool false)], args := [d1, d2] }
  | _ => none }
def PosetEitherWrongFalsely : Prop := posetEitherRow.holds Try.pinned (OpenSpec.ofChange posetEitherWrong)

/- THE SECOND FORM. 'bulk': how many values and letters a reading holds, each counted each time it is reached (what is shared counts as often as it is met; a slice's spare places count too). A statement '..UptoSaid' is the law's where the arguments, and the package variables that the reading takes, are together of bulk at most 1048576: NARROWER than '..Said'. Prove '..Said' where nothing that the law and all that it calls make is longer than what came in: it says more and counts as full. Else prove '..UptoSaid'. A law counts once. -/
mutual
def uptoBulk {H : Type} : DataW H → Nat
  | .lit (.string bytes) => bytes.length + 1
  | .lit _ => 1
  | .nil => 1
  | .ptr d => uptoBulk d + 1
  | .slice elems spare => uptoBulkAll elems + uptoBulkAll spare + 1
  | .agg parts => uptoBulkAll parts + 1
  | .iface _ d => uptoBulk d + 1
  | .map entries => uptoBulkEntries entries + 1
  | .held _ => 1
def uptoBulkAll {H : Type} : List (DataW H) → Nat
  | [] => 0
  | d :: r => uptoBulk d + uptoBulkAll r
def uptoBulkEntries {H : Type} : List (Lit × DataW H) → Nat
  | [] => 0
  | x :: r => uptoBulkEntry x + uptoBulkEntries r
def uptoBulkEntry {H : Type} : Lit × DataW H → Nat
  | (.string bytes, d) => bytes.length + uptoBulk d + 1
  | (_, d) => uptoBulk d + 1
 end
def uptoSmall : (H : Type) → List (DataW H) → Bool := fun _ ds => decide (uptoBulkAll ds ≤ 1048576)
def OpenSpec.upto (s : _root_.Go.ChangeSpec) : _root_.Go.OpenSpec := { _root_.Go.OpenSpec.ofChange s with cond := some uptoSmall }

/-- 'coinagelaw06.PosetOrders', WHERE WHAT IT READS IS OF BULK AT MOST 1048576: true; the input reads as it did. -/
def posetOrdersUptoRow : OpenClaim := { program := "ytgbikojcpfdbiaa", sum := "3865e00cb7cebdb0f89f24f6e912740725e920ec704d1fb41cec5755f9b27953", func := "coinage/coinagelaw06.PosetOrders", spec := "posetOrders", apart := false, narrowed := true }
def PosetOrdersUptoSaid : Prop := posetOrdersUptoRow.holds Try.pinned (OpenSpec.upto posetOrdersSpec)

/-- 'coinagelaw06.PosetTransitive', WHERE WHAT IT READS IS OF BULK AT MOST 1048576: true; the input reads as it did. -/
def posetTransitiveUptoRow : OpenClaim := { program := "ytgbikojcpfdbiaa", sum := "3865e00cb7cebdb0f89f24f6e912740725e920ec704d1fb41cec5755f9b27953", func := "coinage/coinagelaw06.PosetTransitive", spec := "posetTransitive", apart := false, narrowed := true }
def PosetTransitiveUptoSaid : Prop := posetTransitiveUptoRow.holds Try.pinned (OpenSpec.upto posetTransitiveSpec)

/-- 'coinagelaw06.PosetInduces', WHERE WHAT IT READS IS OF BULK AT MOST 1048576: true; the input reads as it did. -/
def posetInducesUptoRow : OpenClaim := { program := "ytgbikojcpfdbiaa", sum := "3865e00cb7cebdb0f89f24f6e912740725e920ec704d1fb41cec5755f9b27953", func := "coinage/coinagelaw06.PosetInduces", spec := "posetInduces", apart := false, narrowed := true }
def PosetInducesUptoSaid : Prop := posetInducesUptoRow.holds Try.pinned (OpenSpec.upto posetInducesSpec)

/-- 'coinagelaw06.PosetValid', WHERE WHAT IT READS IS OF BULK AT MOST 1048576: true; the input reads as it did. -/
def posetValidUptoRow : OpenClaim := { program := "ytgbikojcpfdbiaa", sum := "3865e00cb7cebdb0f89f24f6e912740725e920ec704d1fb41cec5755f9b27953", func := "coinage/coinagelaw06.PosetValid", spec := "posetValid", apart := false, narrowed := true }
def PosetValidUptoSaid : Prop := posetValidUptoRow.holds Try.pinned (OpenSpec.upto posetValidSpec)

/-- 'coinagelaw06.PosetCycles', WHERE WHAT IT READS IS OF BULK AT MOST 1048576: true; the input reads as it did. -/
def posetCyclesUptoRow : OpenClaim := { program := "ytgbikojcpfdbiaa", sum := "3865e00cb7cebdb0f89f24f6e912740725e920ec704d1fb41cec5755f9b27953", func := "coinage/coinagelaw06.PosetCycles", spec := "posetCycles", apart := false, narrowed := true }
def PosetCyclesUptoSaid : Prop := posetCyclesUptoRow.holds Try.pinned (OpenSpec.upto posetCyclesSpec)

/-- 'coinagelaw06.PosetEither', WHERE WHAT IT READS IS OF BULK AT MOST 1048576: true; the input reads as it did. -/
def posetEitherUptoRow : OpenClaim := { program := "ytgbikojcpfdbiaa", sum := "3865e00cb7cebdb0f89f24f6e912740725e920ec704d1fb41cec5755f9b27953", func := "coinage/coinagelaw06.PosetEither", spec := "posetEither", apart := false, narrowed := true }
def PosetEitherUptoSaid : Prop := posetEitherUptoRow.holds Try.pinned (OpenSpec.upto posetEitherSpec)

end Rows
end Go.Proofs.Ytgbikojcpfdbiaa
