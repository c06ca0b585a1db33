import Derived.Test.YtgbikojcpfdbiaaDoorMxR
/-
  Mx, part Ra: states as tables; masks by the slots that are kept.
-/
namespace Go.Mx
set_option linter.unusedVariables false
set_option linter.unusedSimpArgs false
set_option linter.unusedSectionVars false
open Go

def fu (f : Nat → V) (i : Nat) (v : V) : Nat → V := fun j => if j = i then v else f j
def dd : Nat → V := fun _ => .dead
def un' : Nat → V := fun _ => .sc undef
def kl (r : Nat) (p : List Nat) (f : Nat → V) : Nat → V := fun j => V.kill r p (f j)
/-- A state: the slots below K by g, the others by f. -/
def tab (n K : Nat) (g f : Nat → V) : St := (List.range n).map fun i => if i < K then g i else f i
/-- A mask by the slots that are kept. -/
def bits (n : Nat) (ls : List Nat) : List Bool := (List.range n).map fun i => ls.contains i

/-- Many cells of one kind. -/
def rp (n : Nat) (x : D) : List D := List.replicate n x

end Go.Mx
