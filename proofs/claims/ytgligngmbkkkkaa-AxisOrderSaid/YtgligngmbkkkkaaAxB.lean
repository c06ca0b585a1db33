import Derived.Test.YtgligngmbkkkkaaAxA
import Derived.Test.YtgligngmbkkkkaaMxS
/-
  The axis: hours, distances.
-/
namespace Go.Mx
set_option linter.unusedVariables false
set_option linter.unusedSimpArgs false
set_option linter.unusedSectionVars false
open Go

def hourB (n : Int) : Bool := decide (0 ≤ n) && decide (n < 12)

theorem f31 (call : Oracle) (fuel : Nat) (n : Int) : callF call fuel c31 [.v (.int .i64 n)] = some (.v (.bool (hourB n))) := by
  by_cases h : 0 ≤ n <;> simp [c31, h, hourB]

def turnZ (h n : Int) : Int := (IntKind.i64.wrap ((IntKind.i64.wrap (h + n.tmod 12)).tmod 12 + 12)).tmod 12

theorem f41 (call : Oracle) (fuel : Nat) (h n : Int) : callF call fuel c41 [.v (.int .i64 h), .v (.int .i64 n)] = some (.v (.int .i64 (turnZ h n))) := by
  simp [c41, turnZ]

def distZ (a b : Int) : Int :=
  if IntKind.i64.wrap (12 - turnZ b (IntKind.i64.wrap (-a))) < turnZ b (IntKind.i64.wrap (-a)) then IntKind.i64.wrap (12 - turnZ b (IntKind.i64.wrap (-a))) else turnZ b (IntKind.i64.wrap (-a))

theorem f32 (call : Oracle) (fuel : Nat) (h41 : ∀ h n : Int, call 41 [.v (.int .i64 h), .v (.int .i64 n)] = some (.v (.int .i64 (turnZ h n)))) (a b : Int) :
    callF call fuel c32 [.v (.int .i64 a), .v (.int .i64 b)] = some (.v (.int .i64 (distZ a b))) := by
  simp [c32, h41, distZ]

def DistZ (a b : Int) : Int := if hourB a && hourB b then distZ a b else -1

theorem f13 (call : Oracle) (fuel : Nat) (h31 : ∀ n : Int, call 31 [.v (.int .i64 n)] = some (.v (.bool (hourB n))))
    (h32 : ∀ a b : Int, call 32 [.v (.int .i64 a), .v (.int .i64 b)] = some (.v (.int .i64 (distZ a b)))) (a b : Int) :
    callF call fuel c13 [.v (.int .i64 a), .v (.int .i64 b)] = some (.v (.int .i64 (DistZ a b))) := by
  cases ha : hourB a <;> cases hb : hourB b <;> simp [c13, h31, h32, ha, hb, DistZ]

def modZ (a b : Int) : Int := if a.tmod b < 0 then IntKind.i64.wrap (a.tmod b + b) else a.tmod b

theorem f15 (call : Oracle) (fuel : Nat) (a b : Int) (hb : b ≠ 0) : callF call fuel c15 [.v (.int .i64 a), .v (.int .i64 b)] = some (.v (.int .i64 (modZ a b))) := by
  by_cases h : a.tmod b < 0 <;> simp [c15, h, hb, modZ]

def inB (n lo hi : Int) : Bool := decide (lo ≤ n) && decide (n ≤ hi)

theorem f21 (call : Oracle) (fuel : Nat) (n lo hi : Int) : callF call fuel c21 [.v (.int .i64 n), .v (.int .i64 lo), .v (.int .i64 hi)] = some (.v (.bool (inB n lo hi))) := by
  by_cases h : lo ≤ n <;> simp [c21, h, inB]

def rdistZ (a b : Int) : Int :=
  if inB a 0 11 && inB b 0 11 then (if IntKind.i64.wrap (12 - modZ (IntKind.i64.wrap (a - b)) 12) < modZ (IntKind.i64.wrap (a - b)) 12 then IntKind.i64.wrap (12 - modZ (IntKind.i64.wrap (a - b)) 12) else modZ (IntKind.i64.wrap (a - b)) 12) else -1

theorem f14 (call : Oracle) (fuel : Nat) (h21 : ∀ n lo hi : Int, call 21 [.v (.int .i64 n), .v (.int .i64 lo), .v (.int .i64 hi)] = some (.v (.bool (inB n lo hi))))
    (h15 : ∀ a b : Int, b ≠ 0 → call 15 [.v (.int .i64 a), .v (.int .i64 b)] = some (.v (.int .i64 (modZ a b)))) (a b : Int) :
    callF call fuel c14 [.v (.int .i64 a), .v (.int .i64 b)] = some (.v (.int .i64 (rdistZ a b))) := by
  cases ha : inB a 0 11 <;> cases hb : inB b 0 11 <;> simp [c14, h21, h15, ha, hb, rdistZ]

end Go.Mx
