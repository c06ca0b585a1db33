/-
  What Pow and Surjections answer at small numbers, by evaluation (printed by prTfB.py).
-/
import Derived.Test.YthahhbbfhohhfaaDoorMgP
import Derived.KernelRfl
namespace Go.Mx
set_option linter.unusedVariables false
set_option linter.unusedSimpArgs false
set_option linter.unusedSectionVars false
open Go

theorem p77_1_0 : semW baseZ tbl 1000000 12 77 [.v (.int .i64 1), .v (.int .i64 0)] = some (.nd .tu [.nd .ag [.nd (.sl true 1 0) []], .v (.int .i64 0)]) := by kernel_rfl
theorem p77_1_1 : semW baseZ tbl 1000000 12 77 [.v (.int .i64 1), .v (.int .i64 1)] = some (.nd .tu [.nd .ag [.nd (.sl false 1 1) [.v (.int .u32 1)]], .v (.int .i64 0)]) := by kernel_rfl
theorem p77_2_0 : semW baseZ tbl 1000000 12 77 [.v (.int .i64 2), .v (.int .i64 0)] = some (.nd .tu [.nd .ag [.nd (.sl true 1 0) []], .v (.int .i64 0)]) := by kernel_rfl
theorem p77_2_1 : semW baseZ tbl 1000000 12 77 [.v (.int .i64 2), .v (.int .i64 1)] = some (.nd .tu [.nd .ag [.nd (.sl false 1 1) [.v (.int .u32 1)]], .v (.int .i64 0)]) := by kernel_rfl
end Go.Mx
