/-
  What Pow and Surjections answer at small numbers, by evaluation (printed by prTfB.py).
-/
import Derived.Test.YthahhbbfhohhfaaDoorMgP
import Derived.KernelRfl
namespace Go.Mx
set_option linter.unusedVariables false
set_option linter.unusedSimpArgs false
set_option linter.unusedSectionVars false
open Go

theorem p77_5_2 : semW baseZ tbl 1000000 12 77 [.v (.int .i64 5), .v (.int .i64 2)] = some (.nd .tu [.nd .ag [.nd (.sl false 1 1) [.v (.int .u32 30)]], .v (.int .i64 0)]) := by kernel_rfl
theorem p77_5_3 : semW baseZ tbl 1000000 12 77 [.v (.int .i64 5), .v (.int .i64 3)] = some (.nd .tu [.nd .ag [.nd (.sl false 1 1) [.v (.int .u32 150)]], .v (.int .i64 0)]) := by kernel_rfl
theorem p77_5_4 : semW baseZ tbl 1000000 12 77 [.v (.int .i64 5), .v (.int .i64 4)] = some (.nd .tu [.nd .ag [.nd (.sl false 1 1) [.v (.int .u32 240)]], .v (.int .i64 0)]) := by kernel_rfl
end Go.Mx
