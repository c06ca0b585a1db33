/-
  What Pow and Surjections answer at small numbers, by evaluation (printed by prTfB.py).
-/
import Derived.Test.YthahhbbfhohhfaaDoorMgP
import Derived.KernelRfl
namespace Go.Mx
set_option linter.unusedVariables false
set_option linter.unusedSimpArgs false
set_option linter.unusedSectionVars false
open Go

theorem p78_0_0 : semW baseZ tbl 1000000 12 78 [.nd .ag [.nd (.sl true 1 0) []], .v (.int .i64 0)] = some (.nd .tu [.nd .ag [.nd (.sl false 1 1) [.v (.int .u32 1)]], .v (.int .i64 0)]) := by kernel_rfl
theorem p78_0_1 : semW baseZ tbl 1000000 12 78 [.nd .ag [.nd (.sl true 1 0) []], .v (.int .i64 1)] = some (.nd .tu [.nd .ag [.nd (.sl true 1 0) []], .v (.int .i64 0)]) := by kernel_rfl
theorem p78_0_2 : semW baseZ tbl 1000000 12 78 [.nd .ag [.nd (.sl true 1 0) []], .v (.int .i64 2)] = some (.nd .tu [.nd .ag [.nd (.sl true 1 0) []], .v (.int .i64 0)]) := by kernel_rfl
theorem p78_0_3 : semW baseZ tbl 1000000 12 78 [.nd .ag [.nd (.sl true 1 0) []], .v (.int .i64 3)] = some (.nd .tu [.nd .ag [.nd (.sl true 1 0) []], .v (.int .i64 0)]) := by kernel_rfl
theorem p78_0_4 : semW baseZ tbl 1000000 12 78 [.nd .ag [.nd (.sl true 1 0) []], .v (.int .i64 4)] = some (.nd .tu [.nd .ag [.nd (.sl true 1 0) []], .v (.int .i64 0)]) := by kernel_rfl
theorem p78_0_5 : semW baseZ tbl 1000000 12 78 [.nd .ag [.nd (.sl true 1 0) []], .v (.int .i64 5)] = some (.nd .tu [.nd .ag [.nd (.sl true 1 0) []], .v (.int .i64 0)]) := by kernel_rfl
theorem p78_1_0 : semW baseZ tbl 1000000 12 78 [.nd .ag [.nd (.sl false 1 1) [.v (.int .u32 1)]], .v (.int .i64 0)] = some (.nd .tu [.nd .ag [.nd (.sl false 1 1) [.v (.int .u32 1)]], .v (.int .i64 0)]) := by kernel_rfl
theorem p78_1_1 : semW baseZ tbl 1000000 12 78 [.nd .ag [.nd (.sl false 1 1) [.v (.int .u32 1)]], .v (.int .i64 1)] = some (.nd .tu [.nd .ag [.nd (.sl false 1 1) [.v (.int .u32 1)]], .v (.int .i64 0)]) := by kernel_rfl
theorem p78_1_2 : semW baseZ tbl 1000000 12 78 [.nd .ag [.nd (.sl false 1 1) [.v (.int .u32 1)]], .v (.int .i64 2)] = some (.nd .tu [.nd .ag [.nd (.sl false 1 1) [.v (.int .u32 1)]], .v (.int .i64 0)]) := by kernel_rfl
theorem p78_1_3 : semW baseZ tbl 1000000 12 78 [.nd .ag [.nd (.sl false 1 1) [.v (.int .u32 1)]], .v (.int .i64 3)] = some (.nd .tu [.nd .ag [.nd (.sl false 1 1) [.v (.int .u32 1)]], .v (.int .i64 0)]) := by kernel_rfl
end Go.Mx
