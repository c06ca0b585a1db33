/-
  What Pow and Surjections answer at small numbers, by evaluation (printed by prTfB.py).
-/
import Derived.Test.YthahhbbfhohhfaaDoorMgP
import Derived.KernelRfl
namespace Go.Mx
set_option linter.unusedVariables false
set_option linter.unusedSimpArgs false
set_option linter.unusedSectionVars false
open Go

theorem p78_1_4 : semW baseZ tbl 1000000 12 78 [.nd .ag [.nd (.sl false 1 1) [.v (.int .u32 1)]], .v (.int .i64 4)] = some (.nd .tu [.nd .ag [.nd (.sl false 1 1) [.v (.int .u32 1)]], .v (.int .i64 0)]) := by kernel_rfl
theorem p78_1_5 : semW baseZ tbl 1000000 12 78 [.nd .ag [.nd (.sl false 1 1) [.v (.int .u32 1)]], .v (.int .i64 5)] = some (.nd .tu [.nd .ag [.nd (.sl false 1 1) [.v (.int .u32 1)]], .v (.int .i64 0)]) := by kernel_rfl
theorem p78_2_0 : semW baseZ tbl 1000000 12 78 [.nd .ag [.nd (.sl false 1 1) [.v (.int .u32 2)]], .v (.int .i64 0)] = some (.nd .tu [.nd .ag [.nd (.sl false 1 1) [.v (.int .u32 1)]], .v (.int .i64 0)]) := by kernel_rfl
theorem p78_2_1 : semW baseZ tbl 1000000 12 78 [.nd .ag [.nd (.sl false 1 1) [.v (.int .u32 2)]], .v (.int .i64 1)] = some (.nd .tu [.nd .ag [.nd (.sl false 1 1) [.v (.int .u32 2)]], .v (.int .i64 0)]) := by kernel_rfl
theorem p78_2_2 : semW baseZ tbl 1000000 12 78 [.nd .ag [.nd (.sl false 1 1) [.v (.int .u32 2)]], .v (.int .i64 2)] = some (.nd .tu [.nd .ag [.nd (.sl false 1 1) [.v (.int .u32 4)]], .v (.int .i64 0)]) := by kernel_rfl
theorem p78_2_3 : semW baseZ tbl 1000000 12 78 [.nd .ag [.nd (.sl false 1 1) [.v (.int .u32 2)]], .v (.int .i64 3)] = some (.nd .tu [.nd .ag [.nd (.sl false 1 1) [.v (.int .u32 8)]], .v (.int .i64 0)]) := by kernel_rfl
theorem p78_2_4 : semW baseZ tbl 1000000 12 78 [.nd .ag [.nd (.sl false 1 1) [.v (.int .u32 2)]], .v (.int .i64 4)] = some (.nd .tu [.nd .ag [.nd (.sl false 1 1) [.v (.int .u32 16)]], .v (.int .i64 0)]) := by kernel_rfl
theorem p78_2_5 : semW baseZ tbl 1000000 12 78 [.nd .ag [.nd (.sl false 1 1) [.v (.int .u32 2)]], .v (.int .i64 5)] = some (.nd .tu [.nd .ag [.nd (.sl false 1 1) [.v (.int .u32 32)]], .v (.int .i64 0)]) := by kernel_rfl
theorem p78_3_0 : semW baseZ tbl 1000000 12 78 [.nd .ag [.nd (.sl false 1 1) [.v (.int .u32 3)]], .v (.int .i64 0)] = some (.nd .tu [.nd .ag [.nd (.sl false 1 1) [.v (.int .u32 1)]], .v (.int .i64 0)]) := by kernel_rfl
theorem p78_3_1 : semW baseZ tbl 1000000 12 78 [.nd .ag [.nd (.sl false 1 1) [.v (.int .u32 3)]], .v (.int .i64 1)] = some (.nd .tu [.nd .ag [.nd (.sl false 1 1) [.v (.int .u32 3)]], .v (.int .i64 0)]) := by kernel_rfl
end Go.Mx
