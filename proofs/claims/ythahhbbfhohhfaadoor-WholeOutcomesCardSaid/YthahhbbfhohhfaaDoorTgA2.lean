/-
  What Pow and Surjections answer at small numbers, by evaluation (printed by prTfB.py).
-/
import Derived.Test.YthahhbbfhohhfaaDoorMgP
import Derived.KernelRfl
namespace Go.Mx
set_option linter.unusedVariables false
set_option linter.unusedSimpArgs false
set_option linter.unusedSectionVars false
open Go

theorem p78_3_2 : semW baseZ tbl 1000000 12 78 [.nd .ag [.nd (.sl false 1 1) [.v (.int .u32 3)]], .v (.int .i64 2)] = some (.nd .tu [.nd .ag [.nd (.sl false 1 1) [.v (.int .u32 9)]], .v (.int .i64 0)]) := by kernel_rfl
theorem p78_3_3 : semW baseZ tbl 1000000 12 78 [.nd .ag [.nd (.sl false 1 1) [.v (.int .u32 3)]], .v (.int .i64 3)] = some (.nd .tu [.nd .ag [.nd (.sl false 1 1) [.v (.int .u32 27)]], .v (.int .i64 0)]) := by kernel_rfl
theorem p78_3_4 : semW baseZ tbl 1000000 12 78 [.nd .ag [.nd (.sl false 1 1) [.v (.int .u32 3)]], .v (.int .i64 4)] = some (.nd .tu [.nd .ag [.nd (.sl false 1 1) [.v (.int .u32 81)]], .v (.int .i64 0)]) := by kernel_rfl
theorem p78_3_5 : semW baseZ tbl 1000000 12 78 [.nd .ag [.nd (.sl false 1 1) [.v (.int .u32 3)]], .v (.int .i64 5)] = some (.nd .tu [.nd .ag [.nd (.sl false 1 1) [.v (.int .u32 243)]], .v (.int .i64 0)]) := by kernel_rfl
theorem p78_4_0 : semW baseZ tbl 1000000 12 78 [.nd .ag [.nd (.sl false 1 1) [.v (.int .u32 4)]], .v (.int .i64 0)] = some (.nd .tu [.nd .ag [.nd (.sl false 1 1) [.v (.int .u32 1)]], .v (.int .i64 0)]) := by kernel_rfl
theorem p78_4_1 : semW baseZ tbl 1000000 12 78 [.nd .ag [.nd (.sl false 1 1) [.v (.int .u32 4)]], .v (.int .i64 1)] = some (.nd .tu [.nd .ag [.nd (.sl false 1 1) [.v (.int .u32 4)]], .v (.int .i64 0)]) := by kernel_rfl
theorem p78_4_2 : semW baseZ tbl 1000000 12 78 [.nd .ag [.nd (.sl false 1 1) [.v (.int .u32 4)]], .v (.int .i64 2)] = some (.nd .tu [.nd .ag [.nd (.sl false 1 1) [.v (.int .u32 16)]], .v (.int .i64 0)]) := by kernel_rfl
theorem p78_4_3 : semW baseZ tbl 1000000 12 78 [.nd .ag [.nd (.sl false 1 1) [.v (.int .u32 4)]], .v (.int .i64 3)] = some (.nd .tu [.nd .ag [.nd (.sl false 1 1) [.v (.int .u32 64)]], .v (.int .i64 0)]) := by kernel_rfl
theorem p78_4_4 : semW baseZ tbl 1000000 12 78 [.nd .ag [.nd (.sl false 1 1) [.v (.int .u32 4)]], .v (.int .i64 4)] = some (.nd .tu [.nd .ag [.nd (.sl false 1 1) [.v (.int .u32 256)]], .v (.int .i64 0)]) := by kernel_rfl
theorem p78_4_5 : semW baseZ tbl 1000000 12 78 [.nd .ag [.nd (.sl false 1 1) [.v (.int .u32 4)]], .v (.int .i64 5)] = some (.nd .tu [.nd .ag [.nd (.sl false 1 1) [.v (.int .u32 1024)]], .v (.int .i64 0)]) := by kernel_rfl
end Go.Mx
