import Derived.Test.YtigplgminjhgmaaJoA
import Derived.KernelRfl
/-
  Journals: awake.
-/
namespace Go.Mx
set_option linter.unusedVariables false
set_option linter.unusedSimpArgs false
set_option linter.unusedSectionVars false
open Go
theorem awake_ok : sem tbl 21000 6 10 [] = some (.v (.bool true)) := by kernel_rfl
end Go.Mx
