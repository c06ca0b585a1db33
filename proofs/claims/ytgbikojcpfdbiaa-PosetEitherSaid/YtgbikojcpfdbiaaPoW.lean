import Derived.Test.YtgbikojcpfdbiaaPoA
/-
  The closed call 'awake' of this chapter, carried out by the kernel.
-/
namespace Go.Mx
set_option linter.unusedVariables false
set_option linter.unusedSimpArgs false
set_option linter.unusedSectionVars false
open Go
theorem awake_ok : sem tbl 1100 10 9 [] = some (.v (.bool true)) := by kernel_rfl
end Go.Mx
