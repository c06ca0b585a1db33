import Derived.Test.YtgbikojcpfdbiaaDoorPdF
import Derived.KernelRfl
/-
  Posets behind the door: awake.
-/
namespace Go.Mx
set_option linter.unusedVariables false
set_option linter.unusedSimpArgs false
set_option linter.unusedSectionVars false
open Go
theorem awake_ok : semB baseT tbl 1100 10 5 [] = some (.v (.bool true)) := by kernel_rfl
end Go.Mx
