import Derived.Test.YtgbikojcpfdbiaaDoorMxU
import Derived.WideShapes
/-
  Mx, part V: an argument that is a struct or an array.
-/
namespace Go.Mx
set_option linter.unusedVariables false
set_option linter.unusedSimpArgs false
set_option linter.unusedSectionVars false
open Go

theorem okWide_agg {P : Program} {w : World} {r : Reach} {base : Nat} {t : TypeId} {v : Value}
    (ht : (∃ fs, P.underlying t = some (.struct fs)) ∨ ∃ n e, P.underlying t = some (.array n e)) (h : Value.okWide P w r base t v) : ∃ xs, v = .agg xs := by
  rcases ht with ⟨fs, ht⟩ | ⟨n, e, ht⟩ <;>
  · simp only [Value.okWide, ht] at h
    obtain ⟨cs, h1, _⟩ := h
    exact ⟨cs, h1⟩

end Go.Mx
