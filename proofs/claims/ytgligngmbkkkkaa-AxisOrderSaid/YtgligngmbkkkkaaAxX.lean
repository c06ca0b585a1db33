import Derived.Test.YtgligngmbkkkkaaAxV
import Derived.Test.YtgligngmbkkkkaaAxD
import Derived.Test.YtgligngmbkkkkaaMxT
/-
  The axis: the law on the order of the elements, put together.
-/
namespace Go.Mx
set_option linter.unusedVariables false
set_option linter.unusedSimpArgs false
set_option linter.unusedSectionVars false
open Go

theorem wf_u8 {n : Int} (h : (Lit.int .u8 n).wf = true) : 0 ≤ n ∧ n ≤ 255 := by
  have h1 : IntKind.u8.min ≤ n ∧ n ≤ IntKind.u8.max := by simpa [Lit.wf] using h
  have e1 : IntKind.u8.min = 0 := by decide
  have e2 : IntKind.u8.max = 255 := by decide
  rw [e1, e2] at h1
  exact h1

set_option maxHeartbeats 40000000 in
set_option maxRecDepth 100000 in
theorem law9 (b b2 : Bool) (l cs : List Int) (hcs : ∀ c ∈ cs, 0 ≤ c ∧ c ≤ 255) (k : Int) : S 11 9 [sl b l, bsl b2 cs, .v (.int .i64 k)] = some (.v (.bool true)) := by
  rw [S, sem_succ (mf := c9) rfl]
  have h16 := s16 9 b l
  by_cases hl : l.length ≤ 80
  · simp only [hl, decide_true] at h16
    exact f9_part _ _ (by decide) b b2 l cs hl k hcs s12 h16 (fun b l h => s17 3 b l h) (fun b l h => s19 3 b l h) (fun b l h => s23 4 b l h k) (fun b l h => s22 3 b l h k)
  · simp only [hl, decide_false] at h16
    have h12 := s12
    unfold S at h12 h16
    unfold sl bsl at *
    simp (maxSteps := 100000000) [c9, h12, h16]

end Go.Mx
