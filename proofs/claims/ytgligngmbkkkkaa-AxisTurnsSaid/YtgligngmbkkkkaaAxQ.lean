import Derived.Test.YtgligngmbkkkkaaAxP
/-
  The axis: the law on turning all hours.
-/
namespace Go.Mx
set_option linter.unusedVariables false
set_option linter.unusedSimpArgs false
set_option linter.unusedSectionVars false
open Go

def tuD (e : Int) : D := .nd .tu [.hole false, .v (.int .i64 e)]

set_option maxHeartbeats 4000000 in
set_option maxRecDepth 100000 in
theorem qloop11_0 (call : Oracle) (fuel : Nat) (hf : 100 < fuel) (b : Bool) (l l' : List Int) (hl : l.length ≤ 80) (n : Int) (r : Nat) (hm : modZ n 12 = (r : Int)) (t : Turn l l' r)
    (h15 : ∀ a b : Int, b ≠ 0 → call 15 [.v (.int .i64 a), .v (.int .i64 b)] = some (.v (.int .i64 (modZ a b)))) (st : St)
    (h0 : drops st qh11_0 = qL11_0 (.ro (sl b l)) (ii n) (.own (sl b l')) (.own (sl false (cntH l))) (.own (sl false (cntH l'))) (ii 0) (.ref 45 []) (.own (tuD 0)) (.ref 7 []) (.ref 135 []) (.own (tuD 0)) (.ref 27 []) (.ref 140 []) (.own (tuD 0)) (.ref 29 [])) :
    run.loopN (run call fuel qb11_0) fuel st = some (.ex 0, qX11_0 (.ro (sl b l)) (ii n) (.own (sl b l')) (.own (sl false (cntH l))) (.own (sl false (cntH l'))) (.ref 45 []) (.own (tuD 0)) (.ref 7 []) (.ref 135 []) (.own (tuD 0)) (.ref 27 []) (.ref 140 []) (.own (tuD 0)) (.ref 29 [])) := by
  refine loop_rule (fun m st => ∃ i : Nat, i ≤ 12 ∧ m = 12 - i ∧ drops st qh11_0 = qL11_0 (.ro (sl b l)) (ii n) (.own (sl b l')) (.own (sl false (cntH l))) (.own (sl false (cntH l'))) (ii (i : Nat)) (.ref 45 []) (.own (tuD 0)) (.ref 7 []) (.ref 135 []) (.own (tuD 0)) (.ref 27 []) (.ref 140 []) (.own (tuD 0)) (.ref 29 []))
    (fun q => q = some (.ex 0, qX11_0 (.ro (sl b l)) (ii n) (.own (sl b l')) (.own (sl false (cntH l))) (.own (sl false (cntH l'))) (.ref 45 []) (.own (tuD 0)) (.ref 7 []) (.ref 135 []) (.own (tuD 0)) (.ref 27 []) (.ref 140 []) (.own (tuD 0)) (.ref 29 []))) ?_ 12 fuel st ⟨0, by omega, by omega, by simpa using h0⟩ (by omega)
  rintro m st ⟨i, hi, hm', hst⟩
  have hxl := cntH_len l
  have hyl := cntH_len l'
  by_cases hlt : i < 12
  · left
    have hw := wrap_succ (i := i) (by omega)
    have h1 : (i : Int) < 12 := by omega
    have hlt2 : (i + r) % 12 < 12 := Nat.mod_lt _ (by omega)
    have e1 := cntH_get l hlt
    have e2 := cntH_get l' hlt2
    rw [t.cnt hlt] at e2
    have hmm : modZ (IntKind.i64.wrap ((i : Int) + (r : Int))) 12 = (((i + r) % 12 : Nat) : Int) := fin_t1 ⟨i, hlt⟩ ⟨r, t.lt⟩
    generalize (i + r) % 12 = j at *
    generalize cntH l = xc at *
    generalize cntH l' = yc at *
    generalize (l.countP fun x => x == (i : Int)) = q at *
    have hi' : i < xc.length := by omega
    have hj' : j < yc.length := by omega
    have g1 : xc[i] = (q : Int) := by rw [List.getElem?_eq_getElem hi'] at e1; exact Option.some.inj e1
    have g2 : yc[j] = (q : Int) := by rw [List.getElem?_eq_getElem hj'] at e2; exact Option.some.inj e2
    refine ⟨_, by rw [qb11_0, run_scr, hst]; simp [sl, tuD, h1, hi', hj', g1, g2, h15, hm, hmm, hw, isOwn]; rfl, m - 1, by omega, i + 1, by omega, by omega, ?_⟩
    simp [sl, tuD]
  · right
    have : i = 12 := by omega
    subst this
    refine ⟨.ex 0, _, by rw [qb11_0, run_scr, hst]; simp [sl, tuD]; rfl, by simp, ?_⟩
    simp [sl, tuD]

end Go.Mx
