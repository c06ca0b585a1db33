import Derived.Test.YtgligngmbkkkkaaAxJ
/-
  The axis: all hours near one; the laws on it and on the fullest arc.
-/
namespace Go.Mx
set_option linter.unusedVariables false
set_option linter.unusedSimpArgs false
set_option linter.unusedSectionVars false
open Go

def bx (n : Int) : D := .nd (.bx false) [.v (.int .i64 n)]

theorem f38 (call : Oracle) (fuel : Nat) (h32 : ∀ a b : Int, call 32 [.v (.int .i64 a), .v (.int .i64 b)] = some (.v (.int .i64 (distZ a b)))) (x h tol : Int) :
    callF call fuel c38 [.v (.int .i64 x), bx h, bx tol] = some (.v (.bool (decide (tol < distZ h x)))) := by
  simp [c38, bx, h32]

def nearB (l : List Int) (tol : Int) (h : Nat) : Bool := l.all fun x => decide (distZ (h : Nat) x ≤ tol)

theorem any_near (l : List Int) (tol : Int) (h : Nat) : (l.any fun x => decide (tol < distZ (h : Nat) x)) = !nearB l tol h := by
  unfold nearB
  rw [Bool.eq_iff_iff]
  simp

def fixB (l : List Int) (tol : Int) : Bool := decide (filledZ l = 0) && (decide (0 ≤ tol) && decide (tol ≤ 6)) && (findFrom (nearB l tol) 0 12).isSome

def res22 (s : D) (tol : Int) : Option Nat → Option (Ex × St)
  | some _ => some (.ret, R22 (.sc (.bool true)))
  | none => some (.ex 0, X22_0)

set_option maxHeartbeats 1000000 in
theorem loop22_0 (call : Oracle) (fuel : Nat) (b : Bool) (l : List Int) (tol : Int) (hf : 100 < fuel)
    (h37 : ∀ h : Nat, call 37 [sl b l, .nd (.fn (.func 38) 0) [bx (h : Nat), bx tol]] = some (.v (.bool (!nearB l tol h)))) (st : St)
    (h0 : drops st h22_0 = L22_0 (.ro (sl b l)) (.own (bx tol)) (ii 0)) :
    run.loopN (run call fuel b22_0) fuel st = res22 (sl b l) tol (findFrom (nearB l tol) 0 12) := by
  generalize hT : findFrom (nearB l tol) 0 12 = T
  refine loop_rule (fun m st => ∃ i : Nat, i ≤ 12 ∧ m = 12 - i ∧ findFrom (nearB l tol) i (12 - i) = T ∧ drops st h22_0 = L22_0 (.ro (sl b l)) (.own (bx tol)) (ii (i : Nat)))
    (fun r => r = res22 (sl b l) tol T) ?_ 12 fuel st ⟨0, by omega, by omega, hT, by simpa using h0⟩ (by omega)
  rintro m st ⟨i, hi, hm, hq, hst⟩
  have e := h37 i
  unfold sl bx at e
  by_cases hlt : i < 12
  · have hw := wrap_succ (i := i) (by omega)
    obtain ⟨k, hk⟩ : ∃ k, 12 - i = k + 1 := ⟨11 - i, by omega⟩
    rw [hk, findFrom] at hq
    have h1 : (i : Int) < 12 := by omega
    cases hp : nearB l tol i with
    | true =>
      right
      simp only [hp, if_true] at hq
      rw [hp] at e
      refine ⟨.ret, _, by rw [b22_0, run_scr, hst]; simp [sl, bx, h1, e, hw, Mx.store, target, cellsOfD, flatOk, putCells, memB, Value.oneCell']; rfl, by simp, ?_⟩
      rw [← hq]
      simp [res22]
    | false =>
      left
      simp only [hp, Bool.false_eq_true, if_false] at hq
      rw [hp] at e
      refine ⟨_, by rw [b22_0, run_scr, hst]; simp [sl, bx, h1, e, hw, Mx.store, target, cellsOfD, flatOk, putCells, memB, Value.oneCell']; rfl, m - 1, by omega, i + 1, by omega, by omega, ?_, ?_⟩
      · rw [show 12 - (i + 1) = k by omega]; exact hq
      · simp [sl, bx]
  · right
    have : i = 12 := by omega
    subst this
    simp only [Nat.sub_self, findFrom] at hq
    refine ⟨.ex 0, _, by rw [b22_0, run_scr, hst]; simp [sl, bx]; rfl, by simp, ?_⟩
    rw [← hq]
    simp [res22]

theorem f22 (call : Oracle) (fuel : Nat) (b : Bool) (l : List Int) (tol : Int) (hf : 100 < fuel) (h33 : call 33 [sl b l] = some (.v (.int .i64 (filledZ l))))
    (h37 : ∀ h : Nat, call 37 [sl b l, .nd (.fn (.func 38) 0) [bx (h : Nat), bx tol]] = some (.v (.bool (!nearB l tol h)))) :
    callF call fuel c22 [sl b l, .v (.int .i64 tol)] = some (.v (.bool (fixB l tol))) := by
  have e := loop22_0 call fuel b l tol hf h37
  unfold sl at h33
  by_cases h : filledZ l = 0
  · rw [h] at h33
    by_cases h1 : tol < 0
    · have h1' : ¬ (0 ≤ tol) := by omega
      simp [c22, sl, h33, h1, fixB, h, h1', cellsOfD, flatOk, Value.oneCell', memB]
    · have h1' : 0 ≤ tol := by omega
      by_cases h2 : 6 < tol
      · have h2' : ¬ (tol ≤ 6) := by omega
        simp [c22, sl, h33, h1, h2, fixB, h, h1', h2', cellsOfD, flatOk, Value.oneCell', memB]
      · have h2' : tol ≤ 6 := by omega
        simp [c22, sl, h33, h1, h2, cellsOfD, flatOk, Value.oneCell', memB]
        rw [e]
        · cases hq : findFrom (nearB l tol) 0 12 <;> simp [res22, fixB, h, h1', h2', hq]
        · simp [sl, bx]
  · have h' : (filledZ l != 0) = true := by simpa using h
    simp [c22, sl, h33, h', fixB, h, cellsOfD, flatOk, Value.oneCell', memB]

end Go.Mx
