import Derived.Test.YtgligngmbkkkkaaAxE
/-
  The axis: the shortest arc.
-/
namespace Go.Mx
set_option linter.unusedVariables false
set_option linter.unusedSimpArgs false
set_option linter.unusedSectionVars false
open Go

/-- The first number from s on, of k ones, that is as wanted. -/
def findFrom (p : Nat → Bool) : Nat → Nat → Option Nat
  | _, 0 => none
  | s, k + 1 => if p s then some s else findFrom p (s + 1) k

def arcFrom (p : Nat → Nat → Bool) : Nat → Nat → Option (Nat × Nat)
  | _, 0 => none
  | n, k + 1 => match findFrom (p n) 0 12 with
    | some f => some (f, n)
    | none => arcFrom p (n + 1) k

abbrev ii (n : Int) : V := .sc (.int .i64 n)

def res17_1 (s : D) (n : Nat) : Option Nat → Option (Ex × St)
  | some f => some (.ret, R17 (ii (f : Nat)) (ii (n : Nat)) (ii 0))
  | none => some (.ex 2, X17_2 (.ro s) (ii (n : Nat)))

def res17_0 : Option (Nat × Nat) → Option (Ex × St)
  | some (f, n) => some (.ret, R17 (ii (f : Nat)) (ii (n : Nat)) (ii 0))
  | none => some (.ex 0, X17_0)

theorem loop17_1 (call : Oracle) (fuel : Nat) (b : Bool) (l : List Int) (c : Nat → Nat) (n : Nat) (hf : 100 < fuel)
    (h34 : ∀ f : Nat, call 34 [sl b l, .v (.int .i64 (f : Nat)), .v (.int .i64 (n : Nat))] = some (.v (.int .i64 (c f : Nat)))) (st : St)
    (h0 : drops st h17_1 = L17_1 (.ro (sl b l)) (ii (n : Nat)) (ii 0)) :
    run.loopN (run call fuel b17_1) fuel st = res17_1 (sl b l) n (findFrom (fun f => decide (c f = l.length)) 0 12) := by
  generalize hT : findFrom (fun f => decide (c f = l.length)) 0 12 = T
  refine loop_rule (fun m st => ∃ i : Nat, i ≤ 12 ∧ m = 12 - i ∧ findFrom (fun f => decide (c f = l.length)) i (12 - i) = T ∧ drops st h17_1 = L17_1 (.ro (sl b l)) (ii (n : Nat)) (ii (i : Nat)))
    (fun r => r = res17_1 (sl b l) n T) ?_ 12 fuel st ⟨0, by omega, by omega, hT, by simpa using h0⟩ (by omega)
  rintro m st ⟨i, hi, hm, hq, hst⟩
  have e34 := h34 i
  unfold sl at e34
  by_cases hlt : i < 12
  · have hw := wrap_succ (i := i) (by omega)
    obtain ⟨k, hk⟩ : ∃ k, 12 - i = k + 1 := ⟨11 - i, by omega⟩
    rw [hk, findFrom] at hq
    have h1 : (i : Int) < 12 := by omega
    by_cases hp : c i = l.length
    · right
      simp only [hp, decide_true, if_true] at hq
      refine ⟨.ret, _, by rw [b17_1, run_scr, hst]; simp [sl, h1, e34, hp, hw]; rfl, by simp, ?_⟩
      rw [← hq]
      simp [res17_1]
    · left
      have hp' : ¬ ((c i : Int) = (l.length : Int)) := by omega
      simp only [hp, decide_false, Bool.false_eq_true, if_false] at hq
      refine ⟨_, by rw [b17_1, run_scr, hst]; simp [sl, h1, e34, hp', hw]; rfl, m - 1, by omega, i + 1, by omega, by omega, ?_, ?_⟩
      · rw [show 12 - (i + 1) = k by omega]; exact hq
      · simp [sl]
  · right
    have : i = 12 := by omega
    subst this
    simp only [Nat.sub_self, findFrom] at hq
    refine ⟨.ex 2, _, by rw [b17_1, run_scr, hst]; simp [sl]; rfl, by simp, ?_⟩
    rw [← hq]
    simp [sl, res17_1]

theorem loop17_0 (call : Oracle) (fuel : Nat) (b : Bool) (l : List Int) (c : Nat → Nat → Nat) (hf : 100 < fuel)
    (h34 : ∀ f n : Nat, call 34 [sl b l, .v (.int .i64 (f : Nat)), .v (.int .i64 (n : Nat))] = some (.v (.int .i64 (c n f : Nat)))) (st : St)
    (h0 : drops st h17_0 = L17_0 (.ro (sl b l)) (ii 1)) :
    run.loopN (run call fuel b17_0) fuel st = res17_0 (arcFrom (fun n f => decide (c n f = l.length)) 1 11) := by
  generalize hT : arcFrom (fun n f => decide (c n f = l.length)) 1 11 = T
  refine loop_rule (fun m st => ∃ i : Nat, 1 ≤ i ∧ i ≤ 12 ∧ m = 12 - i ∧ arcFrom (fun n f => decide (c n f = l.length)) i (12 - i) = T ∧ drops st h17_0 = L17_0 (.ro (sl b l)) (ii (i : Nat)))
    (fun r => r = res17_0 T) ?_ 11 fuel st ⟨1, by omega, by omega, by omega, hT, by simpa using h0⟩ (by omega)
  rintro m st ⟨i, h1i, hi, hm, hq, hst⟩
  have e := loop17_1 call fuel b l (c i) i hf (fun f => h34 f i)
  by_cases hlt : i < 12
  · have hw := wrap_succ (i := i) (by omega)
    obtain ⟨k, hk⟩ : ∃ k, 12 - i = k + 1 := ⟨11 - i, by omega⟩
    rw [hk, arcFrom] at hq
    have h1 : (i : Int) < 12 := by omega
    cases hfi : findFrom (fun f => decide (c i f = l.length)) 0 12 with
    | some f =>
      right
      simp only [hfi, res17_1] at hq e
      refine ⟨.ret, _, by rw [b17_0, run_scr, hst]; simp [sl, h1]; rw [e _ (by simp [sl])], by simp, ?_⟩
      rw [← hq]
      simp [res17_0]
    | none =>
      left
      simp only [hfi, res17_1] at hq e
      refine ⟨_, by rw [b17_0, run_scr, hst]; simp [sl, h1]; rw [e _ (by simp [sl])]; simp [hw]; rfl, m - 1, by omega, i + 1, by omega, by omega, by omega, ?_, ?_⟩
      · rw [show 12 - (i + 1) = k by omega]; exact hq
      · simp [sl]
  · right
    have : i = 12 := by omega
    subst this
    simp only [Nat.sub_self, arcFrom] at hq
    refine ⟨.ex 0, _, by rw [b17_0, run_scr, hst]; simp [sl]; rfl, by simp, ?_⟩
    rw [← hq]
    simp [res17_0]

def tri (a b c : Int) : D := .nd .tu [.v (.int .i64 a), .v (.int .i64 b), .v (.int .i64 c)]

def arcD (e : Int) (p : Nat → Nat → Bool) : D := if e = 0 then (match arcFrom p 1 11 with | some (f, n) => tri f n 0 | none => tri 0 12 0) else tri 0 0 e

theorem f17 (call : Oracle) (fuel : Nat) (b : Bool) (l : List Int) (c : Nat → Nat → Nat) (hf : 100 < fuel) (h33 : call 33 [sl b l] = some (.v (.int .i64 (filledZ l))))
    (h34 : ∀ f n : Nat, call 34 [sl b l, .v (.int .i64 (f : Nat)), .v (.int .i64 (n : Nat))] = some (.v (.int .i64 (c n f : Nat)))) :
    callF call fuel c17 [sl b l] = some (arcD (filledZ l) (fun n f => decide (c n f = l.length))) := by
  have e := loop17_0 call fuel b l c hf h34
  by_cases h : filledZ l = 0
  · unfold sl at h33
    rw [h] at h33
    simp [c17, sl, h33]
    rw [e]
    · unfold arcD
      rw [if_pos h]
      cases arcFrom (fun n f => decide (c n f = l.length)) 1 11 with
      | none => simp [tri, res17_0]
      | some q => simp [tri, res17_0]
    · simp [sl]
  · have h' : (filledZ l != 0) = true := by simpa using h
    unfold sl at h33
    simp [c17, sl, h33, h', arcD, h, tri]

def res18_1 (s : D) (n : Nat) : Option Nat → Option (Ex × St)
  | some f => some (.ret, R18 (ii (f : Nat)) (ii (n : Nat)) (ii 0))
  | none => some (.ex 2, X18_2 (.ro s) (ii (n : Nat)))

def res18_0 : Option (Nat × Nat) → Option (Ex × St)
  | some (f, n) => some (.ret, R18 (ii (f : Nat)) (ii (n : Nat)) (ii 0))
  | none => some (.ex 0, X18_0)

theorem loop18_1 (call : Oracle) (fuel : Nat) (b : Bool) (l : List Int) (c : Nat → Nat) (n : Nat) (hf : 100 < fuel)
    (h36 : ∀ f : Nat, call 36 [sl b l, .v (.int .i64 (f : Nat)), .v (.int .i64 (n : Nat))] = some (.v (.int .i64 (c f : Nat)))) (st : St)
    (h0 : drops st h18_1 = L18_1 (.ro (sl b l)) (ii (n : Nat)) (ii 0)) :
    run.loopN (run call fuel b18_1) fuel st = res18_1 (sl b l) n (findFrom (fun f => decide (c f = l.length)) 0 12) := by
  generalize hT : findFrom (fun f => decide (c f = l.length)) 0 12 = T
  refine loop_rule (fun m st => ∃ i : Nat, i ≤ 12 ∧ m = 12 - i ∧ findFrom (fun f => decide (c f = l.length)) i (12 - i) = T ∧ drops st h18_1 = L18_1 (.ro (sl b l)) (ii (n : Nat)) (ii (i : Nat)))
    (fun r => r = res18_1 (sl b l) n T) ?_ 12 fuel st ⟨0, by omega, by omega, hT, by simpa using h0⟩ (by omega)
  rintro m st ⟨i, hi, hm, hq, hst⟩
  have e36 := h36 i
  unfold sl at e36
  by_cases hlt : i < 12
  · have hw := wrap_succ (i := i) (by omega)
    obtain ⟨k, hk⟩ : ∃ k, 12 - i = k + 1 := ⟨11 - i, by omega⟩
    rw [hk, findFrom] at hq
    have h1 : (i : Int) < 12 := by omega
    by_cases hp : c i = l.length
    · right
      simp only [hp, decide_true, if_true] at hq
      refine ⟨.ret, _, by rw [b18_1, run_scr, hst]; simp [sl, h1, e36, hp, hw]; rfl, by simp, ?_⟩
      rw [← hq]
      simp [res18_1]
    · left
      have hp' : ¬ ((c i : Int) = (l.length : Int)) := by omega
      simp only [hp, decide_false, Bool.false_eq_true, if_false] at hq
      refine ⟨_, by rw [b18_1, run_scr, hst]; simp [sl, h1, e36, hp', hw]; rfl, m - 1, by omega, i + 1, by omega, by omega, ?_, ?_⟩
      · rw [show 12 - (i + 1) = k by omega]; exact hq
      · simp [sl]
  · right
    have : i = 12 := by omega
    subst this
    simp only [Nat.sub_self, findFrom] at hq
    refine ⟨.ex 2, _, by rw [b18_1, run_scr, hst]; simp [sl]; rfl, by simp, ?_⟩
    rw [← hq]
    simp [sl, res18_1]

theorem loop18_0 (call : Oracle) (fuel : Nat) (b : Bool) (l : List Int) (c : Nat → Nat → Nat) (hf : 100 < fuel)
    (h36 : ∀ f n : Nat, call 36 [sl b l, .v (.int .i64 (f : Nat)), .v (.int .i64 (n : Nat))] = some (.v (.int .i64 (c n f : Nat)))) (st : St)
    (h0 : drops st h18_0 = L18_0 (.ro (sl b l)) (ii 1)) :
    run.loopN (run call fuel b18_0) fuel st = res18_0 (arcFrom (fun n f => decide (c n f = l.length)) 1 11) := by
  generalize hT : arcFrom (fun n f => decide (c n f = l.length)) 1 11 = T
  refine loop_rule (fun m st => ∃ i : Nat, 1 ≤ i ∧ i ≤ 12 ∧ m = 12 - i ∧ arcFrom (fun n f => decide (c n f = l.length)) i (12 - i) = T ∧ drops st h18_0 = L18_0 (.ro (sl b l)) (ii (i : Nat)))
    (fun r => r = res18_0 T) ?_ 11 fuel st ⟨1, by omega, by omega, by omega, hT, by simpa using h0⟩ (by omega)
  rintro m st ⟨i, h1i, hi, hm, hq, hst⟩
  have e := loop18_1 call fuel b l (c i) i hf (fun f => h36 f i)
  by_cases hlt : i < 12
  · have hw := wrap_succ (i := i) (by omega)
    obtain ⟨k, hk⟩ : ∃ k, 12 - i = k + 1 := ⟨11 - i, by omega⟩
    rw [hk, arcFrom] at hq
    have h1 : (i : Int) < 12 := by omega
    cases hfi : findFrom (fun f => decide (c i f = l.length)) 0 12 with
    | some f =>
      right
      simp only [hfi, res18_1] at hq e
      refine ⟨.ret, _, by rw [b18_0, run_scr, hst]; simp [sl, h1]; rw [e _ (by simp [sl])], by simp, ?_⟩
      rw [← hq]
      simp [res18_0]
    | none =>
      left
      simp only [hfi, res18_1] at hq e
      refine ⟨_, by rw [b18_0, run_scr, hst]; simp [sl, h1]; rw [e _ (by simp [sl])]; simp [hw]; rfl, m - 1, by omega, i + 1, by omega, by omega, by omega, ?_, ?_⟩
      · rw [show 12 - (i + 1) = k by omega]; exact hq
      · simp [sl]
  · right
    have : i = 12 := by omega
    subst this
    simp only [Nat.sub_self, arcFrom] at hq
    refine ⟨.ex 0, _, by rw [b18_0, run_scr, hst]; simp [sl]; rfl, by simp, ?_⟩
    rw [← hq]
    simp [res18_0]

theorem f18 (call : Oracle) (fuel : Nat) (b : Bool) (l : List Int) (c : Nat → Nat → Nat) (hf : 100 < fuel) (h35 : call 35 [sl b l] = some (.v (.int .i64 (checkZ l))))
    (h36 : ∀ f n : Nat, call 36 [sl b l, .v (.int .i64 (f : Nat)), .v (.int .i64 (n : Nat))] = some (.v (.int .i64 (c n f : Nat)))) :
    callF call fuel c18 [sl b l] = some (arcD (filledZ l) (fun n f => decide (c n f = l.length))) := by
  have e := loop18_0 call fuel b l c hf h36
  by_cases h : checkZ l = 0
  · rw [h] at h35
    cases l with
    | nil =>
      simp [sl] at h35
      simp [c18, sl, h35, filledZ, h, arcD, tri]
    | cons x xs =>
      have hf0 : filledZ (x :: xs) = 0 := by simp [filledZ, h]
      have e0 : ¬ ((xs.length : Int) + 1 = 0) := by omega
      unfold sl at h35
      simp at h35
      simp [c18, sl, h35, e0]
      rw [e]
      · unfold arcD
        rw [if_pos hf0]
        cases arcFrom (fun n f => decide (c n f = (x :: xs).length)) 1 11 with
        | none => simp [tri, res18_0]
        | some q => simp [tri, res18_0]
      · simp [sl]
  · have h' : (checkZ l != 0) = true := by simpa using h
    have hf0 : filledZ l = checkZ l := by simp [filledZ, h]
    unfold sl at h35
    simp [c18, sl, h35, h', arcD, hf0, h, tri]

end Go.Mx
