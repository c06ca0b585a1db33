import Derived.Test.YtldfddgdcjaogaaDiD
/-
  Limits between all variables: the rounds of the program.
-/
namespace Go.Mx
set_option linter.unusedVariables false
set_option linter.unusedSimpArgs false
set_option linter.unusedSectionVars false
open Go

/-- In the midst of a round. -/
def fwP (g : MM) (k i j : Nat) : MM := fun r c => if r < i ∨ (r = i ∧ c < j) then fwS g k r c else g r c
theorem fwP_cur (g : MM) (k i j : Nat) : fwP g k i j i j = g i j := by unfold fwP; rw [if_neg (by omega)]
theorem fwP_col {g : MM} {k : Nat} (h : g k k = some 0) (i j r : Nat) : fwP g k i j r k = g r k := by
  unfold fwP; split
  · exact fw_col h r
  · rfl
theorem fwP_row {g : MM} {k : Nat} (h : g k k = some 0) (i j c : Nat) : fwP g k i j k c = g k c := by
  unfold fwP; split
  · exact fw_row h c
  · rfl
theorem fwP_succ (g : MM) (k i j : Nat) : upM (fwP g k i j) i j (fwS g k i j) = fwP g k i (j + 1) := by
  funext r c
  unfold upM fwP
  by_cases h : r = i ∧ c = j
  · obtain ⟨rfl, rfl⟩ := h
    rw [if_pos ⟨rfl, rfl⟩, if_pos (by omega)]
  · rw [if_neg h]
    by_cases h2 : r < i ∨ (r = i ∧ c < j)
    · rw [if_pos h2, if_pos (by omega)]
    · rw [if_neg h2, if_neg (by omega)]
theorem fwP_row_end (n : Nat) (g : MM) (k i : Nat) : mT n (fwP g k i n) = mT n (fwP g k (i + 1) 0) := by
  refine congrArg (gsl (eL eM) false) (tb2_ext ?_)
  intro r c _ hc
  unfold rlG fwP
  by_cases h2 : r < i ∨ (r = i ∧ c < n)
  · rw [if_pos h2, if_pos (by omega)]
  · rw [if_neg h2, if_neg (by omega)]
theorem fwP_end (n : Nat) (g : MM) (k : Nat) : mT n (fwP g k n 0) = mT n (fwS g k) := by
  refine congrArg (gsl (eL eM) false) (tb2_ext ?_)
  intro r c hr _
  unfold rlG fwP
  rw [if_pos (by omega)]
theorem fwP_zero (g : MM) (k : Nat) : fwP g k 0 0 = g := by
  funext r c
  unfold fwP
  rw [if_neg (by omega)]

theorem loop32_4 (call : Oracle) (fuel : Nat) (n : Nat) (hn : n ≤ 16) (g : MM) (hB : ∀ i j, Bd 65536000000 (g i j)) (k i : Nat) (hk : k < n) (hi : i < n) (hd : g k k = some 0)
    (h47 : ∀ x y, call 47 [mD (rl x), mD (rl y)] = some (mD (rl (less x y)))) (h48 : ∀ x y, (∀ a b, x = some a → y = some b → I64 (a + b)) → call 48 [mD (rl x), mD (rl y)] = some (mD (rl (plus x y))))
    (fu : Nat) (hf : 100 < fu) (st : St)
    (h0 : drops st h32_4 = L32_4 (ii n) (.own (mT n (fwP g k i 0))) (ii k) (ii i) (ii n) (ii k) (ii n) (ii i) (ii n) (ii 0)) :
    run.loopN (run call fuel b32_4) fu st = some (.ex 8, X32_8 (ii n) (.own (mT n (fwP g k (i + 1) 0))) (ii k) (ii n) (ii k) (ii n) (ii i)) := by
  rw [← fwP_row_end n g k i]
  refine loop_cnt call fuel h32_4 _ n (fun j => L32_4 (ii n) (.own (mT n (fwP g k i j))) (ii k) (ii i) (ii n) (ii k) (ii n) (ii i) (ii n) (ii j)) _ (by simp) ?_ (by simp) fu st (by rw [h0]; rfl) (by omega)
  intro j hj
  have hw := wrap_succ (i := j) (by omega)
  have e1 : rlG (fwP g k i j) i k = rl (g i k) := by unfold rlG; rw [fwP_col hd]
  have e2 : rlG (fwP g k i j) k j = rl (g k j) := by unfold rlG; rw [fwP_row hd]
  have e3 : rlG (fwP g k i j) i j = rl (g i j) := by unfold rlG; rw [fwP_cur]
  have g1 := h48 (g i k) (g k j) fun a b ha hb => by
    have := hB _ _ a ha
    have := hB _ _ b hb
    unfold I64; omega
  have g2 := h47 (g i j) (plus (g i k) (g k j))
  have hs := set_rlG (fwP g k i j) i j (fwS g k i j)
  rw [fwP_succ] at hs
  have g3 : call 47 [mD (rl (g i j)), mD (rl (plus (g i k) (g k j)))] = some (mD (rl (fwS g k i j))) := g2
  generalize rl (fwS g k i j) = y at *
  generalize rl (plus (g i k) (g k j)) = z at *
  rw [← e1, ← e2] at g1
  rw [← e3] at g3
  dsimp only [mT]
  generalize rlG (fwP g k i (j + 1)) = G' at *
  generalize rlG (fwP g k i j) = G at *
  simp [hj, hw, hi, hk, tb2_nth, nth_row, g1, g3, hs]

theorem loop32_3 (call : Oracle) (fuel : Nat) (hF : 100 < fuel) (n : Nat) (hn : n ≤ 16) (g : MM) (hB : ∀ i j, Bd 65536000000 (g i j)) (k : Nat) (hk : k < n) (hd : g k k = some 0)
    (h47 : ∀ x y, call 47 [mD (rl x), mD (rl y)] = some (mD (rl (less x y)))) (h48 : ∀ x y, (∀ a b, x = some a → y = some b → I64 (a + b)) → call 48 [mD (rl x), mD (rl y)] = some (mD (rl (plus x y))))
    (fu : Nat) (hf : 100 < fu) (st : St)
    (h0 : drops st h32_3 = L32_3 (ii n) (.own (mT n g)) (ii k) (ii n) (ii k) (ii n) (ii 0)) :
    run.loopN (run call fuel b32_3) fu st = some (.ex 6, X32_6 (ii n) (.own (mT n (fwS g k))) (ii n) (ii k)) := by
  rw [← fwP_end n g k]
  refine loop_cnt call fuel h32_3 _ n (fun i => L32_3 (ii n) (.own (mT n (fwP g k i 0))) (ii k) (ii n) (ii k) (ii n) (ii i)) _ (by simp) ?_ (by simp) fu st (by rw [h0, fwP_zero]; rfl) (by omega)
  intro i hi
  have hw := wrap_succ (i := i) (by omega)
  have hL := loop32_4 call fuel n hn g hB k i hk hi hd h47 h48 fuel hF
  simp [hi]
  rw [hL _ (by simp)]
  simp [hw]

theorem ngL_rl (a : Lm) : decide ((rl a).1 < 0) = ngL a := by cases a <;> rfl
theorem loop32_5 (call : Oracle) (fuel : Nat) (n : Nat) (hn : n ≤ 16) (g : MM) (k : Nat) (fu : Nat) (hf : 100 < fu) (st : St) (h0 : drops st h32_5 = L32_5 (ii n) (.own (mT n g)) (ii n) (ii k) (ii n) (ii 0)) :
    run.loopN (run call fuel b32_5) fu st = some (if ngD n g = true then (.ret, R32 (.own (gsl (eL eM) true [])) (bb false)) else (.ex 10, X32_10 (ii n) (.own (mT n g)) (ii n) (ii k))) := by
  refine loop_any call fuel h32_5 _ n (fun i => ngL (g i i)) (fun i => L32_5 (ii n) (.own (mT n g)) (ii n) (ii k) (ii n) (ii i)) (.ret, R32 (.own (gsl (eL eM) true [])) (bb false)) (.ex 10, X32_10 (ii n) (.own (mT n g)) (ii n) (ii k)) (by simp) (by simp) ?_ (by simp) fu st (by rw [h0]; rfl) (by omega)
  intro i hi _
  have hw := wrap_succ (i := i) (by omega)
  have e : decide ((rlG g i i).1 < 0) = ngL (g i i) := ngL_rl _
  rw [← e]
  by_cases h : (rlG g i i).1 < 0
  · simp [hi, tb2_nth, nth_row, h]
    rfl
  · simp [hi, hw, tb2_nth, nth_row, h]
end Go.Mx
