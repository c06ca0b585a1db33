import Derived.Test.YtldfddgdcjaogaaDiG
/-
  Limits between all variables: the rounds of the reference.
-/
namespace Go.Mx
set_option linter.unusedVariables false
set_option linter.unusedSimpArgs false
set_option linter.unusedSectionVars false
open Go

theorem m_bd {n : Nat} {l : List Bn} (h : VB n l) (i r c : Nat) : Bd 200000000000 (mA l i r c) :=
  (m0_bd (l := l.take i) (fun c hc => h.c c (List.mem_of_mem_take hc)) r c).mono (by omega)
theorem loop35_2 (call : Oracle) (fuel : Nat) (n : Nat) (l : List Bn) (h : VB n l) (b : Bool) (fu : Nat) (hf : 100 < fu) (st : St)
    (h0 : drops st h35_2 = L35_2 (ii n) (.ro (sd b (nbL l))) (.own (iT n (mA l 0))) (ii 0)) :
    run.loopN (run call fuel b35_2) fu st = some (.ex 4, X35_4 (ii n) (.own (iT n (m0 l)))) := by
  have hlen := h.len
  have e0 : m0 l = mA l l.length := by unfold mA; rw [List.take_length]; rfl
  rw [e0]
  refine loop_cnt call fuel h35_2 _ l.length (fun i => L35_2 (ii n) (.ro (sd b (nbL l))) (.own (iT n (mA l i))) (ii i)) _ (by simp) ?_ (by simp) fu st (by rw [h0]; rfl) (by omega)
  intro i hi
  have hw := wrap_succ (i := i) (by omega)
  have hc := h.at hi
  have hx := h.c _ (nth_mem zN hi)
  have hb := m_bd h i
  rw [mA_succ hi]
  generalize mA l i = g at *
  generalize hq : nth l zN i = c at *
  obtain ⟨a, b', x⟩ := c
  have h1 : a < n := hc.1
  have h2 : b' < n := hc.2.1
  have e : min (lzG g a b') x = lz (less (g a b') (some x)) := by
    rw [lz_less (hb _ _) (fun v hv => by cases hv; have := hx; simp at this; omega)]; rfl
  have hs := set_lzG g a b' (less (g a b') (some x))
  have ha : addB g (a, b', x) = upM g a b' (less (g a b') (some x)) := rfl
  rw [ha]
  generalize lz (less (g a b') (some x)) = y at *
  simp [hi, hw, hq, h1, h2, tb2_nth, nth_row, e, hs]

theorem iP_row_end (n : Nat) (g : MM) (k i : Nat) : iT n (fwP g k i n) = iT n (fwP g k (i + 1) 0) := by
  refine congrArg (gsl eII false) (tb2_ext ?_)
  intro r c _ hc
  unfold lzG fwP
  by_cases h2 : r < i ∨ (r = i ∧ c < n)
  · rw [if_pos h2, if_pos (by omega)]
  · rw [if_neg h2, if_neg (by omega)]
theorem iP_end (n : Nat) (g : MM) (k : Nat) : iT n (fwP g k n 0) = iT n (fwS g k) := by
  refine congrArg (gsl eII false) (tb2_ext ?_)
  intro r c hr _
  unfold lzG fwP
  rw [if_pos (by omega)]

theorem loop35_5 (call : Oracle) (fuel : Nat) (n : Nat) (hn : n ≤ 16) (g : MM) (hB : ∀ i j, Bd 65536000000 (g i j)) (k i : Nat) (hk : k < n) (hi : i < n) (hd : g k k = some 0)
    (fu : Nat) (hf : 100 < fu) (st : St)
    (h0 : drops st h35_5 = L35_5 (ii n) (.own (iT n (fwP g k i 0))) (ii k) (ii i) (ii 0)) :
    run.loopN (run call fuel b35_5) fu st = some (.ex 10, X35_10 (ii n) (.own (iT n (fwP g k (i + 1) 0))) (ii k) (ii i)) := by
  rw [← iP_row_end n g k i]
  refine loop_cnt call fuel h35_5 _ n (fun j => L35_5 (ii n) (.own (iT n (fwP g k i j))) (ii k) (ii i) (ii j)) _ (by simp) ?_ (by simp) fu st (by rw [h0]; rfl) (by omega)
  intro j hj
  have hw := wrap_succ (i := j) (by omega)
  have e1 : lzG (fwP g k i j) i k = lz (g i k) := by unfold lzG; rw [fwP_col hd]
  have e2 : lzG (fwP g k i j) k j = lz (g k j) := by unfold lzG; rw [fwP_row hd]
  have e3 : lzG (fwP g k i j) i j = lz (g i j) := by unfold lzG; rw [fwP_cur]
  have hs := set_lzG (fwP g k i j) i j (fwS g k i j)
  rw [fwP_succ] at hs
  have k1 := lz_big (hB i k)
  have k2 := lz_big (hB k j)
  dsimp only [iT]
  by_cases c1 : g i k = none
  · have e4 : fwS g k i j = g i j := by unfold fwS; rw [c1]; simp
    have e5 : fwP g k i (j + 1) = fwP g k i j := by
      rw [← fwP_succ, e4]
      funext r c
      unfold upM
      split
      · rename_i h; rw [h.1, h.2, fwP_cur]
      · rfl
    rw [e5]
    have k3 : lzG (fwP g k i j) i k = 1099511627776 := by rw [e1, c1]; rfl
    generalize lzG (fwP g k i j) = G at *
    simp [hj, hw, hi, hk, tb2_nth, nth_row, k3]
  by_cases c2 : g k j = none
  · have e4 : fwS g k i j = g i j := by unfold fwS; rw [c2]; simp
    have e5 : fwP g k i (j + 1) = fwP g k i j := by
      rw [← fwP_succ, e4]
      funext r c
      unfold upM
      split
      · rename_i h; rw [h.1, h.2, fwP_cur]
      · rfl
    rw [e5]
    have k3 : lzG (fwP g k i j) k j = 1099511627776 := by rw [e2, c2]; rfl
    have k4 : ¬ lzG (fwP g k i j) i k = 1099511627776 := by rw [e1, k1]; exact c1
    generalize lzG (fwP g k i j) = G at *
    simp [hj, hw, hi, hk, tb2_nth, nth_row, k3, k4]
  have k3 : ¬ lzG (fwP g k i j) k j = 1099511627776 := by rw [e2, k2]; exact c2
  have k4 : ¬ lzG (fwP g k i j) i k = 1099511627776 := by rw [e1, k1]; exact c1
  have k5 : min (lzG (fwP g k i j) i j) (IntKind.i64.wrap (lzG (fwP g k i j) i k + lzG (fwP g k i j) k j)) = lz (fwS g k i j) := by
    rw [e1, e2, e3]
    have hx := hB i k
    have hy := hB k j
    have hz := hB i j
    unfold fwS
    generalize g i k = x at *
    generalize g k j = y at *
    cases x with
    | none => exact absurd rfl c1
    | some x =>
      cases y with
      | none => exact absurd rfl c2
      | some y =>
        have := hx x rfl
        have := hy y rfl
        rw [plus_some, lz_less (hz.mono (by omega)) (fun v hv => by cases hv; omega), lz_some, lz_some, lz_some, wrap_eq (by unfold I64; omega)]
  generalize lz (fwS g k i j) = y at *
  generalize lzG (fwP g k i (j + 1)) = G' at *
  generalize lzG (fwP g k i j) = G at *
  simp [hj, hw, hi, hk, tb2_nth, nth_row, k3, k4, k5, hs]

theorem ngL_lz (a : Lm) : decide (lz a < 0) = ngL a := by cases a <;> rfl
theorem loop35_4 (call : Oracle) (fuel : Nat) (hF : 100 < fuel) (n : Nat) (hn : n ≤ 16) (g : MM) (hB : ∀ i j, Bd 65536000000 (g i j)) (k : Nat) (hk : k < n) (hd : g k k = some 0)
    (fu : Nat) (hf : 100 < fu) (st : St) (h0 : drops st h35_4 = L35_4 (ii n) (.own (iT n g)) (ii k) (ii 0)) :
    run.loopN (run call fuel b35_4) fu st = some (((List.range n).find? fun i => ngL (fwS g k i i)).elim (.ex 8, X35_8 (ii n) (.own (iT n (fwS g k))) (ii k)) fun i => (.ret, R35 (.own (iT n (fwP g k (i + 1) 0))))) := by
  rw [← iP_end n g k]
  refine loop_find call fuel h35_4 _ n (fun i => ngL (fwS g k i i)) (fun i => L35_4 (ii n) (.own (iT n (fwP g k i 0))) (ii k) (ii i)) (fun i => (.ret, R35 (.own (iT n (fwP g k (i + 1) 0))))) _ (by simp) (by simp) ?_ (by simp) fu st (by rw [h0, fwP_zero]; rfl) (by omega)
  intro i hi _
  have hw := wrap_succ (i := i) (by omega)
  have hL := loop35_5 call fuel n hn g hB k i hk hi hd fuel hF
  have e : decide (lzG (fwP g k (i + 1) 0) i i < 0) = ngL (fwS g k i i) := by
    rw [← ngL_lz]; unfold lzG fwP; rw [if_pos (by omega)]
  simp [hi]
  rw [hL _ (by simp)]
  rw [← e]
  dsimp only [iT]
  generalize lzG (fwP g k (i + 1) 0) = G at *
  by_cases c : G i i < 0
  · simp [hi, tb2_nth, nth_row, c]
  · simp [hi, tb2_nth, nth_row, c, hw]
end Go.Mx
