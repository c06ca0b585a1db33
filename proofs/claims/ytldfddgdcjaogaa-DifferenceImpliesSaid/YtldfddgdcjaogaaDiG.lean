import Derived.Test.YtldfddgdcjaogaaDiF
/-
  Limits between all variables: the reference.
-/
namespace Go.Mx
set_option linter.unusedVariables false
set_option linter.unusedSimpArgs false
set_option linter.unusedSectionVars false
open Go

/-- A limit as a number of the reference. -/
def lz : Lm → Int
  | none => 1099511627776
  | some v => v
@[simp] theorem lz_none : lz none = 1099511627776 := rfl
@[simp] theorem lz_some (v : Int) : lz (some v) = v := rfl
theorem lz_big {a : Lm} (h : Bd 65536000000 a) : (lz a = 1099511627776) ↔ a = none := by
  cases a with
  | none => simp
  | some v => have := h v rfl; simp; omega
theorem lz_less {a : Lm} (h : Bd 200000000000 a) {c : Lm} (hc : Bd 200000000000 c) : lz (less a c) = min (lz a) (lz c) := by
  cases a with
  | none =>
    cases c with
    | none => rfl
    | some c => have := hc c rfl; simp; omega
  | some a =>
    have := h a rfl
    cases c with
    | none => simp; omega
    | some c =>
      rw [less_some]
      split <;> simp <;> omega
def lzG (g : MM) : Nat → Nat → Int := fun i j => lz (g i j)
abbrev eII : En (Bool × List Int) := eL (eI .i64)
abbrev iT (n : Nat) (g : MM) : D := gsl eII false (tb2 n n (lzG g))
theorem set_lzG (g : MM) (i j : Nat) (x : Lm) : updF (lzG g) i (updF (lzG g i) j (lz x)) = lzG (upM g i j x) := by
  funext r c
  unfold updF lzG upM
  by_cases h1 : r = i
  · subst h1
    by_cases h2 : c = j
    · simp [h2]
    · simp [h2]
  · simp [h1]

def inR (i j c : Nat) : Int := if c < j ∧ i ≠ c then 1099511627776 else 0
theorem inR_zero (i : Nat) : (fun c => inR i 0 c) = fun _ => 0 := by funext c; unfold inR; rw [if_neg (by omega)]
theorem inR_eq (i : Nat) : updF (inR i i) i 0 = inR i (i + 1) := by
  funext c
  unfold updF inR
  by_cases h : c = i
  · subst h; rw [if_pos rfl, if_neg (by omega)]
  · rw [if_neg h]
    by_cases h2 : c < i ∧ i ≠ c
    · rw [if_pos h2, if_pos (by omega)]
    · rw [if_neg h2, if_neg (by omega)]
theorem inR_same (i : Nat) : inR i i = inR i (i + 1) := by
  funext c
  unfold inR
  by_cases h2 : c < i ∧ i ≠ c
  · rw [if_pos h2, if_pos (by omega)]
  · rw [if_neg h2, if_neg (by omega)]
theorem inR_ne (i j : Nat) (h : ¬ i = j) : updF (inR i j) j 1099511627776 = inR i (j + 1) := by
  funext c
  unfold updF inR
  by_cases hc : c = j
  · subst hc; rw [if_pos rfl, if_pos (by omega)]
  · rw [if_neg hc]
    by_cases h2 : c < j ∧ i ≠ c
    · rw [if_pos h2, if_pos (by omega)]
    · rw [if_neg h2, if_neg (by omega)]
theorem inR_end (n i : Nat) : row n (inR i n) = row n (lzG idM i) := row_ext _ fun c hc => by
  unfold inR lzG idM
  by_cases h : i = c
  · rw [if_neg (by omega), if_pos h]; rfl
  · rw [if_pos ⟨hc, h⟩, if_neg h]; rfl

theorem loop35_1 (call : Oracle) (fuel : Nat) (n : Nat) (hn : n ≤ 16) (d o : D) (i : Nat) (hi : i < n) (fu : Nat) (hf : 100 < fu) (st : St)
    (h0 : drops st h35_1 = L35_1 (ii n) (.ro d) (.own o) (ii i) (.own (si false (row n (inR i 0)))) (ii 0)) :
    run.loopN (run call fuel b35_1) fu st = some (.ex 2, X35_2 (ii n) (.ro d) (.own o) (ii i) (.own (si false (row n (inR i n))))) := by
  refine loop_cnt call fuel h35_1 _ n (fun j => L35_1 (ii n) (.ro d) (.own o) (ii i) (.own (si false (row n (inR i j)))) (ii j)) _ (by simp) ?_ (by simp) fu st (by rw [h0]; rfl) (by omega)
  intro j hj
  have hw := wrap_succ (i := j) (by omega)
  by_cases h : i = j
  · subst h
    have e := inR_same i
    rw [← e]
    simp [hj, hw]
  · have h' : ¬ (i : Int) = (j : Int) := by omega
    have e := inR_ne i j h
    simp [hj, hw, h, h', e]
theorem loop35_0 (call : Oracle) (fuel : Nat) (hF : 100 < fuel) (n : Nat) (hn : n ≤ 16) (d : D) (fu : Nat) (hf : 100 < fu) (st : St)
    (h0 : drops st h35_0 = L35_0 (ii n) (.ro d) (.own (gsl eII true [])) (ii 0)) :
    run.loopN (run call fuel b35_0) fu st = some (.ex 0, X35_0 (ii n) (.ro d) (.own (gsl eII (n == 0) (tb2 n n (lzG idM))))) := by
  refine loop_cnt call fuel h35_0 _ n (fun i => L35_0 (ii n) (.ro d) (.own (gsl eII (i == 0) (tb2 i n (lzG idM)))) (ii i)) _ (by simp) ?_ (by simp) fu st (by rw [h0]; rfl) (by omega)
  intro i hi
  have hw := wrap_succ (i := i) (by omega)
  have hL := loop35_1 call fuel n hn d (gsl eII (i == 0) (tb2 i n (lzG idM))) i hi fuel hF
  have hm : n ≤ most := by unfold most; omega
  have hm2 : i + 1 ≤ most := by unfold most; omega
  have hr : List.replicate n (0 : Int) = row n (inR i 0) := by rw [row_rep]; exact congrArg (row n) (inR_zero i).symm
  have he := inR_end n i
  have hs := tb2_succ i n (lzG idM)
  simp [hi, hm, hr]
  rw [hL _ (by simp)]
  rw [he]
  simp [hw, hm2, ← hs]
end Go.Mx
