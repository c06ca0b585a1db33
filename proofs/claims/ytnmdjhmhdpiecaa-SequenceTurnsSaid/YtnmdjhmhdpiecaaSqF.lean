import Derived.Test.YtnmdjhmhdpiecaaSqE
/-
  Sequences: numbers of orders, plainly; the order with a number, the number of an order.
-/
namespace Go.Mx
set_option linter.unusedVariables false
set_option linter.unusedSimpArgs false
set_option linter.unusedSectionVars false
open Go

/-- How many orders begin with less. -/
def psum (a : NA) (w : Nat → Nat) (s : Nat) : Nat → Nat
  | 0 => 0
  | v + 1 => if rdy a s v = true then psum a w s v + w (s ||| pw v) else psum a w s v
theorem psum_mono {a : NA} {w : Nat → Nat} {s : Nat} {v u : Nat} (h : v ≤ u) : psum a w s v ≤ psum a w s u := by
  induction u with
  | zero => have : v = 0 := by omega
            subst this; exact Nat.le_refl _
  | succ u ih =>
    by_cases hv : v = u + 1
    · subst hv; exact Nat.le_refl _
    · refine Nat.le_trans (ih (by omega)) ?_
      simp only [psum]; split <;> omega
theorem psum_congr {a : NA} {w w' : Nat → Nat} {s : Nat} : ∀ {v : Nat}, (∀ u, u < v → rdy a s u = true → w (s ||| pw u) = w' (s ||| pw u)) → psum a w s v = psum a w' s v
  | 0, _ => rfl
  | v + 1, h => by
    simp only [psum]
    rw [psum_congr (v := v) fun u hu => h u (by omega)]
    split
    · rename_i hr; rw [h v (by omega) hr]
    · rfl
theorem innS_self (a : NA) (g : Nat → Nat) (s : Nat) : ∀ v, innS a g s v s = g s + psum a g s v
  | 0 => rfl
  | v + 1 => by
    simp only [innS, psum]
    split
    · rename_i hr
      unfold updF
      rw [if_pos rfl, innS_self a g s v, innS_other a g s v _ (or_ne (rdy_bit hr))]
      omega
    · exact innS_self a g s v
theorem or_gt {s v : Nat} (h : s.testBit v = false) : s < s ||| pw v := by
  have h1 : s ≤ s ||| pw v := Nat.left_le_or
  have := or_ne h
  omega
theorem tabJ_stay {n : Nat} {a : NA} {j t : Nat} (hj : j + 2 ≤ pw n) (h : pw n ≤ t + j + 1) : tabJ n a (j + 1) t = tabJ n a j t := by
  simp only [tabJ]
  exact innS_other _ _ _ _ _ (by omega)
theorem tabJ_end {n : Nat} {a : NA} {t : Nat} : ∀ (m j : Nat), j + m + 1 = pw n → pw n ≤ t + j + 1 → tabJ n a (j + m) t = tabJ n a j t
  | 0, _, _, _ => rfl
  | m + 1, j, h, h2 => by
    have e := tabJ_end (n := n) (a := a) (t := t) m (j + 1) (by omega) (by omega)
    rw [show j + (m + 1) = j + 1 + m by omega, e]
    exact tabJ_stay (by omega) h2
theorem wy_full (n : Nat) (a : NA) : wyG n a (pw n - 1) = 1 := by
  have hN : 1 ≤ pw n := Nat.pow_pos (by decide)
  have := tabJ_end (n := n) (a := a) (t := pw n - 1) (pw n - 1) 0 (by omega) (by omega)
  rw [Nat.zero_add] at this
  rw [wyG, this]
  simp [tabJ, updF]
/-- The recurrence. -/
theorem wy_rec {n : Nat} {a : NA} {s : Nat} (h : s < pw n - 1) : wyG n a s = psum a (wyG n a) s n := by
  obtain ⟨j, hj⟩ : ∃ j, j = pw n - 2 - s := ⟨_, rfl⟩
  have e1 := tabJ_end (n := n) (a := a) (t := s) (pw n - 1 - (j + 1)) (j + 1) (by omega) (by omega)
  rw [show j + 1 + (pw n - 1 - (j + 1)) = pw n - 1 by omega] at e1
  rw [show wyG n a s = tabJ n a (pw n - 1) s from rfl, e1]
  simp only [tabJ]
  rw [show pw n - 2 - j = s by omega, innS_self, tabJ_zero j s (by omega), Nat.zero_add]
  apply psum_congr
  intro u _ hr
  have hg := or_gt (rdy_bit hr)
  have e2 := tabJ_end (n := n) (a := a) (t := s ||| pw u) (pw n - 1 - j) j (by omega) (by omega)
  rw [show j + (pw n - 1 - j) = pw n - 1 by omega] at e2
  exact e2.symm
theorem wy_lt {n : Nat} (hn : n ≤ 10) (a : NA) (s : Nat) : wyG n a s ≤ 10000000000 := by
  have := pw_le10 hn
  exact tab_lt hn a (by omega) s
theorem full_bit {n v : Nat} (h : v < n) : (pw n - 1).testBit v = true := by
  unfold pw
  rw [Nat.testBit_two_pow_sub_one]
  simpa using h
theorem psum_lt {n : Nat} (hn : n ≤ 10) (a : NA) {s : Nat} (hs : s < pw n) {v : Nat} (hv : v ≤ n) : psum a (wyG n a) s v ≤ 10000000000 := by
  refine Nat.le_trans (psum_mono hv) ?_
  by_cases h : s < pw n - 1
  · rw [← wy_rec h]; exact wy_lt hn a s
  · have : s = pw n - 1 := by omega
    subst this
    have : ∀ v, v ≤ n → psum a (wyG n a) (pw n - 1) v = 0 := by
      intro v
      induction v with
      | zero => intro _; rfl
      | succ v ih =>
        intro hv
        simp only [psum]
        rw [if_neg, ih (by omega)]
        intro hr
        have := rdy_bit hr
        rw [full_bit (by omega)] at this
        cases this
    rw [this n (Nat.le_refl _)]
    omega

/-! ### the vertex that comes next in the order with a number -/
def stpS (a : NA) (w : Nat → Nat) (s k v : Nat) : Bool := rdy a s v && decide (k < psum a w s (v + 1))
def pickV (a : NA) (w : Nat → Nat) (n s k : Nat) : Nat := ((List.range n).find? (stpS a w s k)).getD n
theorem stp_below {a : NA} {w : Nat → Nat} {s k : Nat} : ∀ {v : Nat}, (∀ u, u < v → stpS a w s k u = false) → psum a w s v ≤ k
  | 0, _ => Nat.zero_le _
  | v + 1, h => by
    have ih := stp_below (v := v) fun u hu => h u (by omega)
    have hv := h v (by omega)
    have e : psum a w s (v + 1) = if rdy a s v = true then psum a w s v + w (s ||| pw v) else psum a w s v := rfl
    cases hr : rdy a s v with
    | false => rw [e, hr]; exact ih
    | true =>
      unfold stpS at hv
      rw [hr, Bool.true_and, decide_eq_false_iff_not] at hv
      omega
theorem pickV_ok {a : NA} {w : Nat → Nat} {n s k : Nat} (h : k < psum a w s n) :
    (List.range n).find? (stpS a w s k) = some (pickV a w n s k) ∧ pickV a w n s k < n ∧ rdy a s (pickV a w n s k) = true ∧ psum a w s (pickV a w n s k) ≤ k ∧ k < psum a w s (pickV a w n s k) + w (s ||| pw (pickV a w n s k)) := by
  cases hf : (List.range n).find? (stpS a w s k) with
  | none =>
    rw [List.find?_eq_none] at hf
    have := stp_below (a := a) (w := w) (s := s) (k := k) (v := n) fun u hu => by simpa using hf u (List.mem_range.2 hu)
    omega
  | some v =>
    have e : pickV a w n s k = v := by unfold pickV; rw [hf]; rfl
    rw [e]
    have h1 := List.find?_some hf
    have h2 := List.mem_range.1 (List.mem_of_find?_eq_some hf)
    have h3 : ∀ u, u < v → stpS a w s k u = false := by
      intro u hu
      have := (List.find?_range_eq_some.1 hf).2.2 u hu
      simpa using this
    unfold stpS at h1
    rw [Bool.and_eq_true, decide_eq_true_eq] at h1
    obtain ⟨h4, h5⟩ := h1
    have e2 : psum a w s (v + 1) = if rdy a s v = true then psum a w s v + w (s ||| pw v) else psum a w s v := rfl
    rw [h4, if_pos rfl] at e2
    exact ⟨rfl, h2, h4, stp_below h3, by omega⟩
/-- What remains of the number. -/
def remK (a : NA) (w : Nat → Nat) (s k v : Nat) : Nat := k - psum a w s v
end Go.Mx
