import Derived.Test.YtnmdjhmhdpiecaaSqK
/-
  Sequences: how many orders there are of the vertices of a set; sums over sets.
-/
namespace Go.Mx
set_option linter.unusedVariables false
set_option linter.unusedSimpArgs false
set_option linter.unusedSectionVars false
open Go

/-! ### sums -/
def sumN : Nat → (Nat → Nat) → Nat
  | 0, _ => 0
  | n + 1, f => sumN n f + f n
theorem sumN_congr {f g : Nat → Nat} : ∀ {n : Nat}, (∀ i, i < n → f i = g i) → sumN n f = sumN n g
  | 0, _ => rfl
  | n + 1, h => by simp only [sumN]; rw [sumN_congr fun i hi => h i (by omega), h n (by omega)]
theorem sumN_upd {f : Nat → Nat} {i y : Nat} : ∀ {n : Nat}, i < n → sumN n (updF f i y) + f i = sumN n f + y
  | n + 1, h => by
    simp only [sumN]
    by_cases hi : i = n
    · subst hi
      have : sumN i (updF f i y) = sumN i f := sumN_congr fun j hj => by unfold updF; rw [if_neg (by omega)]
      rw [this]
      have : updF f i y i = y := by unfold updF; rw [if_pos rfl]
      omega
    · have := sumN_upd (f := f) (i := i) (y := y) (n := n) (by omega)
      have h2 : updF f i y n = f n := by unfold updF; rw [if_neg (by omega)]
      omega
theorem sumN_le {f : Nat → Nat} {i : Nat} : ∀ {n : Nat}, i < n → f i ≤ sumN n f
  | n + 1, h => by
    simp only [sumN]
    by_cases hi : i = n
    · subst hi; omega
    · have := sumN_le (f := f) (i := i) (n := n) (by omega); omega
theorem sumN_zero {f : Nat → Nat} : ∀ {n : Nat}, (∀ i, i < n → f i = 0) → sumN n f = 0
  | 0, _ => rfl
  | n + 1, h => by simp only [sumN]; rw [sumN_zero fun i hi => h i (by omega), h n (by omega)]
theorem sumN_add {f g : Nat → Nat} : ∀ {n : Nat}, sumN n (fun i => f i + g i) = sumN n f + sumN n g
  | 0 => rfl
  | n + 1 => by simp only [sumN]; rw [sumN_add]; omega

/-! ### orders of the vertices of a set -/
def frU (a : NA) (g : Nat → Nat) (s : Nat) : Nat → Nat → Nat
  | 0 => g
  | u + 1 => if rdy a s u = true then updF (frU a g s u) (s ||| pw u) (frU a g s u (s ||| pw u) + g s) else frU a g s u
def frJ (n : Nat) (a : NA) : Nat → Nat → Nat
  | 0 => updF (fun _ => 0) 0 1
  | s + 1 => frU a (frJ n a s) s n
def frF (n : Nat) (a : NA) (s : Nat) : Nat := frJ n a s s
theorem frU_below (a : NA) (g : Nat → Nat) (s : Nat) : ∀ (u t : Nat), t ≤ s → frU a g s u t = g t
  | 0, _, _ => rfl
  | u + 1, t, h => by
    simp only [frU]
    split
    · rename_i hr
      have := or_gt (rdy_bit hr)
      unfold updF
      rw [if_neg (by omega)]
      exact frU_below a g s u t h
    · exact frU_below a g s u t h
theorem frU_le (a : NA) (g : Nat → Nat) (s : Nat) (t : Nat) : ∀ (u : Nat), frU a g s u t ≤ frU a g s (u + 1) t := by
  intro u
  simp only [frU]
  split
  · unfold updF
    split
    · rename_i h; subst h; omega
    · exact Nat.le_refl _
  · exact Nat.le_refl _
theorem frU_mono (a : NA) (g : Nat → Nat) (s : Nat) (t : Nat) {u v : Nat} (h : u ≤ v) : frU a g s u t ≤ frU a g s v t := by
  induction v with
  | zero => have : u = 0 := by omega
            subst this; exact Nat.le_refl _
  | succ v ih =>
    by_cases hv : u = v + 1
    · subst hv; exact Nat.le_refl _
    · exact Nat.le_trans (ih (by omega)) (frU_le a g s t v)
theorem frJ_done (n : Nat) (a : NA) (t : Nat) : ∀ s, t ≤ s → frJ n a s t = frF n a t
  | 0, h => by have : t = 0 := by omega
               subst this; rfl
  | s + 1, h => by
    by_cases ht : t = s + 1
    · subst ht; rfl
    · show frU a (frJ n a s) s n t = _
      rw [frU_below a _ s n t (by omega)]
      exact frJ_done n a t s (by omega)

/-! ### what flows on -/
/-- The sum over the sets that are still to come. -/
def live (n : Nat) (a : NA) (w m : Nat → Nat) (s : Nat) : Nat := sumN (pw n) fun t => if s ≤ t then m t * (frJ n a s t * w t) else 0
theorem live_u (n : Nat) (a : NA) (w m : Nat → Nat) (g : Nat → Nat) (s : Nat) (hs : s < pw n) : ∀ u, u ≤ n →
    sumN (pw n) (fun t => if s + 1 ≤ t then m t * (frU a g s u t * w t) else 0) = sumN (pw n) (fun t => if s + 1 ≤ t then m t * (g t * w t) else 0) + g s * psum a (fun t => m t * w t) s u
  | 0, _ => by simp [frU, psum]
  | u + 1, h => by
    have ih := live_u n a w m g s hs u (by omega)
    simp only [frU, psum]
    split
    · rename_i hr
      have hq := or_gt (rdy_bit hr)
      have hlt : s ||| pw u < pw n := or_lt hs (by omega)
      generalize s ||| pw u = q at *
      have e : (fun t => if s + 1 ≤ t then m t * (updF (frU a g s u) q (frU a g s u q + g s) t * w t) else 0) = updF (fun t => if s + 1 ≤ t then m t * (frU a g s u t * w t) else 0) q (m q * ((frU a g s u q + g s) * w q)) := by
        funext t
        unfold updF
        by_cases ht : t = q
        · subst ht
          rw [if_pos (by omega), if_pos rfl, if_pos rfl]
        · rw [if_neg ht, if_neg ht]
      rw [e]
      have h1 := sumN_upd (f := fun t => if s + 1 ≤ t then m t * (frU a g s u t * w t) else 0) (y := m q * ((frU a g s u q + g s) * w q)) hlt
      simp only [if_pos (show s + 1 ≤ q by omega)] at h1
      rw [ih] at h1
      have e2 : m q * ((frU a g s u q + g s) * w q) = m q * (frU a g s u q * w q) + g s * (m q * w q) := by
        rw [Nat.add_mul, Nat.mul_add]
        congr 1
        rw [Nat.mul_left_comm]
      rw [Nat.mul_add]
      omega
    · exact ih
theorem live_step {n : Nat} (a : NA) (w m : Nat → Nat) {s : Nat} (hs : s < pw n) :
    live n a w m (s + 1) + m s * (frF n a s * w s) = live n a w m s + frF n a s * psum a (fun t => m t * w t) s n := by
  have h1 := live_u n a w m (frJ n a s) s hs n (Nat.le_refl _)
  have e1 : live n a w m (s + 1) = sumN (pw n) (fun t => if s + 1 ≤ t then m t * (frU a (frJ n a s) s n t * w t) else 0) := rfl
  have e2 := sumN_upd (f := fun t => if s ≤ t then m t * (frJ n a s t * w t) else 0) (i := s) (y := 0) hs
  have e3 : updF (fun t => if s ≤ t then m t * (frJ n a s t * w t) else 0) s 0 = fun t => if s + 1 ≤ t then m t * (frJ n a s t * w t) else 0 := by
    funext t
    unfold updF
    by_cases ht : t = s
    · subst ht; rw [if_pos rfl, if_neg (by omega)]
    · rw [if_neg ht]
      dsimp only
      by_cases h2 : s ≤ t
      · rw [if_pos h2, if_pos (by omega)]
      · rw [if_neg h2, if_neg (by omega)]
  rw [e3] at e2
  simp only [Nat.le_refl, if_true] at e2
  rw [e1, h1]
  show _ = live n a w m s + _
  have e4 : live n a w m s = sumN (pw n) (fun t => if s ≤ t then m t * (frJ n a s t * w t) else 0) := rfl
  have e5 : frF n a s = frJ n a s s := rfl
  rw [e4, e5]
  omega
theorem live_zero (n : Nat) (a : NA) (w m : Nat → Nat) : live n a w m 0 = m 0 * w 0 := by
  have hp : 0 < pw n := Nat.pow_pos (by decide)
  have e := sumN_upd (f := fun t => if 0 ≤ t then m t * (frJ n a 0 t * w t) else 0) (i := 0) (y := 0) hp
  have e1 : sumN (pw n) (updF (fun t => if 0 ≤ t then m t * (frJ n a 0 t * w t) else 0) 0 0) = 0 := by
    refine sumN_zero fun t _ => ?_
    unfold updF
    by_cases ht : t = 0
    · rw [if_pos ht]
    · rw [if_neg ht]
      simp [frJ, updF, ht]
  rw [e1] at e
  simp [frJ, updF] at e
  simp only [live]
  simp [frJ, updF]
  omega
theorem live_end {n : Nat} (a : NA) (w m : Nat → Nat) : live n a w m (pw n) = 0 := by
  refine sumN_zero fun t ht => ?_
  rw [if_neg (by omega)]

/-! ### the bound -/
theorem rdy_nil {a : NA} {s v : Nat} (h : rdy a s v = true) : rdy [] s v = true := by
  unfold rdy at *
  simp only [Bool.and_eq_true] at h
  simp [h.1]
theorem psum_nil {a : NA} {w : Nat → Nat} {s : Nat} : ∀ v, psum a w s v ≤ psum [] w s v
  | 0 => Nat.le_refl _
  | v + 1 => by
    have := psum_nil (a := a) (w := w) (s := s) v
    simp only [psum]
    by_cases h : rdy a s v = true
    · rw [if_pos h, if_pos (rdy_nil h)]; omega
    · rw [if_neg h]; split <;> omega
theorem psum_full {n : Nat} (a : NA) (w : Nat → Nat) : ∀ v, v ≤ n → psum a w (pw n - 1) v = 0
  | 0, _ => rfl
  | v + 1, h => by
    simp only [psum]
    rw [if_neg, psum_full a w v (by omega)]
    intro hr
    have := rdy_bit hr
    rw [full_bit (by omega)] at this
    cases this
theorem miss_pos {n s v : Nat} (hv : v < n) (h : s.testBit v = false) : 0 < miss n s := by
  have := miss_or n s v hv h
  omega
theorem psum_ge {a : NA} {w : Nat → Nat} {s v n : Nat} (hv : v < n) (hr : rdy a s v = true) : w (s ||| pw v) ≤ psum a w s n := by
  refine Nat.le_trans ?_ (psum_mono (show v + 1 ≤ n by omega))
  simp only [psum]
  rw [if_pos hr]
  omega
theorem miss_ex : ∀ {n s : Nat}, 0 < miss n s → ∃ v, v < n ∧ s.testBit v = false
  | n + 1, s, h => by
    simp only [miss] at h
    by_cases hb : s.testBit n = true
    · rw [if_pos hb] at h
      obtain ⟨v, h1, h2⟩ := miss_ex (n := n) (s := s) (by omega)
      exact ⟨v, by omega, h2⟩
    · exact ⟨n, by omega, by simpa using hb⟩
theorem miss_nil {n s : Nat} (hs : s < pw n) (h : miss n s = 0) : s = pw n - 1 := by
  apply Nat.eq_of_testBit_eq
  intro i
  have key : ∀ n, miss n s = 0 → ∀ i, i < n → s.testBit i = true := by
    intro n
    induction n with
    | zero => intro _ i hi; omega
    | succ n ih =>
      intro h i hi
      simp only [miss] at h
      have h1 : s.testBit n = true := by
        cases hb : s.testBit n with
        | true => rfl
        | false => rw [hb] at h; simp at h
      by_cases hin : i = n
      · subst hin; exact h1
      · exact ih (by omega) i (by omega)
  by_cases hi : i < n
  · rw [key n h i hi, full_bit hi]
  · have h1 : s.testBit i = false := Nat.testBit_lt_two_pow (Nat.lt_of_lt_of_le hs (Nat.pow_le_pow_right (by decide) (by omega)))
    have h2 : (pw n - 1).testBit i = false := Nat.testBit_lt_two_pow (Nat.lt_of_lt_of_le (show pw n - 1 < pw n by have : 0 < pw n := Nat.pow_pos (by decide); omega) (Nat.pow_le_pow_right (by decide) (by omega)))
    rw [h1, h2]
theorem wy_nil_pos {n : Nat} : ∀ (k s : Nat), s < pw n → miss n s = k → 0 < wyG n [] s
  | 0, s, hs, h => by rw [miss_nil hs h, wy_full]; decide
  | k + 1, s, hs, h => by
    obtain ⟨v, hv, hb⟩ := miss_ex (n := n) (s := s) (by omega)
    have h1 := miss_or n s v hv hb
    have h2 := wy_nil_pos k (s ||| pw v) (or_lt hs hv) (by omega)
    have hne : s < pw n - 1 := by
      have : s ≠ pw n - 1 := by intro e; rw [e, miss_full n n (Nat.le_refl _)] at h; omega
      omega
    rw [wy_rec hne]
    have h3 := psum_ge (a := []) (w := wyG n []) hv (show rdy [] s v = true by simp [rdy, hb])
    omega
theorem live_bound {n : Nat} (a : NA) : ∀ s, s ≤ pw n → live n a (wyG n []) (fun _ => 1) s ≤ wyG n [] 0
  | 0, _ => by rw [live_zero]; omega
  | s + 1, h => by
    have ih := live_bound (n := n) a s (by omega)
    have h1 := live_step a (wyG n []) (fun _ => 1) (s := s) (show s < pw n by omega)
    have h2 : psum a (fun t => 1 * wyG n [] t) s n ≤ wyG n [] s := by
      have e : (fun t => 1 * wyG n [] t) = wyG n [] := by funext t; omega
      rw [e]
      by_cases hf : s < pw n - 1
      · rw [wy_rec hf]; exact psum_nil n
      · have : s = pw n - 1 := by omega
        rw [this, psum_full a _ n (Nat.le_refl _)]; omega
    have h3 := Nat.mul_le_mul_left (frF n a s) h2
    omega
theorem frF_le {n : Nat} (hn : n ≤ 10) (a : NA) {s t : Nat} (hs : s ≤ t) (ht : t < pw n) : frJ n a s t ≤ 10000000000 := by
  have h1 := live_bound (n := n) a s (by omega)
  have h2 := wy_lt hn [] 0
  have h3 := sumN_le (f := fun t => if s ≤ t then 1 * (frJ n a s t * wyG n [] t) else 0) ht
  simp only [if_pos hs, Nat.one_mul] at h3
  have h4 := wy_nil_pos _ t ht rfl
  have h5 : frJ n a s t * 1 ≤ frJ n a s t * wyG n [] t := Nat.mul_le_mul_left _ h4
  have e : live n a (wyG n []) (fun _ => 1) s = sumN (pw n) (fun t => if s ≤ t then frJ n a s t * wyG n [] t else 0) := by
    unfold live
    congr 1
    funext t
    split <;> simp
  rw [e] at h1
  omega
theorem frJ_le {n : Nat} (hn : n ≤ 10) (a : NA) {s t : Nat} (ht : t < pw n) : frJ n a s t ≤ 10000000000 := by
  by_cases h : s ≤ t
  · exact frF_le hn a h ht
  · rw [frJ_done n a t s (by omega)]
    exact frF_le hn a (Nat.le_refl t) ht
theorem frU_bd {n : Nat} (hn : n ≤ 10) (a : NA) {s t u : Nat} (hu : u ≤ n) (ht : t < pw n) : frU a (frJ n a s) s u t ≤ 10000000000 :=
  Nat.le_trans (frU_mono a _ s t hu) (frJ_le hn a (s := s + 1) ht)
end Go.Mx
