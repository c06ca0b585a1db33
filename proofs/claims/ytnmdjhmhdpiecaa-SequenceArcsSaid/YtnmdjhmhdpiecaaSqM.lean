import Derived.Test.YtnmdjhmhdpiecaaSqL
/-
  Sequences: how many orders have a vertex at a place.
-/
namespace Go.Mx
set_option linter.unusedVariables false
set_option linter.unusedSimpArgs false
set_option linter.unusedSectionVars false
open Go

def cnB : Nat → Nat → Nat
  | 0, _ => 0
  | n + 1, s => cnB n s + if s.testBit n then 1 else 0
theorem cnB_miss : ∀ n s, cnB n s + miss n s = n
  | 0, _ => rfl
  | n + 1, s => by have := cnB_miss n s; simp only [cnB, miss]; split <;> omega
theorem cnB_or {n s v : Nat} (hv : v < n) (h : s.testBit v = false) : cnB n (s ||| pw v) = cnB n s + 1 := by
  have h1 := cnB_miss n s
  have h2 := cnB_miss n (s ||| pw v)
  have h3 := miss_or n s v hv h
  omega
theorem cnB_lt {n s v : Nat} (hv : v < n) (h : s.testBit v = false) : cnB n s < n := by
  have h1 := cnB_miss n s
  have h2 := miss_pos hv h
  omega
theorem cnB_zero : ∀ n, cnB n 0 = 0
  | 0 => rfl
  | n + 1 => by simp [cnB, cnB_zero n]
def outJ (n : Nat) (a : NA) (w : Nat → Nat) (i : Nat) : Nat → Nat → Nat
  | 0 => fun _ => 0
  | s + 1 => if rdy a s i = true then updF (outJ n a w i s) (cnB n s) (outJ n a w i s (cnB n s) + frF n a s * w (s ||| pw i)) else outJ n a w i s
def mI (i t : Nat) : Nat := if t.testBit i then 0 else 1
theorem or_bit {s u i : Nat} (h : u ≠ i) : (s ||| pw u).testBit i = s.testBit i := by
  rw [Nat.testBit_or, pw_bit]
  simp [h]
theorem or_bit_self {s u : Nat} : (s ||| pw u).testBit u = true := by
  rw [Nat.testBit_or, pw_bit]
  simp
theorem or_bit_mono {s u i : Nat} (h : s.testBit i = true) : (s ||| pw u).testBit i = true := by
  rw [Nat.testBit_or, h]; rfl
theorem psum_in {a : NA} {w : Nat → Nat} {s i : Nat} (h : s.testBit i = true) : ∀ v, psum a (fun t => mI i t * w t) s v = 0
  | 0 => rfl
  | v + 1 => by
    simp only [psum, psum_in h v]
    split
    · rw [show mI i (s ||| pw v) = 0 by unfold mI; rw [or_bit_mono h]; rfl]; omega
    · rfl
theorem psum_out {a : NA} {w : Nat → Nat} {s i : Nat} (h : s.testBit i = false) : ∀ v, psum a (fun t => mI i t * w t) s v + (if i < v ∧ rdy a s i = true then w (s ||| pw i) else 0) = psum a w s v
  | 0 => by simp [psum]
  | v + 1 => by
    have ih := psum_out (a := a) (w := w) h v
    simp only [psum]
    by_cases hv : v = i
    · subst hv
      rw [if_neg (by omega)] at ih
      by_cases hr : rdy a s v = true
      · rw [if_pos hr, if_pos hr, if_pos ⟨by omega, hr⟩, show mI v (s ||| pw v) = 0 by unfold mI; rw [or_bit_self]; rfl]; omega
      · rw [if_neg hr, if_neg hr, if_neg (by simp [hr])]; omega
    · have e : (i < v + 1 ∧ rdy a s i = true) ↔ (i < v ∧ rdy a s i = true) := by constructor <;> rintro ⟨h1, h2⟩ <;> exact ⟨by omega, h2⟩
      have e2 : mI i (s ||| pw v) = 1 := by unfold mI; rw [or_bit hv, h]; rfl
      rw [e2]
      by_cases hr : rdy a s v = true
      · rw [if_pos hr, if_pos hr]
        simp only [e]
        omega
      · rw [if_neg hr, if_neg hr]
        simp only [e]
        omega
theorem flow_i {n : Nat} (a : NA) {i : Nat} (hi : i < n) : ∀ s, s ≤ pw n → live n a (wyG n a) (mI i) s + sumN n (outJ n a (wyG n a) i s) = wyG n a 0
  | 0, _ => by
    have e : mI i 0 = 1 := by unfold mI; rw [Nat.zero_testBit]; rfl
    have e2 : sumN n (outJ n a (wyG n a) i 0) = 0 := sumN_zero fun j _ => rfl
    rw [live_zero, e, e2]
    omega
  | s + 1, h => by
    have ih := flow_i a hi s (by omega)
    have h1 := live_step a (wyG n a) (mI i) (s := s) (show s < pw n by omega)
    cases hb : s.testBit i with
    | true =>
      rw [psum_in hb, show mI i s = 0 by unfold mI; rw [hb]; rfl] at h1
      have hr : rdy a s i = false := by
        cases hr : rdy a s i with
        | false => rfl
        | true => have := rdy_bit hr; rw [hb] at this; cases this
      simp only [outJ, hr]
      simp only [Bool.false_eq_true, if_false]
      omega
    | false =>
      have hne : s < pw n - 1 := by
        have : s ≠ pw n - 1 := by intro e; rw [e, full_bit hi] at hb; cases hb
        omega
      have h2 := psum_out (a := a) (w := wyG n a) hb n
      rw [← wy_rec hne] at h2
      rw [show mI i s = 1 by unfold mI; rw [hb]; rfl] at h1
      simp only [outJ]
      by_cases hr : rdy a s i = true
      · rw [if_pos hr]
        rw [if_pos ⟨hi, hr⟩] at h2
        have h3 := sumN_upd (f := outJ n a (wyG n a) i s) (y := outJ n a (wyG n a) i s (cnB n s) + frF n a s * wyG n a (s ||| pw i)) (cnB_lt hi hb)
        have h4 : frF n a s * wyG n a s = frF n a s * psum a (fun t => mI i t * wyG n a t) s n + frF n a s * wyG n a (s ||| pw i) := by rw [← h2, Nat.mul_add]
        omega
      · rw [if_neg hr]
        rw [if_neg (by simp [hr])] at h2
        rw [show psum a (fun t => mI i t * wyG n a t) s n = wyG n a s by omega] at h1
        omega
theorem outJ_le {n : Nat} (hn : n ≤ 10) (a : NA) {i s p : Nat} (hi : i < n) (hs : s ≤ pw n) (hp : p < n) : outJ n a (wyG n a) i s p ≤ 10000000000 := by
  have h1 := flow_i a hi s hs
  have h2 := sumN_le (f := outJ n a (wyG n a) i s) hp
  have h3 := wy_lt hn a 0
  omega
/-- All places of a vertex. -/
theorem sum_i {n : Nat} (a : NA) {i : Nat} (hi : i < n) : sumN n (outJ n a (wyG n a) i (pw n)) = wyG n a 0 := by
  have := flow_i a hi (pw n) (Nat.le_refl _)
  rw [live_end] at this
  omega

/-! ### all vertices of a place -/
def mP (n p t : Nat) : Nat := if cnB n t ≤ p then 1 else 0
theorem psum_lev {n p : Nat} {a : NA} {w : Nat → Nat} {s : Nat} : ∀ v, v ≤ n → psum a (fun t => mP n p t * w t) s v = if cnB n s < p then psum a w s v else 0
  | 0, _ => by simp [psum]
  | v + 1, hv => by
    have ih := psum_lev (n := n) (p := p) (a := a) (w := w) (s := s) v (by omega)
    simp only [psum, ih]
    by_cases hr : rdy a s v = true
    · have h1 := cnB_or (n := n) (show v < n by omega) (rdy_bit hr)
      rw [if_pos hr, if_pos hr]
      by_cases hc : cnB n s < p
      · rw [if_pos hc, if_pos hc, show mP n p (s ||| pw v) = 1 by unfold mP; rw [if_pos (by omega)]]; omega
      · rw [if_neg hc, if_neg hc, show mP n p (s ||| pw v) = 0 by unfold mP; rw [if_neg (by omega)]]; omega
    · rw [if_neg hr, if_neg hr]
def levJ (n : Nat) (a : NA) (w : Nat → Nat) (p : Nat) : Nat → Nat
  | 0 => 0
  | s + 1 => if cnB n s = p then levJ n a w p s + frF n a s * psum a w s n else levJ n a w p s
theorem flow_p {n : Nat} (a : NA) {p : Nat} (hp : p < n) : ∀ s, s ≤ pw n → live n a (wyG n a) (mP n p) s + levJ n a (wyG n a) p s = wyG n a 0
  | 0, _ => by
    have e : mP n p 0 = 1 := by unfold mP; rw [cnB_zero, if_pos (by omega)]
    rw [live_zero, e]
    simp [levJ]
  | s + 1, h => by
    have ih := flow_p a hp s (by omega)
    have h1 := live_step a (wyG n a) (mP n p) (s := s) (show s < pw n by omega)
    rw [psum_lev n (Nat.le_refl _)] at h1
    simp only [levJ]
    by_cases hc : cnB n s ≤ p
    · have hne : s < pw n - 1 := by
        have : s ≠ pw n - 1 := by
          intro e
          have h2 := cnB_miss n s
          rw [e, miss_full n n (Nat.le_refl _)] at h2
          rw [e] at hc
          omega
        omega
      rw [← wy_rec hne] at h1 ⊢
      rw [show mP n p s = 1 by unfold mP; rw [if_pos hc]] at h1
      by_cases hc2 : cnB n s < p
      · rw [if_pos hc2] at h1
        rw [if_neg (by omega)]
        omega
      · rw [if_neg hc2] at h1
        rw [if_pos (by omega)]
        omega
    · rw [show mP n p s = 0 by unfold mP; rw [if_neg hc], if_neg (by omega)] at h1
      rw [if_neg (by omega)]
      omega
theorem outJ_at (n : Nat) (a : NA) (w : Nat → Nat) (i s p : Nat) : outJ n a w i (s + 1) p = outJ n a w i s p + if cnB n s = p ∧ rdy a s i = true then frF n a s * w (s ||| pw i) else 0 := by
  simp only [outJ]
  by_cases hr : rdy a s i = true
  · rw [if_pos hr]
    unfold updF
    by_cases hc : p = cnB n s
    · rw [if_pos hc, if_pos ⟨hc.symm, hr⟩, hc]
    · rw [if_neg hc, if_neg (fun h => hc h.1.symm)]; rfl
  · rw [if_neg hr, if_neg (fun h => hr h.2)]; rfl
theorem outJ_sum (n : Nat) (a : NA) (w : Nat → Nat) (s p : Nat) : ∀ m, sumN m (fun i => outJ n a w i (s + 1) p) = sumN m (fun i => outJ n a w i s p) + if cnB n s = p then frF n a s * psum a w s m else 0
  | 0 => by simp [sumN, psum]
  | m + 1 => by
    have ih := outJ_sum n a w s p m
    have e1 : sumN (m + 1) (fun i => outJ n a w i (s + 1) p) = sumN m (fun i => outJ n a w i (s + 1) p) + outJ n a w m (s + 1) p := rfl
    have e2 : sumN (m + 1) (fun i => outJ n a w i s p) = sumN m (fun i => outJ n a w i s p) + outJ n a w m s p := rfl
    have e3 : psum a w s (m + 1) = if rdy a s m = true then psum a w s m + w (s ||| pw m) else psum a w s m := rfl
    rw [e1, e2, ih, outJ_at, e3]
    by_cases hc : cnB n s = p
    · rw [if_pos hc, if_pos hc]
      by_cases hr : rdy a s m = true
      · rw [if_pos hr, if_pos ⟨hc, hr⟩, Nat.mul_add]; omega
      · rw [if_neg hr, if_neg (fun h => hr h.2)]; omega
    · rw [if_neg hc, if_neg hc, if_neg (fun h => hc h.1)]; omega
theorem outJ_lev {n : Nat} (a : NA) (w : Nat → Nat) {p : Nat} : ∀ s, sumN n (fun i => outJ n a w i s p) = levJ n a w p s
  | 0 => sumN_zero fun _ _ => rfl
  | s + 1 => by
    rw [outJ_sum, outJ_lev a w s]
    simp only [levJ]
    split <;> omega
theorem sum_p {n : Nat} (a : NA) {p : Nat} (hp : p < n) : sumN n (fun i => outJ n a (wyG n a) i (pw n) p) = wyG n a 0 := by
  rw [outJ_lev]
  have := flow_p a hp (pw n) (Nat.le_refl _)
  rw [live_end] at this
  omega
end Go.Mx
