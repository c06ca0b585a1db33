import Derived.Test.YtnmdjhmhdpiecaaSqC
/-
  Sequences: in how many ways a set is followed.
-/
namespace Go.Mx
set_option linter.unusedVariables false
set_option linter.unusedSimpArgs false
set_option linter.unusedSectionVars false
open Go

def innS (a : NA) (g : Nat → Nat) (s : Nat) : Nat → Nat → Nat
  | 0 => g
  | v + 1 => if rdy a s v = true then updF (innS a g s v) s (innS a g s v s + innS a g s v (s ||| pw v)) else innS a g s v
def tabJ (n : Nat) (a : NA) : Nat → Nat → Nat
  | 0 => updF (fun _ => 0) (pw n - 1) 1
  | j + 1 => innS a (tabJ n a j) (pw n - 2 - j) n
/-- How many orders of the others there are. -/
def wyG (n : Nat) (a : NA) : Nat → Nat := tabJ n a (pw n - 1)

/-! ### bounds -/
def miss : Nat → Nat → Nat
  | 0, _ => 0
  | n + 1, s => miss n s + if s.testBit n then 0 else 1
theorem miss_le : ∀ (n s : Nat), miss n s ≤ n
  | 0, _ => Nat.le_refl _
  | n + 1, s => by have := miss_le n s; simp only [miss]; split <;> omega
theorem miss_same : ∀ (n s v : Nat), n ≤ v → miss n (s ||| pw v) = miss n s
  | 0, _, _, _ => rfl
  | n + 1, s, v, h => by
    have e : (s ||| pw v).testBit n = s.testBit n := by
      rw [Nat.testBit_or, pw_bit]
      have : ¬ v = n := by omega
      simp [this]
    simp only [miss, miss_same n s v (by omega), e]
theorem miss_or : ∀ (n s v : Nat), v < n → s.testBit v = false → miss n (s ||| pw v) + 1 = miss n s
  | n + 1, s, v, h, hb => by
    by_cases hv : v = n
    · subst hv
      have e : (s ||| pw v).testBit v = true := by rw [Nat.testBit_or, pw_bit]; simp
      simp only [miss, miss_same v s v (Nat.le_refl _), e, hb]
      simp
    · have e : (s ||| pw v).testBit n = s.testBit n := by
        rw [Nat.testBit_or, pw_bit]
        simp [hv]
      have := miss_or n s v (by omega) hb
      simp only [miss, e]
      omega
theorem rdy_bit {a : NA} {s v : Nat} (h : rdy a s v = true) : s.testBit v = false := by
  unfold rdy at h
  simp only [Bool.and_eq_true, Bool.not_eq_true'] at h
  exact h.1
theorem or_ne {s v : Nat} (h : s.testBit v = false) : s ||| pw v ≠ s := by
  intro e
  have := congrArg (fun x => x.testBit v) e
  simp only [Nat.testBit_or, pw_bit, h] at this
  simp at this
theorem innS_other (a : NA) (g : Nat → Nat) (s : Nat) : ∀ (v t : Nat), t ≠ s → innS a g s v t = g t
  | 0, _, _ => rfl
  | v + 1, t, h => by
    simp only [innS]
    split
    · unfold updF; rw [if_neg h]; exact innS_other a g s v t h
    · exact innS_other a g s v t h
theorem innS_le {n : Nat} {a : NA} {g : Nat → Nat} (hg : ∀ t, g t ≤ 10 ^ miss n t) {s : Nat} (h0 : g s = 0) : ∀ v, v ≤ n → innS a g s v s ≤ v * 10 ^ (miss n s - 1)
  | 0, _ => by simp [innS, h0]
  | v + 1, hv => by
    have ih := innS_le (a := a) hg h0 v (by omega)
    simp only [innS]
    split
    · rename_i hr
      have hb := rdy_bit hr
      rw [updF_self]
      rw [innS_other a g s v _ (or_ne hb)]
      have h1 := hg (s ||| pw v)
      have h2 := miss_or n s v (by omega) hb
      rw [show miss n (s ||| pw v) = miss n s - 1 by omega] at h1
      rw [Nat.succ_mul]
      omega
    · rw [Nat.succ_mul]; exact Nat.le_trans ih (Nat.le_add_right _ _)
where
  updF_self {g : Nat → Nat} {i y : Nat} : updF g i y i = y := by simp [updF]
theorem tabJ_zero {n : Nat} {a : NA} : ∀ (j t : Nat), t + 1 + j < pw n → tabJ n a j t = 0
  | 0, t, h => by
    simp only [tabJ, updF]
    rw [if_neg (by omega)]
  | j + 1, t, h => by
    simp only [tabJ]
    rw [innS_other _ _ _ _ _ (by omega)]
    exact tabJ_zero j t (by omega)
theorem tabJ_le {n : Nat} (hn : n ≤ 10) {a : NA} : ∀ (j : Nat), j + 1 ≤ pw n → ∀ t, tabJ n a j t ≤ 10 ^ miss n t
  | 0, _, t => by
    have := Nat.pow_pos (n := miss n t) (show 0 < 10 by decide)
    simp only [tabJ, updF]
    split <;> omega
  | j + 1, hj, t => by
    have ih := tabJ_le hn (a := a) j (by omega)
    simp only [tabJ]
    by_cases ht : t = pw n - 2 - j
    · subst ht
      have h0 := tabJ_zero (n := n) (a := a) j (pw n - 2 - j) (by omega)
      have h1 := innS_le (n := n) (a := a) ih h0 n (Nat.le_refl _)
      generalize pw n - 2 - j = s at *
      cases hm : miss n s with
      | zero =>
        -- nothing is missing: nothing may come next
        have : innS a (tabJ n a j) s n s = 0 := by
          have : ∀ v, v ≤ n → innS a (tabJ n a j) s v s = 0 := by
            intro v
            induction v with
            | zero => intro _; exact h0
            | succ v ihv =>
              intro hv
              simp only [innS]
              have : rdy a s v = false := by
                cases hr : rdy a s v with
                | false => rfl
                | true =>
                  have := miss_or n s v (by omega) (rdy_bit hr)
                  omega
              rw [this]
              exact ihv (by omega)
          exact this n (Nat.le_refl _)
        rw [this]; exact Nat.zero_le _
      | succ m =>
        rw [hm, Nat.succ_sub_one] at h1
        refine Nat.le_trans h1 ?_
        rw [Nat.pow_succ, Nat.mul_comm]
        exact Nat.mul_le_mul_left _ hn
    · rw [innS_other _ _ _ _ _ ht]
      exact ih t
theorem pow10_le {n : Nat} (hn : n ≤ 10) (t : Nat) : 10 ^ miss n t ≤ 10000000000 := by
  have h1 := miss_le n t
  have : (10 : Nat) ^ miss n t ≤ 10 ^ 10 := Nat.pow_le_pow_right (by decide) (by omega)
  omega
theorem tab_lt {n : Nat} (hn : n ≤ 10) (a : NA) {j : Nat} (hj : j + 1 ≤ pw n) (t : Nat) : tabJ n a j t ≤ 10000000000 := Nat.le_trans (tabJ_le hn j hj t) (pow10_le hn t)
theorem inn_lt {n : Nat} (hn : n ≤ 10) (a : NA) {j : Nat} (hj : j + 2 ≤ pw n) {v : Nat} (hv : v ≤ n) (t : Nat) : innS a (tabJ n a j) (pw n - 2 - j) v t ≤ 100000000000 := by
  by_cases ht : t = pw n - 2 - j
  · subst ht
    have h0 := tabJ_zero (n := n) (a := a) j (pw n - 2 - j) (by omega)
    have h1 := innS_le (n := n) (a := a) (tabJ_le hn j (by omega)) h0 v hv
    have h2 : (10 : Nat) ^ (miss n (pw n - 2 - j) - 1) ≤ 10 ^ 10 := Nat.pow_le_pow_right (by decide) (by have := miss_le n (pw n - 2 - j); omega)
    have h3 : v * 10 ^ (miss n (pw n - 2 - j) - 1) ≤ 10 * 10 ^ 10 := Nat.mul_le_mul (by omega) h2
    omega
  · rw [innS_other _ _ _ _ _ ht]
    have := tab_lt hn a (j := j) (by omega) t
    omega
theorem pw_le10 {n : Nat} (hn : n ≤ 10) : 1 ≤ pw n ∧ pw n ≤ 1024 := by
  have h1 : (2 : Nat) ^ n ≤ 2 ^ 10 := Nat.pow_le_pow_right (by decide) hn
  have h2 : 0 < (2 : Nat) ^ n := Nat.pow_pos (by decide)
  unfold pw
  omega
theorem or_lt {n s v : Nat} (hs : s < pw n) (hv : v < n) : s ||| pw v < pw n := Nat.or_lt_two_pow hs (Nat.pow_lt_pow_right (by decide) hv)

/-! ### the reference's table -/
abbrev sz (N : Nat) (g : Nat → Nat) : D := gsl (eI .i64) false (zr N g)
theorem loop41_1 (call : Oracle) (fuel : Nat) (n : Nat) (hn : n ≤ 10) (a : NA) (dA : D) (h42 : ∀ s v : Nat, s < pw n → v < n → call 42 [dA, nV s, nV v] = some (bV (rdy a s v))) (j : Nat) (hj : j + 2 ≤ pw n) (s : Nat) (hsj : s = pw n - 2 - j) (fu : Nat) (hf : 1100 < fu) (st : St)
    (h0 : drops st h41_1 = L41_1 (ii n) (.ro dA) (.own (sz (pw n) (innS a (tabJ n a j) s 0))) (ii s) (ii 0)) :
    run.loopN (run call fuel b41_1) fu st = some (.ex 2, X41_2 (ii n) (.ro dA) (.own (sz (pw n) (innS a (tabJ n a j) s n))) (ii s)) := by
  refine loop_cnt call fuel h41_1 _ n (fun v => L41_1 (ii n) (.ro dA) (.own (sz (pw n) (innS a (tabJ n a j) s v))) (ii s) (ii v)) _ (by simp) ?_ (by simp) fu st (by rw [h0]; rfl) (by omega)
  intro v hv
  have hw := wrap_succ (i := v) (by omega)
  have hN := pw_le10 hn
  have hs : s < pw n := by omega
  have hor := or_lt hs hv
  have k := h42 s v hs hv
  have b1 := inn_lt hn a hj (v := v) (by omega) s
  have b2 := inn_lt hn a hj (v := v) (by omega) (s ||| pw v)
  rw [← hsj] at b1 b2
  have e1 := bits_shl1 .i64 (t := v) (by show v < 63; omega)
  have e2 : intBin .or .i64 (s : Int) ((pw v : Nat) : Int) = some (.int .i64 ((s ||| pw v : Nat) : Int)) := by
    have hpv : pw v < pw n := Nat.pow_lt_pow_right (by decide) hv
    exact bits_or .i64 (show s < 2 ^ 63 by omega) (show pw v < 2 ^ 63 by omega)
  simp only [innS]
  generalize innS a (tabJ n a j) s v = g at *
  have n1 := zr_nth (pw n) g hs
  have n2 := zr_nth (pw n) g hor
  have e3 : IntKind.i64.wrap (((g s : Nat) : Int) + ((g (s ||| pw v) : Nat) : Int)) = ((g s + g (s ||| pw v) : Nat) : Int) := by
    rw [wrapI (by omega) (by omega)]; omega
  generalize hq : s ||| pw v = q at *
  obtain ⟨y, hy⟩ : ∃ y, y = g s + g q := ⟨_, rfl⟩
  rw [← hy] at e3 ⊢
  cases hr : rdy a s v with
  | true =>
    rw [hr] at k
    simp [hv, hw, k, hs, hor, e1, e2, n1, n2, e3, hq]
  | false =>
    rw [hr] at k
    simp [hv, hw, k]
theorem loop41_0 (call : Oracle) (fuel : Nat) (hF : 1100 < fuel) (n : Nat) (hn : n ≤ 10) (a : NA) (dA : D) (h42 : ∀ s v : Nat, s < pw n → v < n → call 42 [dA, nV s, nV v] = some (bV (rdy a s v))) (fu : Nat) (hf : 1100 < fu) (st : St)
    (h0 : drops st h41_0 = L41_0 (ii n) (.ro dA) (.own (sz (pw n) (tabJ n a 0))) (ii ((pw n : Int) - 2))) :
    run.loopN (run call fuel b41_0) fu st = some (.ex 0, X41_0 (.own (sz (pw n) (wyG n a)))) := by
  have hN := pw_le10 hn
  refine loop_cnt call fuel h41_0 _ (pw n - 1) (fun j => L41_0 (ii n) (.ro dA) (.own (sz (pw n) (tabJ n a j))) (ii ((pw n : Int) - 2 - (j : Int)))) _ (by simp) ?_ ?_ fu st (by rw [h0]; simp) (by omega)
  · intro j hj
    obtain ⟨s, hs⟩ : ∃ s, s = pw n - 2 - j := ⟨_, rfl⟩
    have e1 : (pw n : Int) - 2 - (j : Int) = (s : Int) := by omega
    have e2 : IntKind.i64.wrap ((s : Int) - 1) = (pw n : Int) - 2 - ((j + 1 : Nat) : Int) := by rw [wrapI (by omega) (by omega)]; omega
    have hL := loop41_1 call fuel n hn a dA h42 j (by omega) s hs fuel hF
    have e3 : tabJ n a (j + 1) = innS a (tabJ n a j) s n := by rw [hs]; rfl
    have e4 : innS a (tabJ n a j) s 0 = tabJ n a j := rfl
    rw [e4] at hL
    rw [e3, e1, ← e2]
    generalize innS a (tabJ n a j) s n = g' at *
    generalize tabJ n a j = g at *
    simp
    rw [hL _ (by simp)]
    simp
  · have e1 : (pw n : Int) - 2 - ((pw n - 1 : Nat) : Int) = -1 := by omega
    rw [e1]
    simp [wyG]
theorem f41 (call : Oracle) (fuel : Nat) (hF : 1100 < fuel) (n : Nat) (hn : n ≤ 10) (a : NA) (b : Bool) (h42 : ∀ s v : Nat, s < pw n → v < n → call 42 [sa b (arcsZ a), nV s, nV v] = some (bV (rdy a s v))) :
    callF call fuel c41 [nV n, sa b (arcsZ a)] = some (sz (pw n) (wyG n a)) := by
  rw [callF_tab call fuel c41 8 _ (by exact Nat.le_of_ble_eq_true rfl) (by exact Nat.le_of_ble_eq_true rfl)]
  have hN := pw_le10 hn
  have hL := loop41_0 call fuel hF n hn a _ h42 fuel hF
  have e1 := bits_shl1 .i64 (t := n) (by show n < 63; omega)
  have hm : pw n ≤ most := by unfold most; omega
  have hr : List.replicate (pw n) (0 : Int) = zr (pw n) fun _ => 0 := row_rep _ _
  obtain ⟨m, hm1⟩ : ∃ m, m = pw n - 1 := ⟨_, rfl⟩
  have e2 : IntKind.i64.wrap ((pw n : Int) - 1) = (m : Int) := by rw [wrapI (by omega) (by omega)]; omega
  have e3 : IntKind.i64.wrap ((pw n : Int) - 2) = (pw n : Int) - 2 := wrapI (by omega) (by omega)
  have hlt : m < pw n := by omega
  have hs : (zr (pw n) fun _ => 0).set m 1 = zr (pw n) (tabJ n a 0) := by
    have := zr_set (pw n) (fun _ => 0) m 1
    rw [show tabJ n a 0 = updF (fun _ => 0) m 1 by rw [hm1]; rfl]
    exact this
  simp [c41, e1, hm, hr, e2, e3, hlt, hs]
  rw [hL _ (by simp)]
  simp
end Go.Mx
