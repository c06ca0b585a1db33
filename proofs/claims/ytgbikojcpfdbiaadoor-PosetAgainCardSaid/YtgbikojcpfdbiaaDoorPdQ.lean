import Derived.Test.YtgbikojcpfdbiaaDoorPdP
import Derived.Lib.TrailingZeros
/-
  The members of a set, one by one (plain).
-/
namespace Go.Mx
set_option linter.unusedVariables false
set_option linter.unusedSimpArgs false
set_option linter.unusedSectionVars false
open Go

theorem low_bits {x : Nat} (h0 : x ≠ 0) (h : x < 2 ^ 32) : x.testBit (Lib.ctz 32 x) = true ∧ Lib.ctz 32 x < 32 ∧ ∀ i, (x &&& (x - 1)).testBit i = (x.testBit i && decide (i ≠ Lib.ctz 32 x)) := by
  obtain ⟨m, hm, hk⟩ := Lib.ctzFrom_spec 32 x (by omega) h
  have e : Lib.ctz 32 x = Lib.ctzFrom 32 x := by simp [Lib.ctz, h0]
  rw [e]
  generalize Lib.ctzFrom 32 x = k at *
  have hp : 0 < 2 ^ k := Nat.two_pow_pos k
  have e1 : x = 2 ^ k * (2 * m + 1) + 0 := by omega
  have e2 : x - 1 = 2 ^ k * (2 * m) + (2 ^ k - 1) := by
    rw [hm, Nat.mul_add, Nat.mul_one]
    omega
  have t1 : ∀ i, x.testBit i = if i < k then false else (2 * m + 1).testBit (i - k) := by
    intro i
    rw [e1, Nat.testBit_two_pow_mul_add _ hp]
    simp
  have t2 : ∀ i, (x - 1).testBit i = if i < k then (2 ^ k - 1).testBit i else (2 * m).testBit (i - k) := by
    intro i
    rw [e2, Nat.testBit_two_pow_mul_add _ (by omega)]
  refine ⟨?_, hk, fun i => ?_⟩
  · rw [t1, if_neg (Nat.lt_irrefl _), Nat.sub_self]
    simp [Nat.testBit_zero]
  · rw [Nat.testBit_and, t1, t2]
    by_cases h1 : i < k
    · rw [if_pos h1]; simp
    · rw [if_neg h1, if_neg h1]
      by_cases h2 : i = k
      · subst h2; simp [Nat.testBit_zero]
      · obtain ⟨d, hd⟩ : ∃ d, i - k = d + 1 := ⟨i - k - 1, by omega⟩
        rw [hd, Nat.testBit_succ, Nat.testBit_succ]
        have a1 : (2 * m + 1) / 2 = m := by omega
        have a2 : 2 * m / 2 = m := by omega
        rw [a1, a2]
        simp [h2]
/-- How many members. -/
def bcnt (x : Nat) : Nat := ((List.range 32).filter fun i => x.testBit i).length
theorem bcnt_le (x : Nat) : bcnt x ≤ 32 := by
  unfold bcnt
  exact Nat.le_trans (List.length_filter_le _ _) (by simp)
theorem bcnt_lt {x : Nat} (h0 : x ≠ 0) (h : x < 2 ^ 32) : bcnt (x &&& (x - 1)) < bcnt x := by
  obtain ⟨h1, h2, h3⟩ := low_bits h0 h
  refine filter_lt _ (fun i _ hi => ?_) ⟨Lib.ctz 32 x, List.mem_range.2 h2, ?_, h1⟩
  · rw [h3] at hi
    simp only [Bool.and_eq_true] at hi
    exact hi.1
  · rw [h3]; simp
/-- What the members' sets hold together. -/
def ovN (r : Nat → Nat) : Nat → Nat → Nat → Nat
  | 0, _, o => o
  | f + 1, x, o => if x = 0 then o else ovN r f (x &&& (x - 1)) (o ||| r (Lib.ctz 32 x))
theorem ov_bit (r : Nat → Nat) : ∀ (n x o : Nat), x < 2 ^ 32 → bcnt x < n → ∀ j, (ovN r n x o).testBit j = (o.testBit j || (List.range 32).any fun k => x.testBit k && (r k).testBit j)
  | 0, x, o, _, h, j => by omega
  | n + 1, x, o, hx, h, j => by
    unfold ovN
    by_cases h0 : x = 0
    · rw [if_pos h0, h0]; simp
    · rw [if_neg h0]
      obtain ⟨h1, h2, h3⟩ := low_bits h0 hx
      have h4 := bcnt_lt h0 hx
      have h5 : x &&& (x - 1) < 2 ^ 32 := Nat.lt_of_le_of_lt Nat.and_le_left hx
      rw [ov_bit r n _ _ h5 (by omega) j, Nat.testBit_or]
      rw [Bool.eq_iff_iff]
      simp only [Bool.or_eq_true, List.any_eq_true, List.mem_range, Bool.and_eq_true, h3, decide_eq_true_eq]
      constructor
      · rintro ((h | h) | ⟨k, hk, ⟨a, _⟩, b⟩)
        · exact .inl h
        · exact .inr ⟨_, h2, h1, h⟩
        · exact .inr ⟨k, hk, a, b⟩
      · rintro (h | ⟨k, hk, a, b⟩)
        · exact .inl (.inl h)
        · by_cases hkc : k = Lib.ctz 32 x
          · subst hkc; exact .inl (.inr b)
          · exact .inr ⟨k, hk, ⟨a, hkc⟩, b⟩
theorem ov_lt (r : Nat → Nat) (hr : ∀ i, r i < 2 ^ 32) : ∀ (n x o : Nat), o < 2 ^ 32 → ovN r n x o < 2 ^ 32
  | 0, x, o, h => h
  | n + 1, x, o, h => by
    unfold ovN
    split
    · exact h
    · exact ov_lt r hr n _ _ (Nat.or_lt_two_pow h (hr _))
/-- What is left of a set when all that its members reach is taken away. -/
def redS (r : Nat → Nat) (i : Nat) : Nat := andN (r i) (ovN r 33 (r i) 0)
theorem redS_lt {r : Nat → Nat} (hr : ∀ i, r i < 2 ^ 32) (i : Nat) : redS r i < 2 ^ 32 := Nat.lt_of_le_of_lt (andN_le _ _) (hr i)
theorem redS_bit {n : Nat} (hn : n ≤ 32) {g : Nat → Nat} (hr : ∀ i, warr g n i < 2 ^ 32) (hg : ∀ i j, (g i).testBit j = true → i < n ∧ j < n) (i j : Nat) : (redS (warr g n) i).testBit j = redB g n i j := by
  unfold redS
  rw [andN_bit, ov_bit _ _ _ _ (hr i) (Nat.lt_of_le_of_lt (bcnt_le _) (by decide)), Nat.zero_testBit, Bool.false_or, Bool.eq_iff_iff, red_iff]
  simp only [Bool.and_eq_true, Bool.not_eq_true', List.any_eq_false, List.mem_range, not_and, Bool.not_eq_true]
  constructor
  · rintro ⟨h1, h2⟩
    exact ⟨h1, fun k hk => h2 k (by omega)⟩
  · rintro ⟨h1, h2⟩
    refine ⟨h1, fun k hk a => ?_⟩
    exact h2 k (Rr_lt hg a).2 a
end Go.Mx
