import Derived.Test.YtgligngmbkkkkaaAxH
/-
  The axis: the law on the median.
-/
namespace Go.Mx
set_option linter.unusedVariables false
set_option linter.unusedSimpArgs false
set_option linter.unusedSectionVars false
open Go

structure MedOK (s : Nat → Int) (b : Nat) (m : Int) : Prop where
  lt : b < 12
  val : m = s b
  le : ∀ j, j < 12 → m ≤ s j
  first : ∀ j, j < b → m < s j

theorem med_from (s : Nat → Int) : ∀ (k h : Nat) (b : Nat) (m : Int), h + k = 12 → b < h → m = s b → 0 ≤ m → (∀ j, j < 12 → 0 ≤ s j) → (∀ j, j < h → m ≤ s j) → (∀ j, j < b → m < s j) →
    ∃ B M, medFrom s h k (b : Nat) m = (((B : Nat) : Int), M) ∧ MedOK s B M
  | 0, h, b, m, hk, hb, hm, h0, hs, hle, hlt => ⟨b, m, rfl, by omega, hm, fun j hj => hle j (by omega), hlt⟩
  | k + 1, h, b, m, hk, hb, hm, h0, hs, hle, hlt => by
    rw [medFrom]
    by_cases hc : s h < m
    · rw [if_pos (.inr hc)]
      exact med_from s k (h + 1) h (s h) (by omega) (by omega) rfl (hs h (by omega)) hs
        (fun j hj => by
          rcases Nat.lt_or_ge j h with h1 | h1
          · have := hle j h1; omega
          · have : j = h := by omega
            subst this; omega)
        (fun j hj => by have := hle j hj; omega)
    · rw [if_neg (by omega)]
      exact med_from s k (h + 1) b m (by omega) (by omega) hm h0 hs
        (fun j hj => by
          rcases Nat.lt_or_ge j h with h1 | h1
          · exact hle j h1
          · have : j = h := by omega
            subst this; omega)
        hlt

theorem med_ok (s : Nat → Int) (hs : ∀ j, j < 12 → 0 ≤ s j) : ∃ B M, medFrom s 0 12 0 (-1) = (((B : Nat) : Int), M) ∧ MedOK s B M := by
  have e : medFrom s 0 12 0 (-1) = medFrom s 1 11 ((0 : Nat) : Int) (s 0) := by rw [medFrom, if_pos (.inl (by decide))]
  rw [e]
  refine med_from s 11 1 0 (s 0) (by omega) (by omega) rfl (hs 0 (by omega)) hs ?_ (fun j hj => by omega)
  intro j hj
  have : j = 0 := by omega
  subst this
  omega

theorem loop5_1 (call : Oracle) (fuel : Nat) (b : Bool) (l : List Int) (hl : l.length ≤ 80) (hf : 100 < fuel) (h : Int) (d : Int → Int) (h13 : ∀ x ∈ l, call 13 [.v (.int .i64 h), .v (.int .i64 x)] = some (.v (.int .i64 (d x)))) (hd : ∀ x ∈ l, 0 ≤ d x ∧ d x ≤ 6)
    (b0 m0 : Int) (st : St)
    (h0 : drops st h5_1 = L5_1 (.ro (sl b l)) (ii b0) (ii m0) (ii h) (ii 0) (ii 0)) :
    run.loopN (run call fuel b5_1) fuel st = some (.ex 2, X5_2 (.ro (sl b l)) (ii b0) (ii m0) (ii h) (ii (sumD d l))) := by
  refine loop_rule (fun m st => ∃ i : Nat, i ≤ l.length ∧ m = l.length - i ∧ drops st h5_1 = L5_1 (.ro (sl b l)) (ii b0) (ii m0) (ii h) (ii (sumD d (l.take i))) (ii (i : Nat)))
    (fun r => r = some (.ex 2, X5_2 (.ro (sl b l)) (ii b0) (ii m0) (ii h) (ii (sumD d l)))) ?_ l.length fuel st ⟨0, by omega, by omega, by simpa [sumD] using h0⟩ (by omega)
  rintro m st ⟨i, hi, hm, hst⟩
  by_cases hlt : i < l.length
  · left
    have hw1 := wrap_succ (i := i) (by omega)
    have hw2 := sumD_take d l hd i hlt hl
    have e := h13 l[i] (List.getElem_mem hlt)
    refine ⟨_, by rw [b5_1, run_scr, hst]; simp [sl, hlt, e, hw1, hw2]; rfl, m - 1, by omega, i + 1, by omega, by omega, ?_⟩
    simp [sl]
  · right
    have : i = l.length := by omega
    subst this
    refine ⟨.ex 2, _, by rw [b5_1, run_scr, hst]; simp [sl]; rfl, by simp, ?_⟩
    simp [sl]

theorem loop5_0 (call : Oracle) (fuel : Nat) (b : Bool) (l : List Int) (hl : l.length ≤ 80) (hf : 100 < fuel) (d : Nat → Int → Int) (h13 : ∀ h : Nat, h < 12 → ∀ x ∈ l, call 13 [.v (.int .i64 (h : Nat)), .v (.int .i64 x)] = some (.v (.int .i64 (d h x))))
    (hd : ∀ h : Nat, h < 12 → ∀ x ∈ l, 0 ≤ d h x ∧ d h x ≤ 6) (B : Nat) (M : Int) (ok : MedOK (fun h => sumD (d h) l) B M) (st : St)
    (h0 : drops st h5_0 = L5_0 (.ro (sl b l)) (ii (B : Nat)) (ii M) (ii 0)) :
    run.loopN (run call fuel b5_0) fuel st = some (.ex 0, X5_0 (ii (B : Nat))) := by
  refine loop_rule (fun m st => ∃ (i : Nat), i ≤ 12 ∧ m = 12 - i ∧ drops st h5_0 = L5_0 (.ro (sl b l)) (ii (B : Nat)) (ii M) (ii (i : Nat)))
    (fun r => r = some (.ex 0, X5_0 (ii (B : Nat)))) ?_ 12 fuel st ⟨0, by omega, by omega, by simpa using h0⟩ (by omega)
  rintro m st ⟨i, hi, hm, hst⟩
  by_cases hlt : i < 12
  · left
    have e := loop5_1 call fuel b l hl hf (i : Nat) (d i) (h13 i hlt) (hd i hlt) (B : Nat) M
    have hw := wrap_succ (i := i) (by omega)
    have h1 : (i : Int) < 12 := by omega
    have q1 : ¬ sumD (d i) l < M := by have : M ≤ sumD (d i) l := ok.le i hlt; omega
    refine ⟨_, by
      rw [b5_0, run_scr, hst]
      simp [sl, h1]
      rw [e _ (by simp [sl])]
      rcases Nat.lt_trichotomy i B with h2 | h2 | h2
      · have q2 : ¬ (sumD (d i) l = M) := by have : M < sumD (d i) l := ok.first i h2; omega
        have q3 : ¬ ((i : Int) = (B : Int)) := by omega
        have q4 : ¬ (i = B) := by omega
        have q5 : (sumD (d i) l == M) = false := by simpa using q2
        have q6 : ((i : Int) == (B : Int)) = false := by simpa using q3
        simp [q1, h2, q2, q3, q4, q5, q6, hw]
        rfl
      · subst h2
        have q2 : sumD (d i) l = M := ok.val.symm
        simp [q2, hw]
      · have q2 : ¬ (i < B) := by omega
        have q4 : ¬ (i = B) := by omega
        have q3 : ¬ ((i : Int) = (B : Int)) := by omega
        have q6 : ((i : Int) == (B : Int)) = false := by simpa using q3
        simp [q1, q2, q4, q6, hw], m - 1, by omega, i + 1, by omega, by omega, ?_⟩
    simp [sl]
  · right
    have : i = 12 := by omega
    subst this
    refine ⟨.ex 0, _, by rw [b5_0, run_scr, hst]; simp [sl]; rfl, by simp, ?_⟩
    simp

theorem f5 (call : Oracle) (fuel : Nat) (hf : 100 < fuel) (b : Bool) (l : List Int) (h12 : call 12 [] = some (.v (.bool true))) (h16 : call 16 [sl b l] = some (.v (.bool (decide (l.length ≤ 80)))))
    (h13 : ∀ a b : Int, call 13 [.v (.int .i64 a), .v (.int .i64 b)] = some (.v (.int .i64 (DistZ a b))))
    (h21 : ∀ n lo hi : Int, call 21 [.v (.int .i64 n), .v (.int .i64 lo), .v (.int .i64 hi)] = some (.v (.bool (inB n lo hi))))
    (h19 : l.length ≤ 80 → call 19 [sl b l] = some (medD (filledZ l) (fun h => sumD (distZ (h : Nat)) l))) :
    callF call fuel c5 [sl b l] = some (.v (.bool true)) := by
  by_cases hl : l.length ≤ 80
  · have h19 := h19 hl
    simp only [hl, decide_true] at h16
    by_cases h : filledZ l = 0
    · have hh := hours_of_filled h
      have hr : ∀ h : Nat, h < 12 → ∀ y ∈ l, 0 ≤ distZ (h : Nat) y ∧ distZ (h : Nat) y ≤ 6 := fun h hlt y hy => dist_range (hour_nat hlt) (hh y hy)
      obtain ⟨B, M, hm, ok⟩ := med_ok (fun h => sumD (distZ (h : Nat)) l) (fun j hj => (sumD_range _ l (hr j hj)).1)
      have e := loop5_0 call fuel b l hl hf (fun h => distZ (h : Nat)) (fun h hlt y hy => by
        rw [h13]
        simp [DistZ, hour_nat hlt, hh y hy]) hr B M ok
      unfold medD at h19
      rw [if_pos h, hm] at h19
      have hB : inB (B : Nat) 0 11 = true := by rw [hour_in]; exact hour_nat ok.lt
      unfold sl tri at *
      simp [c5, h12, h16, h19]
      rw [e]
      · simp [h21, hB]
      · simp
    · have h' : (filledZ l != 0) = true := by simpa using h
      unfold medD at h19
      rw [if_neg h] at h19
      unfold sl tri at *
      simp [c5, h12, h16, h19, h']
  · simp only [hl, decide_false] at h16
    unfold sl at *
    simp [c5, h12, h16]

end Go.Mx
