import Derived.Test.YtnmdjhmhdpiecaaSqS
/-
  Sequences: the fixed calls; the laws that name the reference.
-/
namespace Go.Mx
set_option linter.unusedVariables false
set_option linter.unusedSimpArgs false
set_option linter.unusedSectionVars false
open Go

theorem aw_ct : ctZ 3 [(2, 0)] = .nd .tu [nV 3, nV 0] := by kernel_rfl
theorem aw_al : alZ 3 [(2, 0)] = .nd .tu [gsl eII false [(false, [1, 2, 0]), (false, [2, 0, 1]), (false, [2, 1, 0])], nV 0] := by kernel_rfl
theorem aw_is : isZ 3 [(2, 0)] [2, 0, 1] = true := by kernel_rfl
theorem listsB_self (l : List (Bool × List Int)) : listsB l l = true := by
  unfold listsB
  simp
theorem s11 (k : Nat) : S (k + 6) 11 [] = some (bV true) := by
  have h14 := s14 k 3 false [(2, 0)] (by simp)
  have h13 := s13 k 3 false [(2, 0)] (by simp)
  have h20 := s20 k 3 false false [(2, 0)] (by simp) [2, 0, 1]
  have h25 := s25 (k + 3) false false [(false, [1, 2, 0]), (false, [2, 0, 1]), (false, [2, 1, 0])] [(false, [1, 2, 0]), (false, [2, 0, 1]), (false, [2, 1, 0])] (by simp) (by simp)
  rw [aw_ct] at h14
  rw [aw_al] at h13
  rw [aw_is] at h20
  rw [listsB_self] at h25
  rw [S, sem_succ (mf := c11) rfl]
  rw [callF_tab _ _ c11 14 _ (by exact Nat.le_of_ble_eq_true rfl) (by exact Nat.le_of_ble_eq_true rfl)]
  have e1 : (T.nd (K.sl false 2 1) [nV 2, nV 0] : D) = sa false [(2, 0)] := rfl
  have e2 : (T.nd (K.sl false 1 3) [nV 1, nV 2, nV 0] : D) = gsl (eI .i64) false [1, 2, 0] := rfl
  have e3 : (T.nd (K.sl false 1 3) [nV 2, nV 0, nV 1] : D) = gsl (eI .i64) false [2, 0, 1] := rfl
  have e4 : (T.nd (K.sl false 1 3) [nV 2, nV 1, nV 0] : D) = gsl (eI .i64) false [2, 1, 0] := rfl
  have e5 : (T.nd (K.sl false 1 3) [gsl (eI .i64) false [1, 2, 0], gsl (eI .i64) false [2, 0, 1], gsl (eI .i64) false [2, 1, 0]] : D) = gsl eII false [(false, [1, 2, 0]), (false, [2, 0, 1]), (false, [2, 1, 0])] := rfl
  simp [c11, e1, e2, e3, e4, e5, h14, h13, h20, h25]

/-! ### the shapes of the answers -/
theorem ctZ_eq (n : Int) (a : List (Int × Int)) : ∃ k e : Int, ctZ n a = .nd .tu [nV k, nV e] := ⟨_, _, rfl⟩
theorem atL_len {n : Nat} {a : NA} {k : Nat} (h : k < wyG n a 0) : (atL n a k).length = n := (atS_inv h n (Nat.le_refl _)).2.2.2
theorem alZ_eq (n : Int) (a : List (Int × Int)) (hl : a.length ≤ 1000) : ∃ (b : Bool) (l : List (Bool × List Int)) (e : Int), alZ n a = .nd .tu [gsl eII b l, nV e] ∧ l.length ≤ 1000 ∧ ∀ x ∈ l, x.2.length ≤ 1000 := by
  unfold alZ alD
  by_cases he : chkI n a = 0
  · rw [if_pos he]
    obtain ⟨m, rfl, h1, h2, _⟩ := chk_ok he hl
    split
    · exact ⟨true, [], 2, rfl, by simp, by simp⟩
    · refine ⟨_, _, 0, rfl, by rw [allS_len]; omega, fun x hx => ?_⟩
      unfold allS at hx
      obtain ⟨k, hk, rfl⟩ := List.mem_map.1 hx
      have hk := List.mem_range.1 hk
      have hn := h2.hn
      show (zl (atL (m : Int).toNat (natA a) k)).length ≤ 1000
      rw [zl_len, atL_len hk]
      omega
  · rw [if_neg he]; exact ⟨true, [], _, rfl, by simp, by simp⟩
theorem rankZ_eq (n : Int) (a : List (Int × Int)) (l : List Int) : ∃ k e : Int, rankZ n a l = .nd .tu [nV k, nV e] := by
  unfold rankZ rkD
  split
  · split <;> exact ⟨_, _, rfl⟩
  · exact ⟨_, _, rfl⟩
theorem atD_eq2 (n : Nat) (a : NA) (e k : Int) (hn : n ≤ 10 ∨ e ≠ 0) : ∃ (b : Bool) (l : List Int) (e' : Int), atD n a e k = .nd .tu [si b l, nV e'] ∧ l.length ≤ 1000 := by
  unfold atD
  split
  · split
    · exact ⟨true, [], 7, rfl, by simp⟩
    · refine ⟨_, _, 0, rfl, ?_⟩
      rename_i he h
      rw [zl_len, atL_len (by omega)]
      rcases hn with h | h
      · omega
      · exact absurd he h
  · exact ⟨true, [], e, rfl, by simp⟩
theorem chk_n (n : Int) (a : List (Int × Int)) (hl : a.length ≤ 1000) : n.toNat ≤ 10 ∨ chkI n a ≠ 0 := by
  by_cases he : chkI n a = 0
  · obtain ⟨m, rfl, h1, h2, _⟩ := chk_ok he hl
    have := h2.hn
    left; omega
  · exact .inr he
theorem atZ_eq (n : Int) (a : List (Int × Int)) (hl : a.length ≤ 1000) (k : Int) : ∃ (b : Bool) (l : List Int) (e' : Int), atZ n a k = .nd .tu [si b l, nV e'] ∧ l.length ≤ 1000 := atD_eq2 _ _ _ _ (chk_n n a hl)
theorem nextZ_eq (n : Int) (a : List (Int × Int)) (hl : a.length ≤ 1000) (l : List Int) : ∃ (b : Bool) (l' : List Int) (e' : Int), nextZ n a l = .nd .tu [si b l', nV e'] ∧ l'.length ≤ 1000 := by
  unfold nextZ nxD
  split
  · split
    · refine atD_eq2 _ _ _ _ ?_
      rename_i he _
      rcases chk_n n a hl with h | h
      · exact .inl h
      · exact absurd he h
    · exact ⟨true, [], 9, rfl, by simp⟩
  · exact ⟨true, [], _, rfl, by simp⟩
theorem plcZ_eq (n : Int) (a : List (Int × Int)) (hl : a.length ≤ 1000) (i : Int) : ∃ (b : Bool) (l : List Int) (e' : Int), plcZ n a i = .nd .tu [si b l, nV e'] ∧ l.length ≤ 1000 := by
  unfold plcZ plD
  split
  · split
    · refine ⟨_, _, 0, rfl, ?_⟩
      rename_i he _
      rw [zr_len]
      rcases chk_n n a hl with h | h
      · omega
      · exact absurd he h
    · exact ⟨true, [], 2, rfl, by simp⟩
  · exact ⟨true, [], _, rfl, by simp⟩

/-! ### the laws -/
theorem law6 (n : Int) (b : Bool) (a : List (Int × Int)) : S 9 6 [nV n, sa b a] = some (bV true) := by
  have h11 := s11 2
  have h12 := s12 7 n b a
  rw [S, sem_succ (mf := c6) rfl]
  rw [callF_tab _ _ c6 57 _ (by exact Nat.le_of_ble_eq_true rfl) (by exact Nat.le_of_ble_eq_true rfl)]
  cases hf : fewB n a with
  | false =>
    rw [hf] at h12
    simp [c6, h11, h12]
  | true =>
    rw [hf] at h12
    have hl := few_len hf
    have h14 := s14 3 n b a hl
    have h21 := s21 2 n b a hl
    have h13 := s13 3 n b a hl
    have h22 := s22 3 n b a hl
    have h23 := s23 1 n b a hl
    have h24 := s24 1 n b a hl
    obtain ⟨k, e, g1⟩ := ctZ_eq n a
    obtain ⟨b1, l1, e1, g2, g3⟩ := atZ_eq n a hl 0
    obtain ⟨b2, l2, e2, g4, g5, g6⟩ := alZ_eq n a hl
    rw [g1] at h14 h22
    rw [g2] at h21 h23
    rw [g4] at h13 h24
    have h17 := s17 7 b1 b1 l1 l1 g3
    have h25 := s25 6 b2 b2 l2 l2 g5 g6
    rw [listsB_self] at h25
    simp at h17
    simp [c6, h11, h12, h14, h21, h13, h22, h23, h24, h17, h25]
theorem law7 (n : Int) (b b' : Bool) (a : List (Int × Int)) (l : List Int) : S 9 7 [nV n, sa b a, si b' l] = some (bV true) := by
  have h11 := s11 2
  have h12 := s12 7 n b a
  rw [S, sem_succ (mf := c7) rfl]
  rw [callF_tab _ _ c7 55 _ (by exact Nat.le_of_ble_eq_true rfl) (by exact Nat.le_of_ble_eq_true rfl)]
  cases hf : fewB n a with
  | false =>
    rw [hf] at h12
    simp [c7, h11, h12]
  | true =>
    rw [hf] at h12
    by_cases hs : 30 < l.length
    · have hs' : (30 : Int) < (l.length : Int) := by omega
      simp [c7, h11, h12, hs', hs]
    · have hs' : ¬ (30 : Int) < (l.length : Int) := by omega
      have hl := few_len hf
      have hm : l.length ≤ most := by unfold most; omega
      have h26 := s26 2 n b false a hl l
      have h27 := s27 3 n b false a hl l
      have h28 := s28 1 n b b' a hl l (by omega)
      have h29 := s29 2 n b b' a hl l (by omega)
      have h20 := s20 3 n b false a hl l
      have h30 := s30 3 n b b' a hl l (by omega)
      have h17' := s17 7 false b' l l (by omega)
      obtain ⟨k, e, g1⟩ := rankZ_eq n a l
      obtain ⟨b1, l1, e1, g2, g3⟩ := nextZ_eq n a hl l
      rw [g1] at h27 h29
      rw [g2] at h26 h28
      have h17 := s17 7 b1 b1 l1 l1 g3
      generalize isZ n a l = t at *
      simp at h17 h17'
      simp [c7, h11, h12, hs', hs, hm, h26, h27, h28, h29, h20, h30, h17, h17']
theorem law10 (n : Int) (b : Bool) (a : List (Int × Int)) (i j : Int) : S 9 10 [nV n, sa b a, .nd .ag [nV i, nV j]] = some (bV true) := by
  have h11 := s11 2
  have h12 := s12 7 n b a
  rw [S, sem_succ (mf := c10) rfl]
  rw [callF_tab _ _ c10 49 _ (by exact Nat.le_of_ble_eq_true rfl) (by exact Nat.le_of_ble_eq_true rfl)]
  cases hf : fewB n a with
  | false =>
    rw [hf] at h12
    simp [c10, h11, h12]
  | true =>
    rw [hf] at h12
    have hl := few_len hf
    have h31 := s31 3 n b a hl i
    have h32 := s32 3 n b a hl j
    have h33 := s33 2 n b a hl i
    have h34 := s34 3 n b a hl j
    obtain ⟨b1, l1, e1, g2, g3⟩ := atZ_eq n a hl i
    obtain ⟨b2, l2, e2, g4, g5⟩ := plcZ_eq n a hl j
    rw [g2] at h31 h33
    rw [g4] at h32 h34
    have h17 := s17 7 b1 b1 l1 l1 g3
    have h17' := s17 7 b2 b2 l2 l2 g5
    simp at h17 h17'
    simp [c10, h11, h12, h31, h32, h33, h34, h17, h17']
end Go.Mx
