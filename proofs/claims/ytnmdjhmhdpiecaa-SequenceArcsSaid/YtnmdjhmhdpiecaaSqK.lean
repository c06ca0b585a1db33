import Derived.Test.YtnmdjhmhdpiecaaSqJ
/-
  Sequences: what is exported.
-/
namespace Go.Mx
set_option linter.unusedVariables false
set_option linter.unusedSimpArgs false
set_option linter.unusedSectionVars false
open Go

@[simp ↓ high] theorem noMem_gf {α : Type} (e : En α) (l : List α) : noMem (gsl e false l) = false := rfl
abbrev tbW (n : Nat) (a : NA) : D := tbD n false false (zr n (needG a)) (zr (pw n) (wyG n a))
theorem f14 (call : Oracle) (fuel : Nat) (n : Nat) (b : Bool) (a : NA) (e : Int)
    (h35 : call 35 [nV n, sa b (arcsZ a)] = some (nV e)) (h36 : e = 0 → call 36 [nV n, sa b (arcsZ a)] = some (tbW n a)) :
    callF call fuel c14 [nV n, sa b (arcsZ a)] = some (ctD n a e) := by
  rw [callF_tab call fuel c14 7 _ (by exact Nat.le_of_ble_eq_true rfl) (by exact Nat.le_of_ble_eq_true rfl)]
  by_cases he : e = 0
  · subst he
    have h36 := h36 rfl
    rw [ctD_ok]
    have hp : 0 < pw n := Nat.pow_pos (by decide)
    have n2 := zr_nth (pw n) (wyG n a) hp
    simp [c14, h35, h36, hp, n2]
  · rw [ctD_err n a he]
    simp [c14, h35, he]
theorem f22 (call : Oracle) (fuel : Nat) (n : Nat) (b : Bool) (a : NA) (e : Int)
    (h15 : call 15 [nV n, sa b (arcsZ a)] = some (nV e)) (h41 : e = 0 → call 41 [nV n, sa b (arcsZ a)] = some (sz (pw n) (wyG n a))) :
    callF call fuel c22 [nV n, sa b (arcsZ a)] = some (ctD n a e) := by
  rw [callF_tab call fuel c22 7 _ (by exact Nat.le_of_ble_eq_true rfl) (by exact Nat.le_of_ble_eq_true rfl)]
  by_cases he : e = 0
  · subst he
    have h41 := h41 rfl
    rw [ctD_ok]
    have hp : 0 < pw n := Nat.pow_pos (by decide)
    have n2 := zr_nth (pw n) (wyG n a) hp
    simp [c22, h15, h41, hp, n2]
  · rw [ctD_err n a he]
    simp [c22, h15, he]
theorem f31 (call : Oracle) (fuel : Nat) (n : Nat) (b : Bool) (a : NA) (e k : Int)
    (h35 : call 35 [nV n, sa b (arcsZ a)] = some (nV e)) (h36 : e = 0 → call 36 [nV n, sa b (arcsZ a)] = some (tbW n a))
    (h37 : e = 0 → ∀ k : Nat, k < wyG n a 0 → call 37 [tbW n a, nV k] = some (so (atL n a k))) :
    callF call fuel c31 [nV n, sa b (arcsZ a), nV k] = some (atD n a e k) := by
  rw [callF_tab call fuel c31 9 _ (by exact Nat.le_of_ble_eq_true rfl) (by exact Nat.le_of_ble_eq_true rfl)]
  by_cases he : e = 0
  · subst he
    have h36 := h36 rfl
    have hp : 0 < pw n := Nat.pow_pos (by decide)
    have n2 := zr_nth (pw n) (wyG n a) hp
    by_cases h1 : k < 0
    · rw [atD_neg n a h1]
      simp [c31, h35, h36, hp, n2, h1]
      rfl
    · obtain ⟨k, rfl⟩ : ∃ m : Nat, k = (m : Int) := ⟨k.toNat, by omega⟩
      by_cases h2 : k < wyG n a 0
      · have h3 : ¬ wyG n a 0 ≤ k := by omega
        have h37 := h37 rfl k h2
        rw [atD_in n a h2]
        generalize atL n a k = out at *
        simp [c31, h35, h36, hp, n2, h3, h37]
      · have h3 : wyG n a 0 ≤ k := by omega
        rw [atD_big n a h3]
        simp [c31, h35, h36, hp, n2, h3]
        rfl
  · rw [atD_err n a k he]
    simp [c31, h35, he]
    rfl
theorem atD_eq (n : Nat) (a : NA) (e k : Int) : ∃ l : List Nat, ∃ e' : Int, atD n a e k = .nd .tu [so l, nV e'] := by
  unfold atD
  split
  · split
    · exact ⟨[], 7, rfl⟩
    · exact ⟨_, 0, rfl⟩
  · exact ⟨[], e, rfl⟩
theorem f21 (call : Oracle) (fuel : Nat) (n : Nat) (b : Bool) (a : NA) (e : Int) (h31 : call 31 [nV n, sa b (arcsZ a), nV 0] = some (atD n a e 0)) :
    callF call fuel c21 [nV n, sa b (arcsZ a)] = some (atD n a e 0) := by
  rw [callF_tab call fuel c21 6 _ (by exact Nat.le_of_ble_eq_true rfl) (by exact Nat.le_of_ble_eq_true rfl)]
  obtain ⟨l, e', h⟩ := atD_eq n a e 0
  rw [h] at h31 ⊢
  simp [c21, h31]
theorem f23 (call : Oracle) (fuel : Nat) (n : Nat) (b : Bool) (a : NA) (e : Int) (h33 : call 33 [nV n, sa b (arcsZ a), nV 0] = some (atD n a e 0)) :
    callF call fuel c23 [nV n, sa b (arcsZ a)] = some (atD n a e 0) := by
  rw [callF_tab call fuel c23 6 _ (by exact Nat.le_of_ble_eq_true rfl) (by exact Nat.le_of_ble_eq_true rfl)]
  obtain ⟨l, e', h⟩ := atD_eq n a e 0
  rw [h] at h33 ⊢
  simp [c23, h33]
theorem f20 (call : Oracle) (fuel : Nat) (n : Nat) (b b' : Bool) (a : NA) (l : List Int) (e : Int)
    (h35 : call 35 [nV n, sa b (arcsZ a)] = some (nV e)) (h36 : e = 0 → call 36 [nV n, sa b (arcsZ a)] = some (tbW n a))
    (h40 : e = 0 → call 40 [tbW n a, si b' l] = some (nV (rkZ n a (wyG n a) l))) :
    callF call fuel c20 [nV n, sa b (arcsZ a), si b' l] = some (bV (decide (e = 0) && okB n a l)) := by
  rw [callF_tab call fuel c20 7 _ (by exact Nat.le_of_ble_eq_true rfl) (by exact Nat.le_of_ble_eq_true rfl)]
  by_cases he : e = 0
  · subst he
    have h36 := h36 rfl
    have h40 := h40 rfl
    unfold rkZ at h40
    cases ho : okB n a l with
    | true =>
      rw [ho, if_pos rfl] at h40
      simp [c20, h35, h36, h40]
    | false =>
      rw [ho, if_neg (by decide)] at h40
      simp [c20, h35, h36, h40]
  · simp [c20, h35, he]
theorem f27 (call : Oracle) (fuel : Nat) (n : Nat) (b b' : Bool) (a : NA) (l : List Int) (e : Int)
    (h35 : call 35 [nV n, sa b (arcsZ a)] = some (nV e)) (h36 : e = 0 → call 36 [nV n, sa b (arcsZ a)] = some (tbW n a))
    (h40 : e = 0 → call 40 [tbW n a, si b' l] = some (nV (rkZ n a (wyG n a) l))) :
    callF call fuel c27 [nV n, sa b (arcsZ a), si b' l] = some (rkD n a e l) := by
  rw [callF_tab call fuel c27 10 _ (by exact Nat.le_of_ble_eq_true rfl) (by exact Nat.le_of_ble_eq_true rfl)]
  unfold rkD
  by_cases he : e = 0
  · subst he
    have h36 := h36 rfl
    have h40 := h40 rfl
    unfold rkZ at h40
    cases ho : okB n a l with
    | true =>
      rw [ho, if_pos rfl] at h40
      simp [c27, h35, h36, h40]
    | false =>
      rw [ho, if_neg (by decide)] at h40
      simp [c27, h35, h36, h40]
  · simp [c27, h35, he]
/-- The answer of Next. -/
def nxD (n : Nat) (a : NA) (e : Int) (l : List Int) : D := if e = 0 then if okB n a l = true then atD n a 0 (kS a (wyG n a) l n + 1 : Nat) else .nd .tu [si true [], nV 9] else .nd .tu [si true [], nV e]
theorem f26 (call : Oracle) (fuel : Nat) (n : Nat) (hn : n ≤ 10) (b b' : Bool) (a : NA) (l : List Int) (e : Int)
    (h27 : call 27 [nV n, sa b (arcsZ a), si b' l] = some (rkD n a e l)) (h31 : e = 0 → ∀ k : Int, call 31 [nV n, sa b (arcsZ a), nV k] = some (atD n a 0 k)) :
    callF call fuel c26 [nV n, sa b (arcsZ a), si b' l] = some (nxD n a e l) := by
  rw [callF_tab call fuel c26 11 _ (by exact Nat.le_of_ble_eq_true rfl) (by exact Nat.le_of_ble_eq_true rfl)]
  unfold nxD
  unfold rkD at h27
  by_cases he : e = 0
  · subst he
    cases ho : okB n a l with
    | true =>
      rw [ho, if_pos rfl, if_pos rfl] at h27
      have h31 := h31 rfl (kS a (wyG n a) l n + 1 : Nat)
      have hb := kS_lt hn (a := a) (l := l) n (ok_bad ho).2
      have h2 : n * 10000000000 ≤ 10 * 10000000000 := Nat.mul_le_mul_right _ hn
      have hw := wrap_succ (i := kS a (wyG n a) l n) (by omega)
      rw [if_pos rfl, if_pos rfl]
      obtain ⟨l', e', h⟩ := atD_eq n a 0 (kS a (wyG n a) l n + 1 : Nat)
      rw [h] at h31 ⊢
      generalize kS a (wyG n a) l n = k at *
      simp only [Int.natCast_add, Int.cast_ofNat_Int] at h31
      simp [c26, h27, hw, h31]
    | false =>
      rw [ho, if_pos rfl, if_neg (by decide)] at h27
      rw [if_pos rfl, if_neg (by decide)]
      simp [c26, h27]
      rfl
  · rw [if_neg he] at h27 ⊢
    simp [c26, h27, he]
    rfl
theorem f28 (call : Oracle) (fuel : Nat) (n : Nat) (hn : n ≤ 10) (b b' : Bool) (a : NA) (l : List Int) (e : Int)
    (h29 : call 29 [nV n, sa b (arcsZ a), si b' l] = some (rkD n a e l)) (h33 : e = 0 → ∀ k : Int, call 33 [nV n, sa b (arcsZ a), nV k] = some (atD n a 0 k)) :
    callF call fuel c28 [nV n, sa b (arcsZ a), si b' l] = some (nxD n a e l) := by
  rw [callF_tab call fuel c28 11 _ (by exact Nat.le_of_ble_eq_true rfl) (by exact Nat.le_of_ble_eq_true rfl)]
  unfold nxD
  unfold rkD at h29
  by_cases he : e = 0
  · subst he
    cases ho : okB n a l with
    | true =>
      rw [ho, if_pos rfl, if_pos rfl] at h29
      have h33 := h33 rfl (kS a (wyG n a) l n + 1 : Nat)
      have hb := kS_lt hn (a := a) (l := l) n (ok_bad ho).2
      have h2 : n * 10000000000 ≤ 10 * 10000000000 := Nat.mul_le_mul_right _ hn
      have hw := wrap_succ (i := kS a (wyG n a) l n) (by omega)
      rw [if_pos rfl, if_pos rfl]
      obtain ⟨l', e', h⟩ := atD_eq n a 0 (kS a (wyG n a) l n + 1 : Nat)
      rw [h] at h33 ⊢
      generalize kS a (wyG n a) l n = k at *
      simp only [Int.natCast_add, Int.cast_ofNat_Int] at h33
      simp [c28, h29, hw, h33]
    | false =>
      rw [ho, if_pos rfl, if_neg (by decide)] at h29
      rw [if_pos rfl, if_neg (by decide)]
      simp [c28, h29]
      rfl
  · rw [if_neg he] at h29 ⊢
    simp [c28, h29, he]
    rfl

/-! ### all -/
abbrev eII : En (Bool × List Int) := eL (eI .i64)
def rowS (n : Nat) (a : NA) (k : Nat) : Bool × List Int := ((atL n a k).isEmpty, zl (atL n a k))
def allS (n : Nat) (a : NA) (m : Nat) : List (Bool × List Int) := (List.range m).map (rowS n a)
theorem allS_len (n : Nat) (a : NA) (m : Nat) : (allS n a m).length = m := by simp [allS]
theorem allS_succ (n : Nat) (a : NA) (m : Nat) : allS n a (m + 1) = allS n a m ++ [rowS n a m] := by simp [allS, List.range_succ]
abbrev aL (n : Nat) (a : NA) (m : Nat) : D := gsl eII (m == 0) (allS n a m)
theorem aL_succ (n : Nat) (a : NA) (m : Nat) : aL n a (m + 1) = gsl eII false (allS n a m ++ [((atL n a m).isEmpty, zl (atL n a m))]) := by
  show gsl eII (m + 1 == 0) (allS n a (m + 1)) = _
  rw [allS_succ]; rfl
def alD (n : Nat) (a : NA) (e : Int) : D := if e = 0 then if 200 < wyG n a 0 then .nd .tu [gsl eII true [], nV 2] else .nd .tu [aL n a (wyG n a 0), nV 0] else .nd .tu [gsl eII true [], nV e]
theorem loop13_0 (call : Oracle) (fuel : Nat) (n : Nat) (a : NA) (m : Nat) (hm : m = wyG n a 0) (hm2 : m ≤ 200)
    (h37 : ∀ k : Nat, k < wyG n a 0 → call 37 [tbW n a, nV k] = some (so (atL n a k))) (fu : Nat) (hf : 1100 < fu) (st : St)
    (h0 : drops st h13_0 = L13_0 (.own (bxT n (zr n (needG a)) (zr (pw n) (wyG n a)))) (.own (aL n a 0)) (ii m) (ii 0)) :
    run.loopN (run call fuel b13_0) fu st = some (.ex 0, X13_0 (.own (aL n a m))) := by
  refine loop_cnt call fuel h13_0 _ m (fun k => L13_0 (.own (bxT n (zr n (needG a)) (zr (pw n) (wyG n a)))) (.own (aL n a k)) (ii m) (ii k)) _ (by simp) ?_ (by simp) fu st (by rw [h0]; rfl) (by omega)
  intro k hk
  have hw := wrap_succ (i := k) (by omega)
  have kk := h37 k (by omega)
  have hb : k + 1 ≤ most := by unfold most; omega
  have hl := allS_len n a k
  rw [aL_succ]
  generalize atL n a k = out at *
  simp [hk, hw, kk, hl, hb]
theorem f13 (call : Oracle) (fuel : Nat) (hF : 1100 < fuel) (n : Nat) (b : Bool) (a : NA) (e : Int)
    (h35 : call 35 [nV n, sa b (arcsZ a)] = some (nV e)) (h36 : e = 0 → call 36 [nV n, sa b (arcsZ a)] = some (tbW n a))
    (h37 : e = 0 → ∀ k : Nat, k < wyG n a 0 → call 37 [tbW n a, nV k] = some (so (atL n a k))) :
    callF call fuel c13 [nV n, sa b (arcsZ a)] = some (alD n a e) := by
  rw [callF_tab call fuel c13 29 _ (by exact Nat.le_of_ble_eq_true rfl) (by exact Nat.le_of_ble_eq_true rfl)]
  unfold alD
  by_cases he : e = 0
  · subst he
    have h36 := h36 rfl
    have hp : 0 < pw n := Nat.pow_pos (by decide)
    have n2 := zr_nth (pw n) (wyG n a) hp
    rw [if_pos rfl]
    by_cases h2 : 200 < wyG n a 0
    · have h3 : (200 : Int) < ((wyG n a 0 : Nat) : Int) := by omega
      rw [if_pos h2]
      simp [c13, h35, h36, hp, n2, h3, h2]
      rfl
    · have h3 : ¬ (200 : Int) < ((wyG n a 0 : Nat) : Int) := by omega
      have hL := loop13_0 call fuel n a _ rfl (by omega) (h37 rfl) fuel hF
      rw [if_neg h2]
      simp [c13, h35, h36, hp, n2, h3, h2]
      rw [hL _ (by simp; rfl)]
      simp
  · rw [if_neg he]
    simp [c13, h35, he]
    rfl
theorem loop24_0 (call : Oracle) (fuel : Nat) (n : Nat) (dA : D) (a : NA) (m : Nat) (hm : m = wyG n a 0) (hm2 : m ≤ 200)
    (h33 : ∀ k : Nat, k < wyG n a 0 → call 33 [nV n, dA, nV k] = some (.nd .tu [so (atL n a k), nV 0])) (fu : Nat) (hf : 1100 < fu) (st : St)
    (h0 : drops st h24_0 = L24_0 (ii n) (.ro dA) (ii m) (.own (aL n a 0)) (ii 0)) :
    run.loopN (run call fuel b24_0) fu st = some (.ex 0, X24_0 (.own (aL n a m))) := by
  refine loop_cnt call fuel h24_0 _ m (fun k => L24_0 (ii n) (.ro dA) (ii m) (.own (aL n a k)) (ii k)) _ (by simp) ?_ (by simp) fu st (by rw [h0]; rfl) (by omega)
  intro k hk
  have hw := wrap_succ (i := k) (by omega)
  have kk := h33 k (by omega)
  have hb : k + 1 ≤ most := by unfold most; omega
  have hl := allS_len n a k
  rw [aL_succ]
  generalize atL n a k = out at *
  simp [hk, hw, kk, hl, hb]
theorem f24 (call : Oracle) (fuel : Nat) (hF : 1100 < fuel) (n : Nat) (b : Bool) (a : NA) (e : Int)
    (h22 : call 22 [nV n, sa b (arcsZ a)] = some (ctD n a e)) (h33 : e = 0 → ∀ k : Int, call 33 [nV n, sa b (arcsZ a), nV k] = some (atD n a 0 k)) :
    callF call fuel c24 [nV n, sa b (arcsZ a)] = some (alD n a e) := by
  rw [callF_tab call fuel c24 29 _ (by exact Nat.le_of_ble_eq_true rfl) (by exact Nat.le_of_ble_eq_true rfl)]
  unfold alD
  by_cases he : e = 0
  · subst he
    rw [ctD_ok] at h22
    rw [if_pos rfl]
    by_cases h2 : 200 < wyG n a 0
    · have h3 : (200 : Int) < ((wyG n a 0 : Nat) : Int) := by omega
      rw [if_pos h2]
      simp [c24, h22, h3, h2]
      rfl
    · have h3 : ¬ (200 : Int) < ((wyG n a 0 : Nat) : Int) := by omega
      have hL := loop24_0 call fuel n _ a _ rfl (by omega) (fun k hk => by rw [h33 rfl k, atD_in n a hk]) fuel hF
      rw [if_neg h2]
      simp [c24, h22, h3, h2]
      rw [hL _ (by simp; rfl)]
      simp
  · rw [ctD_err n a he] at h22
    rw [if_neg he]
    simp [c24, h22, he]
    rfl
/-! ### lists that are alike -/
def listsB (l m : List (Bool × List Int)) : Bool := decide (l.length = m.length) && !(List.range l.length).any fun i => !((nth l (true, []) i).2 == (nth m (true, []) i).2)
theorem f25 (call : Oracle) (fuel : Nat) (hF : 1100 < fuel) (b c : Bool) (l m : List (Bool × List Int)) (hl : l.length ≤ 1000)
    (h17 : ∀ x ∈ l, ∀ y : Bool × List Int, call 17 [si x.1 x.2, si y.1 y.2] = some (bV (x.2 == y.2))) :
    callF call fuel c25 [gsl eII b l, gsl eII c m] = some (bV (listsB l m)) := by
  rw [callF_tab call fuel c25 6 _ (by exact Nat.le_of_ble_eq_true rfl) (by exact Nat.le_of_ble_eq_true rfl)]
  unfold listsB
  by_cases h : l.length = m.length
  · have hL : ∀ st, drops st h25_0 = L25_0 (.ro (gsl eII b l)) (.ro (gsl eII c m)) (ii 0) → run.loopN (run call fuel b25_0) fuel st =
        some (if (List.range l.length).any (fun i => !((nth l (true, []) i).2 == (nth m (true, []) i).2)) = true then (.ret, R25 (bb false)) else (.ex 0, X25_0)) := by
      intro st h0
      refine loop_any call fuel h25_0 _ l.length _ (fun i => L25_0 (.ro (gsl eII b l)) (.ro (gsl eII c m)) (ii i)) (.ret, R25 (bb false)) _ (by simp) (by simp) ?_ (by simp) fuel st (by rw [h0]; rfl) (by omega)
      intro i hi _
      have hw := wrap_succ (i := i) (by omega)
      have him : i < m.length := by omega
      have kk := h17 _ (nth_mem (true, []) hi) (nth m (true, []) i)
      generalize hx : nth l (true, []) i = x at *
      generalize hy : nth m (true, []) i = y at *
      generalize (x.2 == y.2) = t at *
      cases t <;> simp [hi, him, hx, hy, kk, hw]
    generalize hT : (List.range l.length).any (fun i => !((nth l (true, []) i).2 == (nth m (true, []) i).2)) = t at *
    clear hT
    simp [c25, h]
    rw [hL _ (by simp)]
    cases t <;> simp
  · have h2 : ¬ (l.length : Int) = (m.length : Int) := by omega
    simp [c25, h, h2]
end Go.Mx
