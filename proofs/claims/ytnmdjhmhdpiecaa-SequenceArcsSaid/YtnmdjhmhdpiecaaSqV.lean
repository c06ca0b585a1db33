import Derived.Test.YtnmdjhmhdpiecaaSqP
/-
  Sequences: numbers and orders are inverse; places add up.
-/
namespace Go.Mx
set_option linter.unusedVariables false
set_option linter.unusedSimpArgs false
set_option linter.unusedSectionVars false
open Go

@[simp] theorem natOf_10' : natOf 10 = some 10 := rfl
theorem good_chk {n : Int} {a : List (Int × Int)} (h : chkI n a = 0) (hl : a.length ≤ 1000) : ∃ m : Nat, n = (m : Int) ∧ a = arcsZ (natA a) ∧ GoodA m (natA a) ∧ 1 ≤ wyG m (natA a) 0 := by
  obtain ⟨m, rfl, h1, h2, h3, _⟩ := chk_ok h hl
  exact ⟨m, rfl, h1, h2, wy_pos0 h2.ha (acy_of h3)⟩
theorem law8 (n : Int) (b : Bool) (a : List (Int × Int)) (x : Int) (hx : 0 ≤ x ∧ x < 65536) : S 9 8 [nV n, sa b a, .v (.int .u16 x)] = some (bV true) := by
  have h11 := s11 2
  have h12 := s12 7 n b a
  rw [S, sem_succ (mf := c8) rfl]
  rw [callF_tab _ _ c8 107 _ (by exact Nat.le_of_ble_eq_true rfl) (by exact Nat.le_of_ble_eq_true rfl)]
  cases hf : fewB n a with
  | false =>
    rw [hf] at h12
    simp [c8, h11, h12]
  | true =>
    rw [hf] at h12
    have hl := few_len hf
    have h14 := s14 3 n b a hl
    unfold ctZ at h14
    by_cases he : chkI n a = 0
    · obtain ⟨m, rfl, h1, h2, h3⟩ := good_chk he hl
      rw [he, ctD_ok, Int.toNat_natCast] at h14
      have h31 := fun i => s31 3 m b a hl i
      have h27 := fun b' l => s27 3 m b b' a hl l
      have h20 := fun b' l => s20 3 m b b' a hl l
      have h26 := fun b' l => s26 2 m b b' a hl l
      unfold atZ at h31
      unfold rankZ rkD at h27
      unfold isZ at h20
      unfold nextZ nxD at h26
      simp only [he, Int.toNat_natCast, if_true, decide_true, Bool.true_and] at h31 h27 h20 h26
      generalize hA : natA a = A at *
      obtain ⟨y, rfl⟩ : ∃ y : Nat, x = (y : Int) := ⟨x.toNat, by omega⟩
      have hW := wy_lt h2.hn A 0
      have hw0 : IntKind.i64.wrap (y : Int) = (y : Int) := wrapI (by omega) (by omega)
      obtain ⟨k, hkd⟩ : ∃ k, k = y % wyG m A 0 := ⟨_, rfl⟩
      have hk : k < wyG m A 0 := by rw [hkd]; exact Nat.mod_lt _ (by omega)
      have e1 : intBin .rem .i64 (y : Int) ((wyG m A 0 : Nat) : Int) = some (.int .i64 (k : Int)) := by
        have h0 : ¬ ((wyG m A 0 : Nat) : Int) = 0 := by omega
        simp only [intBin]
        rw [if_neg h0, ← Int.ofNat_tmod, hkd]
      have g31 := h31 k
      rw [atD_in m A hk] at g31
      have g27 := h27 (atL m A k).isEmpty (zl (atL m A k))
      rw [at_ok hk, if_pos rfl, at_rank hk] at g27
      have g20 := h20 (atL m A k).isEmpty (zl (atL m A k))
      rw [at_ok hk] at g20
      have g26 := h26 (atL m A k).isEmpty (zl (atL m A k))
      rw [at_ok hk, if_pos rfl, at_rank hk] at g26
      have e2 : IntKind.i64.wrap (((wyG m A 0 : Nat) : Int) - 1) = ((wyG m A 0 : Nat) : Int) - 1 := wrapI (by omega) (by omega)
      have c0 : ¬ ((wyG m A 0 : Nat) : Int) < 1 := by omega
      have c1 : ¬ wyG m A 0 < 1 := by omega
      by_cases hl : k + 1 = wyG m A 0
      · rw [atD_big m A (by omega)] at g26
        have g31' := h31 ((wyG m A 0 : Nat) : Int)
        rw [atD_big m A (Nat.le_refl _)] at g31'
        have c2 : (k : Int) = ((wyG m A 0 : Nat) : Int) - 1 := by omega
        have e2 := e2.trans c2.symm
        generalize wyG m A 0 = W at *
        generalize atL m A k = out at *
        clear h31 h27 h20 h26
        simp at g20
        simp [c8, h11, h12, h14, c0, c1, hw0, e1, g31, g27, g20, g26, e2, g31']
      · have hk2 : k + 1 < wyG m A 0 := by omega
        rw [atD_in m A hk2] at g26
        have g27' := h27 (atL m A (k + 1)).isEmpty (zl (atL m A (k + 1)))
        rw [at_ok hk2, if_pos rfl, at_rank hk2] at g27'
        have c2 : ¬ (k : Int) = ((wyG m A 0 : Nat) : Int) - 1 := by omega
        have hw := wrap_succ (i := k) (by omega)
        generalize wyG m A 0 = W at *
        generalize atL m A k = out at *
        generalize atL m A (k + 1) = out2 at *
        clear h31 h27 h20 h26
        simp at g20
        simp [c8, h11, h12, h14, c0, c1, hw0, e1, g31, g27, g20, g26, e2, c2, g27', hw]
    · rw [ctD_err _ _ he] at h14
      simp [c8, h11, h12, h14, he]

/-! ### places add up -/
def su2 (g o : Nat → Nat) (i : Nat) : Nat → Nat := fun j => if j < i then g j + o j else g j
theorem su2_succ (g o : Nat → Nat) (i : Nat) : su2 g o (i + 1) = updF (su2 g o i) i (g i + o i) := by
  funext j
  unfold su2 updF
  by_cases h : j = i
  · subst h; rw [if_pos (by omega), if_pos rfl]
  · rw [if_neg h]
    dsimp only
    by_cases h2 : j < i
    · rw [if_pos (by omega), if_pos h2]
    · rw [if_neg (by omega), if_neg h2]
theorem su2_zero (g o : Nat → Nat) : su2 g o 0 = g := by funext j; simp [su2]
def totJ (n : Nat) (a : NA) : Nat → Nat → Nat
  | 0 => fun _ => 0
  | v + 1 => su2 (totJ n a v) (outJ n a (wyG n a) v (pw n)) n
theorem totJ_eq {n : Nat} {a : NA} {j : Nat} (hj : j < n) : ∀ v, totJ n a v j = sumN v fun i => outJ n a (wyG n a) i (pw n) j
  | 0 => rfl
  | v + 1 => by
    simp only [totJ, sumN, su2]
    rw [if_pos hj, totJ_eq hj v]
theorem totJ_le {n : Nat} (hn : n ≤ 10) (a : NA) (j : Nat) : ∀ v, v ≤ n → totJ n a v j ≤ v * 10000000000
  | 0, _ => Nat.zero_le _
  | v + 1, hv => by
    have ih := totJ_le hn a j v (by omega)
    have e : totJ n a (v + 1) j = if j < n then totJ n a v j + outJ n a (wyG n a) v (pw n) j else totJ n a v j := rfl
    rw [e]
    split
    · rename_i h
      have := outJ_le hn a (i := v) (s := pw n) (p := j) (Nat.lt_of_succ_le hv) (Nat.le_refl _) h
      rw [Nat.succ_mul]
      exact Nat.add_le_add ih this
    · rw [Nat.succ_mul]
      exact Nat.le_trans ih (Nat.le_add_right _ _)
theorem loop9_1 (call : Oracle) (fuel : Nat) (n : Nat) (hn : n ≤ 10) (dA : D) (all : Int) (g o : Nat → Nat) (hg : ∀ j, g j ≤ 1000000000000) (ho : ∀ j, j < n → o j ≤ 1000000000000) (hs : ∀ j, j ≤ n → sumN j o ≤ 1000000000000) (v : Int) (fu : Nat) (hf : 1100 < fu) (st : St)
    (h0 : drops st h9_1 = L9_1 (ii n) (.ro dA) (ii all) (.own (sz 10 g)) (ii v) (.own (sz n o)) (ii 0) (ii 0)) :
    run.loopN (run call fuel b9_1) fu st = some (.ex 2, X9_2 (ii n) (.ro dA) (ii all) (.own (sz 10 (su2 g o n))) (ii v) (ii (sumN n o))) := by
  refine loop_cnt call fuel h9_1 _ n (fun i => L9_1 (ii n) (.ro dA) (ii all) (.own (sz 10 (su2 g o i))) (ii v) (.own (sz n o)) (ii (sumN i o)) (ii i)) _ (by simp) ?_ (by simp) fu st (by rw [h0, su2_zero]; rfl) (by omega)
  intro i hi
  have hw := wrap_succ (i := i) (by omega)
  have h10 : i < 10 := by omega
  have n1 := zr_nth n o hi
  have n2 := zr_nth 10 (su2 g o i) h10
  have e0 : su2 g o i i = g i := by unfold su2; rw [if_neg (by omega)]
  rw [e0] at n2
  have b1 := hg i
  have b2 := ho i hi
  have b3 := hs i (by omega)
  have e1 : sumN (i + 1) o = sumN i o + o i := rfl
  rw [e1, su2_succ]
  have e2 : IntKind.i64.wrap (((sumN i o : Nat) : Int) + ((o i : Nat) : Int)) = ((sumN i o + o i : Nat) : Int) := by rw [wrapI (by omega) (by omega)]; omega
  have e3 : IntKind.i64.wrap (((g i : Nat) : Int) + ((o i : Nat) : Int)) = ((g i + o i : Nat) : Int) := by rw [wrapI (by omega) (by omega)]; omega
  obtain ⟨y, hy⟩ : ∃ y, y = sumN i o + o i := ⟨_, rfl⟩
  obtain ⟨z, hz⟩ : ∃ z, z = g i + o i := ⟨_, rfl⟩
  rw [← hy] at e2 ⊢
  rw [← hz] at e3 ⊢
  generalize su2 g o i = g' at *
  generalize sumN i o = s at *
  simp [hi, hw, h10, n1, n2, e2, e3]
theorem loop9_0 (call : Oracle) (fuel : Nat) (hF : 1100 < fuel) (n : Nat) (hn : n ≤ 10) (a : NA) (dA : D) (h32 : ∀ v : Nat, v < n → call 32 [nV n, dA, nV v] = some (.nd .tu [sz n (outJ n a (wyG n a) v (pw n)), nV 0])) (fu : Nat) (hf : 1100 < fu) (st : St)
    (h0 : drops st h9_0 = L9_0 (ii n) (.ro dA) (ii (wyG n a 0)) (.own (sz 10 fun _ => 0)) (ii 0)) :
    run.loopN (run call fuel b9_0) fu st = some (.ex 0, X9_0 (ii n) (ii (wyG n a 0)) (.own (sz 10 (totJ n a n)))) := by
  refine loop_cnt call fuel h9_0 _ n (fun v => L9_0 (ii n) (.ro dA) (ii (wyG n a 0)) (.own (sz 10 (totJ n a v))) (ii v)) _ (by simp) ?_ (by simp) fu st (by rw [h0]; rfl) (by omega)
  intro v hv
  have hw := wrap_succ (i := v) (by omega)
  have kk := h32 v hv
  have hsum := sum_i a hv
  have hb := fun j hj => outJ_le hn a hv (s := pw n) (p := j) (Nat.le_refl _) hj
  have hsb : ∀ j, j ≤ n → sumN j (outJ n a (wyG n a) v (pw n)) ≤ 1000000000000 := by
    intro j hj
    have : ∀ j, j ≤ n → sumN j (outJ n a (wyG n a) v (pw n)) ≤ j * 10000000000 := by
      intro j
      induction j with
      | zero => intro _; exact Nat.zero_le _
      | succ j ih =>
        intro h
        have := ih (by omega)
        have := hb j (by omega)
        simp only [sumN]
        omega
    have := this j hj
    omega
  have hL := loop9_1 call fuel n hn dA (wyG n a 0 : Nat) (totJ n a v) (outJ n a (wyG n a) v (pw n)) (fun j => by have := totJ_le hn a j v (by omega); omega) (fun j hj => by have := hb j hj; omega) hsb v fuel hF
  have e : totJ n a (v + 1) = su2 (totJ n a v) (outJ n a (wyG n a) v (pw n)) n := rfl
  rw [← e, hsum] at hL
  generalize totJ n a (v + 1) = g' at *
  generalize totJ n a v = g at *
  generalize outJ n a (wyG n a) v (pw n) = o at *
  generalize wyG n a 0 = W at *
  simp [hv, kk]
  rw [hL _ (by simp)]
  simp [hw]
theorem loop9_2 (call : Oracle) (fuel : Nat) (n : Nat) (hn : n ≤ 10) (W : Nat) (g : Nat → Nat) (hg : ∀ j, j < n → g j = W) (fu : Nat) (hf : 1100 < fu) (st : St)
    (h0 : drops st h9_2 = L9_2 (ii n) (ii W) (.own (sz 10 g)) (ii 0)) :
    run.loopN (run call fuel b9_2) fu st = some (.ex 4, X9_4) := by
  refine loop_cnt call fuel h9_2 _ n (fun v => L9_2 (ii n) (ii W) (.own (sz 10 g)) (ii v)) _ (by simp) ?_ (by simp) fu st (by rw [h0]; rfl) (by omega)
  intro v hv
  have hw := wrap_succ (i := v) (by omega)
  have h10 : v < 10 := by omega
  have n1 := zr_nth 10 g h10
  rw [hg v hv] at n1
  simp [hv, hw, h10, n1]
theorem law9 (n : Int) (b : Bool) (a : List (Int × Int)) : S 9 9 [nV n, sa b a] = some (bV true) := by
  have h11 := s11 2
  have h12 := s12 7 n b a
  rw [S, sem_succ (mf := c9) rfl]
  rw [callF_tab _ _ c9 42 _ (by exact Nat.le_of_ble_eq_true rfl) (by exact Nat.le_of_ble_eq_true rfl)]
  cases hf : fewB n a with
  | false =>
    rw [hf] at h12
    simp [c9, h11, h12]
  | true =>
    rw [hf] at h12
    have hl := few_len hf
    have h14 := s14 3 n b a hl
    unfold ctZ at h14
    by_cases he : chkI n a = 0
    · obtain ⟨m, rfl, h1, h2, h3⟩ := good_chk he hl
      rw [he, ctD_ok, Int.toNat_natCast] at h14
      have h32 : ∀ v : Nat, v < m → S 8 32 [nV m, sa b a, nV v] = some (.nd .tu [sz m (outJ m (natA a) (wyG m (natA a)) v (pw m)), nV 0]) := by
        intro v hv
        have := s32 3 m b a hl v
        unfold plcZ plD at this
        rw [if_pos he, if_pos ⟨by omega, by omega⟩, Int.toNat_natCast, Int.toNat_natCast] at this
        exact this
      have hL0 := loop9_0 (S 8) 2100 (by decide) m h2.hn (natA a) _ h32 2100 (by decide)
      have hL2 := loop9_2 (S 8) 2100 m h2.hn (wyG m (natA a) 0) (totJ m (natA a) m) (fun j hj => by rw [totJ_eq hj, sum_p _ hj]) 2100 (by decide)
      have hr : List.replicate 10 (0 : Int) = zr 10 fun _ => 0 := row_rep _ _
      have hm10 : 10 ≤ most := by unfold most; omega
      have c0 : ¬ (10 : Int) < (m : Int) := by have := h2.hn; omega
      have c1 : ¬ 10 < m := by have := h2.hn; omega
      generalize totJ m (natA a) m = g at *
      generalize wyG m (natA a) 0 = W at *
      simp [c9, h11, h12, h14, c0, c1, hm10, hr]
      rw [hL0 _ (by simp)]
      simp
      rw [hL2 _ (by simp)]
      simp
    · rw [ctD_err _ _ he] at h14
      simp [c9, h11, h12, h14, he]
end Go.Mx
