import Derived.Test.YtnmdjhmhdpiecaaSqV
import Derived.Test.YtnmdjhmhdpiecaaSqW
/-
  Sequences: the listed sequences are exactly the orders that agree.
-/
namespace Go.Mx
set_option linter.unusedVariables false
set_option linter.unusedSimpArgs false
set_option linter.unusedSectionVars false
open Go

/-- The arcs before the first that does not agree. -/
def bef (l : List Int) (a : NA) (i : Nat) : Bool := decide (posN l (nth a (0, 0) i).1 < posN l (nth a (0, 0) i).2)
theorem bef_all (l : List Int) (a : NA) : (List.range a.length).any (fun i => !bef l a i) = !befB a l := by
  have := any_nth a (0, 0) fun p => !decide (posN l p.1 < posN l p.2)
  unfold bef befB
  rw [this, Bool.eq_iff_iff]
  simp

/-! ### the given order: its places, its arcs -/
theorem loop3_0 (call : Oracle) (fuel : Nat) (n : Nat) (hn : n ≤ 10) (dA l7 : D) (b' : Bool) (s : List Int) (hl : s.length = n) (hr : ∀ i, i < n → 0 ≤ nth s 0 i ∧ nth s 0 i < n) (fu : Nat) (hf : 1100 < fu) (st : St)
    (h0 : drops st h3_0 = L3_0 (ii n) (.ro dA) (.ro (si b' s)) (.own l7) (bb true) (.own (sz 10 fun _ => 0)) (ii 0)) :
    run.loopN (run call fuel b3_0) fu st = some (.ex 0, X3_0 (ii n) (.ro dA) (.ro (si b' s)) (.own l7) (bb true) (.own (sz 10 (plcF s (fun _ => 0) n)))) := by
  refine loop_cnt call fuel h3_0 _ n (fun i => L3_0 (ii n) (.ro dA) (.ro (si b' s)) (.own l7) (bb true) (.own (sz 10 (plcF s (fun _ => 0) i))) (ii i)) _ (by simp) ?_ (by simp [hl]) fu st (by rw [h0]; rfl) (by omega)
  intro i hi
  have hw := wrap_succ (i := i) (by omega)
  obtain ⟨r1, r2⟩ := hr i hi
  have e1 : plcF s (fun _ => 0) (i + 1) = updF (plcF s (fun _ => 0) i) (nth s 0 i).toNat i := rfl
  rw [e1]
  obtain ⟨v, hv⟩ : ∃ v : Nat, nth s 0 i = (v : Int) := ⟨(nth s 0 i).toNat, by omega⟩
  have hv10 : v < 10 := by omega
  rw [hv, Int.toNat_natCast]
  generalize plcF s (fun _ => 0) i = g
  simp [hl, hi, hw, hv, hv10]
theorem loop3_1 (call : Oracle) (fuel : Nat) (n : Nat) (hn : n ≤ 10) (a : NA) (ha : ∀ p ∈ a, p.1 < n ∧ p.2 < n) (hal : a.length ≤ 1000) (b : Bool) (dS l7 : D) (s : List Int) (g : Nat → Nat) (hg : ∀ v, v < n → g v = posN s v) (fu : Nat) (hf : 1100 < fu) (st : St)
    (h0 : drops st h3_1 = L3_1 (ii n) (.ro (sa b (arcsZ a))) (.ro dS) (.own l7) (bb true) (.own (sz 10 g)) (ii 0)) :
    run.loopN (run call fuel b3_1) fu st = some (.ex 2, X3_2 (ii n) (.ro (sa b (arcsZ a))) (.ro dS) (.own l7) (bb (befB a s)) (.own (sz 10 g))) := by
  have hb := bef_all s a
  refine loop_iter call fuel h3_1 _ (fun p : Nat × Bool => p.1 ≤ a.length ∧ (p.2 = true → ∀ j, j < p.1 → bef s a j = true) ∧ (p.2 = false → befB a s = false)) (fun p => L3_1 (ii n) (.ro (sa b (arcsZ a))) (.ro dS) (.own l7) (bb p.2) (.own (sz 10 g)) (ii p.1)) (fun p => a.length - p.1)
    (fun p => if p.1 < a.length ∧ p.2 = true then .inl (p.1 + 1, bef s a p.1) else .inr (.ex 2, X3_2 (ii n) (.ro (sa b (arcsZ a))) (.ro dS) (.own l7) (bb p.2) (.own (sz 10 g)))) (fun _ => (.ex 2, X3_2 (ii n) (.ro (sa b (arcsZ a))) (.ro dS) (.own l7) (bb (befB a s)) (.own (sz 10 g)))) ?_ ?_ ?_ fu (0, true) st ⟨Nat.zero_le _, fun _ j hj => by simp at hj, fun h => by simp at h⟩ (by rw [h0]; rfl) (by show a.length - 0 < fu; omega)
  · rintro ⟨i, t⟩ ⟨hi, _, _⟩
    dsimp only at hi ⊢
    have hw := wrap_succ (i := i) (by omega)
    cases t with
    | false => simp
    | true =>
      by_cases hlt : i < a.length
      · obtain ⟨p1, p2⟩ := ha _ (nth_mem (0, 0) hlt)
        have e1 := hg _ p1
        have e2 := hg _ p2
        have n1 := zr_nth 10 g (i := (nth a (0, 0) i).1) (by omega)
        have n2 := zr_nth 10 g (i := (nth a (0, 0) i).2) (by omega)
        have q1 : (nth a (0, 0) i).1 < 10 := by omega
        have q2 : (nth a (0, 0) i).2 < 10 := by omega
        unfold bef
        rw [e1] at n1
        rw [e2] at n2
        simp [hlt, hw, n1, n2, q1, q2]
      · simp [hlt]
  · rintro ⟨i, t⟩ ⟨i', t'⟩ ⟨hi, h1, h2⟩ h3
    dsimp only at *
    split at h3
    · rename_i hc
      cases h3
      refine ⟨⟨by omega, fun h j hj => ?_, fun h => ?_⟩, by omega, rfl⟩
      · by_cases e : j = i
        · subst e; exact h
        · exact h1 hc.2 j (by omega)
      · cases hbe : befB a s with
        | false => rfl
        | true =>
          rw [hbe] at hb
          have := (any_range _ _).1 hb i hc.1
          rw [h] at this
          cases this
    · cases h3
  · rintro ⟨i, t⟩ r ⟨hi, h1, h2⟩ h3
    dsimp only at *
    split at h3
    · cases h3
    · rename_i hc
      cases h3
      refine ⟨?_, by simp⟩
      cases t with
      | false => rw [h2 rfl]
      | true =>
        have : i = a.length := by
          have : ¬ i < a.length := fun h => hc ⟨h, rfl⟩
          omega
        subst this
        have : befB a s = true := by
          have : (List.range a.length).any (fun i => !bef s a i) = false := (any_range _ _).2 fun j hj => by rw [h1 rfl j hj]; rfl
          rw [hb] at this
          simpa using this
        rw [this]

/-! ### a listed order -/
theorem loop3_3 (call : Oracle) (fuel : Nat) (n : Nat) (hn : n ≤ 10) (dA dS : D) (b : Bool) (L : List (Bool × List Int)) (k : Nat) (hk : k < L.length) (l : List Int) (hl : (nth L (true, []) k).2 = l) (ho : OrdL n l) (t u : Bool) (g : Nat → Nat) (fu : Nat) (hf : 1100 < fu) (st : St)
    (h0 : drops st h3_3 = L3_3 (ii n) (.ro dA) (.ro dS) (.own (gsl eII b L)) (bb t) (.own (sz 10 g)) (bb u) (ii k) (ii 0)) :
    run.loopN (run call fuel b3_3) fu st = some (.ex 6, X3_6 (ii n) (.ro dA) (.ro dS) (.own (gsl eII b L)) (bb t) (.own (sz 10 (plcF l g n))) (bb u) (ii k)) := by
  refine loop_cnt call fuel h3_3 _ n (fun i => L3_3 (ii n) (.ro dA) (.ro dS) (.own (gsl eII b L)) (bb t) (.own (sz 10 (plcF l g i))) (bb u) (ii k) (ii i)) _ (by simp) ?_ (by simp) fu st (by rw [h0]; rfl) (by omega)
  intro i hi
  have hw := wrap_succ (i := i) (by omega)
  obtain ⟨r1, r2⟩ := ho.rng i hi
  have e1 : plcF l g (i + 1) = updF (plcF l g i) (nth l 0 i).toNat i := rfl
  rw [e1]
  obtain ⟨v, hv⟩ : ∃ v : Nat, nth l 0 i = (v : Int) := ⟨(nth l 0 i).toNat, by omega⟩
  have hv10 : v < 10 := by omega
  have hll := ho.len
  rw [hv, Int.toNat_natCast]
  generalize plcF l g i = g'
  simp [hl, hll, hi, hw, hv, hv10, hk]
theorem loop3_4 (call : Oracle) (fuel : Nat) (n : Nat) (hn : n ≤ 10) (a : NA) (ha : ∀ p ∈ a, p.1 < n ∧ p.2 < n) (hal : a.length ≤ 1000) (b : Bool) (dS l7 : D) (l : List Int) (hbe : befB a l = true) (g : Nat → Nat) (hg : ∀ v, v < n → g v = posN l v) (k : Nat) (t u : Bool) (fu : Nat) (hf : 1100 < fu) (st : St)
    (h0 : drops st h3_4 = L3_4 (ii n) (.ro (sa b (arcsZ a))) (.ro dS) (.own l7) (bb t) (.own (sz 10 g)) (bb u) (ii k) (ii 0)) :
    run.loopN (run call fuel b3_4) fu st = some (.ex 8, X3_8 (ii n) (.ro (sa b (arcsZ a))) (.ro dS) (.own l7) (bb t) (.own (sz 10 g)) (bb u) (ii k)) := by
  refine loop_cnt call fuel h3_4 _ a.length (fun i => L3_4 (ii n) (.ro (sa b (arcsZ a))) (.ro dS) (.own l7) (bb t) (.own (sz 10 g)) (bb u) (ii k) (ii i)) _ (by simp) ?_ (by simp) fu st (by rw [h0]; rfl) (by omega)
  intro i hlt
  have hw := wrap_succ (i := i) (by omega)
  obtain ⟨p1, p2⟩ := ha _ (nth_mem (0, 0) hlt)
  have e1 := hg _ p1
  have e2 := hg _ p2
  have n1 := zr_nth 10 g (i := (nth a (0, 0) i).1) (by omega)
  have n2 := zr_nth 10 g (i := (nth a (0, 0) i).2) (by omega)
  have q1 : (nth a (0, 0) i).1 < 10 := by omega
  have q2 : (nth a (0, 0) i).2 < 10 := by omega
  have hp : posN l (nth a (0, 0) i).1 < posN l (nth a (0, 0) i).2 := by
    unfold befB at hbe
    have := List.all_eq_true.1 hbe _ (nth_mem (0, 0) hlt)
    simpa using this
  rw [e1] at n1
  rw [e2] at n2
  have hp' : ¬ ((posN l (nth a (0, 0) i).2 : Nat) : Int) ≤ ((posN l (nth a (0, 0) i).1 : Nat) : Int) := by omega
  have hp2 : ¬ posN l (nth a (0, 0) i).2 ≤ posN l (nth a (0, 0) i).1 := by omega
  simp [hlt, hw, n1, n2, q1, q2, hp', hp2]
theorem loop3_5 (call : Oracle) (fuel : Nat) (n : Nat) (hn : n ≤ 10) (dA dS : D) (b : Bool) (L : List (Bool × List Int)) (k : Nat) (hk : k < L.length) (hk0 : 0 < k) (hkL : L.length ≤ 1000) (l l' : List Int) (hl : (nth L (true, []) k).2 = l) (hl' : (nth L (true, []) (k - 1)).2 = l') (e1 : l.length = n) (e2 : l'.length = n) (j : Nat) (hj : j < n) (hj1 : ∀ i, i < j → nth l 0 i = nth l' 0 i) (hj2 : nth l 0 j ≠ nth l' 0 j)
    (t u : Bool) (v12 : D) (fu : Nat) (hf : 1100 < fu) (st : St)
    (h0 : drops st h3_5 = L3_5 (ii n) (.ro dA) (.ro dS) (.own (gsl eII b L)) (bb t) (.own v12) (bb u) (ii k) (ii 0)) :
    run.loopN (run call fuel b3_5) fu st = some (.ex 10, X3_10 (ii n) (.ro dA) (.ro dS) (.own (gsl eII b L)) (bb t) (.own v12) (bb u) (ii k) (ii j)) := by
  refine loop_cnt call fuel h3_5 _ j (fun i => L3_5 (ii n) (.ro dA) (.ro dS) (.own (gsl eII b L)) (bb t) (.own v12) (bb u) (ii k) (ii i)) _ (by simp) ?_ ?_ fu st (by rw [h0]; rfl) (by omega)
  · intro i hi
    have hw := wrap_succ (i := i) (by omega)
    have hp := wrap_pred (i := k) (by omega)
    have hin : i < n := by omega
    have hk1 : k - 1 < L.length := by omega
    have := hj1 i hi
    simp [hl, hl', e1, e2, hin, hw, hp, hk, hk1, hk0, this]
  · have hp := wrap_pred (i := k) (by omega)
    have hk1 : k - 1 < L.length := by omega
    simp [hl, hl', e1, e2, hj, hp, hk, hk1, hk0, hj2]

/-- The places behind some listed orders. -/
def plcJ (n : Nat) (a : NA) (g : Nat → Nat) : Nat → Nat → Nat
  | 0 => g
  | k + 1 => plcF (zl (atL n a k)) (plcJ n a g k) n
def lstB (n : Nat) (a : NA) (s : List Int) (k : Nat) : Bool := (List.range k).any fun i => zl (atL n a i) == s
theorem lst_succ (n : Nat) (a : NA) (s : List Int) (k : Nat) : lstB n a s (k + 1) = (lstB n a s k || zl (atL n a k) == s) := by
  unfold lstB
  rw [List.range_succ, List.any_append]
  simp
theorem lst_all (n : Nat) (a : NA) (s : List Int) : lstB n a s (wyG n a 0) = okB n a s := by
  rw [Bool.eq_iff_iff, ← seqL_mem]
  unfold lstB seqL
  rw [List.any_eq_true, List.mem_map]
  simp
theorem loop3_2 (call : Oracle) (fuel : Nat) (hF : 1100 < fuel) (n : Nat) (hn : n ≤ 10) (a : NA) (ha : ∀ p ∈ a, p.1 < n ∧ p.2 < n) (hal : a.length ≤ 1000) (b b' : Bool) (s : List Int) (t : Bool) (hm : wyG n a 0 ≤ 200) (hb : Bool)
    (h16 : ∀ (b : Bool) (l : List Int), OrdL n l → call 16 [si b l, nV n] = some (bV true)) (h17 : ∀ (b : Bool) (l : List Int), l.length = n → call 17 [si b l, si b' s] = some (bV (l == s))) (g : Nat → Nat) (fu : Nat) (hf : 1100 < fu) (st : St)
    (h0 : drops st h3_2 = L3_2 (ii n) (.ro (sa b (arcsZ a))) (.ro (si b' s)) (.own (gsl eII hb (allS n a (wyG n a 0)))) (bb t) (.own (sz 10 g)) (bb false) (ii 0)) :
    run.loopN (run call fuel b3_2) fu st = some (.ex 4, X3_4 (bb t) (bb (okB n a s))) := by
  have hlen := allS_len n a (wyG n a 0)
  have hrow : ∀ k, k < wyG n a 0 → nth (allS n a (wyG n a 0)) (true, []) k = rowS n a k := by
    intro k hk
    unfold allS
    rw [nth_get _ (by simpa using hk)]
    simp
  rw [← lst_all]
  refine loop_cnt call fuel h3_2 _ (wyG n a 0) (fun k => L3_2 (ii n) (.ro (sa b (arcsZ a))) (.ro (si b' s)) (.own (gsl eII hb (allS n a (wyG n a 0)))) (bb t) (.own (sz 10 (plcJ n a g k))) (bb (lstB n a s k)) (ii k)) _ (by simp) ?_ (by simp [hlen]) fu st (by rw [h0]; rfl) (by omega)
  intro k hk
  have hw := wrap_succ (i := k) (by omega)
  have hr := hrow k hk
  have hok := at_ok hk
  rw [ok_bef ha, Bool.and_eq_true] at hok
  have ho := ord_iff.1 hok.1
  have hl : (nth (allS n a (wyG n a 0)) (true, []) k).2 = zl (atL n a k) := by rw [hr]; rfl
  have hl1 : (nth (allS n a (wyG n a 0)) (true, []) k).1 = (atL n a k).isEmpty := by rw [hr]; rfl
  have hkL : k < (allS n a (wyG n a 0)).length := by omega
  have e3 : plcJ n a g (k + 1) = plcF (zl (atL n a k)) (plcJ n a g k) n := rfl
  have L3 := loop3_3 call fuel n hn (sa b (arcsZ a)) (si b' s) hb _ k hkL _ hl ho t (lstB n a s k) (plcJ n a g k) fuel hF
  have L4 := loop3_4 call fuel n hn a ha hal b (si b' s) (gsl eII hb (allS n a (wyG n a 0))) (zl (atL n a k)) hok.2 (plcJ n a g (k + 1)) (fun v hv => plcF_pos ho _ hv) k t (lstB n a s k) fuel hF
  have k16 := h16 (atL n a k).isEmpty _ ho
  have k17 := h17 (atL n a k).isEmpty _ ho.len
  rw [← e3] at L3
  rw [lst_succ]
  by_cases hk0 : k = 0
  · subst hk0
    generalize plcJ n a g (0 + 1) = g' at *
    generalize plcJ n a g 0 = g0 at *
    generalize lstB n a s 0 = u at *
    simp [hl, hl1, hkL, k16]
    rw [L3 _ (by simp)]
    simp
    rw [L4 _ (by simp)]
    have w1 : IntKind.i64.wrap 1 = 1 := by decide
    cases u <;> simp [hl, hl1, hkL, k17, w1]
  · obtain ⟨j, hj, hj1, hj2⟩ := at_lex (n := n) (a := a) (k := k - 1) (k' := k) (by omega) hk
    have hr' := hrow (k - 1) (by omega)
    have hl' : (nth (allS n a (wyG n a 0)) (true, []) (k - 1)).2 = zl (atL n a (k - 1)) := by rw [hr']; rfl
    have ll' : (zl (atL n a (k - 1))).length = n := by rw [zl_len, atL_len (by omega)]
    have L5 := loop3_5 call fuel n hn (sa b (arcsZ a)) (si b' s) hb _ k hkL (by omega) (by omega) _ _ hl hl' ho.len ll' j hj (fun i hi => (hj1 i hi).symm) (by omega) t (lstB n a s k) (sz 10 (plcJ n a g (k + 1))) fuel hF
    have hp := wrap_pred (i := k) (by omega)
    have hk1 : k - 1 < (allS n a (wyG n a 0)).length := by omega
    have hjn : ¬ (j : Int) = (n : Int) := by omega
    have hll := ho.len
    have hk0' : 0 < k := by omega
    have hj3 : ¬ nth (zl (atL n a k)) 0 j < nth (zl (atL n a (k - 1))) 0 j := by omega
    generalize plcJ n a g (k + 1) = g' at *
    generalize plcJ n a g k = g0 at *
    generalize lstB n a s k = u at *
    simp [hl, hl1, hkL, k16]
    rw [L3 _ (by simp)]
    simp
    rw [L4 _ (by simp)]
    simp [hk0']
    rw [L5 _ (by simp)]
    cases u <;> simp [hl, hl1, hkL, k17, hw, hjn, hl', hp, hk1, hk0', hj, hll, ll', hj3]
theorem s16' (k : Nat) (b : Bool) (n : Nat) (l : List Int) (hl : l.length ≤ 1000) : S (k + 1) 16 [si b l, nV n] = some (bV (ordB n l)) := by
  rw [S, sem_succ (mf := c16) rfl]
  exact f16 _ _ (by decide) b l n hl
theorem s17' (k : Nat) (b c : Bool) (l m : List Int) (hl : l.length ≤ 1000) : S (k + 1) 17 [si b l, si c m] = some (bV (l == m)) := by
  rw [S, sem_succ (mf := c17) rfl]
  exact f17 _ _ (by decide) b c l m hl
theorem ord_len {n : Nat} {l : List Int} (h : ¬ l.length = n) : ordB n l = false := by
  unfold ordB
  have : decide ((l.length : Int) = (n : Int)) = false := by simp; omega
  rw [this, Bool.false_and]
theorem law3 (n : Int) (b b' : Bool) (a : List (Int × Int)) (s : List Int) : S 9 3 [nV n, sa b a, si b' s] = some (bV true) := by
  have h11 := s11 2
  have h12 := s12 7 n b a
  rw [S, sem_succ (mf := c3) rfl]
  rw [callF_tab _ _ c3 41 _ (by exact Nat.le_of_ble_eq_true rfl) (by exact Nat.le_of_ble_eq_true rfl)]
  cases hf : fewB n a with
  | false =>
    rw [hf] at h12
    simp [c3, h11, h12]
  | true =>
    rw [hf] at h12
    by_cases hs0 : 30 < s.length
    · have hs : (30 : Int) < (s.length : Int) := by omega
      simp [c3, h11, h12, hs, hs0]
    have hs : ¬ (30 : Int) < (s.length : Int) := by omega
    have hl := few_len hf
    have h13 := s13 3 n b a hl
    have h14 := s14 3 n b a hl
    have h15 := s15 4 b n a hl
    unfold ctZ at h14
    unfold alZ at h13
    by_cases he : chkI n a = 0
    · obtain ⟨m, rfl, h1, h2, h3⟩ := good_chk he hl
      have h16 := s16' 7 b' m s (by omega)
      have k16 : ∀ (b : Bool) (l : List Int), OrdL m l → S 8 16 [si b l, nV m] = some (bV true) := by
        intro b l h
        rw [s16' 7 b m l (by have := h.len; have := h2.hn; omega), ord_iff.2 h]
      have k17 : ∀ (b : Bool) (l : List Int), l.length = m → S 8 17 [si b l, si b' s] = some (bV (l == s)) := by
        intro b l h
        exact s17' 7 b b' l s (by have := h2.hn; omega)
      rw [he, ctD_ok, Int.toNat_natCast] at h14
      rw [he, Int.toNat_natCast] at h13
      rw [he] at h15
      by_cases hW : 200 < wyG m (natA a) 0
      · unfold alD at h13
        rw [if_pos rfl, if_pos hW] at h13
        have hW2 : (200 : Int) < ((wyG m (natA a) 0 : Nat) : Int) := by omega
        generalize wyG m (natA a) 0 = W at *
        simp [c3, h11, h12, hs, hs0, h13, h14, hW, hW2]
      · unfold alD at h13
        rw [if_pos rfl, if_neg hW] at h13
        have hm10 : 10 ≤ most := by unfold most; omega
        have hW2 : ((wyG m (natA a) 0 : Nat) : Int) ≤ 200 := by omega
        have hr : List.replicate 10 (0 : Int) = zr 10 fun _ => 0 := row_rep _ _
        have hlen := allS_len m (natA a) (wyG m (natA a) 0)
        have L2 := loop3_2 (S 8) 2100 (by decide) m h2.hn (natA a) h2.ha h2.hl b b' s
        have L0 := loop3_0 (S 8) 2100 m h2.hn (sa b a) (aL m (natA a) (wyG m (natA a) 0)) b' s
        have L1 := loop3_1 (S 8) 2100 m h2.hn (natA a) h2.ha h2.hl b (si b' s) (aL m (natA a) (wyG m (natA a) 0)) s
        rw [← h1] at L1 L2
        have hok : okB m (natA a) s = (ordB m s && befB (natA a) s) := ok_bef h2.ha s
        cases hord : ordB m s with
        | false =>
          rw [hord] at h16 hok
          rw [Bool.false_and] at hok
          have e0 : ∀ st : St, drops st h3_0 = L3_0 (ii m) (.ro (sa b a)) (.ro (si b' s)) (.own (aL m (natA a) (wyG m (natA a) 0))) (bb false) (.own (sz 10 fun _ => 0)) (ii 0) → run.loopN (run (S 8) 2100 b3_0) 2100 st = some (.ex 0, X3_0 (ii m) (.ro (sa b a)) (.ro (si b' s)) (.own (aL m (natA a) (wyG m (natA a) 0))) (bb false) (.own (sz 10 fun _ => 0))) := by
            intro st h0
            refine loop_cnt (S 8) 2100 h3_0 _ 0 (fun _ => L3_0 (ii m) (.ro (sa b a)) (.ro (si b' s)) (.own (aL m (natA a) (wyG m (natA a) 0))) (bb false) (.own (sz 10 fun _ => 0)) (ii 0)) _ (by simp) (fun i hi => by omega) (by simp) 2100 st h0 (by decide)
          have e1 : ∀ st : St, drops st h3_1 = L3_1 (ii m) (.ro (sa b a)) (.ro (si b' s)) (.own (aL m (natA a) (wyG m (natA a) 0))) (bb false) (.own (sz 10 fun _ => 0)) (ii 0) → run.loopN (run (S 8) 2100 b3_1) 2100 st = some (.ex 2, X3_2 (ii m) (.ro (sa b a)) (.ro (si b' s)) (.own (aL m (natA a) (wyG m (natA a) 0))) (bb false) (.own (sz 10 fun _ => 0))) := by
            intro st h0
            refine loop_cnt (S 8) 2100 h3_1 _ 0 (fun _ => L3_1 (ii m) (.ro (sa b a)) (.ro (si b' s)) (.own (aL m (natA a) (wyG m (natA a) 0))) (bb false) (.own (sz 10 fun _ => 0)) (ii 0)) _ (by simp) (fun i hi => by omega) (by simp) 2100 st h0 (by decide)
          have L2' := L2 false (by omega) (wyG m (natA a) 0 == 0) k16 k17 (fun _ => 0) 2100 (by decide)
          rw [hok] at L2'
          have hz : (200 : Int) < ((wyG m (natA a) 0 : Nat) : Int) ↔ False := by simp; omega
          have hz2 : (wyG m (natA a) 0 < 200 + 1) := by omega
          simp [c3, h11, h12, hs, hs0, h13, h14, h15, h16, hlen, hm10, hr, hW2]
          rw [e0 _ (by simp)]
          simp
          rw [e1 _ (by simp)]
          simp
          rw [L2' _ (by simp)]
          simp [hW2]
        | true =>
          rw [hord] at h16 hok
          rw [Bool.true_and] at hok
          have ho := ord_iff.1 hord
          have L2' := L2 (befB (natA a) s) (by omega) (wyG m (natA a) 0 == 0) k16 k17 (plcF s (fun _ => 0) m) 2100 (by decide)
          rw [hok] at L2'
          have L0' := L0 ho.len ho.rng 2100 (by decide)
          have L1' := L1 (plcF s (fun _ => 0) m) (fun v hv => plcF_pos ho _ hv) 2100 (by decide)
          generalize befB (natA a) s = t at *
          simp [c3, h11, h12, hs, hs0, h13, h14, h15, h16, hlen, hm10, hr, hW2]
          rw [L0' _ (by simp)]
          simp
          rw [L1' _ (by simp)]
          simp
          rw [L2' _ (by simp)]
          simp [hW2]
    · rw [ctD_err _ _ he] at h14
      unfold alD at h13
      rw [if_neg he] at h13
      simp [c3, h11, h12, hs, hs0, h13, h14, he]
end Go.Mx
