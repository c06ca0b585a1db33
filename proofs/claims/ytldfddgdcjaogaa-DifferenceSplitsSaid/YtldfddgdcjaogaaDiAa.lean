import Derived.Test.YtldfddgdcjaogaaDiZ
/-
  Differences: the laws with further bounds.
-/
namespace Go.Mx
set_option linter.unusedVariables false
set_option linter.unusedSimpArgs false
set_option linter.unusedSectionVars false
open Go

theorem bad_mono {n : Nat} {l l' : List Bn} (h' : VB n l') (hs : ∀ c ∈ l, c ∈ l') (hb : bad n l = true) : bad n l' = true := by
  cases h : bad n l' with
  | true => rfl
  | false =>
    obtain ⟨i, w, hi, h1, h2⟩ := bad_cycle hb
    have := sol_cycle h'.ok (sol_of h'.ok h) hi (isW_mono hs h1)
    omega
theorem tig_mono {n : Nat} {l l' : List Bn} (h' : VB n l') (hs : ∀ c ∈ l, c ∈ l') (hb : bad n l' = false) {i j : Nat} (hi : i < n) (hj : j < n) : lle (fwN l' n i j) (fwN l n i j) := by
  cases e : fwN l n i j with
  | none => exact lle_none _
  | some p =>
    obtain ⟨w, h1, rfl⟩ := fwN_walk l n e
    exact sol_walk h'.ok (sol_of h'.ok hb) hi hj (isW_mono hs h1)
theorem nb_snoc (l : List Bn) (a b : Nat) (x : Int) : nbL l ++ [((a : Int), (b : Int), x)] = nbL (l ++ [(a, b, x)]) := by simp [nbL]
theorem VB.snoc {n : Nat} {l : List Bn} (h : VB n l) (hl : l.length ≤ 79) {a b : Nat} {x : Int} (ha : a < n) (hb : b < n) (hne : a ≠ b) (h1 : -1000000 ≤ x) (h2 : x ≤ 1000000) : VB n (l ++ [(a, b, x)]) := by
  refine ⟨?_, ?_, h.n1, h.n16, by simp; omega⟩
  · intro c hc
    rcases List.mem_append.1 hc with hc | hc
    · exact h.ok c hc
    · simp at hc; subst hc; exact ⟨ha, hb, hne⟩
  · intro c hc
    rcases List.mem_append.1 hc with hc | hc
    · exact h.c c hc
    · simp at hc; subst hc; exact ⟨h1, h2⟩

theorem loop8 (call : Oracle) (fuel : Nat) (n : Nat) (hn : n ≤ 16) (b : Bool) (l l' : List Bn) (h' : VB n l') (hs : ∀ c ∈ l, c ∈ l') (a b' : Nat) (x : Int) (hb' : b' < n)
    (h14 : ∀ i : Nat, i < n → call 14 [nV n, sd b (nbL l), nV i, nV b'] = some (if bad n l = true then tgD 0 false 10 else tigM n l i b'))
    (h14' : ∀ i : Nat, i < n → call 14 [nV n, sd false (nbL l'), nV i, nV b'] = some (if bad n l' = true then tgD 0 false 10 else tigM n l' i b'))
    (fu : Nat) (hf : 100 < fu) (st : St)
    (h0 : drops st h8_0 = L8_0 (ii n) (.ro (sd b (nbL l))) (.own (.nd (.bx false) [nV a, nV b', nV x])) (.own (sd false (nbL l'))) (ii 0)) :
    run.loopN (run call fuel b8_0) fu st = some (.ex 0, X8_0) := by
  refine loop_cnt call fuel h8_0 _ n (fun i => L8_0 (ii n) (.ro (sd b (nbL l))) (.own (.nd (.bx false) [nV a, nV b', nV x])) (.own (sd false (nbL l'))) (ii i)) _ (by simp) ?_ (by simp) fu st (by rw [h0]; rfl) (by omega)
  intro i hi
  have hw := wrap_succ (i := i) (by omega)
  have a1 := h14 i hi
  have a2 := h14' i hi
  cases c1 : bad n l with
  | true =>
    have c2 := bad_mono h' hs c1
    rw [c1, if_pos rfl] at a1
    rw [c2, if_pos rfl] at a2
    simp [hi, hw, a1, a2]
  | false =>
    rw [c1, if_neg (by simp), tigM_eq] at a1
    cases c2 : bad n l' with
    | true =>
      rw [c2, if_pos rfl] at a2
      simp [hi, hw, a1, a2]
    | false =>
      rw [c2, if_neg (by simp), tigM_eq] at a2
      have hm := tig_mono h' hs c2 hi hb'
      generalize fwN l n i b' = p at *
      generalize fwN l' n i b' = q at *
      cases p with
      | none => simp [hi, hw, a1, a2]
      | some p =>
        cases q with
        | none => exact absurd hm (by simp [lle])
        | some q =>
          have hm : q ≤ p := hm
          have : ¬ p < q := by omega
          simp [hi, hw, a1, a2, this]
theorem f8 (call : Oracle) (fuel : Nat) (hF : 100 < fuel) (n : Nat) (b : Bool) (l : List Bn) (h : VB n l) (a b' : Nat) (x : Int) (hl : l.length ≤ 79) (h' : VB n (l ++ [(a, b', x)])) (hb' : b' < n) (h12 : call 12 [] = some (bV true))
    (h17 : call 17 [nV n, sd b (nbL l)] = some (bV true)) (h24 : call 24 [nV n, bD ((a : Int), (b' : Int), x)] = some (bV true))
    (h14 : ∀ i : Nat, i < n → call 14 [nV n, sd b (nbL l), nV i, nV b'] = some (if bad n l = true then tgD 0 false 10 else tigM n l i b'))
    (h14' : ∀ i : Nat, i < n → call 14 [nV n, sd false (nbL (l ++ [(a, b', x)])), nV i, nV b'] = some (if bad n (l ++ [(a, b', x)]) = true then tgD 0 false 10 else tigM n (l ++ [(a, b', x)]) i b')) :
    callF call fuel c8 [nV n, sd b (nbL l), bD ((a : Int), (b' : Int), x)] = some (bV true) := by
  rw [callF_tab call fuel c8 57 _ (by exact Nat.le_of_ble_eq_true rfl) (by exact Nat.le_of_ble_eq_true rfl)]
  have hL := loop8 call fuel n h.n16 b l (l ++ [(a, b', x)]) h' (fun c hc => List.mem_append_left _ hc) a b' x hb' h14 h14' fuel hF
  have hm1 : l.length ≤ most := by unfold most; omega
  have hm2 : l.length + 1 ≤ most := by unfold most; omega
  have hl' : ¬ (79 : Int) < (l.length : Int) := by omega
  have hE : T.nd (K.sl false 3 l.length) (gk eD (nbL l)) = sd false (nbL l) := by
    have : T.nd (K.sl false 3 (nbL l).length) (gk eD (nbL l)) = sd false (nbL l) := rfl
    rwa [nb_len] at this
  have hS := nb_snoc l a b' x
  simp [c8, h12, h17, h24, hl', hm1, hm2, hE, hS]
  rw [hL _ (by simp)]
  simp
theorem f8e (call : Oracle) (fuel : Nat) (n : Int) (b : Bool) (l : List (Int × Int × Int)) (c : Int × Int × Int) (h12 : call 12 [] = some (bV true))
    (h : l.length ≤ 79 → ∃ v, call 17 [nV n, sd b l] = some (bV v) ∧ (v = true → call 24 [nV n, bD c] = some (bV false))) :
    callF call fuel c8 [nV n, sd b l, bD c] = some (bV true) := by
  rw [callF_tab call fuel c8 57 _ (by exact Nat.le_of_ble_eq_true rfl) (by exact Nat.le_of_ble_eq_true rfl)]
  by_cases hl : l.length ≤ 79
  · have hl' : ¬ (79 : Int) < (l.length : Int) := by omega
    obtain ⟨v, h1, h2⟩ := h hl
    cases v with
    | false => simp [c8, h12, hl', h1]
    | true => simp [c8, h12, hl', h1, h2 rfl]
  · have hl' : (79 : Int) < (l.length : Int) := by omega
    simp [c8, h12, hl']
theorem law8 (n : Int) (b : Bool) (l : List (Int × Int × Int)) (c : Int × Int × Int) : S 10 8 [nV n, sd b l, bD c] = some (bV true) := by
  rw [S, sem_succ (mf := c8) rfl]
  by_cases hc : l.length ≤ 79 ∧ validB n l = true ∧ bndB n c = true
  · obtain ⟨hl, hv, hr⟩ := hc
    have h17 := (s17 6 n b l (by omega)).trans (by rw [hv])
    have h24 := (s24 7 n c).trans (by rw [hr])
    obtain ⟨n, l, rfl, rfl, h⟩ := valid_vb hv
    have hn1 := h.n1
    have hn := h.n16
    rw [bnd_right (by omega) (by omega), right_iff] at hr
    obtain ⟨a, b', x⟩ := c
    simp only at hr
    obtain ⟨a, rfl⟩ := Int.eq_ofNat_of_zero_le hr.1
    obtain ⟨b', rfl⟩ := Int.eq_ofNat_of_zero_le hr.2.2.1
    have ha : a < n := by omega
    have hb : b' < n := by omega
    rw [nb_len] at hl
    have h' := h.snoc hl ha hb (by omega) hr.2.2.2.2.2.1 hr.2.2.2.2.2.2
    exact f8 _ _ (by decide) n b l h a b' x hl h' hb (s12 1) h17 h24 (fun i hi => (s14 2 n b (nbL l) i b').trans (by rw [tigI_nb h, tigD_in hi hb]))
      (fun i hi => (s14 2 n false _ i b').trans (by rw [tigI_nb h', tigD_in hi hb]))
  · refine f8e _ _ n b l c (s12 1) fun hl => ⟨validB n l, s17 6 n b l (by omega), fun hv => (s24 7 n c).trans ?_⟩
    have : bndB n c = false := by
      cases hq : bndB n c with
      | false => rfl
      | true => exact absurd ⟨hl, hv, hq⟩ hc
    rw [this]

/-! ### Differences: the greatest differences are attained. -/

/-- Limits with a further bound from j to i. -/
def viaM (g : MM) (i j : Nat) (x : Int) : MM := fun u v => less (g u v) (plus (plus (g u j) (some x)) (g i v))
theorem via_sol {n : Nat} {l : List Bn} {g : MM} (hg : Sol n l g) {i j : Nat} {d : Int} (hi : i < n) (hj : j < n) (hd : g i j = some d) : Sol n (l ++ [(j, i, -d)]) (viaM g i j (-d)) where
  dg := by
    intro u hu
    have h1 := hg.dg u hu
    have h2 := hg.cl u hu i hi j hj
    rw [hd] at h2
    unfold viaM
    rw [h1]
    refine less_of_le ?_
    generalize g u j = a at *
    generalize g i u = b at *
    cases a <;> cases b <;> simp [plus, lle] at *
    omega
  cl := by
    intro k hk u hu v hv
    have c0 := hg.cl k hk u hu v hv
    have c1 := hg.cl k hk u hu j hj
    have c2 := hg.cl k hk i hi v hv
    have c3 := hg.cl k hk i hi j hj
    rw [hd] at c3
    have L : lle (viaM g i j (-d) u v) (g u v) := less_left _ _
    have R : lle (viaM g i j (-d) u v) (plus (plus (g u j) (some (-d))) (g i v)) := less_right _ _
    rcases less_eq (g u k) (plus (plus (g u j) (some (-d))) (g i k)) with h1 | h1 <;> rcases less_eq (g k v) (plus (plus (g k j) (some (-d))) (g i v)) with h2 | h2
    · show lle _ (plus (less _ _) (less _ _))
      rw [h1, h2]; exact lle_trans L c0
    · show lle _ (plus (less _ _) (less _ _))
      rw [h1, h2]
      refine lle_trans R ?_
      generalize g u j = a at *
      generalize g i v = f at *
      generalize g u k = x at *
      generalize g k j = c at *
      cases a <;> cases f <;> cases x <;> cases c <;> simp [plus, lle] at * <;> omega
    · show lle _ (plus (less _ _) (less _ _))
      rw [h1, h2]
      refine lle_trans R ?_
      generalize g u j = a at *
      generalize g i v = f at *
      generalize g i k = x at *
      generalize g k v = c at *
      cases a <;> cases f <;> cases x <;> cases c <;> simp [plus, lle] at * <;> omega
    · show lle _ (plus (less _ _) (less _ _))
      rw [h1, h2]
      refine lle_trans R ?_
      generalize g u j = a at *
      generalize g i v = f at *
      generalize g i k = x at *
      generalize g k j = c at *
      cases a <;> cases f <;> cases x <;> cases c <;> simp [plus, lle] at * <;> omega
  le := by
    intro c hc
    rcases List.mem_append.1 hc with hc | hc
    · exact lle_trans (less_left _ _) (hg.le c hc)
    · simp at hc
      subst hc
      refine lle_trans (less_right _ _) ?_
      show lle (plus (plus (g j j) (some (-d))) (g i i)) (some (-d))
      rw [hg.dg j hj, hg.dg i hi]
      simp
theorem attained {n : Nat} {l : List Bn} (h : VB n l) (hb : bad n l = false) {i j : Nat} {d : Int} (hi : i < n) (hj : j < n) (hd : fwN l n i j = some d) (h' : VB n (l ++ [(j, i, -d)])) : bad n (l ++ [(j, i, -d)]) = false :=
  good_of_sol h'.ok (via_sol (sol_of h.ok hb) hi hj hd)
theorem beyond {n : Nat} {l : List Bn} {i j : Nat} {d : Int} (hi : i < n) (hd : fwN l n i j = some d) (h' : VB n (l ++ [(j, i, -d - 1)])) : bad n (l ++ [(j, i, -d - 1)]) = true := by
  cases hb : bad n (l ++ [(j, i, -d - 1)]) with
  | true => rfl
  | false =>
    obtain ⟨w, h1, h2⟩ := fwN_walk l n hd
    have h3 : isW (l ++ [(j, i, -d - 1)]) i (w ++ [(j, i, -d - 1)]) i := isW_app (isW_mono (fun c hc => List.mem_append_left _ hc) h1) ⟨by simp, rfl, rfl⟩
    have := sol_cycle h'.ok (sol_of h'.ok hb) hi h3
    rw [sumW_app, h2] at this
    simp at this
    omega

/-! ### Mod -/
def modN (a : Int) (n : Nat) : Nat := (a % (n : Int)).toNat
theorem modN_lt {a : Int} {n : Nat} (h : 1 ≤ n) : modN a n < n := by
  unfold modN
  have := Int.emod_lt_of_pos a (show (0 : Int) < n by omega)
  have := Int.emod_nonneg a (show (n : Int) ≠ 0 by omega)
  omega
theorem modN_eq {a : Int} {n : Nat} (h : 1 ≤ n) : ((modN a n : Nat) : Int) = if a.tmod n < 0 then a.tmod n + n else a.tmod n := by
  have h0 : ((modN a n : Nat) : Int) = a % (n : Int) := by
    unfold modN
    have := Int.emod_nonneg a (show (n : Int) ≠ 0 by omega)
    omega
  rw [h0]
  have e := Int.mul_tdiv_add_tmod a n
  have hlt : a.tmod n < n := Int.tmod_lt_of_pos a (by omega)
  have hgt : -(n : Int) < a.tmod n := by
    have := Int.lt_tmod_of_pos a (show (0 : Int) < n by omega)
    omega
  generalize a.tmod n = r at *
  generalize a.tdiv n = t at *
  have hr : a % (n : Int) = r % (n : Int) := by
    rw [← e, Int.add_comm, Int.add_mul_emod_self_left]
  rw [hr]
  split
  · rw [← Int.add_emod_right, Int.emod_eq_of_lt (by omega) (by omega)]
  · exact Int.emod_eq_of_lt (by omega) hlt
theorem f23 (call : Oracle) (fuel : Nat) (a : Int) (n : Nat) (h1 : 1 ≤ n) (h16 : n ≤ 16) : callF call fuel c23 [nV a, nV n] = some (nV (modN a n)) := by
  rw [callF_tab call fuel c23 6 _ (by exact Nat.le_of_ble_eq_true rfl) (by exact Nat.le_of_ble_eq_true rfl)]
  have e := modN_eq (a := a) h1
  have hn : ¬ n = 0 := by omega
  have hlt : a.tmod n < n := Int.tmod_lt_of_pos a (by omega)
  have hgt : -(n : Int) < a.tmod n := by
    have := Int.lt_tmod_of_pos a (show (0 : Int) < n by omega)
    omega
  generalize hr : a.tmod n = r at *
  by_cases c : r < 0
  · rw [if_pos c] at e
    have w : IntKind.i64.wrap (r + n) = r + n := wrapI (by omega) (by omega)
    simp [c23, hn, hr, c, w, e]
  · rw [if_neg c] at e
    simp [c23, hn, hr, c, e]
theorem f6e (call : Oracle) (fuel : Nat) (n : Int) (b : Bool) (l : List (Int × Int × Int)) (x y : Int) (h12 : call 12 [] = some (bV true)) (h17 : l.length ≤ 60 → call 17 [nV n, sd b l] = some (bV false)) :
    callF call fuel c6 [nV n, sd b l, .nd .ag [nV x, nV y]] = some (bV true) := by
  rw [callF_tab call fuel c6 109 _ (by exact Nat.le_of_ble_eq_true rfl) (by exact Nat.le_of_ble_eq_true rfl)]
  by_cases hl : l.length ≤ 60
  · have hl' : ¬ (60 : Int) < (l.length : Int) := by omega
    simp [c6, h12, hl', h17 hl]
  · have hl' : (60 : Int) < (l.length : Int) := by omega
    simp [c6, h12, hl']
theorem f6 (call : Oracle) (fuel : Nat) (n : Nat) (b : Bool) (l : List Bn) (h : VB n l) (hl : l.length ≤ 60) (x y : Int) (i j : Nat) (hi : i < n) (hj : j < n) (h12 : call 12 [] = some (bV true)) (h17 : call 17 [nV n, sd b (nbL l)] = some (bV true))
    (h23 : call 23 [nV x, nV n] = some (nV i)) (h23' : call 23 [nV y, nV n] = some (nV j)) (h14 : call 14 [nV n, sd b (nbL l), nV i, nV j] = some (if bad n l = true then tgD 0 false 10 else tigM n l i j))
    (h21 : ∀ z : Int, VB n (l ++ [(j, i, z)]) → call 21 [nV n, sd false (nbL (l ++ [(j, i, z)]))] = some (srD n (l ++ [(j, i, z)]))) :
    callF call fuel c6 [nV n, sd b (nbL l), .nd .ag [nV x, nV y]] = some (bV true) := by
  rw [callF_tab call fuel c6 109 _ (by exact Nat.le_of_ble_eq_true rfl) (by exact Nat.le_of_ble_eq_true rfl)]
  have hl' : ¬ (60 : Int) < (l.length : Int) := by omega
  cases hb : bad n l with
  | true =>
    rw [hb, if_pos rfl] at h14
    simp [c6, h12, hl', h17, h23, h23', h14]
  | false =>
    rw [hb, if_neg (by simp), tigM_eq] at h14
    by_cases hij : i = j
    · subst hij
      have := (sol_of h.ok hb).dg i hi
      rw [this] at h14
      simp [c6, h12, hl', h17, h23, h23', h14]
    have hij' : ¬ (i : Int) = (j : Int) := by omega
    cases hd : fwN l n i j with
    | none =>
      rw [hd] at h14
      simp [c6, h12, hl', h17, h23, h23', h14, hij, hij']
    | some d =>
      rw [hd] at h14
      by_cases c1 : d < -999999
      · simp [c6, h12, hl', h17, h23, h23', h14, hij, hij', c1]
      by_cases c2 : 999999 < d
      · simp [c6, h12, hl', h17, h23, h23', h14, hij, hij', c1, c2]
      have hA := h.snoc (by omega) hj hi (fun e => hij e.symm) (x := -d) (by omega) (by omega)
      have hB := h.snoc (by omega) hj hi (fun e => hij e.symm) (x := -d - 1) (by omega) (by omega)
      have k1 := h21 (-d) hA
      have k2 := h21 (-d - 1) hB
      rw [sr_good hA (attained h hb hi hj hd hA)] at k1
      obtain ⟨q, hq⟩ := found hB (beyond hi hd hB)
      unfold srD at k2
      rw [hq] at k2
      simp only at k2
      generalize cR (l ++ [(j, i, -d - 1)]) (q + 2) = m at *
      have w1 : IntKind.i64.wrap (-d) = -d := wrapI (by omega) (by omega)
      have w2 : IntKind.i64.wrap (-d - 1) = -d - 1 := wrapI (by omega) (by omega)
      have hm1 : l.length ≤ most := by unfold most; omega
      have hm2 : l.length + 1 ≤ most := by unfold most; omega
      have hE : T.nd (K.sl false 3 l.length) (gk eD (nbL l)) = sd false (nbL l) := by
        have : T.nd (K.sl false 3 (nbL l).length) (gk eD (nbL l)) = sd false (nbL l) := rfl
        rwa [nb_len] at this
      have hS1 := nb_snoc l j i (-d)
      have hS2 := nb_snoc l j i (-d - 1)
      simp [c6, h12, hl', h17, h23, h23', h14, hij, hij', c1, c2, w1, w2, hm1, hm2, hE, hS1, hS2, k1, k2]
theorem law6 (n : Int) (b : Bool) (l : List (Int × Int × Int)) (x y : Int) : S 10 6 [nV n, sd b l, .nd .ag [nV x, nV y]] = some (bV true) := by
  rw [S, sem_succ (mf := c6) rfl]
  by_cases hc : l.length ≤ 60 ∧ validB n l = true
  · obtain ⟨hl, hv⟩ := hc
    have h17 := (s17 6 n b l (by omega)).trans (by rw [hv])
    obtain ⟨n, l, rfl, rfl, h⟩ := valid_vb hv
    have hn1 := h.n1
    have hn := h.n16
    rw [nb_len] at hl
    have hi : modN x n < n := modN_lt hn1
    have hj : modN y n < n := modN_lt hn1
    have s23 : ∀ a : Int, S 9 23 [nV a, nV n] = some (nV (modN a n)) := fun a => by
      rw [S, sem_succ (mf := c23) rfl]; exact f23 _ _ a n hn1 hn
    exact f6 _ _ n b l h hl x y _ _ hi hj (s12 1) h17 (s23 x) (s23 y) ((s14 2 n b (nbL l) _ _).trans (by rw [tigI_nb h, tigD_in hi hj])) (fun z hz => (s21 2 n false _).trans (by rw [refI_nb hz]))
  · refine f6e _ _ n b l x y (s12 1) fun hl => (s17 6 n b l (by omega)).trans ?_
    have : validB n l = false := by
      cases hq : validB n l with
      | false => rfl
      | true => exact absurd ⟨hl, hq⟩ hc
    rw [this]
end Go.Mx
