import Derived.Test.YtldfddgdcjaogaaDiAc
/-
  Differences: a solution or a cycle.
-/
namespace Go.Mx
set_option linter.unusedVariables false
set_option linter.unusedSimpArgs false
set_option linter.unusedSectionVars false
open Go

@[simp] theorem natOf_16 : natOf 16 = some 16 := rfl
def lrgB (c : Int × Int × Int) : Bool := !(decide (-60000 ≤ c.2.2) && decide (c.2.2 ≤ 60000))
theorem loop30 (call : Oracle) (fuel : Nat) (b : Bool) (l : List (Int × Int × Int)) (hl : l.length ≤ 1000) (h41 : ∀ x : Int, call 41 [nV x, nV 60000] = some (bV (decide (-60000 ≤ x) && decide (x ≤ 60000)))) (fu : Nat) (hf : 1000 < fu) (st : St)
    (h0 : drops st h30_0 = L30_0 (.ro (sd b l)) (ii 0)) :
    run.loopN (run call fuel b30_0) fu st = some (if (List.range l.length).any (fun i => lrgB (nth l z3 i)) = true then (.ret, R30 (bb true)) else (.ex 0, X30_0)) := by
  refine loop_any call fuel h30_0 _ l.length (fun i => lrgB (nth l z3 i)) (fun i => L30_0 (.ro (sd b l)) (ii i)) (.ret, R30 (bb true)) (.ex 0, X30_0) (by simp) (by simp) ?_ (by simp) fu st (by rw [h0]; rfl) (by omega)
  intro i hi _
  have hw := wrap_succ (i := i) (by omega)
  have g := h41 (nth l z3 i).2.2
  unfold lrgB
  generalize (decide (-60000 ≤ (nth l z3 i).2.2) && decide ((nth l z3 i).2.2 ≤ 60000)) = q at *
  cases q <;> simp [hi, hw, g]
theorem f30 (call : Oracle) (fuel : Nat) (hF : 1000 < fuel) (b : Bool) (l : List (Int × Int × Int)) (hl : l.length ≤ 1000) (h41 : ∀ x : Int, call 41 [nV x, nV 60000] = some (bV (decide (-60000 ≤ x) && decide (x ≤ 60000)))) :
    callF call fuel c30 [sd b l] = some (bV (l.any lrgB)) := by
  rw [callF_tab call fuel c30 4 _ (by exact Nat.le_of_ble_eq_true rfl) (by exact Nat.le_of_ble_eq_true rfl)]
  have hL := loop30 call fuel b l hl h41 fuel hF
  have ha : (List.range l.length).any (fun i => lrgB (nth l z3 i)) = l.any lrgB := any_nth l z3 lrgB
  rw [ha] at hL
  simp [c30]
  rw [hL _ (by simp)]
  cases l.any lrgB <;> simp
def addsK (k : Nat) : List Bn := row k fun i => (0, i + 1, 1000000)
theorem loop31 (call : Oracle) (fuel : Nat) (n : Nat) (hn1 : 1 ≤ n) (hn : n ≤ 16) (l : List Bn) (hl : l.length ≤ 100) (fu : Nat) (hf : 100 < fu) (st : St)
    (h0 : drops st h31_0 = L31_0 (ii n) (.own (sd false (nbL (l ++ addsK 0)))) (ii ((ad 1 0 : Nat) : Int))) :
    run.loopN (run call fuel b31_0) fu st = some (.ex 0, X31_0 (.own (sd false (nbL (l ++ addsL n))))) := by
  have hend : ¬ ad 1 (n - 1) < n := by unfold ad; omega
  have e0 : addsL n = addsK (n - 1) := rfl
  rw [e0]
  refine loop_cnt call fuel h31_0 _ (n - 1) (fun k => L31_0 (ii n) (.own (sd false (nbL (l ++ addsK k)))) (ii ((ad 1 k : Nat) : Int))) _ (by simp) ?_ (by simp [hend]) fu st h0 (by omega)
  intro k hk
  have hlt : ad 1 k < n := by unfold ad; omega
  have hw : IntKind.i64.wrap (((ad 1 k : Nat) : Int) + 1) = ((ad 1 (k + 1) : Nat) : Int) := by
    rw [wrapI (by unfold ad; omega) (by unfold ad; omega)]; unfold ad; omega
  have hs : nbL (l ++ addsK k) ++ [((0 : Int), ((ad 1 k : Nat) : Int), (1000000 : Int))] = nbL (l ++ addsK (k + 1)) := by
    have e1 : addsK (k + 1) = addsK k ++ [(0, k + 1, 1000000)] := row_succ _ _
    rw [e1, ← List.append_assoc]
    have := nb_snoc (l ++ addsK k) 0 (k + 1) 1000000
    rw [← this, show ad 1 k = k + 1 by unfold ad; omega]
    rfl
  have hm : (l ++ addsK k).length + 1 ≤ most := by
    have : (addsK k).length = k := row_len _ _
    rw [List.length_append, this]; unfold most; omega
  have hm' : l.length + (addsK k).length + 1 ≤ most := by rw [← List.length_append]; exact hm
  simp [hlt, hw, hm', hs]
theorem f31 (call : Oracle) (fuel : Nat) (hF : 100 < fuel) (n : Nat) (b : Bool) (l : List Bn) (hn1 : 1 ≤ n) (hn : n ≤ 16) (hl : l.length ≤ 100) : callF call fuel c31 [nV n, sd b (nbL l)] = some (sd false (nbL (l ++ addsL n))) := by
  rw [callF_tab call fuel c31 7 _ (by exact Nat.le_of_ble_eq_true rfl) (by exact Nat.le_of_ble_eq_true rfl)]
  have hL := loop31 call fuel n hn1 hn l hl fuel hF
  have e0 : l ++ addsK 0 = l := List.append_nil l
  rw [e0] at hL
  have hm : l.length ≤ most := by unfold most; omega
  have hE : T.nd (K.sl false 3 l.length) (gk eD (nbL l)) = sd false (nbL l) := by
    have : T.nd (K.sl false 3 (nbL l).length) (gk eD (nbL l)) = sd false (nbL l) := rfl
    rwa [nb_len] at this
  simp [c31, hm, hE]
  rw [hL _ (by simp; rfl)]
  simp

/-! ### no variable twice -/
def sn (l : List Bn) (y : List Nat) (k v : Nat) : Bool := (y.take k).any fun t => (nth l zN t).1 == v
theorem sn_succ (l : List Bn) {y : List Nat} {k : Nat} (h : k < y.length) : updF (sn l y k) (nth l zN (nth y 0 k)).1 true = sn l y (k + 1) := by
  funext v
  have e : y.take (k + 1) = y.take k ++ [nth y 0 k] := by
    rw [List.take_add_one, List.getElem?_eq_getElem h, nth_get 0 h]; rfl
  unfold updF sn
  rw [e, List.any_append]
  by_cases hv : v = (nth l zN (nth y 0 k)).1
  · subst hv; simp
  · have : ¬ (nth l zN (nth y 0 k)).1 = v := fun h => hv h.symm
    simp [hv, this]
theorem sn_new {l : List Bn} {y : List Nat} (hd : ((wk l y).map (·.1)).Nodup) {k : Nat} (h : k < y.length) : sn l y k (nth l zN (nth y 0 k)).1 = false := by
  unfold sn
  rw [List.any_eq_false]
  intro t ht
  obtain ⟨j, hj, rfl⟩ := List.mem_iff_getElem.1 ht
  rw [List.length_take] at hj
  rw [List.getElem_take]
  simp only [beq_iff_eq]
  intro e
  unfold wk at hd
  rw [List.map_map, List.nodup_iff_pairwise_ne, List.pairwise_iff_getElem] at hd
  have := hd j k (by simp; omega) (by simpa using h) (by omega)
  simp [nth_get 0 h] at this e
  exact this e
theorem loop11 (call : Oracle) (fuel : Nat) (n : Nat) (l : List Bn) (h : VB n l) (b : Bool) (y : List Nat) (hy : ∀ t ∈ y, t < l.length ∧ nth y 0 0 ≤ t) (hyl : y.length ≤ 16) (hd : ((wk l y).map (·.1)).Nodup) (fu : Nat) (hf : 100 < fu) (st : St)
    (h0 : drops st h11_0 = L11_0 (ii n) (.ro (sd b (nbL l))) (.own (si false (zl y))) (.own (gsl eB false (row 16 (sn l y 0)))) (ii 0)) :
    run.loopN (run call fuel b11_0) fu st = some (.ex 1, X11_1 (ii n) (.ro (sd b (nbL l)))) := by
  refine loop_cnt call fuel h11_0 _ y.length (fun k => L11_0 (ii n) (.ro (sd b (nbL l))) (.own (si false (zl y))) (.own (gsl eB false (row 16 (sn l y k)))) (ii k)) _ (by simp) ?_ (by simp) fu st (by rw [h0]; rfl) (by omega)
  intro k hk
  have hw := wrap_succ (i := k) (by omega)
  have hn := h.n16
  have ht := hy _ (nth_mem 0 hk)
  have h00 : 0 < y.length := by omega
  have hv := (h.at ht.1).1
  have hv16 : (nth l zN (nth y 0 k)).1 < 16 := by omega
  have hge : ¬ nth y 0 k < nth y 0 0 := by omega
  have e1 := sn_new hd hk
  have e2 := sn_succ l hk
  generalize sn l y (k + 1) = s1 at *
  generalize sn l y k = s0 at *
  simp [hk, hw, ht.1, h00, hv16, hge, nth_row, e1, e2]

theorem f11e (call : Oracle) (fuel : Nat) (n : Int) (b : Bool) (l : List (Int × Int × Int)) (h12 : call 12 [] = some (bV true))
    (h : l.length ≤ 60 → call 21 [nV n, sd b l] = some (slD nilI 1) ∧ call 17 [nV n, sd b l] = some (bV false)) : callF call fuel c11 [nV n, sd b l] = some (bV true) := by
  rw [callF_tab call fuel c11 130 _ (by exact Nat.le_of_ble_eq_true rfl) (by exact Nat.le_of_ble_eq_true rfl)]
  by_cases hl : l.length ≤ 60
  · have hl' : ¬ (60 : Int) < (l.length : Int) := by omega
    obtain ⟨h1, h2⟩ := h hl
    simp [c11, h12, hl', h1, h2]
  · have hl' : (60 : Int) < (l.length : Int) := by omega
    simp [c11, h12, hl']
theorem f11a (call : Oracle) (fuel : Nat) (n : Nat) (b : Bool) (l : List Bn) (hl : l.length ≤ 60) (h12 : call 12 [] = some (bV true)) (h21 : call 21 [nV n, sd b (nbL l)] = some (slD nilI 7)) (gr : Bool) (h30 : call 30 [sd b (nbL l)] = some (bV gr))
    (h31 : call 31 [nV n, sd b (nbL l)] = some (sd false (nbL (l ++ addsL n)))) (x : List Int) (h18 : gr = false → call 18 [nV n, sd false (nbL (l ++ addsL n))] = some (slD (si false x) 0)) (h26 : gr = false → call 26 [nV n, sd b (nbL l), si false x] = some (bV true)) :
    callF call fuel c11 [nV n, sd b (nbL l)] = some (bV true) := by
  rw [callF_tab call fuel c11 130 _ (by exact Nat.le_of_ble_eq_true rfl) (by exact Nat.le_of_ble_eq_true rfl)]
  have hl' : ¬ (60 : Int) < (l.length : Int) := by omega
  cases gr with
  | true => simp [c11, h12, hl', h21, h30]
  | false =>
    have h18 := h18 rfl
    have h26 := h26 rfl
    simp [c11, h12, hl', h21, h30, h31, h18, h26]
theorem f11b (call : Oracle) (fuel : Nat) (hF : 100 < fuel) (n : Nat) (b : Bool) (l : List Bn) (h : VB n l) (hl : l.length ≤ 60) (h12 : call 12 [] = some (bV true)) (y : List Nat) (h21 : call 21 [nV n, sd b (nbL l)] = some (slD (si false (zl y)) 0))
    (hy : ∀ t ∈ y, t < l.length ∧ nth y 0 0 ≤ t) (hyl : y.length ≤ n) (hd : ((wk l y).map (·.1)).Nodup) (h17 : call 17 [nV n, sd b (nbL l)] = some (bV true))
    (h28 : call 28 [nV n, sd b (nbL l), si false (zl y)] = some (bV true)) (h29 : call 29 [nV n, sd b (nbL l), si false (zl y)] = some (bV true))
    (h18 : call 18 [nV n, sd b (nbL l)] = some (slD nilI 10)) (h14 : call 14 [nV n, sd b (nbL l), nV 0, nV 0] = some (tgD 0 false 10)) :
    callF call fuel c11 [nV n, sd b (nbL l)] = some (bV true) := by
  rw [callF_tab call fuel c11 130 _ (by exact Nat.le_of_ble_eq_true rfl) (by exact Nat.le_of_ble_eq_true rfl)]
  have hl' : ¬ (60 : Int) < (l.length : Int) := by omega
  have hyl' : ¬ n < y.length := by omega
  have hL := loop11 call fuel n l h b y hy (by have := h.n16; omega) hd fuel hF
  have hr : List.replicate 16 false = row 16 (sn l y 0) := by rw [row_rep]; rfl
  have hm : 16 ≤ most := by unfold most; omega
  have hB := B_reps 16
  rw [hr] at hB
  simp [c11, h12, hl', h21, h17, h28, h29, hyl', hm, hB]
  rw [hL _ (by simp; rfl)]
  simp [h18, h14]
theorem law11 (n : Int) (b : Bool) (l : List (Int × Int × Int)) : S 10 11 [nV n, sd b l] = some (bV true) := by
  rw [S, sem_succ (mf := c11) rfl]
  by_cases hc : l.length ≤ 60 ∧ validB n l = true
  · obtain ⟨hl, hv⟩ := hc
    have h17 := (s17 6 n b l (by omega)).trans (by rw [hv])
    obtain ⟨n, l, rfl, rfl, h⟩ := valid_vb hv
    rw [nb_len] at hl
    have hn1 := h.n1
    have hn := h.n16
    have h21 := (s21 2 (n : Int) b (nbL l)).trans (by rw [refI_nb h])
    cases hb : bad n l with
    | false =>
      rw [sr_good h hb] at h21
      have h' := bounded_vb h hl
      have hsm : (nbL l).any lrgB = false → smallB l := by
        intro hq c hc
        have := List.any_eq_false.1 hq ((c.1 : Int), (c.2.1 : Int), c.2.2) (List.mem_map.2 ⟨c, hc, rfl⟩)
        unfold lrgB at this
        simp at this
        omega
      have s30 : S 9 30 [sd b (nbL l)] = some (bV ((nbL l).any lrgB)) := by
        rw [S, sem_succ (mf := c30) rfl]
        exact f30 _ _ (by decide) b (nbL l) (by simp; omega) (fun x => s41 7 x 60000 (by decide))
      have s31 : S 9 31 [nV n, sd b (nbL l)] = some (sd false (nbL (l ++ addsL n))) := by
        rw [S, sem_succ (mf := c31) rfl]
        exact f31 _ _ (by decide) n b l hn1 hn (by omega)
      refine f11a _ _ n b l hl (s12 1) h21 _ s30 s31 (row n (lzG (fwN (l ++ addsL n) n) 0)) ?_ ?_
      · intro hq
        refine (s18 2 n false _).trans ?_
        rw [solI_nb h', solD, bounded_good h hl (hsm hq) hb, (bounded_sol h hl (hsm hq) hb).1]
        rfl
      · intro hq
        refine (s26 2 n b (nbL l) false _ (by simp; omega)).trans ?_
        rw [holdI_nb h, (bounded_sol h hl (hsm hq) hb).2]
    | true =>
      obtain ⟨i, hi⟩ := found h hb
      obtain ⟨s, hs, e1, hg, hin, hd⟩ := found_ok h hi
      obtain ⟨g1, g2, g3, g4, g5⟩ := cC_walk h hs (by omega) hg
      unfold srD at h21
      rw [hi] at h21
      simp only at h21
      rw [e1] at h21
      have hcyc : cycI (n : Int) (nbL l) (zl (cC l s (i + 2))) = true := by
        rw [cycI_nb h, cyI_nat (fun v hv => (g5 v hv).1) (by omega)]
        exact cyc_walk (by omega) g3 g4
      refine f11b _ _ (by decide) n b l h hl (s12 1) _ h21 (fun t ht => ⟨(g5 t ht).1, by rw [g2]; exact (g5 t ht).2⟩) (by omega) hd h17 ?_ ?_ ?_ ?_
      · exact (s28 2 n b (nbL l) false _ (by simp; omega)).trans (by rw [hcyc])
      · exact (s29 5 n b (nbL l) (by simp; omega) false _ (by simp; omega)).trans (by rw [hcyc])
      · refine (s18 2 n b _).trans ?_
        rw [solI_nb h, solD, if_pos hb]
      · refine (s14 2 n b (nbL l) 0 0).trans ?_
        have := tigD_in (n := n) (l := l) (i := 0) (j := 0) (by omega) (by omega)
        rw [tigI_nb h]
        rw [show ((0 : Nat) : Int) = 0 from rfl] at this
        rw [this, if_pos hb]
  · refine f11e _ _ n b l (s12 1) fun hl => ?_
    have : validB n l = false := by
      cases hq : validB n l with
      | false => rfl
      | true => exact absurd ⟨hl, hq⟩ hc
    exact ⟨(s21 2 n b l).trans (by unfold refI; rw [this]; rfl), (s17 6 n b l (by omega)).trans (by rw [this])⟩
end Go.Mx
