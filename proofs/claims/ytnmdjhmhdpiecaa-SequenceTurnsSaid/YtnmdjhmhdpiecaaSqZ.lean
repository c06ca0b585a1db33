import Derived.Test.YtnmdjhmhdpiecaaSqX
import Derived.Test.YtnmdjhmhdpiecaaSqV
/-
  Sequences: the laws on further and on reversed arcs.
-/
namespace Go.Mx
set_option linter.unusedVariables false
set_option linter.unusedSimpArgs false
set_option linter.unusedSectionVars false
open Go

theorem chk_valid {n : Nat} {a : List (Int × Int)} (hn : n ≤ 10) (hv : validB n a = true) : chkI n a = 0 ∨ chkI n a = 11 ∧ wyG n (natA a) 0 = 0 := by
  obtain ⟨e, he, h⟩ := cnt_valid hn hv
  have h2 : ctZ n a = .nd .tu [nV (if chkI n a = 0 then (wyG (n : Int).toNat (natA a) 0 : Nat) else 0), nV (chkI n a)] := rfl
  rw [h] at h2
  injection h2 with _ h3
  injection h3 with _ h4
  injection h4 with h5 _
  injection h5 with h6
  injection h6 with _ h7
  rw [← h7]
  exact he
theorem ct_valid {n : Nat} {a : List (Int × Int)} (hn : n ≤ 10) (hv : validB n a = true) : ctZ n a = .nd .tu [nV (wyG n (natA a) 0 : Nat), nV (chkI n a)] := by
  unfold ctZ ctD
  rw [Int.toNat_natCast]
  rcases chk_valid hn hv with h | ⟨h, h2⟩
  · rw [if_pos h]
  · rw [h2]; simp

/-! ### reversed arcs -/
def swZ (p : Int × Int) : Int × Int := (p.2, p.1)
def bkZ (a : List (Int × Int)) : Nat → List (Int × Int)
  | 0 => []
  | i + 1 => insZ (bkZ a i) (swZ (nth a (0, 0) i))
theorem bk_len (a : List (Int × Int)) : ∀ i, (bkZ a i).length = i
  | 0 => rfl
  | i + 1 => by simp only [bkZ]; rw [ins_len, bk_len a i]
theorem bk_mem (a : List (Int × Int)) (p : Int × Int) : ∀ i, i ≤ a.length → (p ∈ bkZ a i ↔ swZ p ∈ a.take i)
  | 0, _ => by simp [bkZ]
  | i + 1, hi => by
    simp only [bkZ]
    rw [ins_mem, bk_mem a p i (by omega), take_succ_nth (0, 0) (by omega), List.mem_append, List.mem_singleton]
    refine or_congr_right ?_
    constructor
    · rintro rfl; rfl
    · intro h; rw [← h]; rfl
theorem bk_valid {n : Int} {a : List (Int × Int)} (h : validB n a = true) : ∀ i, i ≤ a.length → validB n (bkZ a i) = true
  | 0, _ => by
    rw [valid_iff] at h ⊢
    exact ⟨h.1, h.2.1, by simp [bkZ], List.Pairwise.nil⟩
  | i + 1, hi => by
    have ih := bk_valid h i (by omega)
    have hv := (valid_iff n a).1 h
    have hm := hv.2.2.1 _ (nth_mem (0, 0) (show i < a.length by omega))
    refine ins_valid ih ⟨hm.2.2.1, hm.2.2.2.1, hm.1, hm.2.1, fun e => hm.2.2.2.2 e.symm⟩ ?_
    rw [bk_mem a _ i (by omega)]
    intro hc
    obtain ⟨j, hj, e⟩ := List.mem_iff_getElem.1 hc
    have hj' : j < i := by rw [List.length_take] at hj; omega
    have := List.pairwise_iff_getElem.1 hv.2.2.2 j i (by omega) (by omega) hj'
    rw [List.getElem_take, show swZ (swZ (nth a (0, 0) i)) = nth a (0, 0) i from rfl, nth_get _ (by omega)] at e
    rw [e] at this
    unfold LtZ at this
    omega
theorem bk_nat {n : Int} {a : List (Int × Int)} (h : validB n a = true) (p : Nat × Nat) : p ∈ natA (bkZ a a.length) ↔ (p.2, p.1) ∈ natA a := by
  unfold natA
  rw [List.mem_map, List.mem_map]
  constructor
  · rintro ⟨q, hq, rfl⟩
    rw [bk_mem a q _ (Nat.le_refl _), List.take_length] at hq
    exact ⟨_, hq, rfl⟩
  · rintro ⟨q, hq, e⟩
    refine ⟨swZ q, ?_, ?_⟩
    · rw [bk_mem a _ _ (Nat.le_refl _), List.take_length]
      exact hq
    · have e1 := congrArg Prod.fst e
      have e2 := congrArg Prod.snd e
      dsimp only at e1 e2
      exact Prod.ext e2 e1
theorem loop5_0 (call : Oracle) (fuel : Nat) (n : Nat) (b : Bool) (a : List (Int × Int)) (hal : a.length ≤ 1000) (dS : D) (k : Int) (h19 : ∀ (b : Bool) (l : List (Int × Int)) (x : Int × Int), l.length ≤ 1000 → call 19 [sa b l, xD x] = some (sa false (insZ l x))) (fu : Nat) (hf : 1100 < fu) (st : St)
    (h0 : drops st h5_0 = L5_0 (ii n) (.ro (sa b a)) (.ro dS) (ii k) (.own (sa true [])) (ii 0)) :
    run.loopN (run call fuel b5_0) fu st = some (.ex 0, X5_0 (ii n) (.ro (sa b a)) (.ro dS) (ii k) (.own (sa (a.length == 0) (bkZ a a.length)))) := by
  refine loop_cnt call fuel h5_0 _ a.length (fun i => L5_0 (ii n) (.ro (sa b a)) (.ro dS) (ii k) (.own (sa (i == 0) (bkZ a i))) (ii i)) _ (by simp) ?_ (by simp) fu st (by rw [h0]; rfl) (by omega)
  intro i hi
  have hw := wrap_succ (i := i) (by omega)
  have hl := bk_len a i
  have kk := h19 (i == 0) (bkZ a i) (swZ (nth a (0, 0) i)) (by omega)
  have e : bkZ a (i + 1) = insZ (bkZ a i) (swZ (nth a (0, 0) i)) := rfl
  rw [e]
  unfold swZ at kk ⊢
  dsimp only [xD] at kk
  generalize bkZ a i = l at *
  simp [hi, hw, kk]
def revJ (s : List Int) (i : Nat) : List Int := row s.length fun j => if s.length ≤ j + i then nth s 0 (s.length - 1 - j) else 0
theorem rev_all (s : List Int) : revJ s s.length = s.reverse := by
  refine ext_nth 0 (by simp [revJ]) fun i hi => ?_
  have hi' : i < s.length := by simpa [revJ] using hi
  rw [nth_rev rfl hi']
  unfold revJ
  rw [nth_row _ _ _ hi', if_pos (by omega)]
theorem rev_succ (s : List Int) {i : Nat} (h : i < s.length) : (revJ s i).set (s.length - 1 - i) (nth s 0 i) = revJ s (i + 1) := by
  unfold revJ
  rw [row_set]
  refine row_ext _ fun j hj => ?_
  unfold updF
  dsimp only
  by_cases e : j = s.length - 1 - i
  · rw [if_pos e, if_pos (by omega)]
    congr 1
    omega
  · rw [if_neg e]
    by_cases h2 : s.length ≤ j + i
    · rw [if_pos h2, if_pos (by omega)]
    · rw [if_neg h2, if_neg (by omega)]
theorem loop5_1 (call : Oracle) (fuel : Nat) (n : Nat) (dA : D) (b : Bool) (s : List Int) (hl : s.length ≤ 30) (k m e : Int) (l9 : D) (fu : Nat) (hf : 1100 < fu) (st : St)
    (h0 : drops st h5_1 = L5_1 (ii n) (.ro dA) (.ro (si b s)) (ii k) (.own l9) (ii m) (ii e) (.own (si false (List.replicate s.length 0))) (ii 0)) :
    run.loopN (run call fuel b5_1) fu st = some (.ex 2, X5_2 (ii n) (.ro dA) (.ro (si b s)) (ii k) (.own l9) (ii m) (ii e) (.own (si false s.reverse))) := by
  rw [← rev_all]
  refine loop_cnt call fuel h5_1 _ s.length (fun i => L5_1 (ii n) (.ro dA) (.ro (si b s)) (ii k) (.own l9) (ii m) (ii e) (.own (si false (revJ s i))) (ii i)) _ (by simp) ?_ (by simp) fu st ?_ (by omega)
  · intro i hi
    have hw := wrap_succ (i := i) (by omega)
    have hr := rev_succ s hi
    have hlen : (revJ s i).length = s.length := by simp [revJ]
    have w1 : IntKind.i64.wrap ((s.length : Int) - 1) = (s.length : Int) - 1 := wrapI (by omega) (by omega)
    have w2 : natOf (IntKind.i64.wrap ((s.length : Int) - 1 - (i : Int))) = some (s.length - 1 - i) := by
      rw [wrapI (by omega) (by omega)]
      unfold natOf
      rw [if_pos (by omega)]
      congr 1
      omega
    have h3 : s.length - 1 - i < s.length := by omega
    generalize revJ s (i + 1) = R' at *
    generalize revJ s i = R at *
    simp [hi, hw, w1, w2, hlen, h3, hr]
  · rw [h0]
    have : List.replicate s.length (0 : Int) = revJ s 0 := by
      rw [row_rep]
      unfold revJ
      exact row_ext _ fun j hj => by rw [if_neg (by omega)]
    rw [this]
    rfl
theorem s19 (k : Nat) (b : Bool) (a : List (Int × Int)) (x : Int × Int) (hl : a.length ≤ 1000) : S (k + 1) 19 [sa b a, xD x] = some (sa false (insZ a x)) := by
  rw [S, sem_succ (mf := c19) rfl]
  exact f19 _ _ (by decide) b a hl x
theorem law5 (n : Int) (b b' : Bool) (a : List (Int × Int)) (s : List Int) : S 9 5 [nV n, sa b a, si b' s] = some (bV true) := by
  have h11 := s11 2
  have h12 := s12 7 n b a
  rw [S, sem_succ (mf := c5) rfl]
  rw [callF_tab _ _ c5 66 _ (by exact Nat.le_of_ble_eq_true rfl) (by exact Nat.le_of_ble_eq_true rfl)]
  cases hf : fewB n a with
  | false =>
    rw [hf] at h12
    simp [c5, h11, h12]
  | true =>
    rw [hf] at h12
    by_cases hs0 : 30 < s.length
    · have hs : (30 : Int) < (s.length : Int) := by omega
      simp [c5, h11, h12, hs, hs0]
    have hs : ¬ (30 : Int) < (s.length : Int) := by omega
    have hl := few_len hf
    have h14 := s14 3 n b a hl
    have h20 := s20 3 n b b' a hl s
    unfold ctZ at h14
    unfold isZ at h20
    by_cases he : chkI n a = 0
    · obtain ⟨m, rfl, _, h2, h3⟩ := good_chk he hl
      obtain ⟨_, hm, _, _, _, hva⟩ := chk_ok he hl
      rw [he, ctD_ok, Int.toNat_natCast] at h14
      rw [he, Int.toNat_natCast] at h20
      have hvb := bk_valid hva a.length (Nat.le_refl _)
      have hbl := bk_len a a.length
      have hbn := bk_nat hva
      have h14b := s14 3 m (a.length == 0) (bkZ a a.length) (by omega)
      have h20b := s20 3 m (a.length == 0) false (bkZ a a.length) (by omega) s.reverse
      rw [ct_valid h2.hn hvb, count_rev h2.ha hbn] at h14b
      have hcb : chkI m (bkZ a a.length) = 0 := by
        rcases chk_valid h2.hn hvb with h | ⟨_, h⟩
        · exact h
        · rw [count_rev h2.ha hbn] at h; omega
      rw [hcb] at h14b
      unfold isZ at h20b
      rw [hcb, Int.toNat_natCast, ok_rev h2.ha hbn] at h20b
      have L0 := loop5_0 (S 8) 2100 m b a (by omega) (si b' s) (wyG m (natA a) 0 : Nat) (fun b l x h => s19 7 b l x h) 2100 (by decide)
      have L1 := fun e => loop5_1 (S 8) 2100 m (sa b a) b' s (by omega) (wyG m (natA a) 0 : Nat) (wyG m (natA a) 0 : Nat) e (sa (a.length == 0) (bkZ a a.length)) 2100 (by decide)
      have hmo : s.length ≤ most := by unfold most; omega
      have c1 : (1 : Int) ≤ ((wyG m (natA a) 0 : Nat) : Int) := by omega
      have c2 : 1 ≤ wyG m (natA a) 0 := h3
      generalize okB m (natA a) s = t at *
      generalize wyG m (natA a) 0 = W at *
      simp at h20 h20b
      simp [c5, h11, h12, hs, hs0, h14]
      rw [L0 _ (by simp; rfl)]
      simp [h14b, hmo]
      rw [L1 0 _ (by simp)]
      simp [h20, h20b, c1, c2]
    · rw [ctD_err _ _ he] at h14
      have : decide (chkI n a = 0) = false := by simpa using he
      rw [this, Bool.false_and] at h20
      simp [c5, h11, h12, hs, hs0, h14, h20, he]
/-! ### a further arc -/
theorem f18 (call : Oracle) (fuel : Nat) (n : Nat) (b : Bool) (l : List (Int × Int)) (k : Nat) (e : Int) (he : e = 0 ∨ e = 11 ∧ k = 0) (h14 : call 14 [nV n, sa b l] = some (.nd .tu [nV k, nV e])) :
    callF call fuel c18 [nV n, sa b l] = some (.nd .tu [nV k, bV true]) := by
  rw [callF_tab call fuel c18 9 _ (by exact Nat.le_of_ble_eq_true rfl) (by exact Nat.le_of_ble_eq_true rfl)]
  rcases he with rfl | ⟨rfl, rfl⟩
  · simp [c18, h14]
  · simp [c18, h14]
theorem loop4_0 (call : Oracle) (fuel : Nat) (n : Nat) (b : Bool) (a : List (Int × Int)) (hal : a.length ≤ 1000) (k i j : Int) (fu : Nat) (hf : 1100 < fu) (st : St)
    (h0 : drops st h4_0 = L4_0 (ii n) (.ro (sa b a)) (ii k) (ii i) (ii j) (ii 0)) :
    run.loopN (run call fuel b4_0) fu st = some (if (List.range a.length).any (fun t => nth a (0, 0) t == (i, j) || nth a (0, 0) t == (j, i)) = true then (.ret, R4 (bb true)) else (.ex 0, X4_0 (ii n) (.ro (sa b a)) (ii k) (ii i) (ii j))) := by
  refine loop_any call fuel h4_0 _ a.length (fun t => nth a (0, 0) t == (i, j) || nth a (0, 0) t == (j, i)) (fun t => L4_0 (ii n) (.ro (sa b a)) (ii k) (ii i) (ii j) (ii t)) (.ret, R4 (bb true)) (.ex 0, X4_0 (ii n) (.ro (sa b a)) (ii k) (ii i) (ii j)) (by simp) (by simp) ?_ (by simp) fu st h0 (by omega)
  intro t ht _
  have hw := wrap_succ (i := t) (by omega)
  have e1 : ∀ x y : Int, (nth a (0, 0) t == (x, y)) = ((nth a (0, 0) t).1 == x && (nth a (0, 0) t).2 == y) := fun x y => rfl
  rw [e1, e1]
  simp [ht, hw, eqAll, eqSc]
  grind
theorem ins_nat {n : Int} {a : List (Int × Int)} {i j : Nat} (h : validB n a = true) (p : Nat × Nat) : p ∈ natA (insZ a ((i : Int), (j : Int))) ↔ p ∈ natA a ∨ p = (i, j) := by
  unfold natA
  rw [List.mem_map, List.mem_map]
  constructor
  · rintro ⟨q, hq, rfl⟩
    rcases (ins_mem _ _ _).1 hq with hq | rfl
    · exact .inl ⟨q, hq, rfl⟩
    · exact .inr (by simp)
  · rintro (⟨q, hq, rfl⟩ | rfl)
    · exact ⟨q, (ins_mem _ _ _).2 (.inl hq), rfl⟩
    · exact ⟨_, (ins_mem _ _ _).2 (.inr rfl), by simp⟩
theorem s18 (k : Nat) (n : Nat) (hn : n ≤ 10) (b : Bool) (l : List (Int × Int)) (hl : l.length ≤ 1000) (hv : validB n l = true) : S (k + 6) 18 [nV n, sa b l] = some (.nd .tu [nV (wyG n (natA l) 0 : Nat), bV true]) := by
  have h14 := s14 k n b l hl
  rw [ct_valid hn hv] at h14
  rw [S, sem_succ (mf := c18) rfl]
  exact f18 _ _ n b l _ _ (chk_valid hn hv) h14
theorem law4 (n : Int) (b : Bool) (a : List (Int × Int)) (x0 x1 : Nat) (hx0 : x0 < 256) (hx1 : x1 < 256) : S 9 4 [nV n, sa b a, .nd .ag [.v (.int .u8 (x0 : Int)), .v (.int .u8 (x1 : Int))]] = some (bV true) := by
  have h11 := s11 2
  have h12 := s12 7 n b a
  rw [S, sem_succ (mf := c4) rfl]
  rw [callF_tab _ _ c4 95 _ (by exact Nat.le_of_ble_eq_true rfl) (by exact Nat.le_of_ble_eq_true rfl)]
  cases hf : fewB n a with
  | false =>
    rw [hf] at h12
    simp [c4, h11, h12]
  | true =>
    rw [hf] at h12
    have hl := few_len hf
    have h14 := s14 3 n b a hl
    unfold ctZ at h14
    by_cases he : chkI n a = 0
    · obtain ⟨m, rfl, _, h2, h3⟩ := good_chk he hl
      obtain ⟨_, _, _, _, _, hva⟩ := chk_ok he hl
      rw [he, ctD_ok, Int.toNat_natCast] at h14
      by_cases hm : m < 2
      · have hm' : (m : Int) < 2 := by omega
        simp [c4, h11, h12, h14, hm, hm']
      · have hm' : ¬ (m : Int) < 2 := by omega
        obtain ⟨i, hi⟩ : ∃ i, i = x0 % m := ⟨_, rfl⟩
        obtain ⟨j, hj⟩ : ∃ j, j = x1 % m := ⟨_, rfl⟩
        have him : i < m := by rw [hi]; exact Nat.mod_lt _ (by omega)
        have hjm : j < m := by rw [hj]; exact Nat.mod_lt _ (by omega)
        have hz : ¬ (m : Int) = 0 := by omega
        have e1 : intBin .rem .i64 (x0 : Int) (m : Int) = some (.int .i64 (i : Int)) := by
          simp only [intBin]
          rw [if_neg hz, ← Int.ofNat_tmod, hi]
        have e2 : intBin .rem .i64 (x1 : Int) (m : Int) = some (.int .i64 (j : Int)) := by
          simp only [intBin]
          rw [if_neg hz, ← Int.ofNat_tmod, hj]
        have w1 : IntKind.i64.wrap (x0 : Int) = (x0 : Int) := wrapI (by omega) (by omega)
        have w2 : IntKind.i64.wrap (x1 : Int) = (x1 : Int) := wrapI (by omega) (by omega)
        have L := loop4_0 (S 8) 2100 m b a hl (wyG m (natA a) 0 : Nat) i j 2100 (by decide)
        cases hany : (List.range a.length).any (fun t => nth a (0, 0) t == ((i : Int), (j : Int)) || nth a (0, 0) t == ((j : Int), (i : Int))) with
        | true =>
          rw [hany, if_pos rfl] at L
          generalize wyG m (natA a) 0 = W at *
          simp [c4, h11, h12, h14, hm, hm', w1, w2, e1, e2]
          rw [L _ (by simp)]
          simp
        | false =>
          rw [hany, if_neg (by simp)] at L
          by_cases hij : i = j
          · subst hij
            generalize wyG m (natA a) 0 = W at *
            simp [c4, h11, h12, h14, hm, hm', w1, w2, e1, e2]
            rw [L _ (by simp)]
            simp
          · have hij' : ¬ (i : Int) = (j : Int) := by omega
            have hno : ∀ t, t < a.length → nth a (0, 0) t ≠ ((i : Int), (j : Int)) ∧ nth a (0, 0) t ≠ ((j : Int), (i : Int)) := by
              intro t ht
              have := (any_range _ _).1 hany t ht
              simpa using this
            have n1 : ((i : Int), (j : Int)) ∉ a := by
              intro h
              obtain ⟨t, ht, e⟩ := List.mem_iff_getElem.1 h
              exact (hno t ht).1 (by rw [nth_get _ ht, e])
            have n2 : ((j : Int), (i : Int)) ∉ a := by
              intro h
              obtain ⟨t, ht, e⟩ := List.mem_iff_getElem.1 h
              exact (hno t ht).2 (by rw [nth_get _ ht, e])
            have v1 : validB m (insZ a ((i : Int), (j : Int))) = true := ins_valid hva ⟨by omega, by omega, by omega, by omega, hij'⟩ n1
            have v2 : validB m (insZ a ((j : Int), (i : Int))) = true := ins_valid hva ⟨by omega, by omega, by omega, by omega, fun e => hij' e.symm⟩ n2
            have hl60 : a.length ≤ 60 := by
              unfold fewB at hf
              simp only [Bool.and_eq_true, decide_eq_true_eq] at hf
              exact hf.2
            have k1 := s18 2 m h2.hn false _ (by rw [ins_len]; omega) v1
            have k2 := s18 2 m h2.hn false _ (by rw [ins_len]; omega) v2
            have g1 := s19 7 b a ((i : Int), (j : Int)) hl
            have g2 := s19 7 b a ((j : Int), (i : Int)) hl
            have hsum := count_more h2.ha him hjm hij (ins_nat (i := i) (j := j) hva) (ins_nat (i := j) (j := i) hva)
            have b1 := wy_lt h2.hn (natA (insZ a ((i : Int), (j : Int)))) 0
            have b2 := wy_lt h2.hn (natA (insZ a ((j : Int), (i : Int)))) 0
            dsimp only [xD] at g1 g2
            generalize insZ a ((i : Int), (j : Int)) = A1 at *
            generalize insZ a ((j : Int), (i : Int)) = A2 at *
            have w3 : IntKind.i64.wrap (((wyG m (natA A1) 0 : Nat) : Int) + ((wyG m (natA A2) 0 : Nat) : Int)) = ((wyG m (natA a) 0 : Nat) : Int) := by
              rw [wrapI (by omega) (by omega)]; omega
            generalize wyG m (natA A1) 0 = W1 at *
            generalize wyG m (natA A2) 0 = W2 at *
            generalize wyG m (natA a) 0 = W at *
            simp [c4, h11, h12, h14, hm, hm', w1, w2, e1, e2]
            rw [L _ (by simp)]
            simp [hij, hij', g1, g2, k1, k2, w3]
    · rw [ctD_err _ _ he] at h14
      simp [c4, h11, h12, h14, he]
end Go.Mx
