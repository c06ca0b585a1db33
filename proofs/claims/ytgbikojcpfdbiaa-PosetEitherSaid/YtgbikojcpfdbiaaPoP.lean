import Derived.Test.YtgbikojcpfdbiaaPoO
/-
  Cycle: the reference; the law.
-/
namespace Go.Mx
set_option linter.unusedVariables false
set_option linter.unusedSimpArgs false
set_option linter.unusedSectionVars false
open Go

/-- The first arc towards home leads to the next vertex. -/
theorem arc_next {n : Nat} {a : NA} (hv : ∀ p ∈ a, p.1 < n ∧ p.2 < n) (hsort : a.Pairwise fun p q => lexB (arcZ p) (arcZ q)) (v : Nat) (hvn : v < n) (at' l u : Nat) (hl : 0 < l) (hnext : nextC n (nextG a) v at' l = some u) (hu : v < u ∧ u < n ∧ (nextG a at').testBit u = true ∧ homeG n (nextG a) v u = l) :
    ∃ i, i < a.length ∧ (List.range a.length).find? (fun i => (nth a (0, 0) i).1 == at' && decide (v < (nth a (0, 0) i).2) && farF a v v n (nth a (0, 0) i).2 == (l : Int)) = some i ∧ (nth a (0, 0) i).2 = u := by
  obtain ⟨h1, h2, h3, h4⟩ := hu
  rw [next_bit] at h3
  have hm : (at', u) ∈ a := by simpa using h3
  obtain ⟨j, hj, ej⟩ := List.mem_iff_getElem.1 hm
  have ejn : nth a (0, 0) j = (at', u) := by rw [nth_get _ hj]; exact ej
  have eu := far_home hv v hvn u (by omega)
  rw [if_neg (by omega), h4] at eu
  have hsat : ((nth a (0, 0) j).1 == at' && decide (v < (nth a (0, 0) j).2) && farF a v v n (nth a (0, 0) j).2 == (l : Int)) = true := by
    rw [ejn]; simp [h1, eu]
  cases hf : (List.range a.length).find? (fun i => (nth a (0, 0) i).1 == at' && decide (v < (nth a (0, 0) i).2) && farF a v v n (nth a (0, 0) i).2 == (l : Int)) with
  | none =>
    rw [List.find?_eq_none] at hf
    exact absurd hsat (hf j (List.mem_range.2 hj))
  | some i =>
    have hi := List.mem_range.1 (List.mem_of_find?_eq_some hf)
    have hp := List.find?_some hf
    simp only [Bool.and_eq_true, beq_iff_eq, decide_eq_true_eq] at hp
    obtain ⟨⟨g1, g2⟩, g3⟩ := hp
    refine ⟨i, hi, rfl, ?_⟩
    have hmem := nth_mem (0, 0) hi
    have hpv := hv _ hmem
    have et := far_home hv v hvn (nth a (0, 0) i).2 (by omega)
    have hb : (nextG a at').testBit (nth a (0, 0) i).2 = true := by
      rw [next_bit, ← g1]
      simpa using hmem
    have ht : homeG n (nextG a) v (nth a (0, 0) i).2 = l := by
      rw [g3] at et
      split at et <;> omega
    obtain ⟨u', k1, _, _, _, _, k6⟩ := nextC_some n (nextG a) v (at' := at') g2 hpv.2 hb ht
    rw [hnext] at k1
    cases k1
    have hij : ¬ j < i := by
      intro hlt
      obtain ⟨_, l1, l2, e, hno⟩ := List.find?_eq_some_iff_append.1 hf
      have hlen : l1.length = i := by
        have h5 : (List.range a.length)[l1.length]? = some i := by rw [e]; simp
        rw [List.getElem?_eq_some_iff] at h5
        obtain ⟨_, h6⟩ := h5
        simpa using h6
      have h7 : (List.range a.length)[j]? = some j := by rw [List.getElem?_range hj]
      rw [e, List.getElem?_append_left (by omega)] at h7
      have := hno _ (List.mem_of_getElem? h7)
      rw [hsat] at this
      simp at this
    rcases Nat.lt_or_ge i j with hlt | hge
    · have h8 := List.pairwise_iff_getElem.1 hsort i j hi hj hlt
      rw [← nth_get (0, 0) hi, ← nth_get (0, 0) hj, ejn] at h8
      unfold lexB arcZ at h8
      simp only at h8
      omega
    · have : i = j := by omega
      subst this
      rw [ejn]

theorem loop26_3 (call : Oracle) (fuel : Nat) (n : Nat) (hn : n ≤ 24) (b : Bool) (a : NA) (hv : ∀ p ∈ a, p.1 < n ∧ p.2 < n) (hl : a.length ≤ 1000) (F : Nat → Int) (o : List Nat) (v at' l : Nat) (fu : Nat) (hf : 1000 < fu) (st : St)
    (h0 : drops st h26_3 = L26_3 (ii n) (.ro (sa b (arcsZ a))) (.own (so o)) (ii v) (.own (ri n F)) (ii at') (ii l) (ii 0)) :
    run.loopN (run call fuel b26_3) fu st = some (((List.range a.length).find? (fun i => (nth a (0, 0) i).1 == at' && decide (v < (nth a (0, 0) i).2) && F (nth a (0, 0) i).2 == (l : Int))).elim (.ex 6, X26_6 (ii n) (.ro (sa b (arcsZ a))) (.own (so o)) (ii v) (.own (ri n F)) (ii at') (ii l)) (fun i => (.ex 6, X26_6 (ii n) (.ro (sa b (arcsZ a))) (.own (so o)) (ii v) (.own (ri n F)) (ii ((nth a (0, 0) i).2 : Nat)) (ii l)))) := by
  refine loop_find call fuel h26_3 _ a.length _ (fun i => L26_3 (ii n) (.ro (sa b (arcsZ a))) (.own (so o)) (ii v) (.own (ri n F)) (ii at') (ii l) (ii i)) _ _ (by simp) (by simp) ?_ (by simp) fu st h0 (by omega)
  intro i hi _
  have hw := wrap_succ (i := i) (by omega)
  obtain ⟨h1, h2⟩ := hv _ (nth_mem (0, 0) hi)
  generalize hp : nth a (0, 0) i = p at *
  obtain ⟨f, t⟩ := p
  simp only at h1 h2
  have e1 := nth_row n F 0 h2
  have hft : (f : Int) = (at' : Int) ↔ f = at' := by omega
  generalize F t = x at *
  by_cases c1 : f = at'
  · subst c1
    by_cases c2 : v < t
    · by_cases c3 : x = (l : Int)
      · simp [hi, hw, hp, h1, h2, e1, c2, c3]
      · simp [hi, hw, hp, h1, h2, e1, c2, c3]
    · simp [hi, hw, hp, h1, h2, c2]
  · simp [hi, hw, hp, h1, h2, c1, hft]

theorem loop26_2 (call : Oracle) (fuel : Nat) (n : Nat) (hn : n ≤ 24) (b : Bool) (a : NA) (hv : ∀ p ∈ a, p.1 < n ∧ p.2 < n) (hsort : a.Pairwise fun p q => lexB (arcZ p) (arcZ q)) (hl : a.length ≤ 1000) (v : Nat) (hvn : v < n) (size : Nat) (hs : homeG n (nextG a) v v = size) (hp : 0 < size) (fu : Nat) (hf : 1000 < fu) (hf2 : 1000 < fuel) (st : St)
    (h0 : drops st h26_2 = L26_2 (ii n) (.ro (sa b (arcsZ a))) (.own (so [v])) (ii v) (.own (ri n (farF a v v n))) (ii v) (ii ((size : Int) - 1))) :
    run.loopN (run call fuel b26_2) fu st = some (.ex 4, X26_4 (ii n) (.ro (sa b (arcsZ a))) (.own (so (row size (atC n (nextG a) v size)))) (ii v)) := by
  have hle := home_le n (nextG a) v hvn v
  have hsz : size - 1 + 1 = size := by omega
  refine loop_cnt call fuel h26_2 _ (size - 1) (fun j => L26_2 (ii n) (.ro (sa b (arcsZ a))) (.own (so (row (j + 1) (atC n (nextG a) v size)))) (ii v) (.own (ri n (farF a v v n))) (ii (atC n (nextG a) v size j : Nat)) (ii ((size : Int) - 1 - j))) _ (by simp) ?_ ?_ fu st (by rw [show (size : Int) - 1 = (size : Int) - 1 - ((0 : Nat) : Int) by omega] at h0; exact h0) (by omega)
  · intro j hj
    obtain ⟨h1, h2, h3, h4, h5⟩ := atC_ok n (nextG a) v hvn hs hp j (by omega)
    obtain ⟨h6, h7⟩ := h5 (by omega)
    obtain ⟨g1, g2, g3, g4, _⟩ := atC_ok n (nextG a) v hvn hs hp (j + 1) (by omega)
    have hlft : (size : Int) - 1 - (j : Int) = ((size - (j + 1) : Nat) : Int) := by omega
    have hlft2 : IntKind.i64.wrap (((size - (j + 1) : Nat) : Int) - 1) = (size : Int) - 1 - ((j + 1 : Nat) : Int) := by rw [wrap_eq (by unfold I64; omega)]; omega
    have hpos : (0 : Int) < ((size - (j + 1) : Nat) : Int) := by omega
    have hm : (row (j + 1) (atC n (nextG a) v size)).length + 1 ≤ most := by rw [row_len]; unfold most; omega
    obtain ⟨i, k1, k2, k3⟩ := arc_next hv hsort v hvn (atC n (nextG a) v size j) (size - (j + 1)) (atC n (nextG a) v size (j + 1)) (by omega) h6 ⟨g4 (by omega), g2, h7, g3⟩
    have e := loop26_3 call fuel n hn b a hv hl (farF a v v n) (row (j + 1) (atC n (nextG a) v size)) v (atC n (nextG a) v size j) (size - (j + 1)) fuel hf2
    rw [k2] at e
    simp only [Option.elim] at e
    rw [k3] at e
    rw [row_succ (j + 1), hlft]
    generalize size - (j + 1) = l at *
    generalize row (j + 1) (atC n (nextG a) v size) = o at *
    generalize atC n (nextG a) v size (j + 1) = u at *
    have hpos' : 0 < l := by omega
    simp [hpos']
    rw [e _ (by simp)]
    simp [hlft2, hm, so_snoc]
  · have : (size : Int) - 1 - ((size - 1 : Nat) : Int) = 0 := by omega
    rw [this, hsz]
    simp

/-- The best cycle so far, as a list. -/
def bestL (n : Nat) (g : Nat → Nat) (o : Option Nat) : List Nat := o.elim [] fun b => row (homeG n g b b) (atC n g b (homeG n g b b))

theorem loop26_0 (call : Oracle) (fuel : Nat) (n : Nat) (hn : n ≤ 24) (b : Bool) (a : NA) (hv : ∀ p ∈ a, p.1 < n ∧ p.2 < n) (hne : ∀ p ∈ a, p.1 ≠ p.2) (hsort : a.Pairwise fun p q => lexB (arcZ p) (arcZ q)) (hl : a.length ≤ 1000) (hf : 1000 < fuel)
    (h37 : ∀ v, v < n → call 37 [.v (.int .i64 (n : Int)), sa b (arcsZ a), .v (.int .i64 (v : Int)), .v (.int .i64 (v : Int))] = some (ri n (farF a v v n))) (st : St)
    (h0 : drops st h26_0 = L26_0 (ii n) (.ro (sa b (arcsZ a))) (.own (so [])) (ii 0)) :
    run.loopN (run call fuel b26_0) fuel st = some (.ex 0, X26_0 (.own (so (bestL n (nextG a) (selB n (nextG a) n))))) := by
  refine loop_cnt call fuel h26_0 _ n (fun i => L26_0 (ii n) (.ro (sa b (arcsZ a))) (.own (so (bestL n (nextG a) (selB n (nextG a) i)))) (ii i)) _ (by simp) ?_ (by simp) fuel st h0 (by omega)
  intro i hi
  have hw := wrap_succ (i := i) (by omega)
  have e := h37 i hi
  have e1 := loop26_1 call fuel n hn b a hv hl (farF a i i n) (fun u => by have := far_le hv i hi u; omega) (bestL n (nextG a) (selB n (nextG a) i)) i fuel hf
  rw [least_home hv hne i hi] at e1
  have hs : selB n (nextG a) (i + 1) = if 0 < homeG n (nextG a) i i ∧ homeG n (nextG a) i i < szB n (nextG a) (selB n (nextG a) i) then some i else selB n (nextG a) i := rfl
  have hle := home_le n (nextG a) i hi i
  rw [hs]
  by_cases c0 : homeG n (nextG a) i i = 0
  · rw [if_pos c0] at e1
    rw [if_neg (by omega)]
    simp [hi, e]
    rw [e1 _ (by simp)]
    simp [hw]
  · rw [if_neg c0] at e1
    have e2 := loop26_2 call fuel n hn b a hv hsort hl i hi _ rfl (by omega) fuel hf hf
    have hw2 : IntKind.i64.wrap ((homeG n (nextG a) i i : Int) - 1) = (homeG n (nextG a) i i : Int) - 1 := wrap_eq (by unfold I64; omega)
    cases ho : selB n (nextG a) i with
    | none =>
      have hc : 0 < homeG n (nextG a) i i ∧ homeG n (nextG a) i i < szB n (nextG a) none := ⟨by omega, by show _ < n + 1; omega⟩
      rw [if_pos hc]
      rw [ho] at e1
      simp [hi, e]
      rw [e1 _ (by simp)]
      simp [bestL, hw2]
      rw [e2 _ (by simp; rfl)]
      simp [hw]
    | some c =>
      have hcp := sel_some n (nextG a) i c ho
      have hlen : (bestL n (nextG a) (some c)).length = homeG n (nextG a) c c := row_len _ _
      have hpos : 0 < homeG n (nextG a) c c := hcp.2
      by_cases hlt : homeG n (nextG a) i i < homeG n (nextG a) c c
      · rw [if_pos ⟨by omega, hlt⟩]
        rw [ho] at e1
        have hlt' : ¬ ((homeG n (nextG a) c c : Int) ≤ (homeG n (nextG a) i i : Int)) := by omega
        have hlt2 : ¬ (homeG n (nextG a) c c ≤ homeG n (nextG a) i i) := by omega
        simp [hi, e]
        rw [e1 _ (by simp)]
        simp [hlen, hpos, hlt, hlt', hlt2, hw2]
        rw [e2 _ (by simp; rfl)]
        simp [hw, bestL]
      · rw [if_neg (fun h => hlt h.2)]
        rw [ho] at e1
        have hlt' : ((homeG n (nextG a) c c : Int) ≤ (homeG n (nextG a) i i : Int)) := by omega
        have hlt2 : (homeG n (nextG a) c c ≤ homeG n (nextG a) i i) := by omega
        simp [hi, e]
        rw [e1 _ (by simp)]
        simp [hlen, hpos, hlt', hlt2, hw]

theorem f26 (call : Oracle) (fuel : Nat) (hf : 1000 < fuel) (b : Bool) (n : Int) (a : List (Int × Int)) (hl : a.length ≤ 1000)
    (h21 : call 21 [.v (.int .i64 n), sa b a] = some (.v (.bool (validB n a))))
    (h37 : ∀ (k : Nat) (x : NA), k ≤ 24 → (∀ p ∈ x, p.1 < k ∧ p.2 < k) → x.length ≤ 1000 → ∀ v, v < k → call 37 [.v (.int .i64 (k : Int)), sa b (arcsZ x), .v (.int .i64 (v : Int)), .v (.int .i64 (v : Int))] = some (ri k (farF x v v k))) :
    callF call fuel c26 [.v (.int .i64 n), sa b a] = some (cycD n a) := by
  rw [callF_tab call fuel c26 14 _ (by exact Nat.le_of_ble_eq_true rfl) (by exact Nat.le_of_ble_eq_true rfl)]
  by_cases hv : validB n a = true
  · obtain ⟨k, rfl, hk, ha, hp⟩ := valid_nat hv
    have hp' : ∀ p ∈ natA a, p.1 < k ∧ p.2 < k := fun p h => ⟨(hp p h).1, (hp p h).2.1⟩
    have hsort : (natA a).Pairwise fun p q => lexB (arcZ p) (arcZ q) := by
      have := valid_sorted hv
      rw [ha] at this
      have h2 := List.pairwise_map.1 this
      exact h2
    have hlen : (natA a).length ≤ 1000 := by simpa [natA] using hl
    have e0 := loop26_0 call fuel k hk b (natA a) hp' (fun p h => (hp p h).2.2) hsort hlen hf (h37 k (natA a) hk hp' hlen)
    rw [← ha] at e0
    rw [hv] at h21
    unfold cycD
    rw [if_pos hv]
    simp only [Int.toNat_natCast]
    generalize nextG (natA a) = g at *
    simp [c26, h21]
    rw [e0 _ (by simp; rfl)]
    cases ho : selB k g k with
    | none =>
      simp [bestL, zl]
      rfl
    | some v =>
      have hpos := (sel_some k g k v ho).2
      simp [bestL, hpos]
      omega
  · have hv' : validB n a = false := by simpa using hv
    rw [hv'] at h21
    unfold cycD
    rw [if_neg hv]
    simp [c26, h21]
    rfl

theorem s36 (k : Nat) (m : Nat) (g : Nat → Nat) (hm : m ≤ 24) (hg : ∀ i, g i < 2 ^ 32) (v : Nat) (hv : v < m) : S (k + 1) 36 [su m g, .v (.int .i64 (v : Int))] = some (lz m (homeG m g v)) := by
  rw [S, sem_succ (mf := c36) rfl]; exact f36 _ _ (by decide) m hm false g hg v hv
theorem s37 (k : Nat) (b : Bool) (m : Nat) (x : NA) (hm : m ≤ 24) (hx : ∀ p ∈ x, p.1 < m ∧ p.2 < m) (hl : x.length ≤ 1000) (v : Nat) (hv : v < m) : S (k + 1) 37 [.v (.int .i64 (m : Int)), sa b (arcsZ x), .v (.int .i64 (v : Int)), .v (.int .i64 (v : Int))] = some (ri m (farF x v v m)) := by
  rw [S, sem_succ (mf := c37) rfl]; exact f37 _ _ (by decide) m hm b x hx hl v v hv
theorem s25 (k : Nat) (b : Bool) (n : Int) (a : List (Int × Int)) (hl : a.length ≤ 1000) : S (k + 2) 25 [.v (.int .i64 n), sa b a] = some (cycD n a) := by
  rw [S, sem_succ (mf := c25) rfl]; exact f25 _ _ (by decide) b n a hl (s28 k) (s20 k b n a hl) (fun hv => s29 k b n a hv hl) (fun m g hm hg v hv => s36 k m g hm hg v hv)
theorem s26 (k : Nat) (b : Bool) (n : Int) (a : List (Int × Int)) (hl : a.length ≤ 1000) : S (k + 3) 26 [.v (.int .i64 n), sa b a] = some (cycD n a) := by
  rw [S, sem_succ (mf := c26) rfl]; exact f26 _ _ (by decide) b n a hl (s21 k b n a hl) (fun m x hm hx hl v hv => s37 (k + 1) b m x hm hx hl v hv)

theorem f7 (call : Oracle) (fuel : Nat) (b : Bool) (n : Int) (a : List (Int × Int))
    (h9 : call 9 [] = some (.v (.bool true))) (h10 : call 10 [sa b a] = some (.v (.bool (decide (a.length ≤ 150)))))
    (h25 : a.length ≤ 150 → call 25 [.v (.int .i64 n), sa b a] = some (cycD n a)) (h26 : a.length ≤ 150 → call 26 [.v (.int .i64 n), sa b a] = some (cycD n a))
    (h15 : ∀ (b c : Bool) (l m : List Int), l.length ≤ 1000 → call 15 [si b l, si c m] = some (.v (.bool (l == m)))) :
    callF call fuel c7 [.v (.int .i64 n), sa b a] = some (.v (.bool true)) := by
  rw [callF_tab call fuel c7 24 _ (by exact Nat.le_of_ble_eq_true rfl) (by exact Nat.le_of_ble_eq_true rfl)]
  by_cases hl : a.length ≤ 150
  · have e25 := h25 hl
    have e26 := h26 hl
    unfold cycD at e25 e26
    have e0 := h15 true true [] [] (by simp)
    by_cases hv : validB n a = true
    · rw [if_pos hv] at e25 e26
      obtain ⟨k, rfl, hk, ha, hp⟩ := valid_nat hv
      simp only [Int.toNat_natCast] at e25 e26
      generalize nextG (natA a) = g at *
      cases ho : selB k g k with
      | none =>
        rw [ho] at e25 e26
        simp only at e25 e26
        simp [c7, h9, h10, hl, e25, e26, e0]
      | some v =>
        rw [ho] at e25 e26
        simp only at e25 e26
        have hvk := (sel_some k g k v ho).1
        have hle := home_le k g v hvk v
        have e1 := h15 (row (homeG k g v v) (atC k g v (homeG k g v v))).isEmpty (row (homeG k g v v) (atC k g v (homeG k g v v))).isEmpty (zl (row (homeG k g v v) (atC k g v (homeG k g v v)))) (zl (row (homeG k g v v) (atC k g v (homeG k g v v)))) (by simp; omega)
        generalize row (homeG k g v v) (atC k g v (homeG k g v v)) = r at *
        simp [c7, h9, h10, hl, e25, e26, e1]
    · rw [if_neg hv] at e25 e26
      simp [c7, h9, h10, hl, e25, e26, e0]
  · simp [c7, h9, h10, hl]

theorem law7 (b : Bool) (n : Int) (a : List (Int × Int)) : S 11 7 [.v (.int .i64 n), sa b a] = some (.v (.bool true)) := by
  rw [S, sem_succ (mf := c7) rfl]
  exact f7 _ _ b n a s9 (s10 9 b a) (fun h => s25 8 b n a (by omega)) (fun h => s26 7 b n a (by omega)) (fun b c l m h => s15 9 b c l m h)

end Go.Mx
