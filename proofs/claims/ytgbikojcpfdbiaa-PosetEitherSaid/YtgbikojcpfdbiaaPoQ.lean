import Derived.Test.YtgbikojcpfdbiaaPoP
/-
  Either there is an order or a cycle.
-/
namespace Go.Mx
set_option linter.unusedVariables false
set_option linter.unusedSimpArgs false
set_option linter.unusedSectionVars false
open Go

/-! ### the plain law -/
theorem home_reach {n : Nat} {a : NA} (hv : ∀ p ∈ a, p.1 < n ∧ p.2 < n) (v : Nat) (hvn : v < n) : ∀ (m u : Nat), homeG n (nextG a) v u = m + 1 → (warr (nextG a) n u).testBit v = true
  | 0, u, h => warr_mono _ _ _ _ (home_one n (nextG a) v u h)
  | m + 1, u, h => by
    obtain ⟨w, h1, h2, h3, h4⟩ := home_next n (nextG a) v m u h
    exact warr_trans _ _ w _ _ h2 (warr_mono _ _ _ _ h3) (home_reach hv v hvn m w h4)

theorem home_prev0 (n : Nat) (succ : Nat → Nat) (v u : Nat) (hu : v ≤ u) (hun : u < n) (hb : (succ u).testBit v = true) : 0 < homeG n succ v u := by
  have hnew := (new_iff succ (layG n succ v 0).2 (layG n succ v 0).1 u).2 ⟨rfl, v, hb, by simp [layG, pw_bit]⟩
  have h3 : (layG n succ v 1).1 u = 1 := by
    show (if decide (v ≤ u) && decide (u < n) && newU succ (layG n succ v 0).2 (layG n succ v 0).1 u then 0 + 1 else _) = _
    rw [hnew]; simp [hu, hun]
  have h4 := lay_keep n succ v 1 n u (by omega)
  unfold homeG
  rw [show n + 1 = 1 + n by omega]
  omega

/-- The least vertex that reaches itself has a way home. -/
theorem home_of_cycle {n : Nat} {a : NA} (hv : ∀ p ∈ a, p.1 < n ∧ p.2 < n) (v : Nat) (hvn : v < n) (hc : (warr (nextG a) n v).testBit v = true) (hmin : ∀ u, u < v → (warr (nextG a) n u).testBit u = false) : 0 < homeG n (nextG a) v v := by
  have low := low_warr (low_next hv) n
  have key := warr_ind (nextG a) (fun i j => j < n ∧ (warr (nextG a) n i).testBit j = true ∧ ((warr (nextG a) n v).testBit i = true → i < n → (j = v ∨ 0 < homeG n (nextG a) v j) → 0 < homeG n (nextG a) v i))
    (fun i j hb => by
      have hm : (i, j) ∈ a := by rw [next_bit] at hb; simpa using hb
      have hij := hv _ hm
      refine ⟨hij.2, warr_mono _ _ _ _ hb, fun h1 h2 h3 => ?_⟩
      have hiv : (warr (nextG a) n i).testBit v = true := by
        rcases h3 with rfl | h3
        · exact warr_mono _ _ _ _ hb
        · exact warr_trans _ _ j _ _ hij.2 (warr_mono _ _ _ _ hb) (home_reach hv v hvn (homeG n (nextG a) v j - 1) j (by omega))
      have hii : (warr (nextG a) n i).testBit i = true := warr_trans _ _ v _ _ hvn hiv h1
      have hge : v ≤ i := by
        rcases Nat.lt_or_ge i v with h | h
        · rw [hmin i h] at hii; simp at hii
        · exact h
      rcases h3 with rfl | h3
      · exact home_prev0 n (nextG a) _ i hge h2 hb
      · by_cases hjv : j = v
        · subst hjv; exact home_prev0 n (nextG a) _ i hge h2 hb
        · exact (home_prev n (nextG a) v i j hge h2 hb hjv h3).1)
    (fun i w j h1 h2 => by
      refine ⟨h2.1, warr_trans _ _ w _ _ h1.1 h1.2.1 h2.2.1, fun g1 g2 g3 => ?_⟩
      have hw := h2.2.2 (warr_trans _ _ i _ _ g2 g1 h1.2.1) h1.1 g3
      exact h1.2.2 g1 g2 (.inr hw)) n v v hc
  exact key.2.2 hc hvn (.inl rfl)

theorem least_exists (P : Nat → Prop) (n : Nat) (h : ∃ i, i < n ∧ P i) : ∃ i, i < n ∧ P i ∧ ∀ j, j < i → ¬ P j := by
  obtain ⟨i, hi, hp⟩ := h
  induction i using Nat.strongRecOn with
  | _ i ih =>
    by_cases hc : ∃ j, j < i ∧ P j
    · obtain ⟨j, hj, hpj⟩ := hc
      exact ih j hj (by omega) hpj
    · exact ⟨i, hi, hp, fun j hj hpj => hc ⟨j, hj, hpj⟩⟩

theorem sel_none {n : Nat} {g : Nat → Nat} (hle : ∀ v, v < n → homeG n g v v ≤ n) (i : Nat) (hi : i ≤ n) : selB n g i = none ↔ ∀ v, v < i → homeG n g v v = 0 := by
  induction i with
  | zero => simp [selB]
  | succ i ih =>
    simp only [selB]
    have ih' := ih (by omega)
    constructor
    · intro h
      split at h
      · cases h
      · rename_i hc
        have h0 := ih'.1 h
        intro v hv
        rcases Nat.lt_or_ge v i with hlt | hge
        · exact h0 v hlt
        · have : v = i := by omega
          subst this
          rw [h] at hc
          have h1 : homeG n g v v < szB n g none := by show _ < n + 1; have := hle v (by omega); omega
          omega
    · intro h
      have h0 := ih'.2 fun v hv => h v (by omega)
      rw [if_neg (by rw [h i (by omega)]; omega)]
      exact h0

/-- There is an order exactly if there is no cycle. -/
theorem either {n : Nat} {a : NA} (hv : ∀ p ∈ a, p.1 < n ∧ p.2 < n) : (ordR n a []).isSome = (selB n (nextG a) n).isNone := by
  rw [order_iff hv]
  have hs := sel_none (n := n) (g := nextG a) (fun v hv => home_le n (nextG a) v hv v) n (Nat.le_refl _)
  cases hc : (List.range n).any (fun i => (warr (nextG a) n i).testBit i)
  · have hac := (any_range _ _).1 hc
    have : selB n (nextG a) n = none := hs.2 fun v hvn => by
      by_cases h0 : homeG n (nextG a) v v = 0
      · exact h0
      · have := home_reach hv v hvn (homeG n (nextG a) v v - 1) v (by omega)
        rw [hac v hvn] at this
        simp at this
    rw [this]; rfl
  · rw [List.any_eq_true] at hc
    obtain ⟨i, hi, hb⟩ := hc
    obtain ⟨v, h1, h2, h3⟩ := least_exists (fun i => (warr (nextG a) n i).testBit i = true) n ⟨i, List.mem_range.1 hi, hb⟩
    have hp := home_of_cycle hv v h1 h2 fun u hu => by simpa using h3 u hu
    have : selB n (nextG a) n ≠ none := fun h => by
      have := hs.1 h v h1; omega
    cases hq : selB n (nextG a) n with
    | none => exact absurd hq this
    | some c => rfl

theorem find_idx (l : List Nat) (v : Nat) : (List.range l.length).find? (fun i => nth l 0 i == v) = if v ∈ l then some (l.idxOf v) else none := by
  induction l with
  | nil => simp
  | cons x l ih =>
    rw [List.length_cons, List.range_succ_eq_map, List.find?_cons]
    have e0 : nth (x :: l) 0 0 = x := rfl
    rw [e0]
    by_cases hx : x = v
    · subst hx; simp
    · have hb : (x == v) = false := by simpa using hx
      have hx' : ¬ v = x := fun e => hx e.symm
      rw [hb, List.find?_map]
      have e1 : ((fun i => nth (x :: l) 0 i == v) ∘ Nat.succ) = fun i => nth l 0 i == v := rfl
      rw [e1, ih]
      by_cases hm : v ∈ l
      · simp [hm, List.idxOf_cons, hb]
      · simp [hm, hx']

/-! ### the walk -/
theorem f27 (call : Oracle) (fuel : Nat) (hf : 1000 < fuel) (b : Bool) (l : List Nat) (hl : l.length ≤ 1000) (v : Nat) (hv : v ∈ l) : callF call fuel c27 [si b (zl l), .v (.int .i64 (v : Int))] = some (.v (.int .i64 (l.idxOf v : Nat))) := by
  have e : ∀ st : St, drops st h27_0 = L27_0 (.ro (si b (zl l))) (ii v) (ii 0) → run.loopN (run call fuel b27_0) fuel st = some (((List.range l.length).find? (fun i => nth l 0 i == v)).elim (.ex 0, X27_0) (fun i => (.ret, R27 (ii i)))) := by
    intro st h0
    refine loop_find call fuel h27_0 _ l.length _ (fun i => L27_0 (.ro (si b (zl l))) (ii v) (ii i)) _ _ (by simp) (by simp) ?_ (by simp) fuel st h0 (by omega)
    intro i hi _
    have hw := wrap_succ (i := i) (by omega)
    have e1 : nth (zl l) 0 i = ((nth l 0 i : Nat) : Int) := nth_map (fun (v : Nat) => (v : Int)) l 0 i
    generalize nth l 0 i = x at *
    have hx : (x : Int) = (v : Int) ↔ x = v := by omega
    by_cases c : x = v
    · simp [hi, hw, e1, c]
    · simp [hi, hw, e1, c, hx]
  rw [find_idx, if_pos hv] at e
  rw [callF_tab call fuel c27 6 _ (by exact Nat.le_of_ble_eq_true rfl) (by exact Nat.le_of_ble_eq_true rfl)]
  simp [c27]
  rw [e _ (by simp)]
  simp

theorem loop8_0 (call : Oracle) (fuel : Nat) (n : Nat) (hn : n ≤ 24) (b : Bool) (a : NA) (hv : ∀ p ∈ a, p.1 < n ∧ p.2 < n) (hl : a.length ≤ 1000) (l : List Nat) (hall : ∀ v, v < n → v ∈ l) (hord : ∀ p ∈ a, l.idxOf p.1 < l.idxOf p.2) (L : Nat → Nat) (hL : ∀ p ∈ a, L p.1 < L p.2)
    (h27 : ∀ v, v ∈ l → call 27 [so l, .v (.int .i64 (v : Int))] = some (.v (.int .i64 (l.idxOf v : Nat)))) (hf : 1000 < fuel) (st : St)
    (h0 : drops st h8_0 = L8_0 (ii n) (.ro (sa b (arcsZ a))) (.own (so l)) (.own (lz n L)) (ii 0)) :
    run.loopN (run call fuel b8_0) fuel st = some (.ex 0, X8_0) := by
  refine loop_cnt call fuel h8_0 _ a.length (fun i => L8_0 (ii n) (.ro (sa b (arcsZ a))) (.own (so l)) (.own (lz n L)) (ii i)) _ (by simp) ?_ (by simp) fuel st h0 (by omega)
  intro i hi
  have hw := wrap_succ (i := i) (by omega)
  have hm := nth_mem (0, 0) hi
  obtain ⟨h1, h2⟩ := hv _ hm
  have h3 := hord _ hm
  have h4 := hL _ hm
  generalize hp : nth a (0, 0) i = p at *
  obtain ⟨f, t⟩ := p
  simp only at h1 h2 h3 h4
  have e1 := h27 f (hall f h1)
  have e2 := h27 t (hall t h2)
  have e3 := zr_nth n L h1
  have e4 := zr_nth n L h2
  generalize l.idxOf f = x at *
  generalize l.idxOf t = y at *
  have d1 : ¬ y ≤ x := by omega
  have d2 : ¬ n ≤ f := by omega
  have d3 : ¬ n ≤ t := by omega
  have d4 : ¬ L t ≤ L f := by omega
  simp [hi, hw, hp, h1, h2, e1, e2, e3, e4, d1, d2, d3, d4]

/-- The place after one, round about. -/
def md (i m : Nat) : Nat := (i + 1) % m
theorem md_cast (i m : Nat) : ((i : Int) + 1).tmod (m : Int) = ((md i m : Nat) : Int) := by
  rw [show (i : Int) + 1 = ((i + 1 : Nat) : Int) by simp]
  exact (Int.ofNat_tmod (i + 1) m).symm

theorem loop8_2 (call : Oracle) (fuel : Nat) (b : Bool) (a : NA) (hl : a.length ≤ 1000) (size : Nat) (hs : size ≤ 100) (c : Nat → Nat) (i : Nat) (hi : i < size) (fu : Nat) (hf : 1000 < fu) (st : St)
    (h0 : drops st h8_2 = L8_2 (.ro (sa b (arcsZ a))) (.own (so (row size c))) (ii i) (bb false) (ii 0)) :
    run.loopN (run call fuel b8_2) fu st = some (.ex 4, X8_4 (.ro (sa b (arcsZ a))) (.own (so (row size c))) (ii i) (bb (a.any (fun p => p.1 == c i && p.2 == c (md i size))))) := by
  refine loop_cnt call fuel h8_2 _ a.length (fun k => L8_2 (.ro (sa b (arcsZ a))) (.own (so (row size c))) (ii i) (bb ((a.take k).any (fun p => p.1 == c i && p.2 == c (md i size)))) (ii k)) _ (by simp) ?_ (by simp) fu st h0 (by omega)
  intro k hk
  have hw := wrap_succ (i := k) (by omega)
  have hw2 := wrap_succ (i := i) (by omega)
  have hmd : md i size < size := Nat.mod_lt _ (by omega)
  have hne : ¬ size = 0 := by omega
  have hmc := md_cast i size
  have e1 : nth (zl (row size c)) 0 i = ((c i : Nat) : Int) := by
    have := nth_map (fun (v : Nat) => (v : Int)) (row size c) 0 i
    rw [nth_row _ _ _ hi] at this
    exact this
  have e2 : nth (zl (row size c)) 0 (md i size) = ((c (md i size) : Nat) : Int) := by
    have := nth_map (fun (v : Nat) => (v : Int)) (row size c) 0 (md i size)
    rw [nth_row _ _ _ hmd] at this
    exact this
  rw [take_succ_nth (0, 0) hk, List.any_append, List.any_cons, List.any_nil, Bool.or_false]
  generalize (a.take k).any (fun p => p.1 == c i && p.2 == c (md i size)) = q
  generalize hp : nth a (0, 0) k = p at *
  obtain ⟨f, t⟩ := p
  simp only
  generalize md i size = j at *
  generalize c i = x at *
  generalize c j = y at *
  have hfx : ((f : Int) == (x : Int)) = (f == x) := by rw [Bool.eq_iff_iff]; simp; omega
  have hty : ((t : Int) == (y : Int)) = (t == y) := by rw [Bool.eq_iff_iff]; simp; omega
  cases q
  · simp [hk, hi, hw, hw2, hp, hmd, hne, hmc, e1, e2, hfx, hty]
  · simp [hk, hi, hw, hp]

theorem loop8_1 (call : Oracle) (fuel : Nat) (b : Bool) (a : NA) (hl : a.length ≤ 1000) (size : Nat) (hs : size ≤ 100) (c : Nat → Nat) (hc : ∀ i, i < size → (c i, c (md i size)) ∈ a) (h1 : ∀ i, 0 < i → i < size → c 0 < c i) (hf : 1000 < fuel) (st : St)
    (h0 : drops st h8_1 = L8_1 (.ro (sa b (arcsZ a))) (.own (so (row size c))) (ii 0)) :
    run.loopN (run call fuel b8_1) fuel st = some (.ex 2, X8_2) := by
  refine loop_cnt call fuel h8_1 _ size (fun i => L8_1 (.ro (sa b (arcsZ a))) (.own (so (row size c))) (ii i)) _ (by simp) ?_ (by simp) fuel st h0 (by omega)
  intro i hi
  have hw := wrap_succ (i := i) (by omega)
  have e := loop8_2 call fuel b a hl size hs c i hi fuel hf
  have hany : a.any (fun p => p.1 == c i && p.2 == c (md i size)) = true := by
    rw [List.any_eq_true]
    exact ⟨_, hc i hi, by simp⟩
  rw [hany] at e
  have e1 : nth (zl (row size c)) 0 i = ((c i : Nat) : Int) := by
    have := nth_map (fun (v : Nat) => (v : Int)) (row size c) 0 i
    rw [nth_row _ _ _ hi] at this
    exact this
  have hpos : 0 < size := by omega
  have e2 : nth (zl (row size c)) 0 0 = ((c 0 : Nat) : Int) := by
    have := nth_map (fun (v : Nat) => (v : Int)) (row size c) 0 0
    rw [nth_row _ _ _ hpos] at this
    exact this
  simp [hi]
  rw [e _ (by simp)]
  by_cases h0 : 0 < i
  · have hlt := h1 i h0 hi
    have hle : ¬ c i ≤ c 0 := by omega
    generalize c i = x at *
    generalize c 0 = y at *
    simp [h0, hi, hpos, hw, e1, e2, hle]
  · simp [h0, hw]

theorem cyc_arcs {n : Nat} {a : NA} (hv : ∀ p ∈ a, p.1 < n ∧ p.2 < n) (hne : ∀ p ∈ a, p.1 ≠ p.2) (v : Nat) (hvn : v < n) (hp : 0 < homeG n (nextG a) v v) :
    2 ≤ homeG n (nextG a) v v ∧ (∀ i, i < homeG n (nextG a) v v → (atC n (nextG a) v (homeG n (nextG a) v v) i, atC n (nextG a) v (homeG n (nextG a) v v) (md i (homeG n (nextG a) v v))) ∈ a) ∧ ∀ i, 0 < i → i < homeG n (nextG a) v v → atC n (nextG a) v (homeG n (nextG a) v v) 0 < atC n (nextG a) v (homeG n (nextG a) v v) i := by
  have hn1 : homeG n (nextG a) v v ≠ 1 := by
    intro h
    have := home_one n (nextG a) v v h
    rw [next_bit] at this
    exact hne (v, v) (by simpa using this) rfl
  generalize hs : homeG n (nextG a) v v = size at *
  refine ⟨by omega, fun i hi => ?_, fun i h0 hi => ?_⟩
  · obtain ⟨h1, h2, h3, h4, h5⟩ := atC_ok n (nextG a) v hvn hs hp i hi
    by_cases hlt : i + 1 < size
    · have := (h5 hlt).2
      rw [next_bit] at this
      unfold md
      rw [Nat.mod_eq_of_lt hlt]
      simpa using this
    · have he : i + 1 = size := by omega
      have hd : homeG n (nextG a) v (atC n (nextG a) v size i) = 1 := by omega
      have := home_one n (nextG a) v _ hd
      rw [next_bit] at this
      unfold md
      rw [he, Nat.mod_self]
      show (atC n (nextG a) v size i, v) ∈ a
      simpa using this
  · obtain ⟨h1, h2, h3, h4, h5⟩ := atC_ok n (nextG a) v hvn hs hp i hi
    exact h4 (by omega)

theorem f8 (call : Oracle) (fuel : Nat) (hf : 1000 < fuel) (b : Bool) (n : Int) (a : List (Int × Int))
    (h9 : call 9 [] = some (.v (.bool true))) (h10 : call 10 [sa b a] = some (.v (.bool (decide (a.length ≤ 150)))))
    (h11 : a.length ≤ 150 → call 11 [.v (.int .i64 n), sa b a] = some (ordD n a)) (h25 : a.length ≤ 150 → call 25 [.v (.int .i64 n), sa b a] = some (cycD n a))
    (h12 : a.length ≤ 150 → call 12 [.v (.int .i64 n), sa b a] = some (levelsD n a)) (h20 : a.length ≤ 150 → call 20 [.v (.int .i64 n), sa b a] = some (.v (.bool (validB n a))))
    (h21 : a.length ≤ 150 → call 21 [.v (.int .i64 n), sa b a] = some (.v (.bool (validB n a)))) (h22 : a.length ≤ 150 → call 22 [.v (.int .i64 n), sa b a] = some (.v (.bool (acyB n a))))
    (h27 : ∀ (c : Bool) (l : List Nat) (v : Nat), l.length ≤ 1000 → v ∈ l → call 27 [si c (zl l), .v (.int .i64 (v : Int))] = some (.v (.int .i64 (l.idxOf v : Nat)))) :
    callF call fuel c8 [.v (.int .i64 n), sa b a] = some (.v (.bool true)) := by
  rw [callF_tab call fuel c8 55 _ (by exact Nat.le_of_ble_eq_true rfl) (by exact Nat.le_of_ble_eq_true rfl)]
  by_cases hl : a.length ≤ 150
  · have e11 := h11 hl
    have e25 := h25 hl
    have e12 := h12 hl
    have e20 := h20 hl
    have e21 := h21 hl
    have e22 := h22 hl
    unfold ordD at e11
    unfold cycD at e25
    unfold levelsD at e12
    by_cases hv : validB n a = true
    · rw [if_pos hv] at e11 e25 e12
      rw [hv] at e20 e21
      obtain ⟨k, rfl, hk, ha, hp⟩ := valid_nat hv
      have hp' : ∀ p ∈ natA a, p.1 < k ∧ p.2 < k := fun p h => ⟨(hp p h).1, (hp p h).2.1⟩
      have hpn : ∀ p ∈ natA a, p.1 ≠ p.2 := fun p h => (hp p h).2.2
      have hei := either hp'
      have hac : acyB k a = (ordR k (natA a) []).isSome := by
        rw [order_iff hp']
        unfold acyB rea
        rw [hv]; rfl
      rw [hac] at e22
      simp only [Int.toNat_natCast] at e11 e25 e12
      have hlen : (natA a).length ≤ 1000 := by have : (natA a).length = a.length := by simp [natA]
                                               omega
      cases ho : ordR k (natA a) [] with
      | some l =>
        rw [ho] at e11 e12 e22 hei
        have hnone : selB k (nextG (natA a)) k = none := by
          cases hq : selB k (nextG (natA a)) k with
          | none => rfl
          | some c => rw [hq] at hei; simp at hei
        rw [hnone] at e25
        have hio := ordR_is ho
        have hL := lev_all hpn hio.good l.length (Nat.le_refl _)
        rw [List.take_length] at hL
        have hle : l.length ≤ 1000 := by have := hio.len; omega
        have el := loop8_0 call fuel k hk b (natA a) hp' hlen l (fun v h => hio.all h) (fun p h => hio.good.before h (hio.all (hp' p h).2)) (levP (nextG (natA a)) l) (fun p h => hL.up p.1 p.2 h (hio.all (hp' p h).1)) (fun v h => h27 _ l v hle h) hf
        rw [← ha] at el
        have hlk := hio.len
        simp only [levD] at e11 e12 e25 e22
        simp [c8, h9, h10, hl, e11, e25, e12, e20, e21, e22, hlk]
        rw [el _ (by simp)]
        simp
      | none =>
        rw [ho] at e11 e12 e22 hei
        cases hq : selB k (nextG (natA a)) k with
        | none => rw [hq] at hei; simp at hei
        | some c =>
          rw [hq] at e25
          simp only at e25
          obtain ⟨hck, hpos⟩ := sel_some _ _ _ _ hq
          obtain ⟨g1, g2, g3⟩ := cyc_arcs hp' hpn c hck hpos
          have hsz := home_le k (nextG (natA a)) c hck c
          have el := loop8_1 call fuel b (natA a) hlen (homeG k (nextG (natA a)) c c) (by omega) (atC k (nextG (natA a)) c (homeG k (nextG (natA a)) c c)) g2 g3 hf
          rw [← ha] at el
          generalize homeG k (nextG (natA a)) c c = size at *
          generalize atC k (nextG (natA a)) c size = at' at *
          have hn2 : ¬ ((size : Int) < 2) := by omega
          simp only at e11 e22
          simp [c8, h9, h10, hl, e11, e25, e22, hn2]
          rw [el _ (by simp)]
          simp
    · rw [if_neg hv] at e11 e25
      have hv' : validB n a = false := by simpa using hv
      rw [hv'] at e20
      simp [c8, h9, h10, hl, e11, e25, e20]
  · simp [c8, h9, h10, hl]

theorem s27 (k : Nat) (b : Bool) (l : List Nat) (v : Nat) (hl : l.length ≤ 1000) (hv : v ∈ l) : S (k + 1) 27 [si b (zl l), .v (.int .i64 (v : Int))] = some (.v (.int .i64 (l.idxOf v : Nat))) := by
  rw [S, sem_succ (mf := c27) rfl]; exact f27 _ _ (by decide) b l hl v hv

theorem law8 (b : Bool) (n : Int) (a : List (Int × Int)) : S 11 8 [.v (.int .i64 n), sa b a] = some (.v (.bool true)) := by
  rw [S, sem_succ (mf := c8) rfl]
  exact f8 _ _ (by decide) b n a s9 (s10 9 b a) (fun h => s11 8 b n a (by omega)) (fun h => s25 8 b n a (by omega)) (fun h => s12 7 b n a (by omega)) (fun h => s20 9 b n a (by omega)) (fun h => s21 8 b n a (by omega)) (fun h => s22 7 b n a (by omega)) (fun c l v h1 h2 => s27 9 c l v h1 h2)

end Go.Mx
