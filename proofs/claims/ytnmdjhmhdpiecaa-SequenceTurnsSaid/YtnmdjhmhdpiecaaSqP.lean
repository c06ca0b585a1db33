import Derived.Test.YtnmdjhmhdpiecaaSqU
/-
  Sequences, plainly: numbers and orders are inverse; an order exists if nothing reaches itself.
-/
namespace Go.Mx
set_option linter.unusedVariables false
set_option linter.unusedSimpArgs false
set_option linter.unusedSectionVars false
open Go

/-! ### an order exists -/
theorem warr_bit (g : Nat → Nat) (k i j : Nat) : (warr g (k + 1) i).testBit j = ((warr g k i).testBit j || (warr g k i).testBit k && (warr g k k).testBit j) := stp_bit (warr g k) k i j
theorem warr_mono (g : Nat → Nat) (k i j : Nat) (h : (g i).testBit j = true) : (warr g k i).testBit j = true := by
  induction k with
  | zero => exact h
  | succ k ih => rw [warr_bit, ih]; rfl
theorem warr_trans (g : Nat → Nat) (k v i j : Nat) (hv : v < k) (h1 : (warr g k i).testBit v = true) (h2 : (warr g k v).testBit j = true) : (warr g k i).testBit j = true := by
  induction k generalizing v i j with
  | zero => omega
  | succ k ih =>
    rw [warr_bit] at h1 h2 ⊢
    simp only [Bool.or_eq_true, Bool.and_eq_true] at *
    by_cases hk : v = k
    · subst hk
      have a1 : (warr g v i).testBit v = true := by rcases h1 with h | ⟨h, _⟩ <;> exact h
      have a2 : (warr g v v).testBit j = true := by rcases h2 with h | ⟨_, h⟩ <;> exact h
      exact Or.inr ⟨a1, a2⟩
    · have hv' : v < k := by omega
      rcases h1 with h1 | ⟨h1, h3⟩ <;> rcases h2 with h2 | ⟨h2, h4⟩
      · exact Or.inl (ih v i j hv' h1 h2)
      · exact Or.inr ⟨ih v i k hv' h1 h2, h4⟩
      · exact Or.inr ⟨h1, ih v k j hv' h3 h2⟩
      · exact Or.inr ⟨h1, h4⟩
/-- What holds of arcs and goes on along paths holds of what is reached. -/
theorem warr_ind (g : Nat → Nat) (P : Nat → Nat → Prop) (h0 : ∀ i j, (g i).testBit j = true → P i j) (ht : ∀ i v j, P i v → P v j → P i j) (k i j : Nat) (h : (warr g k i).testBit j = true) : P i j := by
  induction k generalizing i j with
  | zero => exact h0 i j h
  | succ k ih =>
    rw [warr_bit] at h
    simp only [Bool.or_eq_true, Bool.and_eq_true] at h
    rcases h with h | ⟨h1, h2⟩
    · exact ih i j h
    · exact ht i k j (ih i k h1) (ih k j h2)
theorem exists_min (r : Nat → Nat → Prop) (hi : ∀ x, ¬ r x x) (ht : ∀ x y z, r x y → r y z → r x z) : ∀ (l : List Nat), l ≠ [] → ∃ m ∈ l, ∀ x ∈ l, ¬ r x m
  | [], h => absurd rfl h
  | [a], _ => ⟨a, List.mem_cons_self .., fun x hx => by simp at hx; subst hx; exact hi _⟩
  | a :: b :: l, _ => by
    obtain ⟨m, hm, hmin⟩ := exists_min r hi ht (b :: l) (by simp)
    by_cases h : r a m
    · refine ⟨a, List.mem_cons_self .., fun x hx hr => ?_⟩
      rcases List.mem_cons.1 hx with rfl | hx
      · exact hi _ hr
      · exact hmin x hx (ht _ _ _ hr h)
    · refine ⟨m, List.mem_cons_of_mem _ hm, fun x hx hr => ?_⟩
      rcases List.mem_cons.1 hx with rfl | hx
      · exact h hr
      · exact hmin x hx hr
theorem next_bit (a : NA) (i j : Nat) : (nextG a i).testBit j = a.any fun p => p.1 == i && p.2 == j := by
  have : ∀ (a : NA) (g : Nat → Nat), (a.foldl addArc g i).testBit j = ((g i).testBit j || a.any fun p => p.1 == i && p.2 == j) := by
    intro a
    induction a with
    | nil => intro g; simp
    | cons p a ih =>
      intro g
      rw [List.foldl_cons, ih, List.any_cons]
      unfold addArc updF
      by_cases h : i = p.1
      · subst h
        rw [if_pos rfl, Nat.testBit_or, pw_bit]
        by_cases h2 : p.2 = j
        · simp [h2]
        · have h3 : (p.2 == j) = false := by simpa using h2
          simp [h2, h3]
      · have h' : (p.1 == i) = false := by simpa using fun e => h e.symm
        rw [if_neg h, h']
        simp
  rw [nextG, this]
  simp
/-- Nothing reaches itself. -/
def Acy (n : Nat) (a : NA) : Prop := ∀ i, i < n → (warr (nextG a) n i).testBit i = false
theorem acy_of {n : Nat} {a : List (Int × Int)} (h : acyB n a = true) : Acy n (natA a) := by
  intro i hi
  unfold acyB at h
  simp only [Bool.and_eq_true, Bool.not_eq_true', List.any_eq_false] at h
  have := h.2 i (List.mem_range.2 (by omega))
  unfold rea at this
  simpa using this
theorem rdy_ex {n : Nat} {a : NA} (hv : ∀ p ∈ a, p.1 < n ∧ p.2 < n) (hac : Acy n a) {s : Nat} (hm : 0 < miss n s) : ∃ v, v < n ∧ rdy a s v = true := by
  obtain ⟨v0, h1, h2⟩ := miss_ex hm
  obtain ⟨m, hm, hmin⟩ := exists_min (fun x y => x < n ∧ y < n ∧ (warr (nextG a) n x).testBit y = true) (fun x h => by rw [hac x h.1] at h; simp at h)
    (fun x y z h1 h2 => ⟨h1.1, h2.2.1, warr_trans _ _ _ _ _ h1.2.1 h1.2.2 h2.2.2⟩) ((List.range n).filter fun v => !s.testBit v) (by
      intro e
      have : v0 ∈ (List.range n).filter fun v => !s.testBit v := List.mem_filter.2 ⟨List.mem_range.2 h1, by simp [h2]⟩
      rw [e] at this
      cases this)
  obtain ⟨hm1, hm2⟩ := List.mem_filter.1 hm
  refine ⟨m, List.mem_range.1 hm1, ?_⟩
  unfold rdy
  simp only [Bool.and_eq_true, List.all_eq_true]
  refine ⟨hm2, fun p hp => ?_⟩
  by_cases hc : p.2 = m
  · have h3 := hv p hp
    cases hb : s.testBit p.1 with
    | true => simp
    | false =>
      exfalso
      refine hmin p.1 (List.mem_filter.2 ⟨List.mem_range.2 h3.1, by simp [hb]⟩) ⟨h3.1, by omega, warr_mono _ _ _ _ ?_⟩
      rw [next_bit, List.any_eq_true]
      exact ⟨p, hp, by simp [hc]⟩
  · simp [hc]
theorem wy_pos {n : Nat} {a : NA} (hv : ∀ p ∈ a, p.1 < n ∧ p.2 < n) (hac : Acy n a) : ∀ (k s : Nat), s < pw n → miss n s = k → 0 < wyG n a s
  | 0, s, hs, h => by rw [miss_nil hs h, wy_full]; decide
  | k + 1, s, hs, h => by
    obtain ⟨v, h1, hr⟩ := rdy_ex hv hac (s := s) (by omega)
    have h2 := miss_or n s v h1 (rdy_bit hr)
    have h3 := wy_pos hv hac k (s ||| pw v) (or_lt hs h1) (by omega)
    have hne : s < pw n - 1 := by
      have : s ≠ pw n - 1 := by intro e; rw [e, miss_full n n (Nat.le_refl _)] at h; omega
      omega
    rw [wy_rec hne]
    have h4 := psum_ge (w := wyG n a) h1 hr
    omega
theorem wy_pos0 {n : Nat} {a : NA} (hv : ∀ p ∈ a, p.1 < n ∧ p.2 < n) (hac : Acy n a) : 1 ≤ wyG n a 0 := wy_pos hv hac _ 0 (Nat.pow_pos (by decide)) rfl

/-! ### the number of the order with a number -/
theorem atS_take {n : Nat} {a : NA} {w : Nat → Nat} {k : Nat} : ∀ (j i : Nat), (atS a w n k (i + j)).2.2.take (atS a w n k i).2.2.length = (atS a w n k i).2.2
  | 0, i => by simp
  | j + 1, i => by
    have ih := atS_take (n := n) (a := a) (w := w) (k := k) j i
    have e : (atS a w n k (i + (j + 1))).2.2 = (atS a w n k (i + j)).2.2 ++ [pickV a w n (atS a w n k (i + j)).1 (atS a w n k (i + j)).2.1] := rfl
    have hle : (atS a w n k i).2.2.length ≤ (atS a w n k (i + j)).2.2.length := by
      have := congrArg List.length ih
      rw [List.length_take] at this
      omega
    rw [e, List.take_append_of_le_length hle, ih]
theorem atL_get {n : Nat} {a : NA} {k : Nat} (hk : k < wyG n a 0) {i : Nat} (hi : i < n) : nth (zl (atL n a k)) 0 i = ((pickV a (wyG n a) n (atS a (wyG n a) n k i).1 (atS a (wyG n a) n k i).2.1 : Nat) : Int) := by
  have h1 := (atS_inv hk i (by omega)).2.2.2
  have h2 := (atS_inv hk (i + 1) (by omega)).2.2.2
  have h3 := atS_take (n := n) (a := a) (w := wyG n a) (k := k) (n - (i + 1)) (i + 1)
  rw [h2, show i + 1 + (n - (i + 1)) = n by omega] at h3
  have h4 := (atS_inv hk n (Nat.le_refl _)).2.2.2
  have e : (atS a (wyG n a) n k (i + 1)).2.2 = (atS a (wyG n a) n k i).2.2 ++ [pickV a (wyG n a) n (atS a (wyG n a) n k i).1 (atS a (wyG n a) n k i).2.1] := rfl
  have h5 : (atL n a k)[i]? = some (pickV a (wyG n a) n (atS a (wyG n a) n k i).1 (atS a (wyG n a) n k i).2.1) := by
    unfold atL
    have : ((atS a (wyG n a) n k n).2.2.take (i + 1))[i]? = (atS a (wyG n a) n k n).2.2[i]? := List.getElem?_take_of_lt (by omega)
    rw [← this, h3, e, List.getElem?_append_right (by omega), h1]
    simp
  unfold nth zl
  rw [List.getD_eq_getElem?_getD, List.getElem?_map, h5]
  rfl
theorem at_st {n : Nat} {a : NA} {k : Nat} (hk : k < wyG n a 0) : ∀ i, i ≤ n → stS (zl (atL n a k)) i = (atS a (wyG n a) n k i).1 ∧ kS a (wyG n a) (zl (atL n a k)) i + (atS a (wyG n a) n k i).2.1 = k
  | 0, _ => ⟨rfl, by simp [kS, atS]⟩
  | i + 1, h => by
    obtain ⟨h1, h2⟩ := at_st hk i (by omega)
    have hg := atL_get hk (i := i) (by omega)
    have h3 := atS_inv hk i (by omega)
    have hne : (atS a (wyG n a) n k i).1 < pw n - 1 := by
      have : (atS a (wyG n a) n k i).1 ≠ pw n - 1 := by
        intro e
        have h4 := h3.2.1
        rw [e, miss_full n n (Nat.le_refl _)] at h4
        omega
      omega
    have h5 := h3.2.2.1
    rw [wy_rec hne] at h5
    have h6 := (pickV_ok h5).2.2.2.1
    simp only [stS, kS, hg, Int.toNat_natCast, h1]
    refine ⟨rfl, ?_⟩
    simp only [atS]
    unfold remK
    omega
theorem at_ok {n : Nat} {a : NA} {k : Nat} (hk : k < wyG n a 0) : okB n a (zl (atL n a k)) = true := by
  unfold okB
  simp only [Bool.and_eq_true, decide_eq_true_eq, Bool.not_eq_true', List.any_eq_false]
  refine ⟨by rw [zl_len, atL_len hk], fun i hi => ?_⟩
  have hi := List.mem_range.1 hi
  have hg := atL_get hk hi
  have h3 := atS_inv hk i (by omega)
  have hne : (atS a (wyG n a) n k i).1 < pw n - 1 := by
    have : (atS a (wyG n a) n k i).1 ≠ pw n - 1 := by
      intro e
      have h4 := h3.2.1
      rw [e, miss_full n n (Nat.le_refl _)] at h4
      omega
    omega
  have h5 := h3.2.2.1
  rw [wy_rec hne] at h5
  obtain ⟨_, p1, p2, _⟩ := pickV_ok h5
  rw [hg, (at_st hk i (by omega)).1]
  unfold badV
  rw [Int.toNat_natCast, p2]
  simp
  omega
theorem at_rank {n : Nat} {a : NA} {k : Nat} (hk : k < wyG n a 0) : kS a (wyG n a) (zl (atL n a k)) n = k := by
  obtain ⟨h1, h2⟩ := at_st hk n (Nat.le_refl _)
  obtain ⟨h3, h4, h5, _⟩ := atS_inv hk n (Nat.le_refl _)
  have : (atS a (wyG n a) n k n).1 = pw n - 1 := miss_nil h3 (by omega)
  rw [this, wy_full] at h5
  omega

/-! ### the order with the number of an order -/
theorem pickV_eq {a : NA} {w : Nat → Nat} {n s k v : Nat} (hv : v < n) (hr : rdy a s v = true) (h1 : psum a w s v ≤ k) (h2 : k < psum a w s v + w (s ||| pw v)) : pickV a w n s k = v := by
  have e : psum a w s (v + 1) = psum a w s v + w (s ||| pw v) := by
    show (if rdy a s v = true then psum a w s v + w (s ||| pw v) else psum a w s v) = _
    rw [if_pos hr]
  have hk : k < psum a w s n := by
    have := psum_mono (a := a) (w := w) (s := s) (show v + 1 ≤ n by omega)
    omega
  obtain ⟨_, p2, p3, p4, p5⟩ := pickV_ok hk
  generalize pickV a w n s k = u at *
  have e2 : psum a w s (u + 1) = psum a w s u + w (s ||| pw u) := by
    show (if rdy a s u = true then psum a w s u + w (s ||| pw u) else psum a w s u) = _
    rw [if_pos p3]
  rcases Nat.lt_trichotomy u v with h | h | h
  · have := psum_mono (a := a) (w := w) (s := s) (show u + 1 ≤ v by omega)
    omega
  · exact h
  · have := psum_mono (a := a) (w := w) (s := s) (show v + 1 ≤ u by omega)
    omega
theorem bad_rdy {n : Nat} {a : NA} {s : Nat} {x : Int} (h : badV n a s x = false) : ∃ v : Nat, x = (v : Int) ∧ v < n ∧ rdy a s v = true := by
  unfold badV at h
  simp only [Bool.not_eq_false', Bool.and_eq_true, decide_eq_true_eq] at h
  refine ⟨x.toNat, by omega, by omega, h.2⟩
theorem rest_lt {n : Nat} {a : NA} {l : List Int} (h : ∀ i, i < n → badV n a (stS l i) (nth l 0 i) = false) : ∀ (m i : Nat), i + m = n → miss n (stS l i) = m ∧ stS l i < pw n → kS a (wyG n a) l i ≤ kS a (wyG n a) l n ∧ kS a (wyG n a) l n < kS a (wyG n a) l i + wyG n a (stS l i)
  | 0, i, hi, hm => by
    have : i = n := by omega
    subst this
    rw [miss_nil hm.2 hm.1, wy_full]
    omega
  | m + 1, i, hi, hm => by
    obtain ⟨v, hx, hv, hr⟩ := bad_rdy (h i (by omega))
    have e1 : stS l (i + 1) = stS l i ||| pw v := by simp only [stS, hx, Int.toNat_natCast]
    have e2 : kS a (wyG n a) l (i + 1) = kS a (wyG n a) l i + psum a (wyG n a) (stS l i) v := by simp only [kS, hx, Int.toNat_natCast]
    have hmo := miss_or n _ v hv (rdy_bit hr)
    have ih := rest_lt h m (i + 1) (by omega) ⟨by rw [e1]; omega, by rw [e1]; exact or_lt hm.2 hv⟩
    rw [e1, e2] at ih
    have hne : stS l i < pw n - 1 := by
      have : stS l i ≠ pw n - 1 := by intro e; rw [e, miss_full n n (Nat.le_refl _)] at hm; omega
      have := hm.2
      omega
    rw [wy_rec hne]
    have e3 : psum a (wyG n a) (stS l i) (v + 1) = psum a (wyG n a) (stS l i) v + wyG n a (stS l i ||| pw v) := by
      show (if rdy a (stS l i) v = true then _ else _) = _
      rw [if_pos hr]
    have := psum_mono (a := a) (w := wyG n a) (s := stS l i) (show v + 1 ≤ n by omega)
    omega
theorem ok_miss {n : Nat} {a : NA} {l : List Int} (h : ∀ i, i < n → badV n a (stS l i) (nth l 0 i) = false) : ∀ i, i ≤ n → miss n (stS l i) = n - i ∧ stS l i < pw n
  | 0, _ => ⟨by show miss n 0 = n - 0; rw [miss_zero n]; rfl, Nat.pow_pos (by decide)⟩
  | i + 1, hi => by
    obtain ⟨h1, h2⟩ := ok_miss h i (by omega)
    obtain ⟨v, hx, hv, hr⟩ := bad_rdy (h i (by omega))
    have hmo := miss_or n _ v hv (rdy_bit hr)
    simp only [stS, hx, Int.toNat_natCast]
    exact ⟨by omega, or_lt h2 hv⟩
theorem rank_lt {n : Nat} {a : NA} {l : List Int} (h : okB n a l = true) : kS a (wyG n a) l n < wyG n a 0 := by
  have h1 := (ok_bad h).2
  have := (rest_lt h1 n 0 (by omega) (by have := ok_miss h1 0 (Nat.zero_le _); exact ⟨by omega, this.2⟩)).2
  simpa [kS, stS] using this
theorem rank_st {n : Nat} {a : NA} {l : List Int} (h : okB n a l = true) : ∀ i, i ≤ n → atS a (wyG n a) n (kS a (wyG n a) l n) i = (stS l i, kS a (wyG n a) l n - kS a (wyG n a) l i, (l.take i).map Int.toNat)
  | 0, _ => by simp [atS, stS, kS]
  | i + 1, hi => by
    have ih := rank_st h i (by omega)
    have hl := (ok_bad h).1
    have h1 := (ok_bad h).2
    obtain ⟨v, hx, hv, hr⟩ := bad_rdy (h1 i (by omega))
    have hm := ok_miss h1 (i + 1) hi
    have hR := rest_lt h1 (n - (i + 1)) (i + 1) (by omega) ⟨by omega, hm.2⟩
    have e1 : stS l (i + 1) = stS l i ||| pw v := by simp only [stS, hx, Int.toNat_natCast]
    have e2 : kS a (wyG n a) l (i + 1) = kS a (wyG n a) l i + psum a (wyG n a) (stS l i) v := by simp only [kS, hx, Int.toNat_natCast]
    rw [e1, e2] at hR
    have hp : pickV a (wyG n a) n (stS l i) (kS a (wyG n a) l n - kS a (wyG n a) l i) = v := pickV_eq hv hr (by omega) (by omega)
    simp only [atS, ih, hp, e1, e2]
    refine Prod.ext rfl (Prod.ext ?_ ?_)
    · dsimp only
      unfold remK
      omega
    · have hil : i < l.length := by omega
      show List.map Int.toNat (l.take i) ++ [v] = List.map Int.toNat (l.take (i + 1))
      rw [List.take_succ_eq_append_getElem hil, List.map_append]
      have : l[i] = (v : Int) := by rw [← nth_get 0 hil]; exact hx
      simp [this]
theorem rank_at {n : Nat} {a : NA} {l : List Int} (h : okB n a l = true) : zl (atL n a (kS a (wyG n a) l n)) = l := by
  have h1 := (ok_bad h).2
  have hl := (ok_bad h).1
  unfold atL
  rw [rank_st h n (Nat.le_refl _)]
  show zl ((l.take n).map Int.toNat) = l
  rw [List.take_of_length_le (by omega)]
  unfold zl
  rw [List.map_map]
  conv => rhs; rw [← List.map_id l]
  apply List.map_congr_left
  intro x hx
  obtain ⟨i, hi, rfl⟩ := List.mem_iff_getElem.1 hx
  obtain ⟨v, hx, hv, hr⟩ := bad_rdy (h1 i (by omega))
  rw [nth_get 0 hi] at hx
  simp [hx]
end Go.Mx
