import Derived.Test.YtnmdjhmhdpiecaaSqP
/-
  Sequences, plainly: the list of all orders; where a vertex stands; orders are listed in lexicographic order.
-/
namespace Go.Mx
set_option linter.unusedVariables false
set_option linter.unusedSimpArgs false
set_option linter.unusedSectionVars false
open Go

theorem nodup_le {α : Type} [BEq α] [LawfulBEq α] : ∀ (l m : List α), l.Nodup → (∀ x ∈ l, x ∈ m) → l.length ≤ m.length
  | [], _, _, _ => Nat.zero_le _
  | x :: l, m, hn, hs => by
    obtain ⟨hx, hn⟩ := List.nodup_cons.1 hn
    have := nodup_le l (m.erase x) hn (fun y hy => (List.mem_erase_of_ne (fun e : y = x => hx (by rw [← e]; exact hy))).2 (hs y (List.mem_cons_of_mem _ hy)))
    have hm := hs x (List.mem_cons_self ..)
    rw [List.length_erase_of_mem hm] at this
    have := List.length_pos_of_mem hm
    rw [List.length_cons]
    omega

/-! ### the list of all orders -/
def seqL (n : Nat) (a : NA) : List (List Int) := (List.range (wyG n a 0)).map fun k => zl (atL n a k)
theorem seqL_len (n : Nat) (a : NA) : (seqL n a).length = wyG n a 0 := by simp [seqL]
theorem seqL_mem {n : Nat} {a : NA} {l : List Int} : l ∈ seqL n a ↔ okB n a l = true := by
  unfold seqL
  rw [List.mem_map]
  constructor
  · rintro ⟨k, hk, rfl⟩; exact at_ok (List.mem_range.1 hk)
  · intro h; exact ⟨_, List.mem_range.2 (rank_lt h), rank_at h⟩
theorem seqL_nodup (n : Nat) (a : NA) : (seqL n a).Nodup := by
  unfold seqL
  rw [List.nodup_iff_pairwise_ne, List.pairwise_map]
  refine List.Pairwise.imp_of_mem ?_ (List.nodup_iff_pairwise_ne.1 List.nodup_range)
  intro x y hx hy hne he
  have h1 := at_rank (List.mem_range.1 hx)
  have h2 := at_rank (List.mem_range.1 hy)
  rw [he] at h1
  exact hne (h1.symm.trans h2)

/-! ### orders -/
structure OrdL (n : Nat) (l : List Int) : Prop where
  len : l.length = n
  rng : ∀ i, i < n → 0 ≤ nth l 0 i ∧ nth l 0 i < n
  inj : ∀ i j, i < n → j < i → nth l 0 i ≠ nth l 0 j
theorem ord_iff {n : Nat} {l : List Int} : ordB n l = true ↔ OrdL n l := by
  constructor
  · intro h
    obtain ⟨h1, h2⟩ := ord_in h
    refine ⟨h1, h2, fun i j hi hj he => ?_⟩
    unfold ordB at h
    simp only [Bool.and_eq_true, decide_eq_true_eq, Bool.not_eq_true', List.any_eq_false] at h
    have := h.2 i (List.mem_range.2 (by omega))
    simp only [Bool.or_eq_true, not_or, List.any_eq_true, not_exists, not_and] at this
    exact this.2 j (List.mem_range.2 hj) (by simpa using he)
  · intro h
    unfold ordB
    simp only [Bool.and_eq_true, decide_eq_true_eq, Bool.not_eq_true', List.any_eq_false]
    refine ⟨by rw [h.len], fun i hi => ?_⟩
    have hi := List.mem_range.1 hi
    rw [h.len] at hi
    simp only [Bool.or_eq_true, not_or, Bool.not_eq_true', decide_eq_false_iff_not, List.any_eq_true, not_exists, not_and]
    refine ⟨fun hh => (by have := h.rng i hi; exact hh this.1 this.2), fun j hj he => h.inj i j hi (List.mem_range.1 hj) (by simpa using he)⟩
theorem OrdL.ne {n : Nat} {l : List Int} (h : OrdL n l) {i j : Nat} (hi : i < n) (hj : j < n) (he : nth l 0 i = nth l 0 j) : i = j := by
  rcases Nat.lt_trichotomy i j with h1 | h1 | h1
  · exact absurd he.symm (h.inj j i hj h1)
  · exact h1
  · exact absurd he (h.inj i j hi h1)
theorem OrdL.all {n : Nat} {l : List Int} (h : OrdL n l) {v : Nat} (hv : v < n) : ∃ j, j < n ∧ nth l 0 j = (v : Int) := by
  apply Classical.byContradiction
  intro hno
  have := nodup_le ((v : Int) :: l) ((List.range n).map fun (i : Nat) => (i : Int)) ?_ ?_
  · rw [List.length_cons, List.length_map, List.length_range, h.len] at this
    omega
  · rw [List.nodup_cons]
    constructor
    · intro hm
      obtain ⟨j, hj, e⟩ := List.mem_iff_getElem.1 hm
      exact hno ⟨j, by rw [← h.len]; exact hj, by rw [nth_get 0 hj]; exact e⟩
    · rw [List.nodup_iff_pairwise_ne, List.pairwise_iff_getElem]
      intro i j hi hj hij e
      have := h.inj j i (by rw [← h.len]; exact hj) hij
      rw [nth_get 0 hi, nth_get 0 hj] at this
      exact this e.symm
  · intro x hx
    rw [List.mem_map]
    rcases List.mem_cons.1 hx with rfl | hx
    · exact ⟨v, List.mem_range.2 hv, rfl⟩
    · obtain ⟨j, hj, rfl⟩ := List.mem_iff_getElem.1 hx
      have := h.rng j (by rw [← h.len]; exact hj)
      rw [nth_get 0 hj] at this
      exact ⟨(l[j]).toNat, List.mem_range.2 (by omega), by omega⟩

/-! ### where a vertex stands -/
def plcF (l : List Int) (g : Nat → Nat) : Nat → Nat → Nat
  | 0 => g
  | i + 1 => updF (plcF l g i) (nth l 0 i).toNat i
theorem plcF_at {n : Nat} {l : List Int} (h : OrdL n l) (g : Nat → Nat) : ∀ i, i ≤ n → ∀ j, j < i → plcF l g i (nth l 0 j).toNat = j
  | i + 1, hi, j, hj => by
    simp only [plcF, updF]
    by_cases e : j = i
    · subst e; rw [if_pos rfl]
    · have : (nth l 0 j).toNat ≠ (nth l 0 i).toNat := by
        have h1 := h.inj i j (by omega) (by omega)
        have h2 := h.rng i (by omega)
        have h3 := h.rng j (by omega)
        omega
      rw [if_neg this]
      exact plcF_at h g i (by omega) j (by omega)
def posN (l : List Int) (v : Nat) : Nat := plcF l (fun _ => 0) l.length v
theorem pos_at {n : Nat} {l : List Int} (h : OrdL n l) {j : Nat} (hj : j < n) : posN l (nth l 0 j).toNat = j := by
  unfold posN
  rw [h.len]
  exact plcF_at h _ n (Nat.le_refl _) j hj
theorem plcF_pos {n : Nat} {l : List Int} (h : OrdL n l) (g : Nat → Nat) {v : Nat} (hv : v < n) : plcF l g n v = posN l v := by
  obtain ⟨j, hj, e⟩ := h.all hv
  have h1 := plcF_at h g n (Nat.le_refl _) j hj
  have h2 := pos_at h hj
  rw [e, Int.toNat_natCast] at h1 h2
  rw [h1, h2]
theorem pos_lt {n : Nat} {l : List Int} (h : OrdL n l) {v : Nat} (hv : v < n) : posN l v < n ∧ nth l 0 (posN l v) = (v : Int) := by
  obtain ⟨j, hj, e⟩ := h.all hv
  have h2 := pos_at h hj
  rw [e, Int.toNat_natCast] at h2
  rw [h2]
  exact ⟨hj, e⟩
theorem pos_ne {n : Nat} {l : List Int} (h : OrdL n l) {v u : Nat} (hv : v < n) (hu : u < n) (hne : v ≠ u) : posN l v ≠ posN l u := by
  intro e
  have h1 := (pos_lt h hv).2
  have h2 := (pos_lt h hu).2
  rw [e, h2] at h1
  omega
theorem stS_pos {n : Nat} {l : List Int} (h : OrdL n l) {v : Nat} (hv : v < n) : ∀ i, i ≤ n → (stS l i).testBit v = decide (posN l v < i)
  | 0, _ => by simp [stS]
  | i + 1, hi => by
    simp only [stS]
    rw [Nat.testBit_or, pw_bit, stS_pos h hv i (by omega)]
    have h1 := pos_lt h hv
    have h2 := pos_at h (j := i) (by omega)
    have h3 := h.rng i (by omega)
    by_cases e : (nth l 0 i).toNat = v
    · rw [e] at h2
      simp [e, h2]
    · have : posN l v ≠ i := by
        intro e2
        rw [e2] at h1
        exact e (by rw [h1.2]; rfl)
      rw [Bool.eq_iff_iff]
      simp [e]
      omega
def befB (a : NA) (l : List Int) : Bool := a.all fun p => decide (posN l p.1 < posN l p.2)
theorem fit_bef {n : Nat} {a : NA} {l : List Int} (ha : ∀ p ∈ a, p.1 < n ∧ p.2 < n) (h : OrdL n l) : fitB n a l = befB a l := by
  rw [Bool.eq_iff_iff]
  unfold fitB befB
  simp only [Bool.not_eq_true', List.any_eq_false, List.all_eq_true, decide_eq_true_eq]
  constructor
  · intro hf p hp
    obtain ⟨h1, h2⟩ := ha p hp
    obtain ⟨h3, h4⟩ := pos_lt h h2
    have := hf (posN l p.2) (List.mem_range.2 h3)
    rw [h4, Int.toNat_natCast] at this
    have : rdy a (stS l (posN l p.2)) p.2 = true := by
      cases hh : rdy a (stS l (posN l p.2)) p.2 with
      | true => rfl
      | false => rw [hh] at this; exact absurd rfl this
    unfold rdy at this
    simp only [Bool.and_eq_true, List.all_eq_true] at this
    have := this.2 p hp
    rw [stS_pos h h1 _ (by omega)] at this
    simpa using this
  · intro hb i hi
    have hi := List.mem_range.1 hi
    have h3 := h.rng i hi
    have h2 := pos_at h hi
    obtain ⟨v, hv⟩ : ∃ v : Nat, nth l 0 i = (v : Int) := ⟨(nth l 0 i).toNat, by omega⟩
    rw [hv, Int.toNat_natCast] at h2 ⊢
    have hvn : v < n := by omega
    have : rdy a (stS l i) v = true := by
      unfold rdy
      rw [stS_pos h hvn i (by omega), h2]
      simp only [Nat.lt_irrefl, decide_false, Bool.not_false, Bool.true_and, List.all_eq_true]
      intro p hp
      obtain ⟨h5, h6⟩ := ha p hp
      rw [stS_pos h h5 i (by omega)]
      have := hb p hp
      by_cases e : p.2 = v
      · rw [e, h2] at this
        simp [this]
      · simp [e]
    rw [this]
    simp
theorem ok_bef {n : Nat} {a : NA} (ha : ∀ p ∈ a, p.1 < n ∧ p.2 < n) (l : List Int) : okB n a l = (ordB n l && befB a l) := by
  rw [ok_eq]
  cases h : ordB n l with
  | false => rfl
  | true => rw [fit_bef ha (ord_iff.1 h)]

/-! ### lexicographic -/
theorem stS_congr {l m : List Int} : ∀ {i : Nat}, (∀ j, j < i → nth l 0 j = nth m 0 j) → stS l i = stS m i
  | 0, _ => rfl
  | i + 1, h => by
    simp only [stS]
    rw [stS_congr fun j hj => h j (by omega), h i (by omega)]
theorem kS_congr {a : NA} {w : Nat → Nat} {l m : List Int} : ∀ {i : Nat}, (∀ j, j < i → nth l 0 j = nth m 0 j) → kS a w l i = kS a w m i
  | 0, _ => rfl
  | i + 1, h => by
    simp only [kS]
    rw [kS_congr fun j hj => h j (by omega), h i (by omega), stS_congr fun j hj => h j (by omega)]
theorem first_diff {l m : List Int} {n : Nat} (hl : l.length = n) (hm : m.length = n) (hne : l ≠ m) : ∃ j, j < n ∧ (∀ i, i < j → nth l 0 i = nth m 0 i) ∧ nth l 0 j ≠ nth m 0 j := by
  have : ¬ ∀ i, i < n → nth l 0 i = nth m 0 i := fun h => hne (ext_nth 0 (by rw [hl, hm]) fun i hi => h i (by omega))
  have key : ∀ k, k ≤ n → (∀ i, i < k → nth l 0 i = nth m 0 i) ∨ ∃ j, j < n ∧ (∀ i, i < j → nth l 0 i = nth m 0 i) ∧ nth l 0 j ≠ nth m 0 j := by
    intro k
    induction k with
    | zero => intro _; exact .inl fun i hi => by omega
    | succ k ih =>
      intro hk
      rcases ih (by omega) with h | h
      · by_cases e : nth l 0 k = nth m 0 k
        · refine .inl fun i hi => ?_
          by_cases hik : i = k
          · subst hik; exact e
          · exact h i (by omega)
        · exact .inr ⟨k, by omega, h, e⟩
      · exact .inr h
  rcases key n (Nat.le_refl _) with h | h
  · exact absurd h this
  · exact h
theorem st_ne {n : Nat} {a : NA} {k : Nat} (hk : k < wyG n a 0) {i : Nat} (hi : i < n) : (atS a (wyG n a) n k i).2.1 < psum a (wyG n a) (atS a (wyG n a) n k i).1 n := by
  have h3 := atS_inv hk i (by omega)
  have hne : (atS a (wyG n a) n k i).1 < pw n - 1 := by
    have : (atS a (wyG n a) n k i).1 ≠ pw n - 1 := by
      intro e
      have h4 := h3.2.1
      rw [e, miss_full n n (Nat.le_refl _)] at h4
      omega
    omega
  have h5 := h3.2.2.1
  rwa [wy_rec hne] at h5
theorem pickV_mono {a : NA} {w : Nat → Nat} {n s k k' : Nat} (h : k ≤ k') (hk' : k' < psum a w s n) : pickV a w n s k ≤ pickV a w n s k' := by
  obtain ⟨_, p2, p3, p4, p5⟩ := pickV_ok (show k < psum a w s n by omega)
  obtain ⟨_, q2, q3, q4, q5⟩ := pickV_ok hk'
  generalize pickV a w n s k = u at *
  generalize pickV a w n s k' = u' at *
  apply Classical.byContradiction
  intro hlt
  have e2 : psum a w s (u' + 1) = psum a w s u' + w (s ||| pw u') := by
    show (if rdy a s u' = true then psum a w s u' + w (s ||| pw u') else psum a w s u') = _
    rw [if_pos q3]
  have := psum_mono (a := a) (w := w) (s := s) (show u' + 1 ≤ u by omega)
  omega
theorem at_lex {n : Nat} {a : NA} {k k' : Nat} (hk : k < k') (hk' : k' < wyG n a 0) : ∃ j, j < n ∧ (∀ i, i < j → nth (zl (atL n a k)) 0 i = nth (zl (atL n a k')) 0 i) ∧ nth (zl (atL n a k)) 0 j < nth (zl (atL n a k')) 0 j := by
  have hk0 : k < wyG n a 0 := by omega
  have hne : zl (atL n a k) ≠ zl (atL n a k') := by
    intro e
    have h1 := at_rank hk0
    have h2 := at_rank hk'
    rw [e, h2] at h1
    omega
  obtain ⟨j, hj, h1, h2⟩ := first_diff (n := n) (by rw [zl_len, atL_len hk0]) (by rw [zl_len, atL_len hk']) hne
  refine ⟨j, hj, h1, ?_⟩
  obtain ⟨s1, s2⟩ := at_st hk0 j (by omega)
  obtain ⟨s3, s4⟩ := at_st hk' j (by omega)
  have g1 := atL_get hk0 hj
  have g2 := atL_get hk' hj
  have hst := st_ne hk' hj
  rw [stS_congr h1, s3] at s1
  rw [kS_congr h1] at s2
  rw [g1, g2] at h2 ⊢
  rw [← s1] at h2 ⊢
  have := pickV_mono (a := a) (w := wyG n a) (n := n) (s := (atS a (wyG n a) n k' j).1) (k := (atS a (wyG n a) n k j).2.1) (k' := (atS a (wyG n a) n k' j).2.1) (by omega) hst
  omega

/-! ### without an order there is a cycle -/
theorem acy_ok {n : Nat} {a : NA} {l : List Int} (ha : ∀ p ∈ a, p.1 < n ∧ p.2 < n) (h : okB n a l = true) : Acy n a := by
  intro i hi
  rw [ok_bef ha, Bool.and_eq_true] at h
  have hb := h.2
  unfold befB at hb
  simp only [List.all_eq_true, decide_eq_true_eq] at hb
  cases hc : (warr (nextG a) n i).testBit i with
  | false => rfl
  | true =>
    have := warr_ind (nextG a) (fun x y => posN l x < posN l y) (fun x y hxy => by
      rw [next_bit, List.any_eq_true] at hxy
      obtain ⟨p, hp, he⟩ := hxy
      simp only [Bool.and_eq_true, beq_iff_eq] at he
      have := hb p hp
      rw [he.1, he.2] at this
      exact this) (fun x y z h1 h2 => Nat.lt_trans h1 h2) n i i hc
    exact absurd this (Nat.lt_irrefl _)
theorem wy_cyc {n : Nat} {a : NA} (ha : ∀ p ∈ a, p.1 < n ∧ p.2 < n) (h : ¬ Acy n a) : wyG n a 0 = 0 := by
  apply Classical.byContradiction
  intro hne
  exact h (acy_ok ha (at_ok (show 0 < wyG n a 0 by omega)))
/-- What Count returns of a digraph with few vertices. -/
theorem cnt_valid {n : Nat} {a : List (Int × Int)} (hn : n ≤ 10) (hv : validB n a = true) : ∃ e : Int, (e = 0 ∨ e = 11 ∧ wyG n (natA a) 0 = 0) ∧ ctZ n a = .nd .tu [nV (wyG n (natA a) 0 : Nat), nV e] := by
  unfold ctZ chkI
  rw [Int.toNat_natCast, hv, if_neg (by simp), if_neg (by omega)]
  cases hc : acyB n a with
  | true => exact ⟨0, .inl rfl, rfl⟩
  | false =>
    have hz : wyG n (natA a) 0 = 0 := by
      obtain ⟨m, he, _, _, hp⟩ := valid_nat hv
      have : n = m := by omega
      subst this
      apply wy_cyc fun p h => ⟨(hp p h).1, (hp p h).2.1⟩
      intro hac
      unfold acyB rea at hc
      rw [hv, Bool.true_and, Int.toNat_natCast] at hc
      simp only [Bool.not_eq_false', List.any_eq_true] at hc
      obtain ⟨i, hi, h⟩ := hc
      rw [hac i (List.mem_range.1 hi)] at h
      cases h
    refine ⟨11, .inr ⟨rfl, hz⟩, ?_⟩
    rw [hz]
    rfl

/-! ### other arcs, other orders -/
theorem len_eq {l m : List (List Int)} (h1 : l.Nodup) (h2 : m.Nodup) (h : ∀ x, x ∈ l ↔ x ∈ m) : l.length = m.length :=
  Nat.le_antisymm (nodup_le _ _ h1 fun x hx => (h x).1 hx) (nodup_le _ _ h2 fun x hx => (h x).2 hx)
/-- With one more arc. -/
theorem ok_more {n : Nat} {a b : NA} {x : Nat × Nat} (ha : ∀ p ∈ a, p.1 < n ∧ p.2 < n) (hx : x.1 < n ∧ x.2 < n) (hb : ∀ p, p ∈ b ↔ p ∈ a ∨ p = x) (l : List Int) : okB n b l = (okB n a l && decide (posN l x.1 < posN l x.2)) := by
  have hb' : ∀ p ∈ b, p.1 < n ∧ p.2 < n := by
    intro p hp
    rcases (hb p).1 hp with h | rfl
    · exact ha p h
    · exact hx
  rw [ok_bef ha, ok_bef hb', Bool.and_assoc]
  congr 1
  rw [Bool.eq_iff_iff]
  unfold befB
  simp only [List.all_eq_true, decide_eq_true_eq, Bool.and_eq_true]
  constructor
  · intro h
    exact ⟨fun p hp => h p ((hb p).2 (.inl hp)), h x ((hb x).2 (.inr rfl))⟩
  · rintro ⟨h1, h2⟩ p hp
    rcases (hb p).1 hp with h | rfl
    · exact h1 p h
    · exact h2
theorem count_more {n : Nat} {a b c : NA} {i j : Nat} (ha : ∀ p ∈ a, p.1 < n ∧ p.2 < n) (hi : i < n) (hj : j < n) (hij : i ≠ j) (hb : ∀ p, p ∈ b ↔ p ∈ a ∨ p = (i, j)) (hc : ∀ p, p ∈ c ↔ p ∈ a ∨ p = (j, i)) : wyG n b 0 + wyG n c 0 = wyG n a 0 := by
  rw [← seqL_len n a, ← seqL_len n b, ← seqL_len n c]
  have h1 : (seqL n b).length = ((seqL n a).filter fun l => decide (posN l i < posN l j)).length := by
    refine len_eq (seqL_nodup _ _) ((seqL_nodup _ _).filter _) fun l => ?_
    rw [seqL_mem, List.mem_filter, seqL_mem, ok_more ha ⟨hi, hj⟩ hb, Bool.and_eq_true]
  have h2 : (seqL n c).length = ((seqL n a).filter fun l => !decide (posN l i < posN l j)).length := by
    refine len_eq (seqL_nodup _ _) ((seqL_nodup _ _).filter _) fun l => ?_
    rw [seqL_mem, List.mem_filter, seqL_mem, ok_more ha ⟨hj, hi⟩ hc, Bool.and_eq_true]
    refine and_congr_right fun h => ?_
    rw [ok_bef ha, Bool.and_eq_true] at h
    have := pos_ne (ord_iff.1 h.1) hi hj hij
    simp
    omega
  rw [h1, h2]
  generalize seqL n a = L
  induction L with
  | nil => rfl
  | cons x L ih =>
    by_cases h : posN x i < posN x j
    · simp [h] at ih ⊢; omega
    · simp [h] at ih ⊢; omega

/-! ### turned -/
theorem nth_rev {l : List Int} {n i : Nat} (hl : l.length = n) (hi : i < n) : nth l.reverse 0 i = nth l 0 (n - 1 - i) := by
  subst hl
  rw [nth_get 0 (by simpa using hi), nth_get 0 (by omega)]
  simp
theorem ord_rev {n : Nat} {l : List Int} (h : OrdL n l) : OrdL n l.reverse := by
  refine ⟨by rw [List.length_reverse, h.len], fun i hi => ?_, fun i j hi hj => ?_⟩
  · rw [nth_rev h.len hi]; exact h.rng _ (by omega)
  · rw [nth_rev h.len hi, nth_rev h.len (by omega)]
    exact (h.inj (n - 1 - j) (n - 1 - i) (by omega) (by omega)).symm
theorem ordB_rev (n : Nat) (l : List Int) : ordB n l.reverse = ordB n l := by
  rw [Bool.eq_iff_iff, ord_iff, ord_iff]
  exact ⟨fun h => by have := ord_rev h; rwa [List.reverse_reverse] at this, ord_rev⟩
theorem pos_rev {n : Nat} {l : List Int} (h : OrdL n l) {v : Nat} (hv : v < n) : posN l.reverse v = n - 1 - posN l v := by
  obtain ⟨h1, h2⟩ := pos_lt h hv
  have h3 := pos_at (ord_rev h) (j := n - 1 - posN l v) (by omega)
  rw [nth_rev h.len (by omega), show n - 1 - (n - 1 - posN l v) = posN l v by omega, h2, Int.toNat_natCast] at h3
  exact h3
theorem ok_rev {n : Nat} {a b : NA} (ha : ∀ p ∈ a, p.1 < n ∧ p.2 < n) (hb : ∀ p, p ∈ b ↔ (p.2, p.1) ∈ a) (l : List Int) : okB n b l.reverse = okB n a l := by
  have hb' : ∀ p ∈ b, p.1 < n ∧ p.2 < n := by
    intro p hp
    have := ha _ ((hb p).1 hp)
    exact ⟨this.2, this.1⟩
  rw [ok_bef ha, ok_bef hb', ordB_rev]
  cases h : ordB n l with
  | false => rfl
  | true =>
    have ho := ord_iff.1 h
    rw [Bool.true_and, Bool.true_and, Bool.eq_iff_iff]
    unfold befB
    simp only [List.all_eq_true, decide_eq_true_eq]
    constructor
    · intro hh p hp
      obtain ⟨h1, h2⟩ := ha p hp
      have := hh (p.2, p.1) ((hb _).2 hp)
      rw [pos_rev ho h1, pos_rev ho h2] at this
      omega
    · intro hh p hp
      have hq := (hb p).1 hp
      obtain ⟨h1, h2⟩ := ha _ hq
      have := hh _ hq
      have h3 := (pos_lt ho h1).1
      have h4 := (pos_lt ho h2).1
      rw [pos_rev ho h1, pos_rev ho h2]
      dsimp only at this h3 h4 ⊢
      omega
theorem count_rev {n : Nat} {a b : NA} (ha : ∀ p ∈ a, p.1 < n ∧ p.2 < n) (hb : ∀ p, p ∈ b ↔ (p.2, p.1) ∈ a) : wyG n b 0 = wyG n a 0 := by
  rw [← seqL_len n a, ← seqL_len n b]
  have : (seqL n a).length = ((seqL n a).map List.reverse).length := by simp
  rw [this]
  refine len_eq (seqL_nodup _ _) ?_ fun l => ?_
  · rw [List.nodup_iff_pairwise_ne, List.pairwise_map]
    exact (List.nodup_iff_pairwise_ne.1 (seqL_nodup n a)).imp fun hne e => hne (List.reverse_inj.1 e)
  · rw [seqL_mem, List.mem_map]
    constructor
    · intro h
      refine ⟨l.reverse, ?_, List.reverse_reverse l⟩
      rw [seqL_mem, ← ok_rev ha hb, List.reverse_reverse]
      exact h
    · rintro ⟨m, hm, rfl⟩
      rw [ok_rev ha hb]
      exact seqL_mem.1 hm
end Go.Mx
