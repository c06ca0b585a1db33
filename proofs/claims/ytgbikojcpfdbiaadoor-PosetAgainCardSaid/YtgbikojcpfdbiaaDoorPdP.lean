import Derived.Test.YtgbikojcpfdbiaaDoorPdO
/-
  Closures and reductions: plain laws.
-/
namespace Go.Mx
set_option linter.unusedVariables false
set_option linter.unusedSimpArgs false
set_option linter.unusedSectionVars false
open Go

/-- The arcs from each vertex to those of which p says so. -/
def rowT (p : Nat → Nat → Bool) (i k : Nat) : List (Int × Int) := ((List.range k).filter (p i)).map fun (j : Nat) => ((i : Int), (j : Int))
def arcP (n : Nat) (p : Nat → Nat → Bool) (k : Nat) : List (Int × Int) := (List.range k).flatMap fun i => rowT p i n
def arcL (n : Nat) (p : Nat → Nat → Bool) : List (Int × Int) := arcP n p n
theorem rowT_succ (p : Nat → Nat → Bool) (i k : Nat) : rowT p i (k + 1) = if p i k = true then rowT p i k ++ [((i : Int), (k : Int))] else rowT p i k := by
  unfold rowT
  rw [List.range_succ, List.filter_append]
  by_cases h : p i k = true
  · rw [if_pos h]; simp [h]
  · rw [if_neg h]; simp [h]
theorem arcP_succ (n : Nat) (p : Nat → Nat → Bool) (k : Nat) : arcP n p (k + 1) = arcP n p k ++ rowT p k n := by
  unfold arcP; rw [List.range_succ, List.flatMap_append]; simp
theorem mem_row {p : Nat → Nat → Bool} {i k : Nat} {x : Int × Int} : x ∈ rowT p i k ↔ ∃ j, j < k ∧ p i j = true ∧ x = ((i : Int), (j : Int)) := by
  unfold rowT
  constructor
  · intro h
    obtain ⟨j, hj, rfl⟩ := List.mem_map.1 h
    obtain ⟨h1, h2⟩ := List.mem_filter.1 hj
    exact ⟨j, List.mem_range.1 h1, h2, rfl⟩
  · rintro ⟨j, h1, h2, rfl⟩
    exact List.mem_map.2 ⟨j, List.mem_filter.2 ⟨List.mem_range.2 h1, h2⟩, rfl⟩
theorem mem_arcP {n : Nat} {p : Nat → Nat → Bool} {k : Nat} {x : Int × Int} : x ∈ arcP n p k ↔ ∃ i j, i < k ∧ j < n ∧ p i j = true ∧ x = ((i : Int), (j : Int)) := by
  unfold arcP
  rw [List.mem_flatMap]
  constructor
  · rintro ⟨i, hi, h⟩
    obtain ⟨j, h1, h2, h3⟩ := mem_row.1 h
    exact ⟨i, j, List.mem_range.1 hi, h1, h2, h3⟩
  · rintro ⟨i, j, h1, h2, h3, h4⟩
    exact ⟨i, List.mem_range.2 h1, mem_row.2 ⟨j, h2, h3, h4⟩⟩
theorem mem_arcL {n : Nat} {p : Nat → Nat → Bool} {x : Int × Int} : x ∈ arcL n p ↔ ∃ i j, i < n ∧ j < n ∧ p i j = true ∧ x = ((i : Int), (j : Int)) := mem_arcP
theorem arcL_ext {n : Nat} {p q : Nat → Nat → Bool} (h : ∀ i j, i < n → j < n → p i j = q i j) : arcL n p = arcL n q := by
  unfold arcL arcP
  have : ∀ i, i ∈ List.range n → rowT p i n = rowT q i n := by
    intro i hi
    unfold rowT
    congr 1
    apply List.filter_congr
    intro j hj
    exact h i j (List.mem_range.1 hi) (List.mem_range.1 hj)
  generalize List.range n = l at this
  induction l with
  | nil => rfl
  | cons i l ih => rw [List.flatMap_cons, List.flatMap_cons, this i (List.mem_cons_self ..), ih fun j hj => this j (List.mem_cons_of_mem _ hj)]
theorem rowT_len (p : Nat → Nat → Bool) (i k : Nat) : (rowT p i k).length ≤ k := by
  unfold rowT
  rw [List.length_map]
  exact Nat.le_trans (List.length_filter_le _ _) (by simp)
theorem arcP_len (n : Nat) (p : Nat → Nat → Bool) : ∀ k, (arcP n p k).length ≤ k * n
  | 0 => by simp [arcP]
  | k + 1 => by
    rw [arcP_succ, List.length_append]
    have h1 := arcP_len n p k
    have h2 := rowT_len p k n
    rw [Nat.succ_mul]
    omega
theorem row_sorted (p : Nat → Nat → Bool) (i : Nat) : ∀ k, (rowT p i k).Pairwise lexB
  | 0 => by simp [rowT]
  | k + 1 => by
    rw [rowT_succ]
    split
    · rw [List.pairwise_append]
      refine ⟨row_sorted p i k, by simp, fun x hx y hy => ?_⟩
      obtain ⟨j, h1, _, rfl⟩ := mem_row.1 hx
      rw [List.mem_singleton.1 hy]
      unfold lexB
      dsimp only
      omega
    · exact row_sorted p i k
theorem arcP_sorted (n : Nat) (p : Nat → Nat → Bool) : ∀ k, (arcP n p k).Pairwise lexB
  | 0 => by simp [arcP]
  | k + 1 => by
    rw [arcP_succ, List.pairwise_append]
    refine ⟨arcP_sorted n p k, row_sorted p k n, fun x hx y hy => ?_⟩
    obtain ⟨i, j, h1, _, _, rfl⟩ := mem_arcP.1 hx
    obtain ⟨j', _, _, rfl⟩ := mem_row.1 hy
    unfold lexB
    dsimp only
    omega
theorem valid_of {n : Nat} (hn : n ≤ 24) {a : List (Int × Int)} (hs : a.Pairwise lexB) (hm : ∀ x ∈ a, 0 ≤ x.1 ∧ x.1 < n ∧ 0 ≤ x.2 ∧ x.2 < n ∧ x.1 ≠ x.2) : validB (n : Int) a = true := by
  unfold validB
  have h1 : decide (0 ≤ (n : Int)) = true := by simp
  have h2 : decide ((n : Int) ≤ 24) = true := by simp; omega
  rw [h1, h2, Bool.true_and, Bool.true_and, Bool.not_eq_true', any_range]
  intro i hi
  obtain ⟨g1, g2, g3, g4, g5⟩ := hm _ (nth_mem (0, 0) hi)
  rw [Bool.not_eq_false']
  unfold okA
  dsimp only
  have e1 : (i == 0 || !(decide ((nth a (0, 0) i).1 < (nth a (0, 0) (i - 1)).1) || ((nth a (0, 0) i).1 == (nth a (0, 0) (i - 1)).1) && decide ((nth a (0, 0) i).2 ≤ (nth a (0, 0) (i - 1)).2))) = true := by
    by_cases h0 : i = 0
    · simp [h0]
    · have := (List.pairwise_iff_getElem.1 hs) (i - 1) i (by omega) hi (by omega)
      rw [← nth_get (0, 0) (by omega), ← nth_get (0, 0) hi] at this
      unfold lexB at this
      generalize nth a (0, 0) i = x at *
      generalize nth a (0, 0) (i - 1) = y at *
      simp only [Bool.or_eq_true, beq_iff_eq, Bool.not_eq_true', Bool.or_eq_false_iff, decide_eq_false_iff_not, Bool.and_eq_false_iff, beq_eq_false_iff_ne]
      right
      omega
  rw [e1]
  simp [g1, g2, g3, g4, g5]
/-- The arcs of p, as a digraph. -/
theorem arcL_valid {n : Nat} (hn : n ≤ 24) {p : Nat → Nat → Bool} (hp : ∀ i, i < n → p i i = false) : validB (n : Int) (arcL n p) = true := by
  refine valid_of hn (arcP_sorted n p n) fun x hx => ?_
  obtain ⟨i, j, h1, h2, h3, rfl⟩ := mem_arcL.1 hx
  have : i ≠ j := by rintro rfl; rw [hp i h1] at h3; cases h3
  dsimp only
  omega
theorem nat_mem {a : List (Int × Int)} {n : Nat} (h : ∀ x ∈ a, 0 ≤ x.1 ∧ 0 ≤ x.2) {i j : Nat} : (i, j) ∈ natA a ↔ ((i : Int), (j : Int)) ∈ a := by
  unfold natA
  rw [List.mem_map]
  constructor
  · rintro ⟨x, hx, e⟩
    obtain ⟨h1, h2⟩ := h x hx
    have e1 : x.1.toNat = i := congrArg Prod.fst e
    have e2 : x.2.toNat = j := congrArg Prod.snd e
    have : x = ((i : Int), (j : Int)) := by ext <;> dsimp only <;> omega
    rwa [← this]
  · intro hx
    exact ⟨_, hx, rfl⟩
theorem arcL_bit {n : Nat} {p : Nat → Nat → Bool} (i j : Nat) : (nextG (natA (arcL n p)) i).testBit j = (decide (i < n) && decide (j < n) && p i j) := by
  rw [next_bit]
  have h := nat_mem (n := n) (a := arcL n p) (fun x hx => by obtain ⟨i, j, _, _, _, rfl⟩ := mem_arcL.1 hx; dsimp only; omega) (i := i) (j := j)
  rw [mem_arcL] at h
  rw [Bool.eq_iff_iff, List.contains_iff_mem, h]
  simp only [Bool.and_eq_true, decide_eq_true_eq]
  constructor
  · rintro ⟨i', j', h1, h2, h3, e⟩
    have e1 : (i : Int) = i' := congrArg Prod.fst e
    have e2 : (j : Int) = j' := congrArg Prod.snd e
    obtain rfl : i = i' := by omega
    obtain rfl : j = j' := by omega
    exact ⟨⟨h1, h2⟩, h3⟩
  · rintro ⟨⟨h1, h2⟩, h3⟩
    exact ⟨i, j, h1, h2, h3, rfl⟩

/-! ### what is reached -/
section
variable {n : Nat} {g : Nat → Nat}
def Rr (g : Nat → Nat) (n : Nat) (i j : Nat) : Bool := (warr g n i).testBit j
theorem Rr_lt (hg : ∀ i j, (g i).testBit j = true → i < n ∧ j < n) {i j : Nat} (h : Rr g n i j = true) : i < n ∧ j < n :=
  warr_ind g (fun i j => i < n ∧ j < n) hg (fun i v j h1 h2 => ⟨h1.1, h2.2⟩) n i j h
theorem Rr_trans (hg : ∀ i j, (g i).testBit j = true → i < n ∧ j < n) {i v j : Nat} (h1 : Rr g n i v = true) (h2 : Rr g n v j = true) : Rr g n i j = true :=
  warr_trans g n v i j (Rr_lt hg h1).2 h1 h2
/-- Closing the closure. -/
theorem Rr_closed (hg : ∀ i j, (g i).testBit j = true → i < n ∧ j < n) {g' : Nat → Nat} (h1 : ∀ i j, (g' i).testBit j = true → Rr g n i j = true) (h2 : ∀ i j, i ≠ j → Rr g n i j = true → (g' i).testBit j = true) {i j : Nat} (hij : i ≠ j) : Rr g' n i j = Rr g n i j := by
  rw [Bool.eq_iff_iff]
  constructor
  · intro h
    exact warr_ind g' (fun i j => Rr g n i j = true) h1 (fun i v j a b => Rr_trans hg a b) n i j h
  · intro h
    exact warr_mono g' n i j (h2 i j hij h)
/-- The arcs that nothing replaces. -/
def redB (g : Nat → Nat) (n : Nat) (i j : Nat) : Bool := Rr g n i j && (List.range n).all fun k => !(Rr g n i k && Rr g n k j)
theorem red_iff {i j : Nat} : redB g n i j = true ↔ Rr g n i j = true ∧ ∀ k, k < n → ¬ (Rr g n i k = true ∧ Rr g n k j = true) := by
  unfold redB
  simp only [Bool.and_eq_true, List.all_eq_true, List.mem_range, Bool.not_eq_true', Bool.and_eq_false_iff, not_and, Bool.not_eq_true]
  constructor
  · rintro ⟨h1, h2⟩
    exact ⟨h1, fun k hk h3 => by rcases h2 k hk with h | h; · rw [h] at h3; cases h3
                                 · exact h⟩
  · rintro ⟨h1, h2⟩
    refine ⟨h1, fun k hk => ?_⟩
    cases h3 : Rr g n i k
    · exact .inl rfl
    · exact .inr (h2 k hk h3)
/-- How many lie between. -/
def btw (g : Nat → Nat) (n i j : Nat) : Nat := ((List.range n).filter fun k => Rr g n i k && Rr g n k j).length
theorem filter_lt {α : Type} {p q : α → Bool} : ∀ (l : List α), (∀ x ∈ l, p x = true → q x = true) → (∃ x ∈ l, p x = false ∧ q x = true) → (l.filter p).length < (l.filter q).length
  | [], _, ⟨x, hx, _⟩ => by cases hx
  | y :: l, h, ⟨x, hx, h1, h2⟩ => by
    have hle : ∀ l : List α, (∀ x ∈ l, p x = true → q x = true) → (l.filter p).length ≤ (l.filter q).length := by
      intro l
      induction l with
      | nil => intro _; exact Nat.le_refl _
      | cons z l ih =>
        intro h
        have := ih fun x hx => h x (List.mem_cons_of_mem _ hx)
        have hz := h z (List.mem_cons_self ..)
        rw [List.filter_cons, List.filter_cons]
        by_cases hp : p z = true
        · rw [if_pos hp, if_pos (hz hp)]; simpa using this
        · rw [if_neg hp]
          split
          · rw [List.length_cons]; omega
          · exact this
    have ht := hle l fun x hx => h x (List.mem_cons_of_mem _ hx)
    rw [List.filter_cons, List.filter_cons]
    rcases List.mem_cons.1 hx with rfl | hx
    · rw [h1, h2]
      simp only [Bool.false_eq_true, if_false, if_true, List.length_cons]
      omega
    · have := filter_lt l (fun x hx => h x (List.mem_cons_of_mem _ hx)) ⟨x, hx, h1, h2⟩
      by_cases hp : p y = true
      · rw [if_pos hp, if_pos (h y (List.mem_cons_self ..) hp)]; simpa using this
      · rw [if_neg hp]
        split
        · rw [List.length_cons]; omega
        · exact this
/-- Without cycles the reduction reaches what was reached. -/
theorem red_reach (hg : ∀ i j, (g i).testBit j = true → i < n ∧ j < n) (hac : ∀ i, i < n → Rr g n i i = false) {g' : Nat → Nat} (h1 : ∀ i j, i < n → j < n → (g' i).testBit j = redB g n i j) (h0 : ∀ i j, (g' i).testBit j = true → i < n ∧ j < n) (i j : Nat) : Rr g' n i j = Rr g n i j := by
  rw [Bool.eq_iff_iff]
  constructor
  · intro h
    refine warr_ind g' (fun i j => Rr g n i j = true) (fun i j h => ?_) (fun i v j a b => Rr_trans hg a b) n i j h
    obtain ⟨a, b⟩ := h0 i j h
    rw [h1 i j a b] at h
    exact (red_iff.1 h).1
  · have key : ∀ m i j, btw g n i j < m → Rr g n i j = true → Rr g' n i j = true := by
      intro m
      induction m with
      | zero => intro i j h; omega
      | succ m ih =>
        intro i j hb h
        obtain ⟨hi, hj⟩ := Rr_lt hg h
        by_cases hr : redB g n i j = true
        · exact warr_mono g' n i j (by rw [h1 i j hi hj]; exact hr)
        · have : ∃ k, k < n ∧ Rr g n i k = true ∧ Rr g n k j = true := by
            by_cases he : ∃ k, k < n ∧ Rr g n i k = true ∧ Rr g n k j = true
            · exact he
            · exact absurd (red_iff.2 ⟨h, fun k hk hh => he ⟨k, hk, hh.1, hh.2⟩⟩) hr
          obtain ⟨k, hk, a, b⟩ := this
          have c1 : btw g n i k < btw g n i j := by
            refine filter_lt _ (fun x _ hx => ?_) ⟨k, List.mem_range.2 hk, ?_, ?_⟩
            · simp only [Bool.and_eq_true] at *
              exact ⟨hx.1, Rr_trans hg hx.2 b⟩
            · rw [hac k hk, Bool.and_false]
            · rw [a, b]; rfl
          have c2 : btw g n k j < btw g n i j := by
            refine filter_lt _ (fun x _ hx => ?_) ⟨k, List.mem_range.2 hk, ?_, ?_⟩
            · simp only [Bool.and_eq_true] at *
              exact ⟨Rr_trans hg a hx.1, hx.2⟩
            · rw [hac k hk, Bool.false_and]
            · rw [a, b]; rfl
          exact warr_trans g' n k i j hk (ih i k (by omega) a) (ih k j (by omega) b)
    exact key (btw g n i j + 1) i j (Nat.lt_succ_self _)
/-- Without one of its arcs it does not. -/
theorem red_less (hg : ∀ i j, (g i).testBit j = true → i < n ∧ j < n) {g' : Nat → Nat} (h1 : ∀ i j, (g' i).testBit j = true → redB g n i j = true) {x y : Nat} (hxy : redB g n x y = true) (hno : (g' x).testBit y = false) : Rr g' n x y = false := by
  cases h : Rr g' n x y with
  | false => rfl
  | true =>
    have := warr_ind g' (fun i j => Rr g n i j = true ∧ ((g' i).testBit j = true ∨ ∃ k, k < n ∧ Rr g n i k = true ∧ Rr g n k j = true)) (fun i j h => ⟨(red_iff.1 (h1 i j h)).1, .inl h⟩)
      (fun i v j a b => ⟨Rr_trans hg a.1 b.1, .inr ⟨v, (Rr_lt hg a.1).2, a.1, b.1⟩⟩) n x y h
    rcases this.2 with h2 | ⟨k, hk, a, b⟩
    · rw [hno] at h2; cases h2
    · exact absurd ⟨a, b⟩ ((red_iff.1 hxy).2 k hk)
end
end Go.Mx
