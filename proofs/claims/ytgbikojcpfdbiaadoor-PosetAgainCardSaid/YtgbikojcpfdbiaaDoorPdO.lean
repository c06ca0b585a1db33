import Derived.Test.YtgbikojcpfdbiaaDoorMxYb
/-
  Posets: arcs, sets of vertices, what is reached (plain; from the texts of chapter 6).
-/
namespace Go.Mx
set_option linter.unusedVariables false
set_option linter.unusedSimpArgs false
set_option linter.unusedSectionVars false
open Go

/-- Arcs. -/
def eA : En (Int × Int) where
  es := 2
  enc p := [.v (.int .i64 p.1), .v (.int .i64 p.2)]
  d := (0, 0)
  pos := by decide
  len _ := rfl
  flat _ := rfl
abbrev sa (b : Bool) (l : List (Int × Int)) : D := gsl eA b l

section
variable (l : List (Int × Int)) (i : Nat)
@[simp] theorem A_elP (r : Nat) (p : List Nat) (b : Bool) : elP r p 2 i (gsl eA b l) = if i < l.length then some (.ad r p (i * 2)) else none := elP_ge eA r p i b l
@[simp] theorem A_elR (b : Bool) : elR 2 i (gsl eA b l) = if i < l.length then some (.rad (gk eA l) (i * 2)) else none := elR_ge eA i b l
@[simp high] theorem A_cell0 : (gk eA l)[i * 2]? = if i < l.length then some (.v (.int .i64 (nth l (0, 0) i).1)) else none := gk_cell eA l i 0 (by decide)
@[simp high] theorem A_cell1 : (gk eA l)[i * 2 + 1]? = if i < l.length then some (.v (.int .i64 (nth l (0, 0) i).2)) else none := gk_cell eA l i 1 (by decide)
@[simp] theorem A_aggR : aggR (gk eA l) (i * 2) 2 = if i < l.length then some (.ro (.nd .ag [.v (.int .i64 (nth l (0, 0) i).1), .v (.int .i64 (nth l (0, 0) i).2)])) else none := aggR_ge eA i l
@[simp] theorem A_aggV (r : Nat) (p : List Nat) : aggV r p (gk eA l) (i * 2) 2 = if i < l.length then some (.ro (.nd .ag [.v (.int .i64 (nth l (0, 0) i).1), .v (.int .i64 (nth l (0, 0) i).2)])) else none := agg_ge eA r p i l rfl
@[simp] theorem A_apD1 (b : Bool) (x y : Int) : apD 2 1 [.v (.int .i64 x), .v (.int .i64 y)] (gsl eA b l) = if l.length + 1 ≤ most then some (gsl eA false (l ++ [(x, y)])) else none := by
  show apD eA.es [(x, y)].length (gk eA [(x, y)]) (gsl eA b l) = _
  rw [apD_ge]; simp
end
theorem sc_A (l : List (Int × Int)) : (gk eA l).all isSc = true := by
  induction l with
  | nil => rfl
  | cons a l ih => exact ih
@[simp] theorem A_apS (st : St) (v : V) (b : Bool) (l : List (Int × Int)) : apS st 2 v (gsl eA b l) = some (l.length, gk eA l, st) := apS_ge eA st v b l (sc_A l)
@[simp] theorem A_apD (b : Bool) (l m : List (Int × Int)) : apD 2 m.length (gk eA m) (gsl eA b l) = if l.length + m.length ≤ most then some (gsl eA (b && m.length == 0) (l ++ m)) else none := apD_ge eA b l m

@[simp] theorem A_fold (b : Bool) (l : List (Int × Int)) : T.nd (K.sl b 2 l.length) (gk eA l) = gsl eA b l := rfl

def okA (n : Int) (a : List (Int × Int)) (i : Nat) : Bool :=
  let p := nth a (0, 0) i
  let q := nth a (0, 0) (i - 1)
  decide (0 ≤ p.1) && decide (p.1 < n) && decide (0 ≤ p.2) && decide (p.2 < n) && !(p.1 == p.2) && (i == 0 || !(decide (p.1 < q.1) || (p.1 == q.1) && decide (p.2 ≤ q.2)))

/-- Is it a digraph? -/
def validB (n : Int) (a : List (Int × Int)) : Bool := decide (0 ≤ n) && decide (n ≤ 24) && !(List.range a.length).any (fun i => !okA n a i)

theorem valid_all {n : Int} {a : List (Int × Int)} (h : validB n a = true) {i : Nat} (hi : i < a.length) : okA n a i = true := by
  simp only [validB, Bool.and_eq_true, Bool.not_eq_true'] at h
  have := (any_range _ _).1 h.2 i hi
  simpa using this

/-- There are at most as many arcs as pairs. -/
theorem valid_len {n : Int} {a : List (Int × Int)} (h : validB n a = true) : (a.length : Int) ≤ n * n := by
  have key : ∀ i : Nat, i < a.length → (i : Int) ≤ (nth a (0, 0) i).1 * n + (nth a (0, 0) i).2 := by
    intro i
    induction i with
    | zero =>
      intro hi
      have := valid_all h hi
      simp only [okA, Bool.and_eq_true, decide_eq_true_eq, Bool.not_eq_true'] at this
      obtain ⟨⟨⟨⟨⟨h1, h2⟩, h3⟩, h4⟩, _⟩, _⟩ := this
      have : 0 ≤ (nth a (0, 0) 0).1 * n := Int.mul_nonneg h1 (by omega)
      simp; omega
    | succ i ih =>
      intro hi
      have h0 := ih (by omega)
      have := valid_all h hi
      have hb := valid_all h (i := i) (by omega)
      simp only [okA, Bool.and_eq_true, decide_eq_true_eq, Bool.not_eq_true', Nat.add_sub_cancel] at this hb
      obtain ⟨⟨⟨⟨⟨h1, h2⟩, h3⟩, h4⟩, _⟩, h5⟩ := this
      obtain ⟨⟨⟨⟨⟨g1, g2⟩, g3⟩, g4⟩, _⟩, _⟩ := hb
      generalize nth a (0, 0) (i + 1) = p at *
      generalize nth a (0, 0) i = q at *
      have h5' : ¬ p.1 < q.1 ∧ (p.1 = q.1 → q.2 < p.2) := by
        simp at h5
        omega
      rcases Int.lt_trichotomy q.1 p.1 with h6 | h6 | h6
      · have : (q.1 + 1) * n ≤ p.1 * n := Int.mul_le_mul_of_nonneg_right (by omega) (by omega)
        rw [Int.add_mul] at this
        push_cast
        omega
      · have := h5'.2 h6.symm
        rw [h6] at h0
        push_cast
        omega
      · omega
  rcases Nat.eq_zero_or_pos a.length with h0 | h0
  · have : 0 ≤ n := by
      simp only [validB, Bool.and_eq_true, decide_eq_true_eq] at h
      exact h.1.1
    rw [h0]; exact Int.mul_nonneg this this
  · have h1 := key (a.length - 1) (by omega)
    have := valid_all h (i := a.length - 1) (by omega)
    simp only [okA, Bool.and_eq_true, decide_eq_true_eq, Bool.not_eq_true'] at this
    obtain ⟨⟨⟨⟨⟨h2, h3⟩, h4⟩, h5⟩, _⟩, _⟩ := this
    generalize nth a (0, 0) (a.length - 1) = p at *
    have : (p.1 + 1) * n ≤ n * n := Int.mul_le_mul_of_nonneg_right (by omega) (by omega)
    rw [Int.add_mul] at this
    omega

abbrev NA := List (Nat × Nat)
/-- Arcs of numbers. -/
def arcZ (p : Nat × Nat) : Int × Int := ((p.1 : Int), (p.2 : Int))
def arcsZ (a : NA) : List (Int × Int) := a.map arcZ
@[simp] theorem arcsZ_len (a : NA) : (arcsZ a).length = a.length := by simp [arcsZ]
@[simp] theorem arcsZ_nth (a : NA) (i : Nat) : nth (arcsZ a) (0, 0) i = (((nth a (0, 0) i).1 : Int), ((nth a (0, 0) i).2 : Int)) := nth_map arcZ a (0, 0) i

/-- A row of sets. -/
def zr (n : Nat) (g : Nat → Nat) : List Int := row n (fun i => (g i : Int))
@[simp] theorem zr_len (n : Nat) (g : Nat → Nat) : (zr n g).length = n := row_len _ _
theorem zr_nth (n : Nat) (g : Nat → Nat) {i : Nat} (h : i < n) : nth (zr n g) 0 i = (g i : Int) := nth_row _ _ _ h
@[simp] theorem zr_set (n : Nat) (g : Nat → Nat) (i y : Nat) : (zr n g).set i (y : Int) = zr n (updF g i y) := by
  unfold zr
  rw [row_set]
  congr 1
  funext j
  simp only [updF]
  split <;> rfl
theorem zr_ext {n : Nat} {g h : Nat → Nat} (e : ∀ i, i < n → g i = h i) : zr n g = zr n h := row_ext _ fun i hi => by rw [e i hi]
abbrev su (n : Nat) (g : Nat → Nat) : D := gsl (eI .u32) false (zr n g)

def addArc (g : Nat → Nat) (p : Nat × Nat) : Nat → Nat := updF g p.1 (g p.1 ||| pw p.2)
def nextG (a : NA) : Nat → Nat := a.foldl addArc fun _ => 0

theorem take_succ_nth {α : Type} {l : List α} {i : Nat} (d : α) (h : i < l.length) : l.take (i + 1) = l.take i ++ [nth l d i] := by
  rw [nth_get d h, List.take_succ_eq_append_getElem h]

theorem foldl_take {α β : Type} (f : β → α → β) (b : β) {l : List α} {i : Nat} (d : α) (h : i < l.length) : (l.take (i + 1)).foldl f b = f ((l.take i).foldl f b) (nth l d i) := by
  rw [take_succ_nth d h, List.foldl_append]; rfl

theorem nextG_lt {n : Nat} (hn : n ≤ 32) {a : NA} (h : ∀ p ∈ a, p.1 < n ∧ p.2 < n) (i : Nat) : nextG a i < 2 ^ 32 := by
  suffices ∀ (a : NA) (g : Nat → Nat), (∀ p ∈ a, p.1 < n ∧ p.2 < n) → (∀ i, g i < 2 ^ 32) → ∀ i, a.foldl addArc g i < 2 ^ 32 from this a _ h (fun _ => by simp) i
  intro a
  induction a with
  | nil => intro g _ hg i; exact hg i
  | cons p a ih =>
    intro g h hg i
    apply ih
    · exact fun q hq => h q (List.mem_cons_of_mem _ hq)
    · intro j
      unfold addArc updF
      split
      · exact Nat.or_lt_two_pow (hg _) (pw_lt (by have := (h p (List.mem_cons_self ..)).2; omega))
      · exact hg j

def stp (g : Nat → Nat) (m : Nat) : Nat → Nat := fun j => if (g j).testBit m then g j ||| g m else g j
def warr (g : Nat → Nat) : Nat → Nat → Nat
  | 0 => g
  | k + 1 => stp (warr g k) k
def prt (g : Nat → Nat) (m i : Nat) : Nat → Nat := fun j => if j < i then stp g m j else g j

theorem stp_lt {g : Nat → Nat} (h : ∀ i, g i < 2 ^ 32) (m i : Nat) : stp g m i < 2 ^ 32 := by
  unfold stp
  split
  · exact Nat.or_lt_two_pow (h _) (h _)
  · exact h i

theorem warr_lt {g : Nat → Nat} (h : ∀ i, g i < 2 ^ 32) (k i : Nat) : warr g k i < 2 ^ 32 := by
  induction k generalizing i with
  | zero => exact h i
  | succ k ih => exact stp_lt ih k i

theorem prt_lt {g : Nat → Nat} (h : ∀ i, g i < 2 ^ 32) (m k i : Nat) : prt g m k i < 2 ^ 32 := by
  unfold prt
  split
  · exact stp_lt h m i
  · exact h i

theorem prt_m (g : Nat → Nat) (m i : Nat) : prt g m i m = g m := by simp [prt, stp]
theorem prt_i (g : Nat → Nat) (m i : Nat) : prt g m i i = g i := by simp [prt]
theorem prt_succ (g : Nat → Nat) (m i : Nat) : prt g m (i + 1) = if (g i).testBit m then updF (prt g m i) i (g i ||| g m) else prt g m i := by
  funext j
  by_cases hb : (g i).testBit m = true
  · simp only [hb, if_true, updF, prt]
    by_cases hj : j = i
    · subst hj; simp [stp, hb]
    · have : (j < i + 1) ↔ j < i := by omega
      simp [hj, this]
  · simp only [hb, prt]
    by_cases hj : j = i
    · subst hj; simp [stp, hb, prt]
    · have : (j < i + 1) ↔ j < i := by omega
      simp [this, prt]

def natA (a : List (Int × Int)) : NA := a.map fun p => (p.1.toNat, p.2.toNat)

theorem valid_nat {n : Int} {a : List (Int × Int)} (h : validB n a = true) : ∃ k : Nat, n = (k : Int) ∧ k ≤ 24 ∧ a = arcsZ (natA a) ∧ (∀ p ∈ natA a, p.1 < k ∧ p.2 < k ∧ p.1 ≠ p.2) := by
  have hall : ∀ p ∈ a, 0 ≤ p.1 ∧ p.1 < n ∧ 0 ≤ p.2 ∧ p.2 < n ∧ p.1 ≠ p.2 := by
    intro p hp
    obtain ⟨i, hi, rfl⟩ := List.mem_iff_getElem.1 hp
    have := valid_all h hi
    simp only [okA, nth_get (0, 0) hi, Bool.and_eq_true, decide_eq_true_eq, Bool.not_eq_true', beq_eq_false_iff_ne] at this
    exact ⟨this.1.1.1.1.1, this.1.1.1.1.2, this.1.1.1.2, this.1.1.2, this.1.2⟩
  have h' := h
  simp only [validB, Bool.and_eq_true, decide_eq_true_eq] at h'
  obtain ⟨⟨h1, h2⟩, _⟩ := h'
  refine ⟨n.toNat, by omega, by omega, ?_, ?_⟩
  · unfold arcsZ natA
    rw [List.map_map]
    conv => lhs; rw [← List.map_id a]
    apply List.map_congr_left
    intro p hp
    obtain ⟨g1, _, g2, _, _⟩ := hall p hp
    simp only [Function.comp, id, arcZ]
    ext <;> simp <;> omega
  · intro p hp
    unfold natA at hp
    obtain ⟨q, hq, rfl⟩ := List.mem_map.1 hp
    obtain ⟨g1, g2, g3, g4, g5⟩ := hall q hq
    simp only
    omega

/-- What is reached, for a valid digraph. -/
def rea (n : Int) (a : List (Int × Int)) : Nat → Nat := warr (nextG (natA a)) n.toNat

theorem rea_lt {n : Int} {a : List (Int × Int)} (h : validB n a = true) (i : Nat) : rea n a i < 2 ^ 32 := by
  obtain ⟨k, rfl, h1, h2, h3⟩ := valid_nat h
  exact warr_lt (nextG_lt (n := k) (by omega) fun p hp => ⟨(h3 p hp).1, (h3 p hp).2.1⟩) _ _

/-- Is it acyclic? -/
def acyB (n : Int) (a : List (Int × Int)) : Bool := validB n a && !(List.range n.toNat).any (fun i => (rea n a i).testBit i)

/-! ### the reference's table -/
/-- The table, as far as it is made. -/
def tpr (g : Nat → Nat) (k i j : Nat) : Nat → Nat → Bool := fun a b => if a < i ∨ (a = i ∧ b < j) then (stp g k a).testBit b else (g a).testBit b
def tbl35 (g : Nat → Nat) : Nat → Nat → Bool := fun a b => (g a).testBit b

theorem stp_bit (g : Nat → Nat) (k i j : Nat) : (stp g k i).testBit j = ((g i).testBit j || (g i).testBit k && (g k).testBit j) := by
  unfold stp
  by_cases h : (g i).testBit k = true
  · simp [h, Nat.testBit_or]
  · simp [h]

theorem tpr_col (g : Nat → Nat) (k i j a : Nat) : tpr g k i j a k = (g a).testBit k := by
  unfold tpr
  split
  · rw [stp_bit]; cases (g a).testBit k <;> simp
  · rfl
theorem tpr_row (g : Nat → Nat) (k i j b : Nat) : tpr g k i j k b = (g k).testBit b := by
  unfold tpr
  split
  · rw [stp_bit]; cases (g k).testBit b <;> simp
  · rfl
theorem tpr_succ (g : Nat → Nat) (k i j : Nat) : tpr g k i (j + 1) = if ((g i).testBit k && (g k).testBit j) = true then updM (tpr g k i j) i j true else tpr g k i j := by
  funext a b
  have hs := stp_bit g k i j
  by_cases hab : a = i ∧ b = j
  · obtain ⟨rfl, rfl⟩ := hab
    have h1 : a < a ∨ (a = a ∧ b < b + 1) := by omega
    have h2 : ¬ (a < a ∨ (a = a ∧ b < b)) := by omega
    by_cases hc : ((g a).testBit k && (g k).testBit b) = true
    · rw [if_pos hc]
      simp only [tpr, if_pos h1, updM, hs, hc]
      simp
    · rw [if_neg hc]
      have hc' : ((g a).testBit k && (g k).testBit b) = false := by simpa using hc
      simp only [tpr, hs, hc', Bool.or_false]
      split <;> split <;> rfl
  · have h1 : (a < i ∨ (a = i ∧ b < j + 1)) ↔ (a < i ∨ (a = i ∧ b < j)) := by omega
    split
    · simp only [updM, if_neg hab, tpr, h1]
    · simp only [tpr, h1]

theorem tpr_ext {g : Nat → Nat} {k i j i' j' : Nat} (h : ∀ a b, a < 24 → b < 24 → tpr g k i j a b = tpr g k i' j' a b) : mat 24 (tpr g k i j) = mat 24 (tpr g k i' j') := mat_ext h

/-- Bits beyond n are not set. -/
def Low (n : Nat) (g : Nat → Nat) : Prop := ∀ i j, n ≤ j → (g i).testBit j = false
def Lows (n : Nat) (g : Nat → Nat) : Prop := Low n g ∧ ∀ i, n ≤ i → g i = 0

theorem low_stp {n : Nat} {g : Nat → Nat} (h : Lows n g) (k : Nat) : Lows n (stp g k) := by
  refine ⟨fun i j hj => ?_, fun i hi => ?_⟩
  · rw [stp_bit, h.1 i j hj, h.1 k j hj]; simp
  · unfold stp; rw [h.2 i hi]; simp

theorem low_warr {n : Nat} {g : Nat → Nat} (h : Lows n g) (k : Nat) : Lows n (warr g k) := by
  induction k with
  | zero => exact h
  | succ k ih => exact low_stp ih k

theorem low_next {n : Nat} {a : NA} (hv : ∀ p ∈ a, p.1 < n ∧ p.2 < n) : Lows n (nextG a) := by
  suffices ∀ (a : NA) (g : Nat → Nat), (∀ p ∈ a, p.1 < n ∧ p.2 < n) → Lows n g → Lows n (a.foldl addArc g) from this a _ hv ⟨fun i j _ => by simp, fun i _ => rfl⟩
  intro a
  induction a with
  | nil => intro g _ h; exact h
  | cons p a ih =>
    intro g hv h
    obtain ⟨h1, h2⟩ := hv p (List.mem_cons_self ..)
    refine ih _ (fun q hq => hv q (List.mem_cons_of_mem _ hq)) ⟨fun i j hj => ?_, fun i hi => ?_⟩
    · unfold addArc updF
      split
      · rw [Nat.testBit_or, h.1 _ j hj, pw_bit]
        simp; omega
      · exact h.1 i j hj
    · unfold addArc updF
      rw [if_neg (by omega)]
      exact h.2 i hi

theorem tbl35_add (g : Nat → Nat) (f t : Nat) : tbl35 (addArc g (f, t)) = updM (tbl35 g) f t true := by
  funext a b
  simp only [tbl35, addArc, updM, updF]
  by_cases h : a = f
  · subst h
    simp only [if_true, Nat.testBit_or, pw_bit, true_and]
    by_cases h2 : b = t
    · subst h2; simp
    · have : ¬ t = b := fun e => h2 e.symm
      simp [h2, this]
  · simp [h]

/-- What Table returns. -/
def tabD (g : Nat → Nat) : D := .nd .ag (gk eB (mat 24 (tbl35 g)))

theorem next_bit (a : NA) (i j : Nat) : (nextG a i).testBit j = a.contains (i, j) := by
  suffices ∀ (a : NA) (g : Nat → Nat), (a.foldl addArc g i).testBit j = ((g i).testBit j || a.contains (i, j)) by
    have := this a fun _ => 0
    rw [Nat.zero_testBit, Bool.false_or] at this
    exact this
  intro a
  induction a with
  | nil => intro g; simp
  | cons p a ih =>
    intro g
    rw [List.foldl_cons, ih, List.contains_cons]
    obtain ⟨f, t⟩ := p
    simp only [addArc, updF]
    by_cases h : i = f
    · subst h
      rw [if_pos rfl, Nat.testBit_or, pw_bit]
      by_cases h2 : t = j
      · subst h2; simp
      · have h3 : ¬ j = t := fun e => h2 e.symm
        have h4 : ((i, j) == (i, t)) = false := by simp [h3]
        rw [h4]; simp [h2]
    · rw [if_neg h]
      have : ((i, j) == (f, t)) = false := by simp [h]
      rw [this, Bool.false_or]

theorem warr_bit (g : Nat → Nat) (k i j : Nat) : (warr g (k + 1) i).testBit j = ((warr g k i).testBit j || (warr g k i).testBit k && (warr g k k).testBit j) := stp_bit (warr g k) k i j

theorem warr_mono (g : Nat → Nat) (k i j : Nat) (h : (g i).testBit j = true) : (warr g k i).testBit j = true := by
  induction k with
  | zero => exact h
  | succ k ih => rw [warr_bit, ih]; rfl

theorem warr_trans (g : Nat → Nat) (k v i j : Nat) (hv : v < k) (h1 : (warr g k i).testBit v = true) (h2 : (warr g k v).testBit j = true) : (warr g k i).testBit j = true := by
  induction k generalizing v i j with
  | zero => omega
  | succ k ih =>
    rw [warr_bit] at h1 h2 ⊢
    simp only [Bool.or_eq_true, Bool.and_eq_true] at *
    by_cases hk : v = k
    · subst hk
      have a1 : (warr g v i).testBit v = true := by rcases h1 with h | ⟨h, _⟩ <;> exact h
      have a2 : (warr g v v).testBit j = true := by rcases h2 with h | ⟨_, h⟩ <;> exact h
      exact Or.inr ⟨a1, a2⟩
    · have hv' : v < k := by omega
      rcases h1 with h1 | ⟨h1, h3⟩ <;> rcases h2 with h2 | ⟨h2, h4⟩
      · exact Or.inl (ih v i j hv' h1 h2)
      · exact Or.inr ⟨ih v i k hv' h1 h2, h4⟩
      · exact Or.inr ⟨h1, ih v k j hv' h3 h2⟩
      · exact Or.inr ⟨h1, h4⟩

/-- What holds of arcs and goes on along paths holds of what is reached. -/
theorem warr_ind (g : Nat → Nat) (P : Nat → Nat → Prop) (h0 : ∀ i j, (g i).testBit j = true → P i j) (ht : ∀ i v j, P i v → P v j → P i j) (k i j : Nat) (h : (warr g k i).testBit j = true) : P i j := by
  induction k generalizing i j with
  | zero => exact h0 i j h
  | succ k ih =>
    rw [warr_bit] at h
    simp only [Bool.or_eq_true, Bool.and_eq_true] at h
    rcases h with h | ⟨h1, h2⟩
    · exact ih i j h
    · exact ht i k j (ih i k h1) (ih k j h2)

theorem sorted_ext {α : Type} (r : α → α → Prop) (irr : ∀ x, ¬ r x x) (asym : ∀ x y, r x y → ¬ r y x) : ∀ (l m : List α), l.Pairwise r → m.Pairwise r → (∀ x, x ∈ l ↔ x ∈ m) → l = m
  | [], [], _, _, _ => rfl
  | [], y :: m, _, _, h => by have := (h y).2 (List.mem_cons_self ..); simp at this
  | x :: l, [], _, _, h => by have := (h x).1 (List.mem_cons_self ..); simp at this
  | x :: l, y :: m, hl, hm, h => by
    obtain ⟨hl1, hl2⟩ := List.pairwise_cons.1 hl
    obtain ⟨hm1, hm2⟩ := List.pairwise_cons.1 hm
    have hxy : x = y := by
      by_cases e : x = y
      · exact e
      · exfalso
        have h1 : x ∈ m := by
          rcases List.mem_cons.1 ((h x).1 (List.mem_cons_self ..)) with h' | h'
          · exact absurd h' e
          · exact h'
        have h2 : y ∈ l := by
          rcases List.mem_cons.1 ((h y).2 (List.mem_cons_self ..)) with h' | h'
          · exact absurd h'.symm e
          · exact h'
        exact asym _ _ (hm1 x h1) (hl1 y h2)
    subst hxy
    congr 1
    refine sorted_ext r irr asym l m hl2 hm2 fun z => ⟨fun hz => ?_, fun hz => ?_⟩
    · rcases List.mem_cons.1 ((h z).1 (List.mem_cons_of_mem _ hz)) with rfl | h'
      · exact absurd (hl1 z hz) (irr z)
      · exact h'
    · rcases List.mem_cons.1 ((h z).2 (List.mem_cons_of_mem _ hz)) with rfl | h'
      · exact absurd (hm1 z hz) (irr z)
      · exact h'

/-- One pair stands before another. -/
def lexB (p q : Int × Int) : Prop := p.1 < q.1 ∨ p.1 = q.1 ∧ p.2 < q.2
theorem lexB_irr (x : Int × Int) : ¬ lexB x x := by unfold lexB; omega
theorem lexB_asym (x y : Int × Int) : lexB x y → ¬ lexB y x := by unfold lexB; omega
theorem lexB_trans {x y z : Int × Int} : lexB x y → lexB y z → lexB x z := by unfold lexB; omega

theorem pairwise_of_next {α : Type} (r : α → α → Prop) (tr : ∀ x y z, r x y → r y z → r x z) (l : List α) (d : α) (h : ∀ i, i + 1 < l.length → r (nth l d i) (nth l d (i + 1))) : l.Pairwise r := by
  rw [List.pairwise_iff_getElem]
  intro i j hi hj hij
  obtain ⟨k, rfl⟩ : ∃ k, j = i + 1 + k := ⟨j - (i + 1), by omega⟩
  induction k with
  | zero =>
    have := h i hj
    rwa [nth_get d hi, nth_get d hj] at this
  | succ k ih =>
    have h1 := ih (by omega) (by omega)
    have h2 := h (i + 1 + k) (by omega)
    rw [nth_get d (by omega), nth_get d (by omega)] at h2
    exact tr _ _ _ h1 h2

theorem valid_sorted {n : Int} {a : List (Int × Int)} (h : validB n a = true) : a.Pairwise lexB := by
  refine pairwise_of_next lexB (fun x y z => lexB_trans) a (0, 0) fun i hi => ?_
  have := valid_all h hi
  simp only [okA, Nat.add_sub_cancel, Bool.and_eq_true, Bool.or_eq_true, Bool.not_eq_true'] at this
  have h2 := this.2
  unfold lexB
  generalize nth a (0, 0) (i + 1) = p at *
  generalize nth a (0, 0) i = q at *
  simp at h2
  omega

end Go.Mx
