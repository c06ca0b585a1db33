import Derived.Test.YtgbikojcpfdbiaaPoA
import Derived.Test.YtgbikojcpfdbiaaMxYb
/-
  Arcs as trees; small functions on lists.
-/
namespace Go.Mx
set_option linter.unusedVariables false
set_option linter.unusedSimpArgs false
set_option linter.unusedSectionVars false
open Go

/-- Arcs. -/
def eA : En (Int × Int) where
  es := 2
  enc p := [.v (.int .i64 p.1), .v (.int .i64 p.2)]
  d := (0, 0)
  pos := by decide
  len _ := rfl
  flat _ := rfl
abbrev sa (b : Bool) (l : List (Int × Int)) : D := gsl eA b l

section
variable (l : List (Int × Int)) (i : Nat)
@[simp] theorem A_elP (r : Nat) (p : List Nat) (b : Bool) : elP r p 2 i (gsl eA b l) = if i < l.length then some (.ad r p (i * 2)) else none := elP_ge eA r p i b l
@[simp] theorem A_elR (b : Bool) : elR 2 i (gsl eA b l) = if i < l.length then some (.rad (gk eA l) (i * 2)) else none := elR_ge eA i b l
@[simp high] theorem A_cell0 : (gk eA l)[i * 2]? = if i < l.length then some (.v (.int .i64 (nth l (0, 0) i).1)) else none := gk_cell eA l i 0 (by decide)
@[simp high] theorem A_cell1 : (gk eA l)[i * 2 + 1]? = if i < l.length then some (.v (.int .i64 (nth l (0, 0) i).2)) else none := gk_cell eA l i 1 (by decide)
@[simp] theorem A_aggR : aggR (gk eA l) (i * 2) 2 = if i < l.length then some (.ro (.nd .ag [.v (.int .i64 (nth l (0, 0) i).1), .v (.int .i64 (nth l (0, 0) i).2)])) else none := aggR_ge eA i l
@[simp] theorem A_aggV (r : Nat) (p : List Nat) : aggV r p (gk eA l) (i * 2) 2 = if i < l.length then some (.ro (.nd .ag [.v (.int .i64 (nth l (0, 0) i).1), .v (.int .i64 (nth l (0, 0) i).2)])) else none := agg_ge eA r p i l rfl
@[simp] theorem A_apD1 (b : Bool) (x y : Int) : apD 2 1 [.v (.int .i64 x), .v (.int .i64 y)] (gsl eA b l) = if l.length + 1 ≤ most then some (gsl eA false (l ++ [(x, y)])) else none := by
  show apD eA.es [(x, y)].length (gk eA [(x, y)]) (gsl eA b l) = _
  rw [apD_ge]; simp
end
theorem sc_A (l : List (Int × Int)) : (gk eA l).all isSc = true := by
  induction l with
  | nil => rfl
  | cons a l ih => exact ih
@[simp] theorem A_apS (st : St) (v : V) (b : Bool) (l : List (Int × Int)) : apS st 2 v (gsl eA b l) = some (l.length, gk eA l, st) := apS_ge eA st v b l (sc_A l)
@[simp] theorem A_apD (b : Bool) (l m : List (Int × Int)) : apD 2 m.length (gk eA m) (gsl eA b l) = if l.length + m.length ≤ most then some (gsl eA (b && m.length == 0) (l ++ m)) else none := apD_ge eA b l m

@[simp] theorem A_fold (b : Bool) (l : List (Int × Int)) : T.nd (K.sl b 2 l.length) (gk eA l) = gsl eA b l := rfl

theorem loop30 (call : Oracle) (fuel : Nat) (b : Bool) (l : List Int) (hl : l.length ≤ 1000) (n : Int) (fu : Nat) (hf : 1000 < fu) (st : St) (h0 : drops st h30_0 = L30_0 (.ro (si b l)) (ii n) (ii 0)) :
    run.loopN (run call fuel b30_0) fu st = some (if (List.range l.length).any (fun i => nth l 0 i == n) = true then (.ret, R30 (bb true)) else (.ex 0, X30_0)) := by
  refine loop_any call fuel h30_0 _ l.length (fun i => nth l 0 i == n) (fun i => L30_0 (.ro (si b l)) (ii n) (ii i)) (.ret, R30 (bb true)) (.ex 0, X30_0) (by simp) (by simp) ?_ (by simp) fu st h0 (by omega)
  intro i hi _
  have hw := wrap_succ (i := i) (by omega)
  simp [hi, hw]

/-- Has. -/
theorem f30 (call : Oracle) (fuel : Nat) (hf : 1000 < fuel) (b : Bool) (l : List Int) (hl : l.length ≤ 1000) (n : Int) : callF call fuel c30 [si b l, .v (.int .i64 n)] = some (.v (.bool (l.any (· == n)))) := by
  have e := loop30 call fuel b l hl n fuel hf
  have ha : (List.range l.length).any (fun i => nth l 0 i == n) = l.any (· == n) := any_nth l 0 (· == n)
  rw [ha] at e
  rw [callF_tab call fuel c30 6 _ (by exact Nat.le_of_ble_eq_true rfl) (by exact Nat.le_of_ble_eq_true rfl)]
  simp only [c30, r30, x30_0]
  simp
  rw [e _ (by simp)]
  cases l.any (· == n) <;> simp

theorem loop15 (call : Oracle) (fuel : Nat) (b c : Bool) (l m : List Int) (hl : l.length ≤ 1000) (hm : m.length = l.length) (fu : Nat) (hf : 1000 < fu) (st : St) (h0 : drops st h15_0 = L15_0 (.ro (si b l)) (.ro (si c m)) (ii 0)) :
    run.loopN (run call fuel b15_0) fu st = some (if (List.range l.length).any (fun i => nth l 0 i != nth m 0 i) = true then (.ret, R15 (bb false)) else (.ex 0, X15_0)) := by
  refine loop_any call fuel h15_0 _ l.length (fun i => nth l 0 i != nth m 0 i) (fun i => L15_0 (.ro (si b l)) (.ro (si c m)) (ii i)) (.ret, R15 (bb false)) (.ex 0, X15_0) (by simp) (by simp) ?_ (by simp) fu st h0 (by omega)
  intro i hi _
  have hw := wrap_succ (i := i) (by omega)
  simp [hi, hw, hm]

/-- Ints. -/
theorem f15 (call : Oracle) (fuel : Nat) (hf : 1000 < fuel) (b c : Bool) (l m : List Int) (hl : l.length ≤ 1000) : callF call fuel c15 [si b l, si c m] = some (.v (.bool (l == m))) := by
  rw [callF_tab call fuel c15 6 _ (by exact Nat.le_of_ble_eq_true rfl) (by exact Nat.le_of_ble_eq_true rfl)]
  by_cases hm : m.length = l.length
  · have e := loop15 call fuel b c l m hl hm fuel hf
    rw [any_ne l m 0 hm.symm] at e
    simp [c15, hm]
    rw [e _ (by simp)]
    cases (l == m) <;> simp
  · have h1 : (l == m) = false := by
      rw [beq_eq_false_iff_ne]; rintro rfl; exact hm rfl
    have h2 : ¬ (l.length : Int) = (m.length : Int) := by omega
    simp [c15, h1, h2]

def okA (n : Int) (a : List (Int × Int)) (i : Nat) : Bool :=
  let p := nth a (0, 0) i
  let q := nth a (0, 0) (i - 1)
  decide (0 ≤ p.1) && decide (p.1 < n) && decide (0 ≤ p.2) && decide (p.2 < n) && !(p.1 == p.2) && (i == 0 || !(decide (p.1 < q.1) || (p.1 == q.1) && decide (p.2 ≤ q.2)))

theorem loop33 (call : Oracle) (fuel : Nat) (b : Bool) (n : Int) (a : List (Int × Int)) (hl : a.length ≤ 1000) (fu : Nat) (hf : 1000 < fu) (st : St) (h0 : drops st h33_0 = L33_0 (ii n) (.ro (sa b a)) (ii 0)) :
    run.loopN (run call fuel b33_0) fu st = some (if (List.range a.length).any (fun i => !okA n a i) = true then (.ret, R33 (bb false)) else (.ex 0, X33_0)) := by
  refine loop_any call fuel h33_0 _ a.length (fun i => !okA n a i) (fun i => L33_0 (ii n) (.ro (sa b a)) (ii i)) (.ret, R33 (bb false)) (.ex 0, X33_0) (by simp) (by simp) ?_ (by simp) fu st h0 (by omega)
  intro i hi _
  have hw := wrap_succ (i := i) (by omega)
  have hp := wrap_pred (i := i) (by omega)
  have hi' : i - 1 < a.length := by omega
  simp [hi, hw, hp, hi']
  unfold okA
  generalize nth a (0, 0) i = p
  generalize nth a (0, 0) (i - 1) = q
  grind

/-- Is it a digraph? -/
def validB (n : Int) (a : List (Int × Int)) : Bool := decide (0 ≤ n) && decide (n ≤ 24) && !(List.range a.length).any (fun i => !okA n a i)

theorem valid_all {n : Int} {a : List (Int × Int)} (h : validB n a = true) {i : Nat} (hi : i < a.length) : okA n a i = true := by
  simp only [validB, Bool.and_eq_true, Bool.not_eq_true'] at h
  have := (any_range _ _).1 h.2 i hi
  simpa using this

/-- There are at most as many arcs as pairs. -/
theorem valid_len {n : Int} {a : List (Int × Int)} (h : validB n a = true) : (a.length : Int) ≤ n * n := by
  have key : ∀ i : Nat, i < a.length → (i : Int) ≤ (nth a (0, 0) i).1 * n + (nth a (0, 0) i).2 := by
    intro i
    induction i with
    | zero =>
      intro hi
      have := valid_all h hi
      simp only [okA, Bool.and_eq_true, decide_eq_true_eq, Bool.not_eq_true'] at this
      obtain ⟨⟨⟨⟨⟨h1, h2⟩, h3⟩, h4⟩, _⟩, _⟩ := this
      have : 0 ≤ (nth a (0, 0) 0).1 * n := Int.mul_nonneg h1 (by omega)
      simp; omega
    | succ i ih =>
      intro hi
      have h0 := ih (by omega)
      have := valid_all h hi
      have hb := valid_all h (i := i) (by omega)
      simp only [okA, Bool.and_eq_true, decide_eq_true_eq, Bool.not_eq_true', Nat.add_sub_cancel] at this hb
      obtain ⟨⟨⟨⟨⟨h1, h2⟩, h3⟩, h4⟩, _⟩, h5⟩ := this
      obtain ⟨⟨⟨⟨⟨g1, g2⟩, g3⟩, g4⟩, _⟩, _⟩ := hb
      generalize nth a (0, 0) (i + 1) = p at *
      generalize nth a (0, 0) i = q at *
      have h5' : ¬ p.1 < q.1 ∧ (p.1 = q.1 → q.2 < p.2) := by
        simp at h5
        omega
      rcases Int.lt_trichotomy q.1 p.1 with h6 | h6 | h6
      · have : (q.1 + 1) * n ≤ p.1 * n := Int.mul_le_mul_of_nonneg_right (by omega) (by omega)
        rw [Int.add_mul] at this
        push_cast
        omega
      · have := h5'.2 h6.symm
        rw [h6] at h0
        push_cast
        omega
      · omega
  rcases Nat.eq_zero_or_pos a.length with h0 | h0
  · have : 0 ≤ n := by
      simp only [validB, Bool.and_eq_true, decide_eq_true_eq] at h
      exact h.1.1
    rw [h0]; exact Int.mul_nonneg this this
  · have h1 := key (a.length - 1) (by omega)
    have := valid_all h (i := a.length - 1) (by omega)
    simp only [okA, Bool.and_eq_true, decide_eq_true_eq, Bool.not_eq_true'] at this
    obtain ⟨⟨⟨⟨⟨h2, h3⟩, h4⟩, h5⟩, _⟩, _⟩ := this
    generalize nth a (0, 0) (a.length - 1) = p at *
    have : (p.1 + 1) * n ≤ n * n := Int.mul_le_mul_of_nonneg_right (by omega) (by omega)
    rw [Int.add_mul] at this
    omega

theorem f33 (call : Oracle) (fuel : Nat) (hf : 1000 < fuel) (b : Bool) (n : Int) (a : List (Int × Int)) (hl : a.length ≤ 1000) : callF call fuel c33 [.v (.int .i64 n), sa b a] = some (.v (.bool (validB n a))) := by
  have e := loop33 call fuel b n a hl fuel hf
  have hlen := @valid_len n a
  rw [callF_tab call fuel c33 6 _ (by exact Nat.le_of_ble_eq_true rfl) (by exact Nat.le_of_ble_eq_true rfl)]
  by_cases c1 : n < 0
  · have : validB n a = false := by
      simp only [validB, Bool.and_eq_false_iff, decide_eq_false_iff_not]; omega
    simp [c33, c1, this]
  by_cases c2 : 24 < n
  · have : validB n a = false := by
      simp only [validB, Bool.and_eq_false_iff, decide_eq_false_iff_not]; omega
    simp [c33, c1, c2, this]
  have hsq : n * n ≤ 576 := by
    have : n * n ≤ 24 * 24 := Int.mul_le_mul (by omega) (by omega) (by omega) (by omega)
    omega
  have hsq0 : 0 ≤ n * n := Int.mul_nonneg (by omega) (by omega)
  have hw : IntKind.i64.wrap (n * n) = n * n := wrap_eq (by unfold I64; omega)
  by_cases c3 : n * n < (a.length : Int)
  · have : validB n a = false := by
      rw [Bool.eq_false_iff]
      intro hv
      have := hlen hv
      omega
    simp [c33, c1, c2, c3, hw, this]
  · simp [c33, c1, c2, c3, hw]
    rw [e _ (by simp)]
    unfold validB
    have d1 : 0 ≤ n := by omega
    have d2 : n ≤ 24 := by omega
    cases (List.range a.length).any (fun i => !okA n a i) <;> simp [d1, d2]

theorem loop20 (call : Oracle) (fuel : Nat) (b : Bool) (n : Int) (a : List (Int × Int)) (hl : a.length ≤ 1000) (fu : Nat) (hf : 1000 < fu) (st : St) (h0 : drops st h20_0 = L20_0 (ii n) (.ro (sa b a)) (.ro (sa b a)) (ii a.length) (ii 0)) :
    run.loopN (run call fuel b20_0) fu st = some (if (List.range a.length).any (fun i => !okA n a i) = true then (.ret, R20 (bb false)) else (.ex 0, X20_0)) := by
  refine loop_any call fuel h20_0 _ a.length (fun i => !okA n a i) (fun i => L20_0 (ii n) (.ro (sa b a)) (.ro (sa b a)) (ii a.length) (ii i)) (.ret, R20 (bb false)) (.ex 0, X20_0) (by simp) (by simp) ?_ (by simp) fu st h0 (by omega)
  intro i hi _
  have hw := wrap_succ (i := i) (by omega)
  have hp := wrap_pred (i := i) (by omega)
  have hi' : i - 1 < a.length := by omega
  simp [hi, hw, hp, hi']
  unfold okA
  generalize nth a (0, 0) i = p
  generalize nth a (0, 0) (i - 1) = q
  grind

theorem f20 (call : Oracle) (fuel : Nat) (hf : 1000 < fuel) (b : Bool) (n : Int) (a : List (Int × Int)) (hl : a.length ≤ 1000) : callF call fuel c20 [.v (.int .i64 n), sa b a] = some (.v (.bool (validB n a))) := by
  have e := loop20 call fuel b n a hl fuel hf
  rw [callF_tab call fuel c20 16 _ (by exact Nat.le_of_ble_eq_true rfl) (by exact Nat.le_of_ble_eq_true rfl)]
  simp [c20]
  rw [e _ (by simp)]
  unfold validB
  cases (List.range a.length).any (fun i => !okA n a i) <;> simp <;> grind

theorem f21 (call : Oracle) (fuel : Nat) (b : Bool) (n : Int) (a : List (Int × Int)) (h : call 33 [.v (.int .i64 n), sa b a] = some (.v (.bool (validB n a)))) : callF call fuel c21 [.v (.int .i64 n), sa b a] = some (.v (.bool (validB n a))) := by
  rw [callF_tab call fuel c21 5 _ (by exact Nat.le_of_ble_eq_true rfl) (by exact Nat.le_of_ble_eq_true rfl)]
  simp [c21, h]

theorem loop19 (call : Oracle) (fuel : Nat) (b c : Bool) (l m : List (Int × Int)) (hl : l.length ≤ 1000) (hm : m.length = l.length) (fu : Nat) (hf : 1000 < fu) (st : St) (h0 : drops st h19_0 = L19_0 (.ro (sa b l)) (.ro (sa c m)) (ii 0)) :
    run.loopN (run call fuel b19_0) fu st = some (if (List.range l.length).any (fun i => nth l (0, 0) i != nth m (0, 0) i) = true then (.ret, R19 (bb false)) else (.ex 0, X19_0)) := by
  refine loop_any call fuel h19_0 _ l.length (fun i => nth l (0, 0) i != nth m (0, 0) i) (fun i => L19_0 (.ro (sa b l)) (.ro (sa c m)) (ii i)) (.ret, R19 (bb false)) (.ex 0, X19_0) (by simp) (by simp) ?_ (by simp) fu st h0 (by omega)
  intro i hi _
  have hw := wrap_succ (i := i) (by omega)
  simp [hi, hw, hm]
  generalize nth l (0, 0) i = p
  generalize nth m (0, 0) i = q
  obtain ⟨p1, p2⟩ := p
  obtain ⟨q1, q2⟩ := q
  grind

/-- Arcs. -/
theorem f19 (call : Oracle) (fuel : Nat) (hf : 1000 < fuel) (b c : Bool) (l m : List (Int × Int)) (hl : l.length ≤ 1000) : callF call fuel c19 [sa b l, sa c m] = some (.v (.bool (l == m))) := by
  rw [callF_tab call fuel c19 6 _ (by exact Nat.le_of_ble_eq_true rfl) (by exact Nat.le_of_ble_eq_true rfl)]
  by_cases hm : m.length = l.length
  · have e := loop19 call fuel b c l m hl hm fuel hf
    rw [any_ne l m (0, 0) hm.symm] at e
    simp [c19, hm]
    rw [e _ (by simp)]
    cases (l == m) <;> simp
  · have h1 : (l == m) = false := by
      rw [beq_eq_false_iff_ne]; rintro rfl; exact hm rfl
    have h2 : ¬ (l.length : Int) = (m.length : Int) := by omega
    simp [c19, h1, h2]

theorem f10 (call : Oracle) (fuel : Nat) (b : Bool) (a : List (Int × Int)) : callF call fuel c10 [sa b a] = some (.v (.bool (decide (a.length ≤ 150)))) := by
  rw [callF_tab call fuel c10 3 _ (by exact Nat.le_of_ble_eq_true rfl) (by exact Nat.le_of_ble_eq_true rfl)]
  have : ((a.length : Int) ≤ 150) ↔ a.length ≤ 150 := by omega
  simp [c10, this]

/-- Are numbers strictly ascending, from low to high? -/
def okL (l : List Int) (lo hi : Int) (i : Nat) : Bool := decide (lo ≤ nth l 0 i) && decide (nth l 0 i ≤ hi) && (i == 0 || decide (nth l 0 (i - 1) < nth l 0 i))

theorem loop32 (call : Oracle) (fuel : Nat) (b : Bool) (l : List Int) (lo hi : Int) (hl : l.length ≤ 1000) (fu : Nat) (hf : 1000 < fu) (st : St) (h0 : drops st h32_0 = L32_0 (.ro (si b l)) (ii lo) (ii hi) (ii 0)) :
    run.loopN (run call fuel b32_0) fu st = some (if (List.range l.length).any (fun i => !okL l lo hi i) = true then (.ret, R32 (bb false)) else (.ex 0, X32_0)) := by
  refine loop_any call fuel h32_0 _ l.length (fun i => !okL l lo hi i) (fun i => L32_0 (.ro (si b l)) (ii lo) (ii hi) (ii i)) (.ret, R32 (bb false)) (.ex 0, X32_0) (by simp) (by simp) ?_ (by simp) fu st h0 (by omega)
  intro i hi _
  have hw := wrap_succ (i := i) (by omega)
  have hp := wrap_pred (i := i) (by omega)
  have hi' : i - 1 < l.length := by omega
  simp [hi, hw, hp, hi']
  unfold okL
  generalize nth l 0 i = p
  generalize nth l 0 (i - 1) = q
  grind

theorem f32 (call : Oracle) (fuel : Nat) (hf : 1000 < fuel) (b : Bool) (l : List Int) (lo hi : Int) (hl : l.length ≤ 1000) : callF call fuel c32 [si b l, .v (.int .i64 lo), .v (.int .i64 hi)] = some (.v (.bool (!(List.range l.length).any (fun i => !okL l lo hi i)))) := by
  have e := loop32 call fuel b l lo hi hl fuel hf
  rw [callF_tab call fuel c32 8 _ (by exact Nat.le_of_ble_eq_true rfl) (by exact Nat.le_of_ble_eq_true rfl)]
  simp [c32]
  rw [e _ (by simp)]
  cases (List.range l.length).any (fun i => !okL l lo hi i) <;> simp

end Go.Mx
