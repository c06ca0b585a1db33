import Derived.Test.YtnmdjhmhdpiecaaSqW
/-
  Sequences: one more arc; the laws on further and on reversed arcs.
-/
namespace Go.Mx
set_option linter.unusedVariables false
set_option linter.unusedSimpArgs false
set_option linter.unusedSectionVars false
open Go

/-! ### arcs in order -/
def LtZ (p q : Int × Int) : Prop := p.1 < q.1 ∨ p.1 = q.1 ∧ p.2 < q.2
instance (p q : Int × Int) : Decidable (LtZ p q) := inferInstanceAs (Decidable (_ ∨ _))
theorem LtZ.trans {p q r : Int × Int} (h1 : LtZ p q) (h2 : LtZ q r) : LtZ p r := by unfold LtZ at *; omega
def OkP (n : Int) (p : Int × Int) : Prop := 0 ≤ p.1 ∧ p.1 < n ∧ 0 ≤ p.2 ∧ p.2 < n ∧ p.1 ≠ p.2
theorem valid_iff (n : Int) (a : List (Int × Int)) : validB n a = true ↔ 0 ≤ n ∧ n ≤ 24 ∧ (∀ p ∈ a, OkP n p) ∧ a.Pairwise LtZ := by
  constructor
  · intro h
    have hn := h
    unfold validB at hn
    simp only [Bool.and_eq_true, decide_eq_true_eq] at hn
    have hA : ∀ i, i < a.length → OkP n (nth a (0, 0) i) ∧ (0 < i → LtZ (nth a (0, 0) (i - 1)) (nth a (0, 0) i)) := by
      intro i hi
      have := valid_all h hi
      unfold okA at this
      simp only [Bool.and_eq_true, decide_eq_true_eq, Bool.not_eq_true', beq_eq_false_iff_ne, Bool.or_eq_true, beq_iff_eq, Bool.or_eq_false_iff, decide_eq_false_iff_not, Bool.and_eq_false_iff] at this
      refine ⟨⟨this.1.1.1.1.1, this.1.1.1.1.2, this.1.1.1.2, this.1.1.2, this.1.2⟩, fun h0 => ?_⟩
      unfold LtZ
      omega
    refine ⟨hn.1.1, hn.1.2, ?_, ?_⟩
    · intro p hp
      obtain ⟨i, hi, rfl⟩ := List.mem_iff_getElem.1 hp
      have := (hA i hi).1
      rwa [nth_get _ hi] at this
    · rw [List.pairwise_iff_getElem]
      have key : ∀ d i, i + d + 1 < a.length → LtZ (nth a (0, 0) i) (nth a (0, 0) (i + d + 1)) := by
        intro d
        induction d with
        | zero => intro i hi; exact (hA (i + 1) hi).2 (by omega)
        | succ d ih => intro i hi; exact (ih i (by omega)).trans ((hA (i + (d + 1) + 1) hi).2 (by omega))
      intro i j hi hj hij
      have := key (j - i - 1) i (by omega)
      rw [show i + (j - i - 1) + 1 = j by omega, nth_get _ hi, nth_get _ hj] at this
      exact this
  · rintro ⟨h1, h2, h3, h4⟩
    unfold validB
    simp only [Bool.and_eq_true, decide_eq_true_eq, Bool.not_eq_true']
    refine ⟨⟨h1, h2⟩, (any_range _ _).2 fun i hi => ?_⟩
    have h5 := h3 _ (nth_mem (0, 0) hi)
    have h6 : 0 < i → LtZ (nth a (0, 0) (i - 1)) (nth a (0, 0) i) := by
      intro h0
      have := List.pairwise_iff_getElem.1 h4 (i - 1) i (by omega) hi (by omega)
      rwa [nth_get _ hi, nth_get _ (by omega)]
    unfold OkP at h5
    unfold LtZ at h6
    unfold okA
    generalize nth a (0, 0) i = p at *
    generalize nth a (0, 0) (i - 1) = q at *
    by_cases h0 : i = 0
    · subst h0; simp [h5]
    · have h7 := h6 (by omega)
      have h8 : ¬ p.1 < q.1 := by omega
      have h9 : ¬ (p.1 = q.1 ∧ p.2 ≤ q.2) := by omega
      simp [h5, h0]
      omega

/-- Where a further arc goes. -/
def cutZ (a : List (Int × Int)) (x : Int × Int) : Nat := ((List.range a.length).find? fun i => !decide (LtZ (nth a (0, 0) i) x)).getD a.length
def insZ (a : List (Int × Int)) (x : Int × Int) : List (Int × Int) := a.take (cutZ a x) ++ [x] ++ a.drop (cutZ a x)
theorem cut_le (a : List (Int × Int)) (x : Int × Int) : cutZ a x ≤ a.length := by
  unfold cutZ
  cases h : (List.range a.length).find? fun i => !decide (LtZ (nth a (0, 0) i) x) with
  | none => exact Nat.le_refl _
  | some i => exact Nat.le_of_lt (List.mem_range.1 (List.mem_of_find?_eq_some h))
theorem cut_below {a : List (Int × Int)} {x : Int × Int} {i : Nat} (h : i < cutZ a x) : LtZ (nth a (0, 0) i) x := by
  have hl := cut_le a x
  unfold cutZ at h
  cases hf : (List.range a.length).find? fun i => !decide (LtZ (nth a (0, 0) i) x) with
  | none =>
    rw [hf] at h
    rw [List.find?_eq_none] at hf
    have := hf i (List.mem_range.2 h)
    simpa using this
  | some j =>
    rw [hf] at h
    have := (List.find?_range_eq_some.1 hf).2.2 i h
    simpa using this
theorem cut_at {a : List (Int × Int)} {x : Int × Int} (h : cutZ a x < a.length) : ¬ LtZ (nth a (0, 0) (cutZ a x)) x := by
  unfold cutZ at h ⊢
  cases hf : (List.range a.length).find? fun i => !decide (LtZ (nth a (0, 0) i) x) with
  | none => rw [hf] at h; exact absurd h (Nat.lt_irrefl _)
  | some j =>
    have := List.find?_some hf
    simpa using this
theorem ins_mem (a : List (Int × Int)) (x p : Int × Int) : p ∈ insZ a x ↔ p ∈ a ∨ p = x := by
  unfold insZ
  conv => rhs; rw [← List.take_append_drop (cutZ a x) a]
  simp only [List.mem_append, List.mem_singleton]
  grind
theorem ins_len (a : List (Int × Int)) (x : Int × Int) : (insZ a x).length = a.length + 1 := by
  have := cut_le a x
  unfold insZ
  simp
  omega
theorem ins_valid {n : Int} {a : List (Int × Int)} {x : Int × Int} (h : validB n a = true) (hx : OkP n x) (hne : x ∉ a) : validB n (insZ a x) = true := by
  rw [valid_iff] at h ⊢
  obtain ⟨h1, h2, h3, h4⟩ := h
  refine ⟨h1, h2, fun p hp => ?_, ?_⟩
  · rcases (ins_mem a x p).1 hp with hp | rfl
    · exact h3 p hp
    · exact hx
  · have hle := cut_le a x
    have e1 : ∀ p ∈ a.take (cutZ a x), LtZ p x := by
      intro p hp
      obtain ⟨i, hi, rfl⟩ := List.mem_iff_getElem.1 hp
      have hi' : i < cutZ a x := by rw [List.length_take] at hi; omega
      have := cut_below hi'
      rw [nth_get _ (by omega)] at this
      rw [List.getElem_take]
      exact this
    have e2 : ∀ q ∈ a.drop (cutZ a x), LtZ x q := by
      intro q hq
      obtain ⟨i, hi, rfl⟩ := List.mem_iff_getElem.1 hq
      rw [List.length_drop] at hi
      have hc : cutZ a x < a.length := by omega
      have h5 := cut_at hc
      rw [nth_get _ hc] at h5
      rw [List.getElem_drop]
      have h6 : a[cutZ a x] ≠ x := fun e => hne (e ▸ List.getElem_mem hc)
      have h7 : LtZ x a[cutZ a x] := by
        generalize a[cutZ a x] = q at *
        have : ¬ (q.1 = x.1 ∧ q.2 = x.2) := fun e => h6 (Prod.ext e.1 e.2)
        unfold LtZ at *
        omega
      by_cases h0 : i = 0
      · subst h0; exact h7
      · exact h7.trans (List.pairwise_iff_getElem.1 h4 (cutZ a x) (cutZ a x + i) hc (by omega) (by omega))
    have h5 := h4
    rw [← List.take_append_drop (cutZ a x) a, List.pairwise_append] at h5
    unfold insZ
    rw [List.append_assoc, List.pairwise_append]
    refine ⟨h5.1, ?_, ?_⟩
    · rw [List.singleton_append, List.pairwise_cons]
      exact ⟨e2, h5.2.1⟩
    · intro p hp q hq
      rw [List.singleton_append, List.mem_cons] at hq
      rcases hq with rfl | hq
      · exact e1 p hp
      · exact h5.2.2 p hp q hq

/-! ### with, count -/
abbrev xD (x : Int × Int) : D := .nd .ag [nV x.1, nV x.2]
theorem loop19 (call : Oracle) (fuel : Nat) (b : Bool) (a : List (Int × Int)) (hl : a.length ≤ 1000) (x : Int × Int) (fu : Nat) (hf : 1100 < fu) (st : St)
    (h0 : drops st h19_0 = L19_0 (.ro (sa b a)) (.own (.nd (.bx false) [nV x.1, nV x.2])) (ii 0)) :
    run.loopN (run call fuel b19_0) fu st = some (.ex 0, X19_0 (.ro (sa b a)) (.own (.nd (.bx false) [nV x.1, nV x.2])) (ii (cutZ a x))) := by
  have hF : run.loopN (run call fuel b19_0) fu st = some (((List.range a.length).find? fun i => !decide (LtZ (nth a (0, 0) i) x)).elim (.ex 0, X19_0 (.ro (sa b a)) (.own (.nd (.bx false) [nV x.1, nV x.2])) (ii a.length)) fun i => (.ex 0, X19_0 (.ro (sa b a)) (.own (.nd (.bx false) [nV x.1, nV x.2])) (ii i))) := by
    refine loop_find call fuel h19_0 _ a.length (fun i => !decide (LtZ (nth a (0, 0) i) x)) (fun i => L19_0 (.ro (sa b a)) (.own (.nd (.bx false) [nV x.1, nV x.2])) (ii i)) (fun i => (.ex 0, X19_0 (.ro (sa b a)) (.own (.nd (.bx false) [nV x.1, nV x.2])) (ii i))) (.ex 0, X19_0 (.ro (sa b a)) (.own (.nd (.bx false) [nV x.1, nV x.2])) (ii a.length)) (by simp) (fun _ => by simp) ?_ ?_ fu st h0 (by omega)
    · intro i hi _
      have hw := wrap_succ (i := i) (by omega)
      obtain ⟨y, z⟩ := x
      unfold LtZ
      simp [hi, hw]
      generalize nth a (0, 0) i = p
      grind
    · intro _
      simp
  refine hF.trans ?_
  unfold cutZ
  cases (List.range a.length).find? fun i => !decide (LtZ (nth a (0, 0) i) x) <;> rfl
@[simp] theorem A_slR (lo hi : Option Nat) (b : Bool) (l : List (Int × Int)) : slR 2 lo hi (gsl eA b l) = if lo.getD 0 ≤ hi.getD l.length ∧ hi.getD l.length ≤ l.length then some (.ro (gsl eA b ((l.drop (lo.getD 0)).take (hi.getD l.length - lo.getD 0)))) else none := slR_ge eA lo hi b l
@[simp] theorem A_apZ (b : Bool) (l : List (Int × Int)) : apZ 2 (gsl eA b l) = if l.length ≤ most then some (.own (gsl eA false l)) else none := apZ_ge eA b l (sc_A l)
@[simp] theorem aggV2 (r : Nat) (p : List Nat) (x y : Value) : aggV r p [.v x, .v y] 0 2 = some (.ro (.nd .ag [.v x, .v y])) := rfl
theorem f19 (call : Oracle) (fuel : Nat) (hF : 1100 < fuel) (b : Bool) (a : List (Int × Int)) (hl : a.length ≤ 1000) (x : Int × Int) : callF call fuel c19 [sa b a, xD x] = some (sa false (insZ a x)) := by
  have hL := loop19 call fuel b a hl x fuel hF
  have hc := cut_le a x
  have hm : a.length + 2 ≤ most := by unfold most; omega
  rw [callF_tab call fuel c19 6 _ (by exact Nat.le_of_ble_eq_true rfl) (by exact Nat.le_of_ble_eq_true rfl)]
  unfold insZ
  generalize cutZ a x = k at *
  simp [c19]
  rw [hL _ (by simp)]
  have h1 : a.length ≤ most := by omega
  have h2 : k ≤ most := by omega
  have h3 : k + 1 ≤ most := by omega
  have h4 : k + (a.length - k) + 1 ≤ most := by omega
  have h5 : (a.drop k).take (a.length - k) = a.drop k := List.take_of_length_le (by simp)
  have h6 := A_apD false (a.take k ++ [(x.1, x.2)]) (a.drop k)
  rw [if_pos (by simp; omega), List.length_drop] at h6
  simp only [Bool.false_and] at h6
  simp [hc, h1, h2, h3, h4, h5, h6]
end Go.Mx
