import Derived.Test.YtnmdjhmhdpiecaaSqA
import Derived.Test.YtnmdjhmhdpiecaaMxYb
/-
  Digraphs: what the sequences use of chapter 6.
-/
namespace Go.Mx
set_option linter.unusedVariables false
set_option linter.unusedSimpArgs false
set_option linter.unusedSectionVars false
open Go
/-- Arcs. -/
def eA : En (Int × Int) where
  es := 2
  enc p := [.v (.int .i64 p.1), .v (.int .i64 p.2)]
  d := (0, 0)
  pos := by decide
  len _ := rfl
  flat _ := rfl
abbrev sa (b : Bool) (l : List (Int × Int)) : D := gsl eA b l

section
variable (l : List (Int × Int)) (i : Nat)
@[simp] theorem A_elP (r : Nat) (p : List Nat) (b : Bool) : elP r p 2 i (gsl eA b l) = if i < l.length then some (.ad r p (i * 2)) else none := elP_ge eA r p i b l
@[simp] theorem A_elR (b : Bool) : elR 2 i (gsl eA b l) = if i < l.length then some (.rad (gk eA l) (i * 2)) else none := elR_ge eA i b l
@[simp high] theorem A_cell0 : (gk eA l)[i * 2]? = if i < l.length then some (.v (.int .i64 (nth l (0, 0) i).1)) else none := gk_cell eA l i 0 (by decide)
@[simp high] theorem A_cell1 : (gk eA l)[i * 2 + 1]? = if i < l.length then some (.v (.int .i64 (nth l (0, 0) i).2)) else none := gk_cell eA l i 1 (by decide)
@[simp] theorem A_aggR : aggR (gk eA l) (i * 2) 2 = if i < l.length then some (.ro (.nd .ag [.v (.int .i64 (nth l (0, 0) i).1), .v (.int .i64 (nth l (0, 0) i).2)])) else none := aggR_ge eA i l
@[simp] theorem A_aggV (r : Nat) (p : List Nat) : aggV r p (gk eA l) (i * 2) 2 = if i < l.length then some (.ro (.nd .ag [.v (.int .i64 (nth l (0, 0) i).1), .v (.int .i64 (nth l (0, 0) i).2)])) else none := agg_ge eA r p i l rfl
@[simp] theorem A_apD1 (b : Bool) (x y : Int) : apD 2 1 [.v (.int .i64 x), .v (.int .i64 y)] (gsl eA b l) = if l.length + 1 ≤ most then some (gsl eA false (l ++ [(x, y)])) else none := by
  show apD eA.es [(x, y)].length (gk eA [(x, y)]) (gsl eA b l) = _
  rw [apD_ge]; simp
end
theorem sc_A (l : List (Int × Int)) : (gk eA l).all isSc = true := by
  induction l with
  | nil => rfl
  | cons a l ih => exact ih
@[simp] theorem A_apS (st : St) (v : V) (b : Bool) (l : List (Int × Int)) : apS st 2 v (gsl eA b l) = some (l.length, gk eA l, st) := apS_ge eA st v b l (sc_A l)
@[simp] theorem A_apD (b : Bool) (l m : List (Int × Int)) : apD 2 m.length (gk eA m) (gsl eA b l) = if l.length + m.length ≤ most then some (gsl eA (b && m.length == 0) (l ++ m)) else none := apD_ge eA b l m

@[simp] theorem A_fold (b : Bool) (l : List (Int × Int)) : T.nd (K.sl b 2 l.length) (gk eA l) = gsl eA b l := rfl

theorem loop17 (call : Oracle) (fuel : Nat) (b c : Bool) (l m : List Int) (hl : l.length ≤ 1000) (hm : m.length = l.length) (fu : Nat) (hf : 1000 < fu) (st : St) (h0 : drops st h17_0 = L17_0 (.ro (si b l)) (.ro (si c m)) (ii 0)) :
    run.loopN (run call fuel b17_0) fu st = some (if (List.range l.length).any (fun i => nth l 0 i != nth m 0 i) = true then (.ret, R17 (bb false)) else (.ex 0, X17_0)) := by
  refine loop_any call fuel h17_0 _ l.length (fun i => nth l 0 i != nth m 0 i) (fun i => L17_0 (.ro (si b l)) (.ro (si c m)) (ii i)) (.ret, R17 (bb false)) (.ex 0, X17_0) (by simp) (by simp) ?_ (by simp) fu st h0 (by omega)
  intro i hi _
  have hw := wrap_succ (i := i) (by omega)
  simp [hi, hw, hm]

/-- Ints. -/
theorem f17 (call : Oracle) (fuel : Nat) (hf : 1000 < fuel) (b c : Bool) (l m : List Int) (hl : l.length ≤ 1000) : callF call fuel c17 [si b l, si c m] = some (.v (.bool (l == m))) := by
  rw [callF_tab call fuel c17 6 _ (by exact Nat.le_of_ble_eq_true rfl) (by exact Nat.le_of_ble_eq_true rfl)]
  by_cases hm : m.length = l.length
  · have e := loop17 call fuel b c l m hl hm fuel hf
    rw [any_ne l m 0 hm.symm] at e
    simp [c17, hm]
    rw [e _ (by simp)]
    cases (l == m) <;> simp
  · have h1 : (l == m) = false := by
      rw [beq_eq_false_iff_ne]; rintro rfl; exact hm rfl
    have h2 : ¬ (l.length : Int) = (m.length : Int) := by omega
    simp [c17, h1, h2]

def okA (n : Int) (a : List (Int × Int)) (i : Nat) : Bool :=
  let p := nth a (0, 0) i
  let q := nth a (0, 0) (i - 1)
  decide (0 ≤ p.1) && decide (p.1 < n) && decide (0 ≤ p.2) && decide (p.2 < n) && !(p.1 == p.2) && (i == 0 || !(decide (p.1 < q.1) || (p.1 == q.1) && decide (p.2 ≤ q.2)))

theorem loop46 (call : Oracle) (fuel : Nat) (b : Bool) (n : Int) (a : List (Int × Int)) (hl : a.length ≤ 1000) (fu : Nat) (hf : 1000 < fu) (st : St) (h0 : drops st h46_0 = L46_0 (ii n) (.ro (sa b a)) (ii 0)) :
    run.loopN (run call fuel b46_0) fu st = some (if (List.range a.length).any (fun i => !okA n a i) = true then (.ret, R46 (bb false)) else (.ex 0, X46_0)) := by
  refine loop_any call fuel h46_0 _ a.length (fun i => !okA n a i) (fun i => L46_0 (ii n) (.ro (sa b a)) (ii i)) (.ret, R46 (bb false)) (.ex 0, X46_0) (by simp) (by simp) ?_ (by simp) fu st h0 (by omega)
  intro i hi _
  have hw := wrap_succ (i := i) (by omega)
  have hp := wrap_pred (i := i) (by omega)
  have hi' : i - 1 < a.length := by omega
  simp [hi, hw, hp, hi']
  unfold okA
  generalize nth a (0, 0) i = p
  generalize nth a (0, 0) (i - 1) = q
  grind

/-- Is it a digraph? -/
def validB (n : Int) (a : List (Int × Int)) : Bool := decide (0 ≤ n) && decide (n ≤ 24) && !(List.range a.length).any (fun i => !okA n a i)

theorem valid_all {n : Int} {a : List (Int × Int)} (h : validB n a = true) {i : Nat} (hi : i < a.length) : okA n a i = true := by
  simp only [validB, Bool.and_eq_true, Bool.not_eq_true'] at h
  have := (any_range _ _).1 h.2 i hi
  simpa using this

/-- There are at most as many arcs as pairs. -/
theorem valid_len {n : Int} {a : List (Int × Int)} (h : validB n a = true) : (a.length : Int) ≤ n * n := by
  have key : ∀ i : Nat, i < a.length → (i : Int) ≤ (nth a (0, 0) i).1 * n + (nth a (0, 0) i).2 := by
    intro i
    induction i with
    | zero =>
      intro hi
      have := valid_all h hi
      simp only [okA, Bool.and_eq_true, decide_eq_true_eq, Bool.not_eq_true'] at this
      obtain ⟨⟨⟨⟨⟨h1, h2⟩, h3⟩, h4⟩, _⟩, _⟩ := this
      have : 0 ≤ (nth a (0, 0) 0).1 * n := Int.mul_nonneg h1 (by omega)
      simp; omega
    | succ i ih =>
      intro hi
      have h0 := ih (by omega)
      have := valid_all h hi
      have hb := valid_all h (i := i) (by omega)
      simp only [okA, Bool.and_eq_true, decide_eq_true_eq, Bool.not_eq_true', Nat.add_sub_cancel] at this hb
      obtain ⟨⟨⟨⟨⟨h1, h2⟩, h3⟩, h4⟩, _⟩, h5⟩ := this
      obtain ⟨⟨⟨⟨⟨g1, g2⟩, g3⟩, g4⟩, _⟩, _⟩ := hb
      generalize nth a (0, 0) (i + 1) = p at *
      generalize nth a (0, 0) i = q at *
      have h5' : ¬ p.1 < q.1 ∧ (p.1 = q.1 → q.2 < p.2) := by
        simp at h5
        omega
      rcases Int.lt_trichotomy q.1 p.1 with h6 | h6 | h6
      · have : (q.1 + 1) * n ≤ p.1 * n := Int.mul_le_mul_of_nonneg_right (by omega) (by omega)
        rw [Int.add_mul] at this
        push_cast
        omega
      · have := h5'.2 h6.symm
        rw [h6] at h0
        push_cast
        omega
      · omega
  rcases Nat.eq_zero_or_pos a.length with h0 | h0
  · have : 0 ≤ n := by
      simp only [validB, Bool.and_eq_true, decide_eq_true_eq] at h
      exact h.1.1
    rw [h0]; exact Int.mul_nonneg this this
  · have h1 := key (a.length - 1) (by omega)
    have := valid_all h (i := a.length - 1) (by omega)
    simp only [okA, Bool.and_eq_true, decide_eq_true_eq, Bool.not_eq_true'] at this
    obtain ⟨⟨⟨⟨⟨h2, h3⟩, h4⟩, h5⟩, _⟩, _⟩ := this
    generalize nth a (0, 0) (a.length - 1) = p at *
    have : (p.1 + 1) * n ≤ n * n := Int.mul_le_mul_of_nonneg_right (by omega) (by omega)
    rw [Int.add_mul] at this
    omega

theorem f46 (call : Oracle) (fuel : Nat) (hf : 1000 < fuel) (b : Bool) (n : Int) (a : List (Int × Int)) (hl : a.length ≤ 1000) : callF call fuel c46 [.v (.int .i64 n), sa b a] = some (.v (.bool (validB n a))) := by
  have e := loop46 call fuel b n a hl fuel hf
  have hlen := @valid_len n a
  rw [callF_tab call fuel c46 6 _ (by exact Nat.le_of_ble_eq_true rfl) (by exact Nat.le_of_ble_eq_true rfl)]
  by_cases c1 : n < 0
  · have : validB n a = false := by
      simp only [validB, Bool.and_eq_false_iff, decide_eq_false_iff_not]; omega
    simp [c46, c1, this]
  by_cases c2 : 24 < n
  · have : validB n a = false := by
      simp only [validB, Bool.and_eq_false_iff, decide_eq_false_iff_not]; omega
    simp [c46, c1, c2, this]
  have hsq : n * n ≤ 576 := by
    have : n * n ≤ 24 * 24 := Int.mul_le_mul (by omega) (by omega) (by omega) (by omega)
    omega
  have hsq0 : 0 ≤ n * n := Int.mul_nonneg (by omega) (by omega)
  have hw : IntKind.i64.wrap (n * n) = n * n := wrap_eq (by unfold I64; omega)
  by_cases c3 : n * n < (a.length : Int)
  · have : validB n a = false := by
      rw [Bool.eq_false_iff]
      intro hv
      have := hlen hv
      omega
    simp [c46, c1, c2, c3, hw, this]
  · simp [c46, c1, c2, c3, hw]
    rw [e _ (by simp)]
    unfold validB
    have d1 : 0 ≤ n := by omega
    have d2 : n ≤ 24 := by omega
    cases (List.range a.length).any (fun i => !okA n a i) <;> simp [d1, d2]

theorem loop44 (call : Oracle) (fuel : Nat) (b : Bool) (n : Int) (a : List (Int × Int)) (hl : a.length ≤ 1000) (fu : Nat) (hf : 1000 < fu) (st : St) (h0 : drops st h44_0 = L44_0 (ii n) (.ro (sa b a)) (.ro (sa b a)) (ii a.length) (ii 0)) :
    run.loopN (run call fuel b44_0) fu st = some (if (List.range a.length).any (fun i => !okA n a i) = true then (.ret, R44 (bb false)) else (.ex 0, X44_0)) := by
  refine loop_any call fuel h44_0 _ a.length (fun i => !okA n a i) (fun i => L44_0 (ii n) (.ro (sa b a)) (.ro (sa b a)) (ii a.length) (ii i)) (.ret, R44 (bb false)) (.ex 0, X44_0) (by simp) (by simp) ?_ (by simp) fu st h0 (by omega)
  intro i hi _
  have hw := wrap_succ (i := i) (by omega)
  have hp := wrap_pred (i := i) (by omega)
  have hi' : i - 1 < a.length := by omega
  simp [hi, hw, hp, hi']
  unfold okA
  generalize nth a (0, 0) i = p
  generalize nth a (0, 0) (i - 1) = q
  grind

theorem f44 (call : Oracle) (fuel : Nat) (hf : 1000 < fuel) (b : Bool) (n : Int) (a : List (Int × Int)) (hl : a.length ≤ 1000) : callF call fuel c44 [.v (.int .i64 n), sa b a] = some (.v (.bool (validB n a))) := by
  have e := loop44 call fuel b n a hl fuel hf
  rw [callF_tab call fuel c44 16 _ (by exact Nat.le_of_ble_eq_true rfl) (by exact Nat.le_of_ble_eq_true rfl)]
  simp [c44]
  rw [e _ (by simp)]
  unfold validB
  cases (List.range a.length).any (fun i => !okA n a i) <;> simp <;> grind

theorem f38 (call : Oracle) (fuel : Nat) (b : Bool) (n : Int) (a : List (Int × Int)) (h : call 46 [.v (.int .i64 n), sa b a] = some (.v (.bool (validB n a)))) : callF call fuel c38 [.v (.int .i64 n), sa b a] = some (.v (.bool (validB n a))) := by
  rw [callF_tab call fuel c38 5 _ (by exact Nat.le_of_ble_eq_true rfl) (by exact Nat.le_of_ble_eq_true rfl)]
  simp [c38, h]

/-- Are numbers strictly ascending, from low to high? -/
def okL (l : List Int) (lo hi : Int) (i : Nat) : Bool := decide (lo ≤ nth l 0 i) && decide (nth l 0 i ≤ hi) && (i == 0 || decide (nth l 0 (i - 1) < nth l 0 i))

abbrev NA := List (Nat × Nat)
/-- Arcs of numbers. -/
def arcZ (p : Nat × Nat) : Int × Int := ((p.1 : Int), (p.2 : Int))
def arcsZ (a : NA) : List (Int × Int) := a.map arcZ
@[simp] theorem arcsZ_len (a : NA) : (arcsZ a).length = a.length := by simp [arcsZ]
@[simp] theorem arcsZ_nth (a : NA) (i : Nat) : nth (arcsZ a) (0, 0) i = (((nth a (0, 0) i).1 : Int), ((nth a (0, 0) i).2 : Int)) := nth_map arcZ a (0, 0) i

/-- A row of sets. -/
def zr (n : Nat) (g : Nat → Nat) : List Int := row n (fun i => (g i : Int))
@[simp] theorem zr_len (n : Nat) (g : Nat → Nat) : (zr n g).length = n := row_len _ _
theorem zr_nth (n : Nat) (g : Nat → Nat) {i : Nat} (h : i < n) : nth (zr n g) 0 i = (g i : Int) := nth_row _ _ _ h
@[simp] theorem zr_set (n : Nat) (g : Nat → Nat) (i y : Nat) : (zr n g).set i (y : Int) = zr n (updF g i y) := by
  unfold zr
  rw [row_set]
  congr 1
  funext j
  simp only [updF]
  split <;> rfl
theorem zr_ext {n : Nat} {g h : Nat → Nat} (e : ∀ i, i < n → g i = h i) : zr n g = zr n h := row_ext _ fun i hi => by rw [e i hi]
abbrev su (n : Nat) (g : Nat → Nat) : D := gsl (eI .u32) false (zr n g)

theorem f50 (call : Oracle) (fuel : Nat) (s t : Nat) (hs : s < 2 ^ 32) (ht : t < 32) : callF call fuel c50 [.v (.int .u32 (s : Int)), .v (.int .i64 (t : Int))] = some (.v (.bool (s.testBit t))) := by
  rw [callF_tab call fuel c50 5 _ (by exact Nat.le_of_ble_eq_true rfl) (by exact Nat.le_of_ble_eq_true rfl)]
  have h1 := bits_shr .u32 s t (by simpa [IntKind.bits] using Nat.le_of_lt ht)
  have h2 := bits_bit .u32 hs t
  simp [c50, h1, h2]
  cases s.testBit t <;> rfl

def addArc (g : Nat → Nat) (p : Nat × Nat) : Nat → Nat := updF g p.1 (g p.1 ||| pw p.2)
def nextG (a : NA) : Nat → Nat := a.foldl addArc fun _ => 0

theorem take_succ_nth {α : Type} {l : List α} {i : Nat} (d : α) (h : i < l.length) : l.take (i + 1) = l.take i ++ [nth l d i] := by
  rw [nth_get d h, List.take_succ_eq_append_getElem h]

theorem foldl_take {α β : Type} (f : β → α → β) (b : β) {l : List α} {i : Nat} (d : α) (h : i < l.length) : (l.take (i + 1)).foldl f b = f ((l.take i).foldl f b) (nth l d i) := by
  rw [take_succ_nth d h, List.foldl_append]; rfl

theorem nextG_lt {n : Nat} (hn : n ≤ 32) {a : NA} (h : ∀ p ∈ a, p.1 < n ∧ p.2 < n) (i : Nat) : nextG a i < 2 ^ 32 := by
  suffices ∀ (a : NA) (g : Nat → Nat), (∀ p ∈ a, p.1 < n ∧ p.2 < n) → (∀ i, g i < 2 ^ 32) → ∀ i, a.foldl addArc g i < 2 ^ 32 from this a _ h (fun _ => by simp) i
  intro a
  induction a with
  | nil => intro g _ hg i; exact hg i
  | cons p a ih =>
    intro g h hg i
    apply ih
    · exact fun q hq => h q (List.mem_cons_of_mem _ hq)
    · intro j
      unfold addArc updF
      split
      · exact Nat.or_lt_two_pow (hg _) (pw_lt (by have := (h p (List.mem_cons_self ..)).2; omega))
      · exact hg j

theorem loop51 (call : Oracle) (fuel : Nat) (b : Bool) (n : Nat) (hn : n ≤ 24) (a : NA) (hv : ∀ p ∈ a, p.1 < n ∧ p.2 < n) (hl : a.length ≤ 1000) (fu : Nat) (hf : 1000 < fu) (st : St)
    (h0 : drops st h51_0 = L51_0 (.ro (sa b (arcsZ a))) (.own (su n fun _ => 0)) (.ro (sa b (arcsZ a))) (ii a.length) (ii 0)) :
    run.loopN (run call fuel b51_0) fu st = some (.ex 0, X51_0 (.own (su n (nextG a)))) := by
  refine loop_cnt call fuel h51_0 _ a.length (fun i => L51_0 (.ro (sa b (arcsZ a))) (.own (su n (nextG (a.take i)))) (.ro (sa b (arcsZ a))) (ii a.length) (ii i)) (.ex 0, X51_0 (.own (su n (nextG a)))) (by simp) ?_ (by simp) fu st h0 (by omega)
  intro i hi
  have hw := wrap_succ (i := i) (by omega)
  obtain ⟨h1, h2⟩ := hv _ (nth_mem (0, 0) hi)
  have hs : nextG (a.take (i + 1)) = _ := foldl_take addArc _ (0, 0) hi
  have hb : ∀ j, nextG (a.take i) j < 2 ^ 32 := nextG_lt (by omega) fun p hp => hv p (List.mem_of_mem_take hp)
  rw [hs]
  change _ = some (Ex.norm, L51_0 _ (.own (su n (addArc (nextG (a.take i)) (nth a (0, 0) i)))) _ _ _)
  generalize nextG (a.take i) = g at *
  generalize hp : nth a (0, 0) i = p at *
  obtain ⟨f, t⟩ := p
  simp only at h1 h2
  have e1 := zr_nth n g h1
  have e2 := bits_shl1 .u32 (t := t) (Nat.lt_of_lt_of_le h2 (Nat.le_trans hn (by decide)))
  have e3 := bits_or .u32 (hb f) (b := pw t) (pw_lt (m := 32) (by omega))
  simp [hi, hw, hp, h1, h2, e1, e2, e3, addArc]

theorem f51 (call : Oracle) (fuel : Nat) (hf : 1000 < fuel) (b : Bool) (n : Nat) (hn : n ≤ 24) (a : NA) (hv : ∀ p ∈ a, p.1 < n ∧ p.2 < n) (hl : a.length ≤ 1000) :
    callF call fuel c51 [.v (.int .i64 (n : Int)), sa b (arcsZ a)] = some (su n (nextG a)) := by
  have e := loop51 call fuel b n hn a hv hl fuel hf
  have h0 : (List.replicate n (0 : Int)) = zr n fun _ => 0 := row_rep n 0
  have hm : n ≤ most := by unfold most; omega
  rw [callF_tab call fuel c51 13 _ (by exact Nat.le_of_ble_eq_true rfl) (by exact Nat.le_of_ble_eq_true rfl)]
  simp [c51, h0, hm]
  rw [e _ (by simp)]
  simp

def stp (g : Nat → Nat) (m : Nat) : Nat → Nat := fun j => if (g j).testBit m then g j ||| g m else g j
def warr (g : Nat → Nat) : Nat → Nat → Nat
  | 0 => g
  | k + 1 => stp (warr g k) k
def prt (g : Nat → Nat) (m i : Nat) : Nat → Nat := fun j => if j < i then stp g m j else g j

theorem stp_lt {g : Nat → Nat} (h : ∀ i, g i < 2 ^ 32) (m i : Nat) : stp g m i < 2 ^ 32 := by
  unfold stp
  split
  · exact Nat.or_lt_two_pow (h _) (h _)
  · exact h i

theorem warr_lt {g : Nat → Nat} (h : ∀ i, g i < 2 ^ 32) (k i : Nat) : warr g k i < 2 ^ 32 := by
  induction k generalizing i with
  | zero => exact h i
  | succ k ih => exact stp_lt ih k i

theorem prt_lt {g : Nat → Nat} (h : ∀ i, g i < 2 ^ 32) (m k i : Nat) : prt g m k i < 2 ^ 32 := by
  unfold prt
  split
  · exact stp_lt h m i
  · exact h i

theorem prt_m (g : Nat → Nat) (m i : Nat) : prt g m i m = g m := by simp [prt, stp]
theorem prt_i (g : Nat → Nat) (m i : Nat) : prt g m i i = g i := by simp [prt]
theorem prt_succ (g : Nat → Nat) (m i : Nat) : prt g m (i + 1) = if (g i).testBit m then updF (prt g m i) i (g i ||| g m) else prt g m i := by
  funext j
  by_cases hb : (g i).testBit m = true
  · simp only [hb, if_true, updF, prt]
    by_cases hj : j = i
    · subst hj; simp [stp, hb]
    · have : (j < i + 1) ↔ j < i := by omega
      simp [hj, this]
  · simp only [hb, prt]
    by_cases hj : j = i
    · subst hj; simp [stp, hb, prt]
    · have : (j < i + 1) ↔ j < i := by omega
      simp [this, prt]

/-- What 'has' returns. -/
def Bit28 (call : Oracle) : Prop := ∀ s t : Nat, s < 2 ^ 32 → t < 32 → call 50 [.v (.int .u32 (s : Int)), .v (.int .i64 (t : Int))] = some (.v (.bool (s.testBit t)))

theorem loop49_1 (call : Oracle) (fuel : Nat) (n : Nat) (hn : n ≤ 24) (g : Nat → Nat) (hg : ∀ i, g i < 2 ^ 32) (m : Nat) (hm : m < n) (h50 : Bit28 call) (fu : Nat) (hf : 1000 < fu) (st : St)
    (h0 : drops st h49_1 = L49_1 (ii n) (.own (su n g)) (ii m) (ii n) (ii m) (ii n) (ii 0)) :
    run.loopN (run call fuel b49_1) fu st = some (.ex 2, X49_2 (ii n) (.own (su n (stp g m))) (ii n) (ii m)) := by
  have he : su n (prt g m n) = su n (stp g m) := congrArg (gsl (eI .u32) false) (zr_ext fun j hj => by simp [prt, hj])
  have hz : prt g m 0 = g := by funext j; simp [prt]
  refine loop_cnt call fuel h49_1 _ n (fun i => L49_1 (ii n) (.own (su n (prt g m i))) (ii m) (ii n) (ii m) (ii n) (ii i)) _ (by simp) ?_ (by simp [he]) fu st (by rw [hz]; exact h0) (by omega)
  intro i hi
  have hw := wrap_succ (i := i) (by omega)
  have e1 := zr_nth n (prt g m i) hi
  have e2 := zr_nth n (prt g m i) hm
  have e3 := bits_or .u32 (hg i) (hg m)
  have e4 := h50 (g i) m (hg i) (by omega)
  have hs := prt_succ g m i
  rw [prt_i] at e1
  rw [prt_m] at e2
  rw [hs]
  generalize prt g m i = p at *
  cases hb : (g i).testBit m <;> rw [hb] at e4 <;> simp [hi, hm, hw, e1, e2, e3, e4]

theorem loop49_0 (call : Oracle) (fuel : Nat) (hf : 1000 < fuel) (n : Nat) (hn : n ≤ 24) (g : Nat → Nat) (hg : ∀ i, g i < 2 ^ 32) (h50 : Bit28 call) (st : St)
    (h0 : drops st h49_0 = L49_0 (ii n) (.own (su n g)) (ii n) (ii 0)) :
    run.loopN (run call fuel b49_0) fuel st = some (.ex 0, X49_0 (.own (su n (warr g n)))) := by
  refine loop_cnt call fuel h49_0 _ n (fun i => L49_0 (ii n) (.own (su n (warr g i))) (ii n) (ii i)) _ (by simp) ?_ (by simp) fuel st h0 (by omega)
  intro i hi
  have hw := wrap_succ (i := i) (by omega)
  have e := loop49_1 call fuel n hn (warr g i) (warr_lt hg i) i hi h50 fuel hf
  simp [hi]
  rw [e _ (by simp)]
  simp [hw, warr]

theorem f49 (call : Oracle) (fuel : Nat) (hf : 1000 < fuel) (b : Bool) (n : Nat) (hn : n ≤ 24) (a : NA) (hv : ∀ p ∈ a, p.1 < n ∧ p.2 < n) (h50 : Bit28 call)
    (h51 : call 51 [.v (.int .i64 (n : Int)), sa b (arcsZ a)] = some (su n (nextG a))) :
    callF call fuel c49 [.v (.int .i64 (n : Int)), sa b (arcsZ a)] = some (su n (warr (nextG a) n)) := by
  have e := loop49_0 call fuel hf n hn (nextG a) (nextG_lt (by omega) hv) h50
  rw [callF_tab call fuel c49 17 _ (by exact Nat.le_of_ble_eq_true rfl) (by exact Nat.le_of_ble_eq_true rfl)]
  simp [c49, h51]
  rw [e _ (by simp)]
  simp

theorem loop48 (call : Oracle) (fuel : Nat) (n : Nat) (hn : n ≤ 24) (g : Nat → Nat) (hg : ∀ i, g i < 2 ^ 32) (h50 : Bit28 call) (fu : Nat) (hf : 1000 < fu) (st : St)
    (h0 : drops st h48_0 = L48_0 (.ro (su n g)) (.ro (su n g)) (ii n) (ii 0)) :
    run.loopN (run call fuel b48_0) fu st = some (if (List.range n).any (fun i => (g i).testBit i) = true then (.ret, R48 (bb false)) else (.ex 0, X48_0)) := by
  refine loop_any call fuel h48_0 _ n (fun i => (g i).testBit i) (fun i => L48_0 (.ro (su n g)) (.ro (su n g)) (ii n) (ii i)) _ _ (by simp) (by simp) ?_ (by simp) fu st h0 (by omega)
  intro i hi _
  have hw := wrap_succ (i := i) (by omega)
  have e1 := zr_nth n g hi
  have e4 := h50 (g i) i (hg i) (by omega)
  cases hb : (g i).testBit i <;> rw [hb] at e4 <;> simp [hi, hw, e1, e4]

theorem f48 (call : Oracle) (fuel : Nat) (hf : 1000 < fuel) (n : Nat) (hn : n ≤ 24) (g : Nat → Nat) (hg : ∀ i, g i < 2 ^ 32) (h50 : Bit28 call) :
    callF call fuel c48 [su n g] = some (.v (.bool (!(List.range n).any (fun i => (g i).testBit i)))) := by
  have e := loop48 call fuel n hn g hg h50 fuel hf
  rw [callF_tab call fuel c48 8 _ (by exact Nat.le_of_ble_eq_true rfl) (by exact Nat.le_of_ble_eq_true rfl)]
  simp [c48]
  rw [e _ (by simp)]
  cases (List.range n).any (fun i => (g i).testBit i) <;> simp


def natA (a : List (Int × Int)) : NA := a.map fun p => (p.1.toNat, p.2.toNat)

theorem valid_nat {n : Int} {a : List (Int × Int)} (h : validB n a = true) : ∃ k : Nat, n = (k : Int) ∧ k ≤ 24 ∧ a = arcsZ (natA a) ∧ (∀ p ∈ natA a, p.1 < k ∧ p.2 < k ∧ p.1 ≠ p.2) := by
  have hall : ∀ p ∈ a, 0 ≤ p.1 ∧ p.1 < n ∧ 0 ≤ p.2 ∧ p.2 < n ∧ p.1 ≠ p.2 := by
    intro p hp
    obtain ⟨i, hi, rfl⟩ := List.mem_iff_getElem.1 hp
    have := valid_all h hi
    simp only [okA, nth_get (0, 0) hi, Bool.and_eq_true, decide_eq_true_eq, Bool.not_eq_true', beq_eq_false_iff_ne] at this
    exact ⟨this.1.1.1.1.1, this.1.1.1.1.2, this.1.1.1.2, this.1.1.2, this.1.2⟩
  have h' := h
  simp only [validB, Bool.and_eq_true, decide_eq_true_eq] at h'
  obtain ⟨⟨h1, h2⟩, _⟩ := h'
  refine ⟨n.toNat, by omega, by omega, ?_, ?_⟩
  · unfold arcsZ natA
    rw [List.map_map]
    conv => lhs; rw [← List.map_id a]
    apply List.map_congr_left
    intro p hp
    obtain ⟨g1, _, g2, _, _⟩ := hall p hp
    simp only [Function.comp, id, arcZ]
    ext <;> simp <;> omega
  · intro p hp
    unfold natA at hp
    obtain ⟨q, hq, rfl⟩ := List.mem_map.1 hp
    obtain ⟨g1, g2, g3, g4, g5⟩ := hall q hq
    simp only
    omega

/-- What is reached, for a valid digraph. -/
def rea (n : Int) (a : List (Int × Int)) : Nat → Nat := warr (nextG (natA a)) n.toNat

/-- What 'reach' returns for valid digraphs. -/
def Reach31 (call : Oracle) : Prop := ∀ (b : Bool) (n : Int) (a : List (Int × Int)), validB n a = true → a.length ≤ 1000 → call 49 [.v (.int .i64 n), sa b a] = some (su n.toNat (rea n a))

theorem rea_lt {n : Int} {a : List (Int × Int)} (h : validB n a = true) (i : Nat) : rea n a i < 2 ^ 32 := by
  obtain ⟨k, rfl, h1, h2, h3⟩ := valid_nat h
  exact warr_lt (nextG_lt (n := k) (by omega) fun p hp => ⟨(h3 p hp).1, (h3 p hp).2.1⟩) _ _

/-- What Reaches says. -/
def reachZ (n : Int) (a : List (Int × Int)) (i j : Int) : Bool :=
  validB n a && decide (0 ≤ i) && decide (i < n) && decide (0 ≤ j) && decide (j < n) && (rea n a i.toNat).testBit j.toNat

/-- Is it acyclic? -/
def acyB (n : Int) (a : List (Int × Int)) : Bool := validB n a && !(List.range n.toNat).any (fun i => (rea n a i).testBit i)

theorem f45 (call : Oracle) (fuel : Nat) (b : Bool) (n : Int) (a : List (Int × Int)) (hl : a.length ≤ 1000)
    (h44 : call 44 [.v (.int .i64 n), sa b a] = some (.v (.bool (validB n a)))) (h49 : Reach31 call)
    (h48 : ∀ (k : Nat) (g : Nat → Nat), k ≤ 24 → (∀ i, g i < 2 ^ 32) → call 48 [su k g] = some (.v (.bool (!(List.range k).any (fun i => (g i).testBit i))))) :
    callF call fuel c45 [.v (.int .i64 n), sa b a] = some (.v (.bool (acyB n a))) := by
  rw [callF_tab call fuel c45 5 _ (by exact Nat.le_of_ble_eq_true rfl) (by exact Nat.le_of_ble_eq_true rfl)]
  by_cases hv : validB n a = true
  · have e := h49 b n a hv hl
    obtain ⟨k, hk, hk2, _⟩ := valid_nat hv
    have e2 := h48 n.toNat (rea n a) (by omega) (rea_lt hv)
    rw [hv] at h44
    simp [c45, h44, e, e2, acyB, hv]
  · have hv' : validB n a = false := by simpa using hv
    rw [hv'] at h44
    simp [c45, h44, acyB, hv']

/-! ### the reference's table -/
/-- The table, as far as it is made. -/
def tpr (g : Nat → Nat) (k i j : Nat) : Nat → Nat → Bool := fun a b => if a < i ∨ (a = i ∧ b < j) then (stp g k a).testBit b else (g a).testBit b
def tbl35 (g : Nat → Nat) : Nat → Nat → Bool := fun a b => (g a).testBit b

theorem stp_bit (g : Nat → Nat) (k i j : Nat) : (stp g k i).testBit j = ((g i).testBit j || (g i).testBit k && (g k).testBit j) := by
  unfold stp
  by_cases h : (g i).testBit k = true
  · simp [h, Nat.testBit_or]
  · simp [h]

theorem tpr_col (g : Nat → Nat) (k i j a : Nat) : tpr g k i j a k = (g a).testBit k := by
  unfold tpr
  split
  · rw [stp_bit]; cases (g a).testBit k <;> simp
  · rfl
theorem tpr_row (g : Nat → Nat) (k i j b : Nat) : tpr g k i j k b = (g k).testBit b := by
  unfold tpr
  split
  · rw [stp_bit]; cases (g k).testBit b <;> simp
  · rfl
theorem tpr_succ (g : Nat → Nat) (k i j : Nat) : tpr g k i (j + 1) = if ((g i).testBit k && (g k).testBit j) = true then updM (tpr g k i j) i j true else tpr g k i j := by
  funext a b
  have hs := stp_bit g k i j
  by_cases hab : a = i ∧ b = j
  · obtain ⟨rfl, rfl⟩ := hab
    have h1 : a < a ∨ (a = a ∧ b < b + 1) := by omega
    have h2 : ¬ (a < a ∨ (a = a ∧ b < b)) := by omega
    by_cases hc : ((g a).testBit k && (g k).testBit b) = true
    · rw [if_pos hc]
      simp only [tpr, if_pos h1, updM, hs, hc]
      simp
    · rw [if_neg hc]
      have hc' : ((g a).testBit k && (g k).testBit b) = false := by simpa using hc
      simp only [tpr, hs, hc', Bool.or_false]
      split <;> split <;> rfl
  · have h1 : (a < i ∨ (a = i ∧ b < j + 1)) ↔ (a < i ∨ (a = i ∧ b < j)) := by omega
    split
    · simp only [updM, if_neg hab, tpr, h1]
    · simp only [tpr, h1]

theorem loop47_3 (call : Oracle) (fuel : Nat) (n : Nat) (hn : n ≤ 24) (g : Nat → Nat) (k i : Nat) (hk : k < n) (hi : i < n) (z : V) (hz : ∃ l, z = .own (gbx eB l)) (fu : Nat) (hf : 1000 < fu) (st : St)
    (h0 : drops st h47_3 = L47_3 (ii n) z (.own (gbx eB (mat 24 (tpr g k i 0)))) (ii k) (ii i) (ii 0)) :
    run.loopN (run call fuel b47_3) fu st = some (.ex 6, X47_6 (ii n) z (.own (gbx eB (mat 24 (tpr g k i n)))) (ii k) (ii i)) := by
  obtain ⟨zl, rfl⟩ := hz
  refine loop_cnt call fuel h47_3 _ n (fun j => L47_3 (ii n) (.own (gbx eB zl)) (.own (gbx eB (mat 24 (tpr g k i j)))) (ii k) (ii i) (ii j)) _ (by simp) ?_ (by simp) fu st h0 (by omega)
  intro j hj
  have hw := wrap_succ (i := j) (by omega)
  have l1 : i * 24 + k < 576 := mat_lt (m := 24) (by omega) (by omega)
  have l2 : k * 24 + j < 576 := mat_lt (m := 24) (by omega) (by omega)
  have l3 : i * 24 + j < 576 := mat_lt (m := 24) (by omega) (by omega)
  have b1 : i < 24 := by omega
  have b2 : j < 24 := by omega
  have b3 : k < 24 := by omega
  have hm := mat_len 24 (tpr g k i j)
  have e1 := mat_nth (m := 24) (tpr g k i j) b1 b3
  have e2 := mat_nth (m := 24) (tpr g k i j) b3 b2
  have e3 := mat_set (m := 24) (tpr g k i j) true b1 b2
  rw [tpr_col] at e1
  rw [tpr_row] at e2
  have hs := tpr_succ g k i j
  rw [hs]
  cases c1 : (g i).testBit k <;> cases c2 : (g k).testBit j <;> rw [c1] at e1 <;> rw [c2] at e2 <;> simp [hj, hw, l1, l2, l3, b1, b2, b3, hm, e1, e2, e3]

theorem tpr_ext {g : Nat → Nat} {k i j i' j' : Nat} (h : ∀ a b, a < 24 → b < 24 → tpr g k i j a b = tpr g k i' j' a b) : mat 24 (tpr g k i j) = mat 24 (tpr g k i' j') := mat_ext h

/-- Bits beyond n are not set. -/
def Low (n : Nat) (g : Nat → Nat) : Prop := ∀ i j, n ≤ j → (g i).testBit j = false
def Lows (n : Nat) (g : Nat → Nat) : Prop := Low n g ∧ ∀ i, n ≤ i → g i = 0

theorem low_stp {n : Nat} {g : Nat → Nat} (h : Lows n g) (k : Nat) : Lows n (stp g k) := by
  refine ⟨fun i j hj => ?_, fun i hi => ?_⟩
  · rw [stp_bit, h.1 i j hj, h.1 k j hj]; simp
  · unfold stp; rw [h.2 i hi]; simp

theorem low_warr {n : Nat} {g : Nat → Nat} (h : Lows n g) (k : Nat) : Lows n (warr g k) := by
  induction k with
  | zero => exact h
  | succ k ih => exact low_stp ih k

theorem low_next {n : Nat} {a : NA} (hv : ∀ p ∈ a, p.1 < n ∧ p.2 < n) : Lows n (nextG a) := by
  suffices ∀ (a : NA) (g : Nat → Nat), (∀ p ∈ a, p.1 < n ∧ p.2 < n) → Lows n g → Lows n (a.foldl addArc g) from this a _ hv ⟨fun i j _ => by simp, fun i _ => rfl⟩
  intro a
  induction a with
  | nil => intro g _ h; exact h
  | cons p a ih =>
    intro g hv h
    obtain ⟨h1, h2⟩ := hv p (List.mem_cons_self ..)
    refine ih _ (fun q hq => hv q (List.mem_cons_of_mem _ hq)) ⟨fun i j hj => ?_, fun i hi => ?_⟩
    · unfold addArc updF
      split
      · rw [Nat.testBit_or, h.1 _ j hj, pw_bit]
        simp; omega
      · exact h.1 i j hj
    · unfold addArc updF
      rw [if_neg (by omega)]
      exact h.2 i hi

theorem loop47_2 (call : Oracle) (fuel : Nat) (n : Nat) (hn : n ≤ 24) (g : Nat → Nat) (hg : Lows n g) (k : Nat) (hk : k < n) (z : V) (hz : ∃ l, z = .own (gbx eB l)) (fu : Nat) (hf : 1000 < fu) (hf2 : 1000 < fuel) (st : St)
    (h0 : drops st h47_2 = L47_2 (ii n) z (.own (gbx eB (mat 24 (tbl35 g)))) (ii k) (ii 0)) :
    run.loopN (run call fuel b47_2) fu st = some (.ex 4, X47_4 (ii n) z (.own (gbx eB (mat 24 (tbl35 (stp g k))))) (ii k)) := by
  have e0 : mat 24 (tbl35 g) = mat 24 (tpr g k 0 0) := mat_ext fun a b _ _ => by simp [tbl35, tpr]
  have e1 : mat 24 (tpr g k n 0) = mat 24 (tbl35 (stp g k)) := mat_ext fun a b _ _ => by
    simp only [tbl35, tpr]
    split
    · rfl
    · rename_i h
      rw [hg.2 a (by omega), (low_stp hg k).2 a (by omega)]
  rw [e0] at h0
  have hz' := hz
  obtain ⟨zl, rfl⟩ := hz
  rw [← e1]
  refine loop_cnt call fuel h47_2 _ n (fun i => L47_2 (ii n) (.own (gbx eB zl)) (.own (gbx eB (mat 24 (tpr g k i 0)))) (ii k) (ii i)) _ (by simp) ?_ (by simp) fu st h0 (by omega)
  intro i hi
  have hw := wrap_succ (i := i) (by omega)
  have e := loop47_3 call fuel n hn g k i hk hi (.own (gbx eB zl)) hz' fuel hf2
  have e2 : mat 24 (tpr g k i n) = mat 24 (tpr g k (i + 1) 0) := mat_ext fun a b _ _ => by
    simp only [tpr]
    split <;> rename_i c1 <;> split <;> rename_i c2
    · rfl
    · omega
    · have : n ≤ b := by omega
      rw [stp_bit, hg.1 _ b this, hg.1 _ b this]; simp
    · rfl
  simp [hi]
  rw [e _ (by simp)]
  simp [hw, e2]

theorem loop47_1 (call : Oracle) (fuel : Nat) (n : Nat) (hn : n ≤ 24) (g : Nat → Nat) (hg : Lows n g) (z : V) (hz : ∃ l, z = .own (gbx eB l)) (hf2 : 1000 < fuel) (st : St)
    (h0 : drops st h47_1 = L47_1 (ii n) z (.own (gbx eB (mat 24 (tbl35 g)))) (ii 0)) :
    run.loopN (run call fuel b47_1) fuel st = some (.ex 2, X47_2 z (.own (gbx eB (mat 24 (tbl35 (warr g n)))))) := by
  have hz' := hz
  obtain ⟨zl, rfl⟩ := hz
  refine loop_cnt call fuel h47_1 _ n (fun i => L47_1 (ii n) (.own (gbx eB zl)) (.own (gbx eB (mat 24 (tbl35 (warr g i))))) (ii i)) _ (by simp) ?_ (by simp) fuel st h0 (by omega)
  intro i hi
  have hw := wrap_succ (i := i) (by omega)
  have e := loop47_2 call fuel n hn (warr g i) (low_warr hg i) i hi (.own (gbx eB zl)) hz' fuel hf2 hf2
  simp [hi]
  rw [e _ (by simp)]
  simp [hw, warr]

theorem tbl35_add (g : Nat → Nat) (f t : Nat) : tbl35 (addArc g (f, t)) = updM (tbl35 g) f t true := by
  funext a b
  simp only [tbl35, addArc, updM, updF]
  by_cases h : a = f
  · subst h
    simp only [if_true, Nat.testBit_or, pw_bit, true_and]
    by_cases h2 : b = t
    · subst h2; simp
    · have : ¬ t = b := fun e => h2 e.symm
      simp [h2, this]
  · simp [h]

theorem loop47_0 (call : Oracle) (fuel : Nat) (b : Bool) (n : Nat) (hn : n ≤ 24) (a : NA) (hv : ∀ p ∈ a, p.1 < n ∧ p.2 < n) (hl : a.length ≤ 1000) (z : V) (hz : ∃ l, z = .own (gbx eB l)) (hf2 : 1000 < fuel) (st : St)
    (h0 : drops st h47_0 = L47_0 (ii n) (.ro (sa b (arcsZ a))) z (.own (gbx eB (mat 24 (tbl35 fun _ => 0)))) (ii 0)) :
    run.loopN (run call fuel b47_0) fuel st = some (.ex 0, X47_0 (ii n) z (.own (gbx eB (mat 24 (tbl35 (nextG a)))))) := by
  obtain ⟨zl, rfl⟩ := hz
  refine loop_cnt call fuel h47_0 _ a.length (fun i => L47_0 (ii n) (.ro (sa b (arcsZ a))) (.own (gbx eB zl)) (.own (gbx eB (mat 24 (tbl35 (nextG (a.take i)))))) (ii i)) _ (by simp) ?_ (by simp) fuel st h0 (by omega)
  intro i hi
  have hw := wrap_succ (i := i) (by omega)
  obtain ⟨h1, h2⟩ := hv _ (nth_mem (0, 0) hi)
  have hs : nextG (a.take (i + 1)) = _ := foldl_take addArc _ (0, 0) hi
  rw [hs]
  change _ = some (Ex.norm, L47_0 _ _ _ (.own (gbx eB (mat 24 (tbl35 (addArc (nextG (a.take i)) (nth a (0, 0) i)))))) _)
  generalize nextG (a.take i) = g at *
  generalize hp : nth a (0, 0) i = p at *
  obtain ⟨f, t⟩ := p
  simp only at h1 h2
  have b1 : f < 24 := by omega
  have b2 : t < 24 := by omega
  have l1 : f * 24 + t < 576 := mat_lt (m := 24) b1 b2
  have hm := mat_len 24 (tbl35 g)
  have e3 := mat_set (m := 24) (tbl35 g) true b1 b2
  rw [tbl35_add]
  simp [hi, hw, hp, b1, b2, l1, hm, e3]

/-- What Table returns. -/
def tabD (g : Nat → Nat) : D := .nd .ag (gk eB (mat 24 (tbl35 g)))

theorem f47 (call : Oracle) (fuel : Nat) (hf : 1000 < fuel) (b : Bool) (n : Nat) (hn : n ≤ 24) (a : NA) (hv : ∀ p ∈ a, p.1 < n ∧ p.2 < n) (hl : a.length ≤ 1000) :
    callF call fuel c47 [.v (.int .i64 (n : Int)), sa b (arcsZ a)] = some (tabD (warr (nextG a) n)) := by
  have e := loop47_0 call fuel b n hn a hv hl (.own (gbx eB (zB 576))) ⟨_, rfl⟩ hf
  have e2 := loop47_1 call fuel n hn (nextG a) (low_next hv) (.own (gbx eB (zB 576))) ⟨_, rfl⟩ hf
  have e0 : zB 576 = mat 24 (tbl35 fun _ => 0) := by
    unfold zB
    rw [row_rep]
    apply row_ext
    intro i _; simp [tbl35]
  have hm := mat_len 24 (tbl35 (warr (nextG a) n))
  have hm0 := mat_len 24 (tbl35 fun _ => 0)
  have ht : (mat 24 (tbl35 (warr (nextG a) n))).take 576 = mat 24 (tbl35 (warr (nextG a) n)) := List.take_of_length_le (by rw [hm]; decide)
  rw [e0] at e e2
  rw [callF_tab call fuel c47 60 _ (by exact Nat.le_of_ble_eq_true rfl) (by exact Nat.le_of_ble_eq_true rfl)]
  simp [c47, e0]
  rw [e _ (by simp)]
  simp
  rw [e2 _ (by simp)]
  simp [hm, hm0, ht, tabD]


theorem f39 (call : Oracle) (fuel : Nat) (hf : 1000 < fuel) (b : Bool) (n : Int) (a : List (Int × Int)) (hl : a.length ≤ 1000)
    (h38 : call 38 [.v (.int .i64 n), sa b a] = some (.v (.bool (validB n a)))) (h47 : validB n a = true → call 47 [.v (.int .i64 n), sa b a] = some (tabD (rea n a))) :
    callF call fuel c39 [.v (.int .i64 n), sa b a] = some (.v (.bool (acyB n a))) := by
  rw [callF_tab call fuel c39 7 _ (by exact Nat.le_of_ble_eq_true rfl) (by exact Nat.le_of_ble_eq_true rfl)]
  by_cases hv : validB n a = true
  · obtain ⟨k, hk, hk2, _⟩ := valid_nat hv
    have e := h47 hv
    rw [hv] at h38
    have hm := mat_len 24 (tbl35 (rea n a))
    have el : ∀ st : St, drops st h39_0 = L39_0 (ii n) (.own (gbx eB (mat 24 (tbl35 (rea n a))))) (ii 0) → run.loopN (run call fuel b39_0) fuel st = some (if (List.range n.toNat).any (fun i => (rea n a i).testBit i) = true then (.ret, R39 (bb false)) else (.ex 0, X39_0)) := by
      intro st h0
      refine loop_any call fuel h39_0 _ n.toNat (fun i => (rea n a i).testBit i) (fun i => L39_0 (ii n) (.own (gbx eB (mat 24 (tbl35 (rea n a))))) (ii i)) _ _ (by simp) (by simp) ?_ (by simp; omega) fuel st h0 (by omega)
      intro i hi _
      have hw := wrap_succ (i := i) (by omega)
      have b1 : i < 24 := by omega
      have l1 : i * 24 + i < 576 := mat_lt (m := 24) b1 b1
      have e1 := mat_nth (m := 24) (tbl35 (rea n a)) b1 b1
      have hn : (i : Int) < n := by omega
      change _ = (rea n a i).testBit i at e1
      cases c : (rea n a i).testBit i <;> rw [c] at e1 <;> simp [hn, hw, b1, l1, hm, e1]
    unfold tabD at e
    simp [c39, h38, e, hm]
    rw [el _ (by simp)]
    simp only [acyB, hv, Bool.true_and]
    cases (List.range n.toNat).any (fun i => (rea n a i).testBit i) <;> simp
  · have hv' : validB n a = false := by simpa using hv
    rw [hv'] at h38
    simp [c39, h38, acyB, hv']

/-! ### order -/
def zl (l : List Nat) : List Int := l.map fun (v : Nat) => (v : Int)
@[simp] theorem zl_len (l : List Nat) : (zl l).length = l.length := by simp [zl]
theorem zl_snoc (l : List Nat) (v : Nat) : zl (l ++ [v]) = zl l ++ [(v : Int)] := by simp [zl]
theorem zl_any (l : List Nat) (v : Nat) : (zl l).any (· == (v : Int)) = l.contains v := by
  simp only [zl, List.any_map, List.contains_eq_any_beq]
  congr 1
  funext x
  simp only [Function.comp]
  rw [Bool.eq_iff_iff]
  simp
  omega
/-- A list that was made by appending. -/
abbrev so (l : List Nat) : D := si l.isEmpty (zl l)

theorem so_snoc (l : List Nat) (v : Nat) : so (l ++ [v]) = gsl (eI .i64) false (zl l ++ [(v : Int)]) := by
  have h : (l ++ [v]).isEmpty = false := by simp
  show gsl (eI .i64) (l ++ [v]).isEmpty (zl (l ++ [v])) = _
  rw [h, zl_snoc]

/-- Is a vertex next? -/
def freeB (a : NA) (out : List Nat) (v : Nat) : Bool := !out.contains v && a.all (fun p => p.2 != v || out.contains p.1)
/-- The order from some vertices on. -/
def ordL (n : Nat) (a : NA) : Nat → List Nat → Option (List Nat)
  | 0, out => some out
  | k + 1, out => match (List.range n).find? (freeB a out) with
    | some v => ordL n a k (out ++ [v])
    | none => none

/-- The next vertex among the last ones. -/
def nextV (n : Nat) (a : NA) (out : List Nat) (j : Nat) : Option Nat := (List.range' (n - j) j).find? (freeB a out)
def optZ (o : Option Nat) : Int := o.elim (-1) fun v => (v : Int)

theorem nextV_succ {n j : Nat} (a : NA) (out : List Nat) (h : j < n) : nextV n a out (j + 1) = if freeB a out (n - 1 - j) = true then some (n - 1 - j) else nextV n a out j := by
  unfold nextV
  rw [List.range'_succ, show n - (j + 1) = n - 1 - j by omega, List.find?_cons, show n - 1 - j + 1 = n - j by omega]
  cases freeB a out (n - 1 - j) <;> rfl

/-- How the order ends. -/
def ordR (n : Nat) (a : NA) (out : List Nat) : Option (List Nat) := ordL n a (n - out.length) out

/-- What Order returns. -/
def ordD (n : Int) (a : List (Int × Int)) : D :=
  if validB n a then
    match ordR n.toNat (natA a) [] with
    | some l => .nd .tu [so l, .v (.int .i64 0)]
    | none => .nd .tu [si true [], .v (.int .i64 11)]
  else .nd .tu [si true [], .v (.int .i64 1)]

end Go.Mx
