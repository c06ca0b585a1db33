import Derived.Test.YtldfddgdcjaogaaDiA
import Derived.Test.YtldfddgdcjaogaaDiP
/-
  Bounds and limits as trees; small functions.
-/
namespace Go.Mx
set_option linter.unusedVariables false
set_option linter.unusedSimpArgs false
set_option linter.unusedSectionVars false
open Go

@[simp] theorem aggV_2 (r : Nat) (p : List Nat) (x y : Value) : aggV r p [.v x, .v y] 0 2 = some (.ro (.nd .ag [.v x, .v y])) := by
  rw [aggV_eq]; rfl
@[simp] theorem aggV_3 (r : Nat) (p : List Nat) (x y z : Value) : aggV r p [.v x, .v y, .v z] 0 3 = some (.ro (.nd .ag [.v x, .v y, .v z])) := by
  rw [aggV_eq]; rfl
@[simp ↓ high] theorem isSc_g' {α : Type} (e : En α) (b : Bool) (l : List α) : isSc (gsl e b l) = false := rfl
@[simp ↓ high] theorem flat_g' {α : Type} (e : En α) (b : Bool) (l : List α) : flatOk (gsl e b l) = true := rfl
/-- Bounds. -/
def eD : En (Int × Int × Int) where
  es := 3
  enc p := [.v (.int .i64 p.1), .v (.int .i64 p.2.1), .v (.int .i64 p.2.2)]
  d := (0, 0, 0)
  pos := by decide
  len _ := rfl
  flat _ := rfl
abbrev sd (b : Bool) (l : List (Int × Int × Int)) : D := gsl eD b l
abbrev z3 : Int × Int × Int := (0, 0, 0)
abbrev bD (c : Int × Int × Int) : D := .nd .ag [.v (.int .i64 c.1), .v (.int .i64 c.2.1), .v (.int .i64 c.2.2)]

section
variable (l : List (Int × Int × Int)) (i : Nat)
@[simp] theorem D_elP (r : Nat) (p : List Nat) (b : Bool) : elP r p 3 i (gsl eD b l) = if i < l.length then some (.ad r p (i * 3)) else none := elP_ge eD r p i b l
@[simp] theorem D_elR (b : Bool) : elR 3 i (gsl eD b l) = if i < l.length then some (.rad (gk eD l) (i * 3)) else none := elR_ge eD i b l
@[simp high] theorem D_cell0 : (gk eD l)[i * 3]? = if i < l.length then some (.v (.int .i64 (nth l z3 i).1)) else none := gk_cell eD l i 0 (by decide)
@[simp high] theorem D_cell1 : (gk eD l)[i * 3 + 1]? = if i < l.length then some (.v (.int .i64 (nth l z3 i).2.1)) else none := gk_cell eD l i 1 (by decide)
@[simp high] theorem D_cell2 : (gk eD l)[i * 3 + 2]? = if i < l.length then some (.v (.int .i64 (nth l z3 i).2.2)) else none := gk_cell eD l i 2 (by decide)
@[simp] theorem D_aggR : aggR (gk eD l) (i * 3) 3 = if i < l.length then some (.ro (bD (nth l z3 i))) else none := aggR_ge eD i l
@[simp] theorem D_aggV (r : Nat) (p : List Nat) : aggV r p (gk eD l) (i * 3) 3 = if i < l.length then some (.ro (bD (nth l z3 i))) else none := agg_ge eD r p i l rfl
@[simp] theorem D_slR (lo hi : Option Nat) (b : Bool) : slR 3 lo hi (gsl eD b l) = if lo.getD 0 ≤ hi.getD l.length ∧ hi.getD l.length ≤ l.length then some (.ro (gsl eD b ((l.drop (lo.getD 0)).take (hi.getD l.length - lo.getD 0)))) else none := slR_ge eD lo hi b l
@[simp] theorem D_apD1 (b : Bool) (x y z : Int) : apD 3 1 [.v (.int .i64 x), .v (.int .i64 y), .v (.int .i64 z)] (gsl eD b l) = if l.length + 1 ≤ most then some (gsl eD false (l ++ [(x, y, z)])) else none := by
  show apD eD.es [(x, y, z)].length (gk eD [(x, y, z)]) (gsl eD b l) = _
  rw [apD_ge]; simp
end
theorem sc_D (l : List (Int × Int × Int)) : (gk eD l).all isSc = true := by
  induction l with
  | nil => rfl
  | cons a l ih => exact ih
@[simp] theorem D_apS (st : St) (v : V) (b : Bool) (l : List (Int × Int × Int)) : apS st 3 v (gsl eD b l) = some (l.length, gk eD l, st) := apS_ge eD st v b l (sc_D l)
@[simp] theorem D_apZ (b : Bool) (l : List (Int × Int × Int)) : apZ 3 (gsl eD b l) = if l.length ≤ most then some (.own (gsl eD false l)) else none := apZ_ge eD b l (sc_D l)
@[simp] theorem D_apD (b : Bool) (l m : List (Int × Int × Int)) : apD 3 m.length (gk eD m) (gsl eD b l) = if l.length + m.length ≤ most then some (gsl eD (b && m.length == 0) (l ++ m)) else none := apD_ge eD b l m
@[simp] theorem D_fold (b : Bool) (l : List (Int × Int × Int)) : T.nd (K.sl b 3 l.length) (gk eD l) = gsl eD b l := rfl

/-! ### limits -/
def rl : Lm → Int × Bool
  | none => (0, false)
  | some v => (v, true)
@[simp] theorem rl_none : rl none = (0, false) := rfl
@[simp] theorem rl_some (v : Int) : rl (some v) = (v, true) := rfl
def eM : En (Int × Bool) where
  es := 2
  enc p := [.v (.int .i64 p.1), .v (.bool p.2)]
  d := (0, false)
  pos := by decide
  len _ := rfl
  flat _ := rfl
abbrev zM : Int × Bool := (0, false)
abbrev mD (p : Int × Bool) : D := .nd .ag [.v (.int .i64 p.1), .v (.bool p.2)]
section
variable (l : List (Int × Bool)) (i : Nat)
@[simp] theorem M_elP (r : Nat) (p : List Nat) (b : Bool) : elP r p 2 i (gsl eM b l) = if i < l.length then some (.ad r p (i * 2)) else none := elP_ge eM r p i b l
@[simp] theorem M_elR (b : Bool) : elR 2 i (gsl eM b l) = if i < l.length then some (.rad (gk eM l) (i * 2)) else none := elR_ge eM i b l
@[simp high] theorem M_cell0 : (gk eM l)[i * 2]? = if i < l.length then some (.v (.int .i64 (nth l zM i).1)) else none := gk_cell eM l i 0 (by decide)
@[simp high] theorem M_cell1 : (gk eM l)[i * 2 + 1]? = if i < l.length then some (.v (.bool (nth l zM i).2)) else none := gk_cell eM l i 1 (by decide)
@[simp] theorem M_aggR : aggR (gk eM l) (i * 2) 2 = if i < l.length then some (.ro (mD (nth l zM i))) else none := aggR_ge eM i l
@[simp] theorem M_aggV (r : Nat) (p : List Nat) : aggV r p (gk eM l) (i * 2) 2 = if i < l.length then some (.ro (mD (nth l zM i))) else none := agg_ge eM r p i l rfl
@[simp] theorem M_setAt0 (b : Bool) (x : Int) : setAt (gsl eM b l) [i * 2] (.v (.int .i64 x)) = gsl eM b (l.set i (x, (nth l zM i).2)) := setAt_ge eM b l i 0 (by decide) _ _ fun _ => rfl
@[simp] theorem M_setAt1 (b : Bool) (x : Bool) : setAt (gsl eM b l) [i * 2 + 1] (.v (.bool x)) = gsl eM b (l.set i ((nth l zM i).1, x)) := setAt_ge eM b l i 1 (by decide) _ _ fun _ => rfl
@[simp] theorem M_reps (n : Nat) : T.nd (K.sl false 2 n) (reps n [.v (.int .i64 0), .v (.bool false)]) = gsl eM false (List.replicate n zM) := by
  have e : reps n [(T.v (.int .i64 0) : D), .v (.bool false)] = gk eM (List.replicate n zM) := by
    unfold reps gk
    rw [List.flatMap, List.map_replicate]; rfl
  rw [e, gsl]; simp [eM]
end
@[simp] theorem L_setAtM0 (b : Bool) (l : List (Bool × List (Int × Bool))) (i j : Nat) (x : Int) : setAt (gsl (eL eM) b l) [i, j * 2] (.v (.int .i64 x)) = gsl (eL eM) b (l.set i ((nth l (true, []) i).1, (nth l (true, []) i).2.set j (x, (nth (nth l (true, []) i).2 zM j).2))) :=
  L_setAt eM b l i (j * 2) [] _ _ _ fun _ => M_setAt0 _ _ _ _
@[simp] theorem L_setAtM1 (b : Bool) (l : List (Bool × List (Int × Bool))) (i j : Nat) (x : Bool) : setAt (gsl (eL eM) b l) [i, j * 2 + 1] (.v (.bool x)) = gsl (eL eM) b (l.set i ((nth l (true, []) i).1, (nth l (true, []) i).2.set j ((nth (nth l (true, []) i).2 zM j).1, x))) :=
  L_setAt eM b l i (j * 2 + 1) [] _ _ _ fun _ => M_setAt1 _ _ _ _

/-! ### tables of tables -/
section
variable {α : Type}
@[simp] theorem updF_same (g : Nat → α) (i : Nat) (y : α) : updF g i y i = y := by simp [updF]
@[simp] theorem updF_twice (g : Nat → α) (i : Nat) (x y : α) : updF (updF g i x) i y = updF g i y := by
  funext j; unfold updF; split <;> rfl
def tb2 (m n : Nat) (g : Nat → Nat → α) : List (Bool × List α) := row m fun i => (false, row n (g i))
@[simp] theorem tb2_len (m n : Nat) (g : Nat → Nat → α) : (tb2 m n g).length = m := row_len _ _
theorem tb2_nth {m : Nat} (n : Nat) (g : Nat → Nat → α) (d : Bool × List α) {i : Nat} (h : i < m) : nth (tb2 m n g) d i = (false, row n (g i)) := nth_row _ _ _ h
@[simp] theorem tb2_set (m n : Nat) (g : Nat → Nat → α) (i : Nat) (h : Nat → α) : (tb2 m n g).set i (false, row n h) = tb2 m n (updF g i h) := by
  unfold tb2
  rw [row_set]
  apply row_ext
  intro j _
  unfold updF
  split <;> rfl
theorem tb2_ext {m n : Nat} {g h : Nat → Nat → α} (e : ∀ i j, i < m → j < n → g i j = h i j) : tb2 m n g = tb2 m n h :=
  row_ext _ fun i hi => by rw [row_ext _ fun j hj => e i j hi hj]
theorem tb2_succ (m n : Nat) (g : Nat → Nat → α) : tb2 (m + 1) n g = tb2 m n g ++ [(false, row n (g m))] := row_succ _ _
end

/-! ### small functions -/
theorem f44 (call : Oracle) (fuel : Nat) (n m : Int) (hm : 0 ≤ m ∧ m ≤ 1000000000) : callF call fuel c44 [.v (.int .i64 n), .v (.int .i64 m)] = some (.v (.bool (decide (-m ≤ n) && decide (n ≤ m)))) := by
  rw [callF_tab call fuel c44 5 _ (by exact Nat.le_of_ble_eq_true rfl) (by exact Nat.le_of_ble_eq_true rfl)]
  have e : IntKind.i64.wrap (-m) = -m := wrap_eq (by unfold I64; omega)
  by_cases h : -m ≤ n <;> simp [c44, e, h]
theorem f41 (call : Oracle) (fuel : Nat) (n m : Int) (hm : 0 ≤ m ∧ m ≤ 1000000000) : callF call fuel c41 [.v (.int .i64 n), .v (.int .i64 m)] = some (.v (.bool (decide (-m ≤ n) && decide (n ≤ m)))) := by
  rw [callF_tab call fuel c41 5 _ (by exact Nat.le_of_ble_eq_true rfl) (by exact Nat.le_of_ble_eq_true rfl)]
  have e : IntKind.i64.wrap (-m) = -m := wrap_eq (by unfold I64; omega)
  by_cases h : -m ≤ n <;> simp [c41, e, h]
theorem f33 (call : Oracle) (fuel : Nat) (n a b : Int) : callF call fuel c33 [.v (.int .i64 n), .v (.int .i64 a), .v (.int .i64 b)] = some (.v (.bool (decide (a ≤ n) && decide (n ≤ b)))) := by
  rw [callF_tab call fuel c33 7 _ (by exact Nat.le_of_ble_eq_true rfl) (by exact Nat.le_of_ble_eq_true rfl)]
  by_cases h : a ≤ n <;> simp [c33, h]
theorem f13 (call : Oracle) (fuel : Nat) (b : Bool) (l : List (Int × Int × Int)) : callF call fuel c13 [sd b l] = some (.v (.bool (decide (l.length ≤ 90)))) := by
  rw [callF_tab call fuel c13 3 _ (by exact Nat.le_of_ble_eq_true rfl) (by exact Nat.le_of_ble_eq_true rfl)]
  simp [c13]
  omega

/-- A valid bound. -/
def rightB (n : Int) (c : Int × Int × Int) : Bool := decide (0 ≤ c.1) && decide (c.1 < n) && decide (0 ≤ c.2.1) && decide (c.2.1 < n) && decide (c.1 ≠ c.2.1) && (decide (-1000000 ≤ c.2.2) && decide (c.2.2 ≤ 1000000))
theorem f37 (call : Oracle) (fuel : Nat) (n : Int) (c : Int × Int × Int) (h44 : call 44 [.v (.int .i64 c.2.2), .v (.int .i64 1000000)] = some (.v (.bool (decide (-1000000 ≤ c.2.2) && decide (c.2.2 ≤ 1000000))))) :
    callF call fuel c37 [.v (.int .i64 n), bD c] = some (.v (.bool (rightB n c))) := by
  rw [callF_tab call fuel c37 5 _ (by exact Nat.le_of_ble_eq_true rfl) (by exact Nat.le_of_ble_eq_true rfl)]
  unfold rightB
  by_cases h1 : 0 ≤ c.1
  rotate_left
  · simp [c37, h1]
  by_cases h2 : c.1 < n
  rotate_left
  · simp [c37, h1, h2]
  by_cases h3 : 0 ≤ c.2.1
  rotate_left
  · simp [c37, h1, h2, h3]
  by_cases h4 : c.2.1 < n
  rotate_left
  · simp [c37, h1, h2, h3, h4]
  by_cases h5 : c.1 = c.2.1
  · simp [c37, h1, h2, h3, h4, h5]
  · simp [c37, h1, h2, h3, h4, h5, h44]

/-- A valid bound, as the reference asks for it. -/
def bndB (n : Int) (c : Int × Int × Int) : Bool := (decide (0 ≤ c.1) && decide (c.1 ≤ IntKind.i64.wrap (n - 1))) && (decide (0 ≤ c.2.1) && decide (c.2.1 ≤ IntKind.i64.wrap (n - 1))) && decide (c.1 ≠ c.2.1) && (decide (-1000000 ≤ c.2.2) && decide (c.2.2 ≤ 1000000))
theorem bnd_right {n : Int} (h1 : 1 ≤ n) (h2 : n ≤ 16) (c : Int × Int × Int) : bndB n c = rightB n c := by
  have e : IntKind.i64.wrap (n - 1) = n - 1 := wrap_eq (by unfold I64; omega)
  unfold bndB rightB
  rw [e, Bool.eq_iff_iff]
  simp only [Bool.and_eq_true, decide_eq_true_eq]
  omega
theorem f24 (call : Oracle) (fuel : Nat) (n : Int) (c : Int × Int × Int) (h41 : call 41 [.v (.int .i64 c.2.2), .v (.int .i64 1000000)] = some (.v (.bool (decide (-1000000 ≤ c.2.2) && decide (c.2.2 ≤ 1000000)))))
    (h33 : ∀ x y z : Int, call 33 [.v (.int .i64 x), .v (.int .i64 y), .v (.int .i64 z)] = some (.v (.bool (decide (y ≤ x) && decide (x ≤ z))))) :
    callF call fuel c24 [.v (.int .i64 n), bD c] = some (.v (.bool (bndB n c))) := by
  rw [callF_tab call fuel c24 5 _ (by exact Nat.le_of_ble_eq_true rfl) (by exact Nat.le_of_ble_eq_true rfl)]
  unfold bndB
  generalize hm : IntKind.i64.wrap (n - 1) = m at *
  by_cases h1 : 0 ≤ c.1
  rotate_left
  · simp [c24, hm, h1, h33]
  by_cases h2 : c.1 ≤ m
  rotate_left
  · simp [c24, hm, h1, h2, h33]
  by_cases h3 : 0 ≤ c.2.1
  rotate_left
  · simp [c24, hm, h1, h2, h3, h33]
  by_cases h4 : c.2.1 ≤ m
  rotate_left
  · simp [c24, hm, h1, h2, h3, h4, h33]
  by_cases h5 : c.1 = c.2.1
  · simp [c24, hm, h1, h2, h3, h4, h5, h33]
  · simp [c24, hm, h1, h2, h3, h4, h5, h41, h33]

/-- less. -/
theorem f47 (call : Oracle) (fuel : Nat) (a b : Lm) : callF call fuel c47 [mD (rl a), mD (rl b)] = some (mD (rl (less a b))) := by
  rw [callF_tab call fuel c47 21 _ (by exact Nat.le_of_ble_eq_true rfl) (by exact Nat.le_of_ble_eq_true rfl)]
  cases a with
  | none => cases b <;> simp [c47]
  | some a =>
    cases b with
    | none => simp [c47]
    | some b =>
      by_cases h : b < a <;> simp [c47, less, h]
/-- plus. -/
theorem f48 (call : Oracle) (fuel : Nat) (a b : Lm) (h : ∀ x y, a = some x → b = some y → I64 (x + y)) : callF call fuel c48 [mD (rl a), mD (rl b)] = some (mD (rl (plus a b))) := by
  rw [callF_tab call fuel c48 20 _ (by exact Nat.le_of_ble_eq_true rfl) (by exact Nat.le_of_ble_eq_true rfl)]
  cases a with
  | none => cases b <;> simp [c48]
  | some a =>
    cases b with
    | none => simp [c48]
    | some b =>
      have e := wrap_eq (h a b rfl rfl)
      simp [c48, plus, e]
end Go.Mx
