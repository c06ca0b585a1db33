import Derived.Test.YtgbikojcpfdbiaaDoorMxY
/-
  Mx, part Z: slices of typed elements, as trees.
-/
namespace Go.Mx
set_option linter.unusedVariables false
set_option linter.unusedSimpArgs false
set_option linter.unusedSectionVars false
open Go

/-- An element of a list. -/
def nth {α : Type} (l : List α) (d : α) (i : Nat) : α := l.getD i d

/-- How an element of a slice stands in its cells. -/
structure En (α : Type) where
  es : Nat
  enc : α → List D
  d : α
  pos : 0 < es
  len : ∀ a, (enc a).length = es
  flat : ∀ a, (enc a).all flatOk = true

/-- The cells of a list. -/
def gk {α : Type} (e : En α) (l : List α) : List D := l.flatMap e.enc
/-- A slice. -/
def gsl {α : Type} (e : En α) (b : Bool) (l : List α) : D := .nd (.sl b e.es l.length) (gk e l)
/-- An array behind a pointer. -/
def gbx {α : Type} (e : En α) (l : List α) : D := .nd (.bx false) (gk e l)

section
variable {α : Type} (e : En α)

theorem gk_len (l : List α) : (gk e l).length = l.length * e.es := by
  induction l with
  | nil => simp [gk]
  | cons a l ih => simp only [gk, List.flatMap_cons, List.length_append] at *; rw [ih, e.len, List.length_cons]; rw [Nat.succ_mul]; omega

theorem gk_flat (l : List α) : (gk e l).all flatOk = true := by
  induction l with
  | nil => rfl
  | cons a l ih => simp only [gk, List.flatMap_cons, List.all_append] at *; rw [ih, e.flat]; rfl

theorem gk_app (l m : List α) : gk e (l ++ m) = gk e l ++ gk e m := by simp [gk]

theorem gk_cell (l : List α) (i off : Nat) (ho : off < e.es) : (gk e l)[i * e.es + off]? = if i < l.length then (e.enc (l.getD i e.d))[off]? else none := by
  induction l generalizing i with
  | nil => simp [gk]
  | cons a l ih =>
    show (e.enc a ++ gk e l)[i * e.es + off]? = _
    cases i with
    | zero =>
      rw [List.getElem?_append_left (by rw [e.len]; omega)]
      simp
    | succ i =>
      rw [List.getElem?_append_right (by rw [e.len, Nat.succ_mul]; omega), e.len, show (i + 1) * e.es + off - e.es = i * e.es + off by rw [Nat.succ_mul]; omega, ih]
      simp

theorem gk_part (l : List α) (i : Nat) (hi : i < l.length) : ((gk e l).drop (i * e.es)).take e.es = e.enc (l.getD i e.d) := by
  apply List.ext_getElem?
  intro j
  rw [List.getElem?_take, List.getElem?_drop]
  split
  · rename_i hj
    rw [gk_cell e l i j hj, if_pos hi]
  · rename_i hj
    rw [List.getElem?_eq_none (by rw [e.len]; omega)]

theorem gk_drop (l : List α) (n : Nat) : (gk e l).drop (n * e.es) = gk e (l.drop n) := by
  induction l generalizing n with
  | nil => simp [gk]
  | cons a l ih =>
    cases n with
    | zero => simp
    | succ n =>
      show (e.enc a ++ gk e l).drop ((n + 1) * e.es) = _
      rw [List.drop_append, List.drop_eq_nil_of_le (by rw [e.len, Nat.succ_mul]; omega), e.len, show (n + 1) * e.es - e.es = n * e.es by rw [Nat.succ_mul]; omega, ih]
      simp

theorem gk_take (l : List α) (n : Nat) : (gk e l).take (n * e.es) = gk e (l.take n) := by
  induction l generalizing n with
  | nil => simp [gk]
  | cons a l ih =>
    cases n with
    | zero => simp [gk]
    | succ n =>
      show (e.enc a ++ gk e l).take ((n + 1) * e.es) = _
      rw [List.take_append, List.take_of_length_le (by rw [e.len, Nat.succ_mul]; omega), e.len, show (n + 1) * e.es - e.es = n * e.es by rw [Nat.succ_mul]; omega, ih]
      rfl

theorem gk_set (l : List α) (i off : Nat) (ho : off < e.es) (x : D) (y : α) (hy : i < l.length → (e.enc (l.getD i e.d)).set off x = e.enc y) : (gk e l).set (i * e.es + off) x = gk e (l.set i y) := by
  induction l generalizing i with
  | nil => simp [gk]
  | cons a l ih =>
    show (e.enc a ++ gk e l).set (i * e.es + off) x = _
    cases i with
    | zero =>
      rw [List.set_append, if_pos (by rw [e.len]; omega)]
      simp only [List.set_cons_zero, Nat.zero_mul, Nat.zero_add]
      show _ = e.enc y ++ gk e l
      rw [← hy (by simp)]
      simp
    | succ i =>
      rw [List.set_append, if_neg (by rw [e.len, Nat.succ_mul]; omega), e.len, show (i + 1) * e.es + off - e.es = i * e.es + off by rw [Nat.succ_mul]; omega, ih i (fun h => by simpa using hy (by simpa using h))]
      rfl

@[simp] theorem mkRo_g (b : Bool) (l : List α) : mkRo (gsl e b l) = .ro (gsl e b l) := rfl
@[simp] theorem mkOwn_g (b : Bool) (l : List α) : mkOwn (gsl e b l) = .own (gsl e b l) := rfl
@[simp] theorem takeP_g (st : St) (r : Nat) (d0 : D) (p : List Nat) (b : Bool) (l : List α) : takeP st r d0 p (gsl e b l) = some (gsl e b l, leave st r d0 p) := rfl
@[simp] theorem takeP_gb (st : St) (r : Nat) (d0 : D) (p : List Nat) (l : List α) : takeP st r d0 p (gbx e l) = some (gbx e l, leave st r d0 p) := rfl
@[simp] theorem lenD_g (b : Bool) (l : List α) : lenD (gsl e b l) = some l.length := rfl
@[simp] theorem nilD_g (b : Bool) (l : List α) : nilD false (gsl e b l) = some b := rfl
@[simp] theorem isSc_g (b : Bool) (l : List α) : isSc (gsl e b l) = false := rfl
@[simp] theorem flat_g (b : Bool) (l : List α) : flatOk (gsl e b l) = true := rfl
@[simp] theorem cells_g (b : Bool) (l : List α) : cellsOfD (gsl e b l) = [gsl e b l] := rfl
@[simp] theorem vP_g (r : Nat) (p : List Nat) (c : Nat) (b : Bool) (l : List α) : vP r p c (gsl e b l) = some (.ref r (p ++ [c])) := rfl
@[simp] theorem vR_g (b : Bool) (l : List α) : vR (gsl e b l) = some (.ro (gsl e b l)) := rfl
@[simp] theorem exK_g (r : Nat) (p : List Nat) (i : Nat) (b : Bool) (l : List α) : exK r p i (gsl e b l) = some (.ref r (p ++ [i])) := rfl
@[simp] theorem partK_g (st : St) (r : Nat) (d0 : D) (p : List Nat) (i : Nat) (b : Bool) (l : List α) : partK st r d0 p i (gsl e b l) = some (.own (gsl e b l), leave st r d0 (p ++ [i])) := rfl
@[simp] theorem killC_g (r : Nat) (p : List Nat) (c : Nat) (st : St) (b : Bool) (l : List α) : killC r p c st (gsl e b l) = kill r (p ++ [c]) st := rfl
@[simp] theorem tgtK_g (r : Nat) (p : List Nat) (c : Nat) (b : Bool) (l : List α) : tgtK r p c (gsl e b l) = some (r, p, c) := rfl
@[simp] theorem tgtK_gb (r : Nat) (p : List Nat) (c : Nat) (l : List α) : tgtK r p c (gbx e l) = some (r, p, c) := rfl
@[simp] theorem tgtB_gb (r : Nat) (p : List Nat) (l : List α) : tgtB r p (gbx e l) = some (r, p, 0) := rfl
@[simp] theorem celB_gb (l : List α) : celB (gbx e l) = (gk e l)[0]? := rfl
@[simp] theorem adB_gb (r : Nat) (p : List Nat) (off : Nat) (l : List α) : adB r p off (gbx e l) = some (.ad r p off) := rfl
@[simp] theorem celD_g (c : Nat) (b : Bool) (l : List α) : celD c (gsl e b l) = (gk e l)[c]? := rfl
@[simp] theorem celD_gb (c : Nat) (l : List α) : celD c (gbx e l) = (gk e l)[c]? := rfl
@[simp] theorem celA_g (c : Nat) (b : Bool) (l : List α) : celA c (gsl e b l) = (gk e l)[c]? := rfl
@[simp] theorem celA_gb (c : Nat) (l : List α) : celA c (gbx e l) = (gk e l)[c]? := rfl
@[simp] theorem assign_gnil (st : St) (dst : Nat) : assign st dst (.ro (gsl e true [])) = some (setv st dst (.own (gsl e true []))) := rfl
@[simp] theorem getAt_g (b : Bool) (l : List α) (i : Nat) (p : List Nat) : getAt (gsl e b l) (i :: p) = ob (gk e l)[i]? (fun t => getAt t p) := getAt_cons _ _ _ _
@[simp] theorem agD_g (r : Nat) (p : List Nat) (c m : Nat) (b : Bool) (l : List α) : agD r p c m (gsl e b l) = aggV r p (gk e l) c m := rfl

theorem elP_ge (r : Nat) (p : List Nat) (i : Nat) (b : Bool) (l : List α) : elP r p e.es i (gsl e b l) = if i < l.length then some (.ad r p (i * e.es)) else none := by
  simp [elP, gsl, gk_len]
theorem elR_ge (i : Nat) (b : Bool) (l : List α) : elR e.es i (gsl e b l) = if i < l.length then some (.rad (gk e l) (i * e.es)) else none := by
  simp [elR, gsl, gk_len]
theorem elS_ge (r : Nat) (p : List Nat) (lo n i : Nat) (b : Bool) (l : List α) : elS r p (lo * e.es) e.es n e.es i (gsl e b l) = if i < n ∧ lo + n ≤ l.length then some (.ad r p ((lo + i) * e.es)) else none := by
  have : lo * e.es + n * e.es ≤ l.length * e.es ↔ lo + n ≤ l.length := by rw [← Nat.add_mul]; exact Nat.mul_le_mul_right_iff e.pos
  simp [elS, gsl, gk_len, this, Nat.add_mul]
theorem subD_ge (lo n : Nat) (l : List α) : subD (lo * e.es) e.es n (gsl e false l) = if lo + n ≤ l.length then some (gsl e false ((l.drop lo).take n)) else none := by
  have h : lo * e.es + n * e.es ≤ l.length * e.es ↔ lo + n ≤ l.length := by rw [← Nat.add_mul]; exact Nat.mul_le_mul_right_iff e.pos
  simp only [subD, gsl, gk_len, h, e.pos, true_and, gk_drop, gk_take]
  split
  · rename_i hle
    have : ((l.drop lo).take n).length = n := by simp; omega
    rw [this]
  · rfl
theorem slR_ge (lo hi : Option Nat) (b : Bool) (l : List α) : slR e.es lo hi (gsl e b l) = if lo.getD 0 ≤ hi.getD l.length ∧ hi.getD l.length ≤ l.length then some (.ro (gsl e b ((l.drop (lo.getD 0)).take (hi.getD l.length - lo.getD 0)))) else none := by
  simp only [slR, gsl, gk_len, true_or, and_true, true_and, gk_drop, gk_take]
  split
  · rename_i hle
    have : ((l.drop (lo.getD 0)).take (hi.getD l.length - lo.getD 0)).length = hi.getD l.length - lo.getD 0 := by simp; omega
    rw [this]
  · rfl
theorem slP_ge (r : Nat) (p : List Nat) (lo hi : Option Nat) (b : Bool) (l : List α) : slP r p e.es lo hi (gsl e b l) = if lo.getD 0 ≤ hi.getD l.length ∧ hi.getD l.length ≤ l.length then some (if b then .ro (.nd (.sl true e.es 0) []) else .sub r p (lo.getD 0 * e.es) e.es (hi.getD l.length - lo.getD 0)) else none := by
  simp [slP, gsl, gk_len]
theorem slS_ge (r : Nat) (p : List Nat) (lo0 n : Nat) (lo hi : Option Nat) (l : List α) : slS r p (lo0 * e.es) e.es n e.es lo hi (gsl e false l) = if lo.getD 0 ≤ hi.getD n ∧ hi.getD n ≤ n ∧ lo0 + n ≤ l.length then some (.sub r p ((lo0 + lo.getD 0) * e.es) e.es (hi.getD n - lo.getD 0)) else none := by
  have h : lo0 * e.es + n * e.es ≤ l.length * e.es ↔ lo0 + n ≤ l.length := by rw [← Nat.add_mul]; exact Nat.mul_le_mul_right_iff e.pos
  simp [slS, gsl, gk_len, h, Nat.add_mul]
theorem apS_ge (st : St) (v : V) (b : Bool) (l : List α) (hsc : (gk e l).all isSc = true) : apS st e.es v (gsl e b l) = some (l.length, gk e l, st) := by
  simp [apS, gsl, gk_len, gk_flat, hsc]
theorem apS_own (st : St) (r : Nat) (b : Bool) (l : List α) (hr : st[r]? = some (.own (gsl e b l))) : apS st e.es (.ref r []) (gsl e b l) = if (gk e l).all isSc = true then some (l.length, gk e l, st) else some (l.length, gk e l, leave st r (gsl e b l) []) := by
  simp only [apS, gsl, gk_len, gk_flat, true_or, true_and, if_true]
  split
  · rfl
  · rw [take_ref, hr]
    simp [gsl, gk_len, gk_flat]
theorem apD_ge (b : Bool) (l m : List α) : apD e.es m.length (gk e m) (gsl e b l) = if l.length + m.length ≤ most then some (gsl e (b && m.length == 0) (l ++ m)) else none := by
  simp [apD, gsl, gk_len, gk_app]
theorem apZ_ge (b : Bool) (l : List α) (hsc : (gk e l).all isSc = true) : apZ e.es (gsl e b l) = if l.length ≤ most then some (.own (gsl e false l)) else none := by
  show (if (e.es = e.es ∨ l.length = 0) ∧ (gk e l).length = l.length * e.es ∧ (gk e l).all flatOk = true ∧ (gk e l).all isSc = true ∧ l.length ≤ most then _ else _) = _
  by_cases h : l.length ≤ most
  · rw [if_pos h, if_pos ⟨.inl rfl, gk_len e l, gk_flat e l, hsc, h⟩]; rfl
  · rw [if_neg h, if_neg fun h' => h h'.2.2.2.2]
theorem apD_nil (es m : Nat) (ks : List D) : apD es m ks (.nd (.sl true es 0) []) = if m ≤ most then some (.nd (.sl (m == 0) es m) ks) else none := by
  simp [apD]
theorem agg_ge (r : Nat) (p : List Nat) (i : Nat) (l : List α) (hsc : (e.enc (l.getD i e.d)).all isSc = true) : aggV r p (gk e l) (i * e.es) e.es = if i < l.length then some (.ro (.nd .ag (e.enc (l.getD i e.d)))) else none := by
  have h : i * e.es + e.es ≤ l.length * e.es ↔ i < l.length := by
    rw [← Nat.succ_mul]; exact Nat.mul_le_mul_right_iff e.pos
  rw [aggV_eq, gk_len]
  simp only [h]
  split
  · rename_i hi
    rw [gk_part e l i hi, hsc]
    simp
  · rfl
theorem aggR_ge (i : Nat) (l : List α) : aggR (gk e l) (i * e.es) e.es = if i < l.length then some (.ro (.nd .ag (e.enc (l.getD i e.d)))) else none := by
  have h : i * e.es + e.es ≤ l.length * e.es ↔ i < l.length := by
    rw [← Nat.succ_mul]; exact Nat.mul_le_mul_right_iff e.pos
  unfold aggR
  rw [gk_len]
  simp only [h]
  split
  · rename_i hi
    rw [gk_part e l i hi]
  · rfl
theorem setAt_ge (b : Bool) (l : List α) (i off : Nat) (ho : off < e.es) (x : D) (y : α) (hy : i < l.length → (e.enc (l.getD i e.d)).set off x = e.enc y) : setAt (gsl e b l) [i * e.es + off] x = gsl e b (l.set i y) := by
  rw [gsl, setAt_cons, setAt_nil' |> fun _ => gk_cell e l i off ho]
  by_cases hi : i < l.length
  · rw [if_pos hi]
    obtain ⟨t, ht⟩ : ∃ t, (e.enc (l.getD i e.d))[off]? = some t := ⟨_, List.getElem?_eq_getElem (by rw [e.len]; exact ho)⟩
    rw [ht, setC_some, setAt_nil', gk_set e l i off ho x y hy]
    simp [gsl]
  · rw [if_neg hi]
    simp only [setC, gsl]
    rw [List.set_eq_of_length_le (by omega)]
end

/-! ### numbers and truth values -/
def eI (k : IntKind) : En Int where
  es := 1
  enc n := [.v (.int k n)]
  d := 0
  pos := by decide
  len _ := rfl
  flat _ := rfl
def eB : En Bool where
  es := 1
  enc n := [.v (.bool n)]
  d := false
  pos := by decide
  len _ := rfl
  flat _ := rfl
def eS : En ByteArray where
  es := 1
  enc n := [.v (.string n)]
  d := .empty
  pos := by decide
  len _ := rfl
  flat _ := rfl
/-- Slices of slices. -/
def eL {α : Type} (e : En α) : En (Bool × List α) where
  es := 1
  enc p := [gsl e p.1 p.2]
  d := (true, [])
  pos := by decide
  len _ := rfl
  flat _ := rfl

abbrev ii (n : Int) : V := .sc (.int .i64 n)
abbrev uu (n : Int) : V := .sc (.int .u32 n)
abbrev bb (t : Bool) : V := .sc (.bool t)
/-- A slice of numbers of type int. -/
abbrev si (b : Bool) (l : List Int) : D := gsl (eI .i64) b l

theorem sc_I (k : IntKind) (l : List Int) : (gk (eI k) l).all isSc = true := by
  induction l with
  | nil => rfl
  | cons a l ih => exact ih
theorem sc_B (l : List Bool) : (gk eB l).all isSc = true := by
  induction l with
  | nil => rfl
  | cons a l ih => exact ih
theorem sc_S (l : List ByteArray) : (gk eS l).all isSc = true := by
  induction l with
  | nil => rfl
  | cons a l ih => exact ih

section one
variable {α : Type} (e : En α) (h1 : e.es = 1)
include h1
theorem one_cell (l : List α) (i : Nat) : (gk e l)[i]? = if i < l.length then (e.enc (l.getD i e.d))[0]? else none := by
  have := gk_cell e l i 0 (by omega)
  rw [h1] at this
  simpa using this
theorem one_elP (r : Nat) (p : List Nat) (i : Nat) (b : Bool) (l : List α) : elP r p 1 i (gsl e b l) = if i < l.length then some (.ad r p i) else none := by
  have := elP_ge e r p i b l
  rw [h1] at this; simpa using this
theorem one_elR (i : Nat) (b : Bool) (l : List α) : elR 1 i (gsl e b l) = if i < l.length then some (.rad (gk e l) i) else none := by
  have := elR_ge e i b l
  rw [h1] at this; simpa using this
theorem one_elS (r : Nat) (p : List Nat) (lo n i : Nat) (b : Bool) (l : List α) : elS r p lo 1 n 1 i (gsl e b l) = if i < n ∧ lo + n ≤ l.length then some (.ad r p (lo + i)) else none := by
  have := elS_ge e r p lo n i b l
  rw [h1] at this; simpa using this
theorem one_subD (lo n : Nat) (l : List α) : subD lo 1 n (gsl e false l) = if lo + n ≤ l.length then some (gsl e false ((l.drop lo).take n)) else none := by
  have := subD_ge e lo n l
  rw [h1] at this; simpa using this
theorem one_slR (lo hi : Option Nat) (b : Bool) (l : List α) : slR 1 lo hi (gsl e b l) = if lo.getD 0 ≤ hi.getD l.length ∧ hi.getD l.length ≤ l.length then some (.ro (gsl e b ((l.drop (lo.getD 0)).take (hi.getD l.length - lo.getD 0)))) else none := by
  have := slR_ge e lo hi b l
  rw [h1] at this; exact this
theorem one_slP (r : Nat) (p : List Nat) (lo hi : Option Nat) (b : Bool) (l : List α) : slP r p 1 lo hi (gsl e b l) = if lo.getD 0 ≤ hi.getD l.length ∧ hi.getD l.length ≤ l.length then some (if b then .ro (.nd (.sl true 1 0) []) else .sub r p (lo.getD 0) 1 (hi.getD l.length - lo.getD 0)) else none := by
  have := slP_ge e r p lo hi b l
  rw [h1] at this; simpa using this
theorem one_slS (r : Nat) (p : List Nat) (lo0 n : Nat) (lo hi : Option Nat) (l : List α) : slS r p lo0 1 n 1 lo hi (gsl e false l) = if lo.getD 0 ≤ hi.getD n ∧ hi.getD n ≤ n ∧ lo0 + n ≤ l.length then some (.sub r p (lo0 + lo.getD 0) 1 (hi.getD n - lo.getD 0)) else none := by
  have := slS_ge e r p lo0 n lo hi l
  rw [h1] at this; simpa using this
theorem one_apD (b : Bool) (l m : List α) (n : Nat) (hn : n = m.length) (ks : List D) (hk : ks = gk e m) : apD 1 n ks (gsl e b l) = if l.length + n ≤ most then some (gsl e (b && n == 0) (l ++ m)) else none := by
  have := apD_ge e b l m
  rw [h1] at this; subst hn hk; exact this
theorem one_setAt (b : Bool) (l : List α) (i : Nat) (x : D) (y : α) (hy : e.enc y = [x]) : setAt (gsl e b l) [i] x = gsl e b (l.set i y) := by
  have := setAt_ge e b l i 0 (by omega) x y (fun _ => by
    have := e.len (l.getD i e.d)
    rw [h1] at this
    obtain ⟨c, hc⟩ := List.length_eq_one_iff.1 this
    rw [hc, hy]; rfl)
  rw [h1] at this
  simpa using this
end one

section
variable (k : IntKind)
@[simp high] theorem I_cell (l : List Int) (i : Nat) : (gk (eI k) l)[i]? = if i < l.length then some (.v (.int k (nth l 0 i))) else none := one_cell (eI k) rfl l i
@[simp] theorem I_elP (r : Nat) (p : List Nat) (i : Nat) (b : Bool) (l : List Int) : elP r p 1 i (gsl (eI k) b l) = if i < l.length then some (.ad r p i) else none := one_elP (eI k) rfl r p i b l
@[simp] theorem I_elR (i : Nat) (b : Bool) (l : List Int) : elR 1 i (gsl (eI k) b l) = if i < l.length then some (.rad (gk (eI k) l) i) else none := one_elR (eI k) rfl i b l
@[simp] theorem I_elS (r : Nat) (p : List Nat) (lo n i : Nat) (b : Bool) (l : List Int) : elS r p lo 1 n 1 i (gsl (eI k) b l) = if i < n ∧ lo + n ≤ l.length then some (.ad r p (lo + i)) else none := one_elS (eI k) rfl r p lo n i b l
@[simp] theorem I_subD (lo n : Nat) (l : List Int) : subD lo 1 n (gsl (eI k) false l) = if lo + n ≤ l.length then some (gsl (eI k) false ((l.drop lo).take n)) else none := one_subD (eI k) rfl lo n l
@[simp] theorem I_slR (lo hi : Option Nat) (b : Bool) (l : List Int) : slR 1 lo hi (gsl (eI k) b l) = if lo.getD 0 ≤ hi.getD l.length ∧ hi.getD l.length ≤ l.length then some (.ro (gsl (eI k) b ((l.drop (lo.getD 0)).take (hi.getD l.length - lo.getD 0)))) else none := one_slR (eI k) rfl lo hi b l
@[simp] theorem I_slP (r : Nat) (p : List Nat) (lo hi : Option Nat) (b : Bool) (l : List Int) : slP r p 1 lo hi (gsl (eI k) b l) = if lo.getD 0 ≤ hi.getD l.length ∧ hi.getD l.length ≤ l.length then some (if b then .ro (.nd (.sl true 1 0) []) else .sub r p (lo.getD 0) 1 (hi.getD l.length - lo.getD 0)) else none := one_slP (eI k) rfl r p lo hi b l
@[simp] theorem I_slS (r : Nat) (p : List Nat) (lo0 n : Nat) (lo hi : Option Nat) (l : List Int) : slS r p lo0 1 n 1 lo hi (gsl (eI k) false l) = if lo.getD 0 ≤ hi.getD n ∧ hi.getD n ≤ n ∧ lo0 + n ≤ l.length then some (.sub r p (lo0 + lo.getD 0) 1 (hi.getD n - lo.getD 0)) else none := one_slS (eI k) rfl r p lo0 n lo hi l
@[simp] theorem I_apS (st : St) (v : V) (b : Bool) (l : List Int) : apS st 1 v (gsl (eI k) b l) = some (l.length, gk (eI k) l, st) := apS_ge (eI k) st v b l (sc_I k l)
@[simp] theorem I_apZ (b : Bool) (l : List Int) : apZ 1 (gsl (eI k) b l) = if l.length ≤ most then some (.own (gsl (eI k) false l)) else none := apZ_ge (eI k) b l (sc_I k l)
@[simp] theorem I_apD1 (b : Bool) (l : List Int) (x : Int) : apD 1 1 [.v (.int k x)] (gsl (eI k) b l) = if l.length + 1 ≤ most then some (gsl (eI k) false (l ++ [x])) else none := by
  have := one_apD (eI k) rfl b l [x] 1 rfl [.v (.int k x)] rfl
  simpa using this
@[simp] theorem I_apD (b : Bool) (l m : List Int) : apD 1 m.length (gk (eI k) m) (gsl (eI k) b l) = if l.length + m.length ≤ most then some (gsl (eI k) (b && m.length == 0) (l ++ m)) else none := one_apD (eI k) rfl b l m _ rfl _ rfl
@[simp] theorem I_setAt (b : Bool) (l : List Int) (i : Nat) (x : Int) : setAt (gsl (eI k) b l) [i] (.v (.int k x)) = gsl (eI k) b (l.set i x) := one_setAt (eI k) rfl b l i _ x rfl
@[simp] theorem I_reps (n : Nat) : T.nd (K.sl false 1 n) (reps n [.v (.int k 0)]) = gsl (eI k) false (List.replicate n 0) := by
  have e : reps n [(T.v (.int k 0) : D)] = gk (eI k) (List.replicate n 0) := by
    unfold reps gk
    rw [List.flatMap, List.map_replicate]; rfl
  rw [e, gsl]; simp [eI]
end
@[simp high] theorem B_cell (l : List Bool) (i : Nat) : (gk eB l)[i]? = if i < l.length then some (.v (.bool (nth l false i))) else none := one_cell eB rfl l i
@[simp] theorem B_elP (r : Nat) (p : List Nat) (i : Nat) (b : Bool) (l : List Bool) : elP r p 1 i (gsl eB b l) = if i < l.length then some (.ad r p i) else none := one_elP eB rfl r p i b l
@[simp] theorem B_elR (i : Nat) (b : Bool) (l : List Bool) : elR 1 i (gsl eB b l) = if i < l.length then some (.rad (gk eB l) i) else none := one_elR eB rfl i b l
@[simp] theorem B_setAt (b : Bool) (l : List Bool) (i : Nat) (x : Bool) : setAt (gsl eB b l) [i] (.v (.bool x)) = gsl eB b (l.set i x) := one_setAt eB rfl b l i _ x rfl
@[simp] theorem B_reps (n : Nat) : T.nd (K.sl false 1 n) (reps n [.v (.bool false)]) = gsl eB false (List.replicate n false) := by
  have e : reps n [(T.v (.bool false) : D)] = gk eB (List.replicate n false) := by
    unfold reps gk
    rw [List.flatMap, List.map_replicate]; rfl
  rw [e, gsl]; simp [eB]
@[simp] theorem B_setAt_bx (l : List Bool) (i : Nat) (x : Bool) : setAt (gbx eB l) [i] (.v (.bool x)) = gbx eB (l.set i x) := by
  have := one_setAt eB rfl false l i _ x rfl
  unfold gsl at this
  unfold gbx
  rw [setAt_cons] at this ⊢
  simp only [T.nd.injEq] at this
  rw [this.2]

/-! ### slices of slices -/
section
variable {α : Type} (e : En α)
@[simp high] theorem L_cell (l : List (Bool × List α)) (i : Nat) : (gk (eL e) l)[i]? = if i < l.length then some (gsl e (nth l (true, []) i).1 (nth l (true, []) i).2) else none := one_cell (eL e) rfl l i
@[simp] theorem L_elP (r : Nat) (p : List Nat) (i : Nat) (b : Bool) (l : List (Bool × List α)) : elP r p 1 i (gsl (eL e) b l) = if i < l.length then some (.ad r p i) else none := one_elP (eL e) rfl r p i b l
@[simp] theorem L_elR (i : Nat) (b : Bool) (l : List (Bool × List α)) : elR 1 i (gsl (eL e) b l) = if i < l.length then some (.rad (gk (eL e) l) i) else none := one_elR (eL e) rfl i b l
@[simp] theorem L_setAt1 (b : Bool) (l : List (Bool × List α)) (i : Nat) (b' : Bool) (x : List α) : setAt (gsl (eL e) b l) [i] (gsl e b' x) = gsl (eL e) b (l.set i (b', x)) := one_setAt (eL e) rfl b l i _ (b', x) rfl
theorem L_setAt (b : Bool) (l : List (Bool × List α)) (i j : Nat) (p : List Nat) (x : D) (b' : Bool) (y : List α) (h : i < l.length → setAt (gsl e (nth l (true, []) i).1 (nth l (true, []) i).2) (j :: p) x = gsl e b' y) : setAt (gsl (eL e) b l) (i :: j :: p) x = gsl (eL e) b (l.set i (b', y)) := by
  rw [gsl, setAt_cons, L_cell]
  by_cases hi : i < l.length
  · rw [if_pos hi, setC_some, h hi]
    have := gk_set (eL e) l i 0 Nat.one_pos (gsl e b' y) (b', y) (fun _ => rfl)
    rw [show i * (eL e).es + 0 = i by simp [eL]] at this
    rw [this]; simp [gsl]
  · rw [if_neg hi]
    simp only [setC, gsl]
    rw [List.set_eq_of_length_le (by omega)]
@[simp] theorem L_apD1 (b b' : Bool) (l : List (Bool × List α)) (x : List α) : apD 1 1 [gsl e b' x] (gsl (eL e) b l) = if l.length + 1 ≤ most then some (gsl (eL e) false (l ++ [(b', x)])) else none := by
  have := one_apD (eL e) rfl b l [(b', x)] 1 rfl [gsl e b' x] rfl
  simpa using this
end
@[simp] theorem L_setAtI (k : IntKind) (b : Bool) (l : List (Bool × List Int)) (i j : Nat) (x : Int) : setAt (gsl (eL (eI k)) b l) [i, j] (.v (.int k x)) = gsl (eL (eI k)) b (l.set i ((nth l (true, []) i).1, (nth l (true, []) i).2.set j x)) :=
  L_setAt (eI k) b l i j [] _ _ _ fun _ => I_setAt k _ _ _ _
@[simp] theorem L_setAtB (b : Bool) (l : List (Bool × List Bool)) (i j : Nat) (x : Bool) : setAt (gsl (eL eB) b l) [i, j] (.v (.bool x)) = gsl (eL eB) b (l.set i ((nth l (true, []) i).1, (nth l (true, []) i).2.set j x)) :=
  L_setAt eB b l i j [] _ _ _ fun _ => B_setAt _ _ _ _

/-- A literal of cells. -/
@[simp] theorem apS_sc (st : St) (es n : Nat) (v : V) (b : Bool) (kids : List D) : apS st es v (.nd (.sl b es n) kids) = if kids.length = n * es then
      if kids.all flatOk = true then
        if kids.all isSc = true then some (n, kids, st)
        else ob (Mx.take st v) (fun q => match q with
          | (.nd (.sl _ _ n') kids', st1) => if n' = n ∧ kids'.length = n * es ∧ kids'.all flatOk then some (n, kids', st1) else none
          | _ => none)
      else none
    else none := by
  simp only [apS, true_or, true_and]
  split
  · split
    · split
      · rfl
      · cases Mx.take st v with
        | none => rfl
        | some q =>
          obtain ⟨d, s1⟩ := q
          cases d with
          | nd k kids => cases k <;> rfl
          | _ => rfl
    · rfl
  · rfl
@[simp] theorem apD_nil' (es m : Nat) (ks : List D) : apD es m ks (.nd (.sl true es 0) []) = if m ≤ most then some (.nd (.sl (m == 0) es m) ks) else none := apD_nil es m ks
@[simp] theorem lay_nil (cells : List D) : lay cells [] = some cells := by rw [lay]
@[simp] theorem lay_cons (cells : List D) (off sz : Nat) (d : D) (rest : List (Nat × Nat × D)) : lay cells ((off, sz, d) :: rest) = if (cellsOfD d).length = sz ∧ (cellsOfD d).all flatOk = true then ob (layAt cells off (cellsOfD d)) (fun c => lay c rest) else none := by
  rw [lay]
  split
  · cases layAt cells off (cellsOfD d) <;> rfl
  · rfl
attribute [simp] layAt
@[simp] theorem reps_1 (l : List D) : reps 1 l = l := by simp [reps]
@[simp] theorem reps_2 (l : List D) : reps 2 l = l ++ l := by simp [reps, List.replicate]
@[simp] theorem reps_3 (l : List D) : reps 3 l = l ++ (l ++ l) := by simp [reps, List.replicate]
@[simp] theorem reps_4 (l : List D) : reps 4 l = l ++ (l ++ (l ++ l)) := by simp [reps, List.replicate]
@[simp] theorem reps_5 (l : List D) : reps 5 l = l ++ (l ++ (l ++ (l ++ l))) := by simp [reps, List.replicate]
@[simp] theorem reps_6 (l : List D) : reps 6 l = l ++ (l ++ (l ++ (l ++ (l ++ l)))) := by simp [reps, List.replicate]
@[simp] theorem reps_0 (l : List D) : reps 0 l = [] := by simp [reps]
theorem apD_empty (es m : Nat) (ks : List D) : apD es m ks (.nd (.sl false es 0) []) = if m ≤ most then some (.nd (.sl false es m) ks) else none := by
  simp [apD]
@[simp] theorem apD_empty' (es m : Nat) (ks : List D) : apD es m ks (.nd (.sl false es 0) []) = if m ≤ most then some (.nd (.sl false es m) ks) else none := apD_empty es m ks
@[simp] theorem I_fold (k : IntKind) (b : Bool) (l : List Int) : T.nd (K.sl b 1 l.length) (gk (eI k) l) = gsl (eI k) b l := rfl
@[simp] theorem B_fold (b : Bool) (l : List Bool) : T.nd (K.sl b 1 l.length) (gk eB l) = gsl eB b l := rfl
@[simp] theorem L_fold {α : Type} (e : En α) (b : Bool) (l : List (Bool × List α)) : T.nd (K.sl b 1 l.length) (gk (eL e) l) = gsl (eL e) b l := rfl

end Go.Mx
