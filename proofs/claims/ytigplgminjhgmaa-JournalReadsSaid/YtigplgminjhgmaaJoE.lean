import Derived.Test.YtigplgminjhgmaaJoD
/-
  Journals: their bytes and ends; entries are appended.
-/
namespace Go.Mx
set_option linter.unusedVariables false
set_option linter.unusedSimpArgs false
set_option linter.unusedSectionVars false
open Go

abbrev nV (n : Int) : D := .v (.int .i64 n)
abbrev bV (t : Bool) : D := .v (.bool t)
abbrev kV (k : Nat) : D := .v (.int .u8 (k : Int))
abbrev su8 (b : Bool) (l : List Nat) : D := gsl (eI .u8) b (zl l)

@[simp ↓ high] theorem flat_g' {α : Type} (e : En α) (b : Bool) (l : List α) : flatOk (gsl e b l) = true := rfl
@[simp ↓ high] theorem isSc_g' {α : Type} (e : En α) (b : Bool) (l : List α) : isSc (gsl e b l) = false := rfl

/-- An entry: its kind, whether its data is nil, its data. -/
abbrev EN := Nat × (Bool × List Nat)
def eE : En EN where
  es := 2
  enc e := [.v (.int .u8 (e.1 : Int)), su8 e.2.1 e.2.2]
  d := (0, (true, []))
  pos := by decide
  len _ := rfl
  flat _ := rfl
abbrev sE (b : Bool) (l : List EN) : D := gsl eE b l
section
variable (l : List EN) (i : Nat)
theorem E_cell0 : (gk eE l)[i * 2]? = if i < l.length then some (kV (nth l (0, (true, [])) i).1) else none := by
  have := gk_cell eE l i 0 (by decide)
  rw [show i * eE.es + 0 = i * 2 from rfl] at this
  rw [this]
  rfl
theorem E_cell1 : (gk eE l)[i * 2 + 1]? = if i < l.length then some (su8 (nth l (0, (true, [])) i).2.1 (nth l (0, (true, [])) i).2.2) else none := by
  have := gk_cell eE l i 1 (by decide)
  rw [show i * eE.es + 1 = i * 2 + 1 from rfl] at this
  rw [this]
  rfl
attribute [simp] E_cell0 E_cell1
@[simp] theorem E_elP (r : Nat) (p : List Nat) (b : Bool) : elP r p 2 i (gsl eE b l) = if i < l.length then some (.ad r p (i * 2)) else none := elP_ge eE r p i b l
@[simp] theorem E_elR (b : Bool) : elR 2 i (gsl eE b l) = if i < l.length then some (.rad (gk eE l) (i * 2)) else none := elR_ge eE i b l
end
@[simp] theorem E_apD1 (b b' : Bool) (l : List EN) (k : Nat) (d : List Nat) : apD 2 1 [kV k, su8 b' d] (gsl eE b l) = if l.length + 1 ≤ most then some (gsl eE false (l ++ [(k, (b', d))])) else none := by
  have := apD_ge eE b l [(k, (b', d))]
  rw [Bool.and_comm] at this
  exact this
@[simp] theorem E_fold (b : Bool) (l : List EN) : T.nd (K.sl b 2 l.length) (gk eE l) = gsl eE b l := rfl

/-! ### the bytes of a journal -/
abbrev ES := List (Nat × List Nat)
def magL : List Nat := [67, 79, 73, 78, 49]
def jbL (es : ES) : List Nat := magL ++ es.flatMap fun e => sealL e.1 e.2
def jeL (es : ES) : List Nat := (List.range es.length).map fun i => (jbL (es.take (i + 1))).length
theorem jb_snoc (es : ES) (e : Nat × List Nat) : jbL (es ++ [e]) = jbL es ++ sealL e.1 e.2 := by simp [jbL]
theorem jb_len_snoc (es : ES) (e : Nat × List Nat) : (jbL (es ++ [e])).length = (jbL es).length + (e.2.length + 9) := by rw [jb_snoc, List.length_append, seal_len]
@[simp] theorem je_len (es : ES) : (jeL es).length = es.length := by simp [jeL]
theorem je_snoc (es : ES) (e : Nat × List Nat) : jeL (es ++ [e]) = jeL es ++ [(jbL (es ++ [e])).length] := by
  unfold jeL
  rw [List.length_append, List.length_singleton, List.range_succ, List.map_append]
  congr 1
  · apply List.map_congr_left
    intro i hi
    rw [List.take_append_of_le_length (by have := List.mem_range.1 hi; omega)]
  · simp [List.take_of_length_le]
theorem je_nth (es : ES) {i : Nat} (h : i < es.length) : nth (jeL es) 0 i = (jbL (es.take (i + 1))).length := by
  unfold jeL
  rw [nth_get _ (by simpa using h)]
  simp
theorem jb_take_le (es : ES) (i : Nat) : (jbL (es.take i)).length ≤ (jbL es).length := by
  have : jbL es = jbL (es.take i) ++ (es.drop i).flatMap fun e => sealL e.1 e.2 := by
    unfold jbL
    rw [List.append_assoc, ← List.flatMap_append, List.take_append_drop]
  rw [this, List.length_append]
  omega
theorem jb_pos (es : ES) : 5 ≤ (jbL es).length := by simp [jbL, magL]
structure OkJ (es : ES) : Prop where
  by8 : ∀ e ∈ es, e.1 < 256 ∧ By e.2 ∧ e.2.length ≤ 8192
  len : (jbL es).length ≤ 65536
theorem OkJ.nil : OkJ [] := ⟨by simp, by decide⟩

abbrev jD (b : Bool) (es : ES) : D := .nd (.bx false) [su8 false (jbL es), gsl (eI .i64) b (zl (jeL es))]
def wE (es : ES) : List EN := es.map fun e => (e.1, (false, e.2))
abbrev wD (b : Bool) (es : ES) : D := .nd (.bx false) [sE b (wE es)]
@[simp] theorem wE_len (es : ES) : (wE es).length = es.length := by simp [wE]
theorem wE_snoc (es : ES) (e : Nat × List Nat) : wE (es ++ [e]) = wE es ++ [(e.1, (false, e.2))] := by simp [wE]

theorem f12 (call : Oracle) (fuel : Nat) : callF call fuel c12 [] = some (jD true []) := by
  rw [callF_tab call fuel c12 1 _ (by exact Nat.le_of_ble_eq_true rfl) (by exact Nat.le_of_ble_eq_true rfl)]
  simp [c12]
  rfl
theorem f13 (call : Oracle) (fuel : Nat) : callF call fuel c13 [] = some (wD true []) := by
  rw [callF_tab call fuel c13 1 _ (by exact Nat.le_of_ble_eq_true rfl) (by exact Nat.le_of_ble_eq_true rfl)]
  simp [c13]
  rfl

/-- What appending an entry leaves. -/
def apJ (b : Bool) (es : ES) (k : Nat) (d : List Nat) : D :=
  if d.length ≤ 8192 ∧ (jbL es).length + (d.length + 9) ≤ 65536 then .nd .tu [nV 0, jD false (es ++ [(k, d)])] else .nd .tu [nV 6, jD b es]
theorem f14 (call : Oracle) (fuel : Nat) (b bd : Bool) (es : ES) (hes : (jbL es).length ≤ 65536) (k : Nat) (d : List Nat) (hl : es.length ≤ 10000) (h27 : call 27 [kV k, su8 bd d] = some (sealD k d)) :
    callI call fuel c14 (jD b es) [kV k, su8 bd d] = some (apJ b es k d) := by
  rw [callI_tab call fuel c14 12 _ _ (by exact Nat.le_of_ble_eq_true rfl) (by exact Nat.le_of_ble_eq_true rfl) (by rfl) (by rfl) (by rfl)]
  unfold sealD at h27
  unfold apJ
  by_cases h1 : d.length ≤ 8192
  · rw [if_pos h1] at h27
    have hsl := seal_len k d
    have e1 := je_snoc es (k, d)
    have e2 := jb_snoc es (k, d)
    have e3 := jb_len_snoc es (k, d)
    have hw : IntKind.i64.wrap (((jbL es).length : Int) + ((sealL k d).length : Int)) = ((jbL es).length : Int) + ((d.length : Int) + 9) := by
      rw [hsl, wrap_eq (by unfold I64; omega)]; omega
    have m1 : (jbL es).length + (sealL k d).length ≤ most := by unfold most; omega
    have m2 : es.length + 1 ≤ most := by unfold most; omega
    by_cases h2 : (jbL es).length + (d.length + 9) ≤ 65536
    · rw [if_pos ⟨h1, h2⟩]
      have h3 : ¬ (65536 : Int) < ((jbL es).length : Int) + ((d.length : Int) + 9) := by omega
      have e5 : jD false (es ++ [(k, d)]) = .nd (.bx false) [gsl (eI .u8) false (zl (jbL es ++ sealL k d)), gsl (eI .i64) false (zl (jeL es) ++ [((jbL es).length : Int) + ((sealL k d).length : Int)])] := by
        unfold jD
        rw [e1, e2, List.length_append, show zl (jeL es ++ [(jbL es).length + (sealL k d).length]) = zl (jeL es) ++ [(((jbL es).length + (sealL k d).length : Nat) : Int)] by simp [zl]]
        push_cast
        rfl
      rw [e5]
      simp [c14, h27, hw, h3, m1, m2]
    · rw [if_neg (by omega)]
      have h3 : (65536 : Int) < ((jbL es).length : Int) + ((d.length : Int) + 9) := by omega
      simp [c14, h27, hw, h3]
  · rw [if_neg h1] at h27
    rw [if_neg (by omega)]
    simp [c14, h27]
end Go.Mx
