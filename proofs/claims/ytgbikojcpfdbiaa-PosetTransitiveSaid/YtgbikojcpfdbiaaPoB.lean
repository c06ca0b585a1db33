import Derived.Test.YtgbikojcpfdbiaaPoA
import Derived.Test.YtgbikojcpfdbiaaMxU
/-
  Posets: sets of vertices as numbers' bits; valid digraphs.
-/
namespace Go.Mx
set_option linter.unusedVariables false
set_option linter.unusedSimpArgs false
set_option linter.unusedSectionVars false
open Go

abbrev ii (n : Int) : V := .sc (.int .i64 n)
abbrev bb (t : Bool) : V := .sc (.bool t)

/-- A list of arcs, as a tree. -/
def arcD (p : Int × Int) : List D := [.v (.int .i64 p.1), .v (.int .i64 p.2)]
def asl (b : Bool) (a : List (Int × Int)) : D := .nd (.sl b 2 a.length) (a.flatMap arcD)

theorem arcs_len (a : List (Int × Int)) : (a.flatMap arcD).length = a.length * 2 := by
  induction a with
  | nil => rfl
  | cons p a ih => simp only [List.flatMap_cons, List.length_append, ih, List.length_cons, arcD]; simp; omega

theorem arcs_get {a : List (Int × Int)} {i : Nat} {p : Int × Int} (h : a[i]? = some p) : (a.flatMap arcD)[i * 2]? = some (.v (.int .i64 p.1)) ∧ (a.flatMap arcD)[i * 2 + 1]? = some (.v (.int .i64 p.2)) := by
  induction a generalizing i with
  | nil => simp at h
  | cons q a ih =>
    cases i with
    | zero => simp at h; subst h; simp [arcD]
    | succ i =>
      simp at h
      obtain ⟨h1, h2⟩ := ih h
      rw [List.flatMap_cons]
      constructor
      · rw [List.getElem?_append_right (by simp [arcD]; omega)]
        simp only [arcD, List.length_cons, List.length_nil]
        rw [show (i + 1) * 2 - (0 + 1 + 1) = i * 2 by omega]
        exact h1
      · rw [List.getElem?_append_right (by simp [arcD]; omega)]
        simp only [arcD, List.length_cons, List.length_nil]
        rw [show (i + 1) * 2 + 1 - (0 + 1 + 1) = i * 2 + 1 by omega]
        exact h2

theorem arcs_two {a : List (Int × Int)} {i : Nat} {p : Int × Int} (h : a[i]? = some p) : ((a.flatMap arcD).drop (i * 2)).take 2 = [.v (.int .i64 p.1), .v (.int .i64 p.2)] := by
  obtain ⟨h1, h2⟩ := arcs_get h
  apply List.ext_getElem?
  intro j
  rw [List.getElem?_take, List.getElem?_drop]
  match j with
  | 0 => simpa using h1
  | 1 => simpa using h2
  | j + 2 => rw [if_neg (by omega)]; simp

theorem wrap_succ {i : Nat} (h : (i : Int) < 9223372036854775807) : IntKind.i64.wrap ((i : Int) + 1) = ((i + 1 : Nat) : Int) := by
  rw [wrap_eq (by unfold I64; omega)]
  simp

/-- Is the arc at a place as it must be? -/
def okArc (n : Int) (a : List (Int × Int)) (i : Nat) : Bool :=
  match a[i]? with
  | some (f, t) => decide (0 ≤ f) && decide (f < n) && decide (0 ≤ t) && decide (t < n) && !(f == t) &&
      (i == 0 || (match a[i - 1]? with
        | some (f', t') => !(decide (f < f') || (f == f') && decide (t ≤ t'))
        | none => true))
  | none => true

def validB (n : Int) (a : List (Int × Int)) : Bool := decide (0 ≤ n) && decide (n ≤ 24) && (List.range a.length).all (okArc n a)

theorem f10 (call : Oracle) (fuel : Nat) (b : Bool) (a : List (Int × Int)) : callF call fuel c10 [asl b a] = some (.v (.bool (decide (a.length ≤ 150)))) := by
  have : ((a.length : Int) ≤ 150) ↔ a.length ≤ 150 := by omega
  simp [c10, asl, this]

end Go.Mx
