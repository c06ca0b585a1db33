import Derived.Test.YtldfddgdcjaogaaDiB
/-
  Bounds are valid: the program and the reference.
-/
namespace Go.Mx
set_option linter.unusedVariables false
set_option linter.unusedSimpArgs false
set_option linter.unusedSectionVars false
open Go

abbrev bxI (n : Int) : D := .nd (.bx false) [.v (.int .i64 n)]
abbrev fnV (f : FuncId) (kids : List D) : D := .nd (.fn (.func f) 0) kids

theorem f36 (call : Oracle) (fuel : Nat) (n : Int) (c : Int × Int × Int) (h37 : call 37 [.v (.int .i64 n), bD c] = some (.v (.bool (rightB n c)))) :
    callF call fuel c36 [bD c, bxI n] = some (.v (.bool (!rightB n c))) := by
  rw [callF_tab call fuel c36 4 _ (by exact Nat.le_of_ble_eq_true rfl) (by exact Nat.le_of_ble_eq_true rfl)]
  simp [c36, h37]

/-- The first place, or -1. -/
def idxO (o : Option Nat) : Int := o.elim (-1) fun i => (i : Int)
theorem idxO_nonneg (o : Option Nat) : decide (0 ≤ idxO o) = o.isSome := by
  cases o <;> simp [idxO]
theorem find_some {n : Nat} {p : Nat → Bool} : ((List.range n).find? p).isSome = (List.range n).any p := by
  rw [Bool.eq_iff_iff, List.any_eq_true, List.find?_isSome]

theorem loop49 (call : Oracle) (fuel : Nat) (b : Bool) (l : List (Int × Int × Int)) (f : FuncId) (kids : List D) (p : Int × Int × Int → Bool) (hp : ∀ c ∈ l, call f (bD c :: kids) = some (.v (.bool (p c))))
    (hl : l.length ≤ 1000) (fu : Nat) (hf : 1000 < fu) (st : St) (h0 : drops st h49_0 = L49_0 (.ro (sd b l)) (.ro (fnV f kids)) (ii l.length) (ii 0)) :
    run.loopN (run call fuel b49_0) fu st = some (((List.range l.length).find? fun i => p (nth l z3 i)).elim (.ex 0, X49_0) fun i => (.ret, R49 (ii i))) := by
  refine loop_find call fuel h49_0 _ l.length (fun i => p (nth l z3 i)) (fun i => L49_0 (.ro (sd b l)) (.ro (fnV f kids)) (ii l.length) (ii i)) (fun i => (.ret, R49 (ii i))) (.ex 0, X49_0) (by simp) (by simp) ?_ (by simp) fu st (by rw [h0]; rfl) (by omega)
  intro i hi _
  have hw := wrap_succ (i := i) (by omega)
  have e := hp (nth l z3 i) (nth_mem z3 hi)
  by_cases h : p (nth l z3 i) = true
  · rw [h] at e
    simp [hi, hw, e, h]
  · rw [Bool.not_eq_true] at h
    rw [h] at e
    simp [hi, hw, e, h]
/-- IndexFunc. -/
theorem f49 (call : Oracle) (fuel : Nat) (hf : 1000 < fuel) (b : Bool) (l : List (Int × Int × Int)) (f : FuncId) (kids : List D) (p : Int × Int × Int → Bool) (hp : ∀ c ∈ l, call f (bD c :: kids) = some (.v (.bool (p c)))) (hl : l.length ≤ 1000) :
    callF call fuel c49 [sd b l, fnV f kids] = some (.v (.int .i64 (idxO ((List.range l.length).find? fun i => p (nth l z3 i))))) := by
  rw [callF_tab call fuel c49 9 _ (by exact Nat.le_of_ble_eq_true rfl) (by exact Nat.le_of_ble_eq_true rfl)]
  simp [c49]
  rw [loop49 call fuel b l f kids p hp hl fuel hf _ (by simp)]
  cases (List.range l.length).find? fun i => p (nth l z3 i) <;> simp [idxO]
/-- ContainsFunc. -/
theorem f38 (call : Oracle) (fuel : Nat) (b : Bool) (l : List (Int × Int × Int)) (f : FuncId) (kids : List D) (p : Int × Int × Int → Bool)
    (h49 : call 49 [sd b l, fnV f kids] = some (.v (.int .i64 (idxO ((List.range l.length).find? fun i => p (nth l z3 i)))))) :
    callF call fuel c38 [sd b l, fnV f kids] = some (.v (.bool (l.any p))) := by
  rw [callF_tab call fuel c38 5 _ (by exact Nat.le_of_ble_eq_true rfl) (by exact Nat.le_of_ble_eq_true rfl)]
  have e := idxO_nonneg ((List.range l.length).find? fun i => p (nth l z3 i))
  rw [find_some, any_nth l z3 p] at e
  simp [c38, h49, e]

theorem loop51 (call : Oracle) (fuel : Nat) (b : Bool) (l : List Int) (f : FuncId) (kids : List D) (p : Int → Bool) (hp : ∀ c ∈ l, call f (.v (.int .i64 c) :: kids) = some (.v (.bool (p c))))
    (hl : l.length ≤ 1000) (fu : Nat) (hf : 1000 < fu) (st : St) (h0 : drops st h51_0 = L51_0 (.ro (si b l)) (.ro (fnV f kids)) (ii l.length) (ii 0)) :
    run.loopN (run call fuel b51_0) fu st = some (((List.range l.length).find? fun i => p (nth l 0 i)).elim (.ex 0, X51_0) fun i => (.ret, R51 (ii i))) := by
  refine loop_find call fuel h51_0 _ l.length (fun i => p (nth l 0 i)) (fun i => L51_0 (.ro (si b l)) (.ro (fnV f kids)) (ii l.length) (ii i)) (fun i => (.ret, R51 (ii i))) (.ex 0, X51_0) (by simp) (by simp) ?_ (by simp) fu st (by rw [h0]; rfl) (by omega)
  intro i hi _
  have hw := wrap_succ (i := i) (by omega)
  have e := hp (nth l 0 i) (nth_mem 0 hi)
  by_cases h : p (nth l 0 i) = true
  · rw [h] at e
    simp [hi, hw, e, h]
  · rw [Bool.not_eq_true] at h
    rw [h] at e
    simp [hi, hw, e, h]
theorem f51 (call : Oracle) (fuel : Nat) (hf : 1000 < fuel) (b : Bool) (l : List Int) (f : FuncId) (kids : List D) (p : Int → Bool) (hp : ∀ c ∈ l, call f (.v (.int .i64 c) :: kids) = some (.v (.bool (p c)))) (hl : l.length ≤ 1000) :
    callF call fuel c51 [si b l, fnV f kids] = some (.v (.int .i64 (idxO ((List.range l.length).find? fun i => p (nth l 0 i))))) := by
  rw [callF_tab call fuel c51 9 _ (by exact Nat.le_of_ble_eq_true rfl) (by exact Nat.le_of_ble_eq_true rfl)]
  simp [c51]
  rw [loop51 call fuel b l f kids p hp hl fuel hf _ (by simp)]
  cases (List.range l.length).find? fun i => p (nth l 0 i) <;> simp [idxO]
theorem f42 (call : Oracle) (fuel : Nat) (b : Bool) (l : List Int) (f : FuncId) (kids : List D) (p : Int → Bool)
    (h51 : call 51 [si b l, fnV f kids] = some (.v (.int .i64 (idxO ((List.range l.length).find? fun i => p (nth l 0 i)))))) :
    callF call fuel c42 [si b l, fnV f kids] = some (.v (.bool (l.any p))) := by
  rw [callF_tab call fuel c42 5 _ (by exact Nat.le_of_ble_eq_true rfl) (by exact Nat.le_of_ble_eq_true rfl)]
  have e := idxO_nonneg ((List.range l.length).find? fun i => p (nth l 0 i))
  rw [find_some, any_nth l 0 p] at e
  simp [c42, h51, e]

/-! ### Valid -/
def validB (n : Int) (l : List (Int × Int × Int)) : Bool := decide (1 ≤ n) && decide (n ≤ 16) && decide (l.length ≤ 80) && !l.any fun c => !rightB n c
theorem f16 (call : Oracle) (fuel : Nat) (n : Int) (b : Bool) (l : List (Int × Int × Int)) (h38 : l.length ≤ 80 → call 38 [sd b l, fnV 36 [bxI n]] = some (.v (.bool (l.any fun c => !rightB n c)))) :
    callF call fuel c16 [.v (.int .i64 n), sd b l] = some (.v (.bool (validB n l))) := by
  rw [callF_tab call fuel c16 6 _ (by exact Nat.le_of_ble_eq_true rfl) (by exact Nat.le_of_ble_eq_true rfl)]
  unfold validB
  generalize (l.any fun c => !rightB n c) = q at *
  by_cases h1 : 1 ≤ n
  rotate_left
  · simp [c16, h1]
  by_cases h2 : n ≤ 16
  rotate_left
  · simp [c16, h1, h2]
  by_cases h3 : l.length ≤ 80
  rotate_left
  · have : ¬ (l.length : Int) ≤ 80 := by omega
    simp [c16, h1, h2, this, h3]
  have e := h38 h3
  have : (l.length : Int) ≤ 80 := by omega
  simp [c16, h1, h2, this, h3, e]

theorem loop17 (call : Oracle) (fuel : Nat) (n : Int) (b : Bool) (l : List (Int × Int × Int)) (h24 : ∀ c, call 24 [.v (.int .i64 n), bD c] = some (.v (.bool (bndB n c))))
    (hl : l.length ≤ 1000) (fu : Nat) (hf : 1000 < fu) (st : St) (h0 : drops st h17_0 = L17_0 (ii n) (.ro (sd b l)) (ii 0)) :
    run.loopN (run call fuel b17_0) fu st = some (if (List.range l.length).any (fun i => !bndB n (nth l z3 i)) = true then (.ret, R17 (bb false)) else (.ex 0, X17_0 (ii n) (.ro (sd b l)))) := by
  refine loop_any call fuel h17_0 _ l.length (fun i => !bndB n (nth l z3 i)) (fun i => L17_0 (ii n) (.ro (sd b l)) (ii i)) (.ret, R17 (bb false)) (.ex 0, X17_0 (ii n) (.ro (sd b l))) (by simp) (by simp) ?_ (by simp) fu st (by rw [h0]; rfl) (by omega)
  intro i hi _
  have hw := wrap_succ (i := i) (by omega)
  have e := h24 (nth l z3 i)
  generalize bndB n (nth l z3 i) = q at *
  cases q <;> simp [hi, hw, e]
theorem f17 (call : Oracle) (fuel : Nat) (hf : 1000 < fuel) (n : Int) (b : Bool) (l : List (Int × Int × Int)) (h24 : ∀ c, call 24 [.v (.int .i64 n), bD c] = some (.v (.bool (bndB n c))))
    (h33 : call 33 [.v (.int .i64 n), .v (.int .i64 1), .v (.int .i64 16)] = some (.v (.bool (decide (1 ≤ n) && decide (n ≤ 16))))) (hl : l.length ≤ 1000) :
    callF call fuel c17 [.v (.int .i64 n), sd b l] = some (.v (.bool (validB n l))) := by
  rw [callF_tab call fuel c17 6 _ (by exact Nat.le_of_ble_eq_true rfl) (by exact Nat.le_of_ble_eq_true rfl)]
  have ha : (List.range l.length).any (fun i => !bndB n (nth l z3 i)) = l.any fun c => !bndB n c := any_nth l z3 fun c => !bndB n c
  have e := loop17 call fuel n b l h24 hl fuel hf
  rw [ha] at e
  have hv : validB n l = if l.any (fun c => !bndB n c) then false else (decide (1 ≤ n) && decide (n ≤ 16) && decide (l.length ≤ 80)) := by
    unfold validB
    by_cases h1 : 1 ≤ n ∧ n ≤ 16
    · have : (fun c => !bndB n c) = fun c => !rightB n c := by funext c; rw [bnd_right h1.1 h1.2]
      rw [this]
      cases (l.any fun c => !rightB n c) <;> simp
    · have : (decide (1 ≤ n) && decide (n ≤ 16)) = false := by
        rw [← Bool.not_eq_true, Bool.and_eq_true, decide_eq_true_eq, decide_eq_true_eq]; exact h1
      rw [this]; simp
  rw [hv]
  generalize (l.any fun c => !bndB n c) = q at *
  simp [c17]
  rw [e _ (by simp)]
  cases q
  · by_cases h1 : 1 ≤ n
    · by_cases h2 : n ≤ 16
      · by_cases h3 : l.length ≤ 80
        · have : (l.length : Int) ≤ 80 := by omega
          simp [h33, h1, h2, h3, this]
        · have : ¬ (l.length : Int) ≤ 80 := by omega
          simp [h33, h1, h2, h3, this]
      · simp [h33, h1, h2]
    · simp [h33, h1]
  · simp
end Go.Mx
