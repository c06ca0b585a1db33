import Derived.Test.YtgligngmbkkkkaaAxC
/-
  The axis: the checks of a list, and how many hours are in an arc.
-/
namespace Go.Mx
set_option linter.unusedVariables false
set_option linter.unusedSimpArgs false
set_option linter.unusedSectionVars false
open Go

theorem wrap_succ {i : Nat} (h : (i : Int) < 9223372036854775807) : IntKind.i64.wrap ((i : Int) + 1) = ((i + 1 : Nat) : Int) := by
  rw [wrap_eq (by unfold I64; omega)]
  simp

theorem f16 (call : Oracle) (fuel : Nat) (b : Bool) (l : List Int) : callF call fuel c16 [sl b l] = some (.v (.bool (decide (l.length ≤ 80)))) := by
  have : ((l.length : Int) ≤ 80) ↔ l.length ≤ 80 := by omega
  simp [c16, sl, this]

theorem take_succ {l : List Int} {i : Nat} {x : Int} (h : l[i]? = some x) : l.take (i + 1) = l.take i ++ [x] := by
  rw [List.take_add_one, h]; rfl

theorem cnt_succ {l : List Int} {i : Nat} {x : Int} (h : l[i]? = some x) (p : Int → Bool) : (l.take (i + 1)).countP p = (l.take i).countP p + if p x then 1 else 0 := by
  rw [take_succ h, List.countP_append, List.countP_singleton]

def withinP (from_ n : Int) (x : Int) : Bool := decide (turnZ x (IntKind.i64.wrap (-from_)) < n)

theorem loop34 (call : Oracle) (fuel : Nat) (h41 : ∀ h n : Int, call 41 [.v (.int .i64 h), .v (.int .i64 n)] = some (.v (.int .i64 (turnZ h n)))) (b : Bool) (l : List Int) (hl : l.length ≤ 80) (hf : 100 < fuel) (from_ n : Int) (st : St)
    (h0 : drops st h34_0 = L34_0 (.ro (sl b l)) (.sc (.int .i64 from_)) (.sc (.int .i64 n)) (.sc (.int .i64 0)) (.ro (sl b l)) (.sc (.int .i64 l.length)) (.sc (.int .i64 0))) :
    run.loopN (run call fuel b34_0) fuel st = some (.ex 0, X34_0 (.sc (.int .i64 (l.countP (withinP from_ n) : Nat)))) := by
  refine loop_rule (fun m st => ∃ i : Nat, i ≤ l.length ∧ m = l.length - i ∧ drops st h34_0 = L34_0 (.ro (sl b l)) (.sc (.int .i64 from_)) (.sc (.int .i64 n)) (.sc (.int .i64 ((l.take i).countP (withinP from_ n) : Nat))) (.ro (sl b l)) (.sc (.int .i64 l.length)) (.sc (.int .i64 (i : Nat))))
    (fun r => r = some (.ex 0, X34_0 (.sc (.int .i64 (l.countP (withinP from_ n) : Nat))))) ?_ l.length fuel st ⟨0, by omega, by omega, by simpa using h0⟩ (by omega)
  rintro m st ⟨i, hi, hm, hst⟩
  by_cases hlt : i < l.length
  · left
    have hc := cnt_succ (List.getElem?_eq_getElem hlt) (withinP from_ n)
    have hle : (l.take i).countP (withinP from_ n) ≤ 80 := Nat.le_trans List.countP_le_length (by rw [List.length_take]; omega)
    have hw1 := wrap_succ (i := i) (by omega)
    have hw2 := wrap_succ (i := (l.take i).countP (withinP from_ n)) (by omega)
    by_cases hp : turnZ l[i] (IntKind.i64.wrap (-from_)) < n
    · have hp' : withinP from_ n l[i] = true := by simp [withinP, hp]
      refine ⟨_, by rw [b34_0, run_scr, hst]; simp [sl, hlt, h41, hp, hw1, hw2]; rfl, m - 1, by omega, i + 1, by omega, by omega, ?_⟩
      simp [sl, hc, hp']
    · have hp' : withinP from_ n l[i] = false := by simp [withinP, hp]
      refine ⟨_, by rw [b34_0, run_scr, hst]; simp [sl, hlt, h41, hp, hw1]; rfl, m - 1, by omega, i + 1, by omega, by omega, ?_⟩
      simp [sl, hc, hp']
  · right
    have : i = l.length := by omega
    subst this
    refine ⟨.ex 0, _, by rw [b34_0, run_scr, hst]; simp [sl]; rfl, by simp, ?_⟩
    simp [sl]

theorem f34 (call : Oracle) (fuel : Nat) (h41 : ∀ h n : Int, call 41 [.v (.int .i64 h), .v (.int .i64 n)] = some (.v (.int .i64 (turnZ h n)))) (b : Bool) (l : List Int) (hl : l.length ≤ 80) (hf : 100 < fuel) (from_ n : Int) :
    callF call fuel c34 [sl b l, .v (.int .i64 from_), .v (.int .i64 n)] = some (.v (.int .i64 (l.countP (withinP from_ n) : Nat))) := by
  simp [c34, sl]
  rw [loop34 call fuel h41 b l hl hf from_ n]
  · simp
  · simp [sl]

def inP (first k : Int) (x : Int) : Bool := decide (modZ (IntKind.i64.wrap (x - first)) 12 < k)

theorem loop36 (call : Oracle) (fuel : Nat) (h15 : ∀ a b : Int, b ≠ 0 → call 15 [.v (.int .i64 a), .v (.int .i64 b)] = some (.v (.int .i64 (modZ a b)))) (b : Bool) (l : List Int) (hl : l.length ≤ 80) (hf : 100 < fuel) (first k : Int) (st : St)
    (h0 : drops st h36_0 = L36_0 (.ro (sl b l)) (.sc (.int .i64 first)) (.sc (.int .i64 k)) (.sc (.int .i64 0)) (.sc (.int .i64 0))) :
    run.loopN (run call fuel b36_0) fuel st = some (.ex 0, X36_0 (.sc (.int .i64 (l.countP (inP first k) : Nat)))) := by
  refine loop_rule (fun m st => ∃ i : Nat, i ≤ l.length ∧ m = l.length - i ∧ drops st h36_0 = L36_0 (.ro (sl b l)) (.sc (.int .i64 first)) (.sc (.int .i64 k)) (.sc (.int .i64 ((l.take i).countP (inP first k) : Nat))) (.sc (.int .i64 (i : Nat))))
    (fun r => r = some (.ex 0, X36_0 (.sc (.int .i64 (l.countP (inP first k) : Nat))))) ?_ l.length fuel st ⟨0, by omega, by omega, by simpa using h0⟩ (by omega)
  rintro m st ⟨i, hi, hm, hst⟩
  by_cases hlt : i < l.length
  · left
    have hc := cnt_succ (List.getElem?_eq_getElem hlt) (inP first k)
    have hle : (l.take i).countP (inP first k) ≤ 80 := Nat.le_trans List.countP_le_length (by rw [List.length_take]; omega)
    have hw1 := wrap_succ (i := i) (by omega)
    have hw2 := wrap_succ (i := (l.take i).countP (inP first k)) (by omega)
    by_cases hp : modZ (IntKind.i64.wrap (l[i] - first)) 12 < k
    · have hp' : inP first k l[i] = true := by simp [inP, hp]
      refine ⟨_, by rw [b36_0, run_scr, hst]; simp [sl, hlt, h15, hp, hw1, hw2]; rfl, m - 1, by omega, i + 1, by omega, by omega, ?_⟩
      simp [sl, hc, hp']
    · have hp' : inP first k l[i] = false := by simp [inP, hp]
      refine ⟨_, by rw [b36_0, run_scr, hst]; simp [sl, hlt, h15, hp, hw1]; rfl, m - 1, by omega, i + 1, by omega, by omega, ?_⟩
      simp [sl, hc, hp']
  · right
    have : i = l.length := by omega
    subst this
    refine ⟨.ex 0, _, by rw [b36_0, run_scr, hst]; simp [sl]; rfl, by simp, ?_⟩
    simp [sl]

theorem f36 (call : Oracle) (fuel : Nat) (h15 : ∀ a b : Int, b ≠ 0 → call 15 [.v (.int .i64 a), .v (.int .i64 b)] = some (.v (.int .i64 (modZ a b)))) (b : Bool) (l : List Int) (hl : l.length ≤ 80) (hf : 100 < fuel) (first k : Int) :
    callF call fuel c36 [sl b l, .v (.int .i64 first), .v (.int .i64 k)] = some (.v (.int .i64 (l.countP (inP first k) : Nat))) := by
  simp [c36, sl]
  rw [loop36 call fuel h15 b l hl hf first k]
  · simp
  · simp [sl]

/-! ### the checks -/
def checkZ (l : List Int) : Int := if 64 < l.length then 6 else if l.all hourB then 0 else 1

theorem loop35 (call : Oracle) (fuel : Nat) (h21 : ∀ n lo hi : Int, call 21 [.v (.int .i64 n), .v (.int .i64 lo), .v (.int .i64 hi)] = some (.v (.bool (inB n lo hi)))) (b : Bool) (l : List Int) (hl : l.length ≤ 80) (hf : 100 < fuel) (st : St)
    (h0 : drops st h35_0 = L35_0 (.ro (sl b l)) (.sc (.int .i64 0))) :
    run.loopN (run call fuel b35_0) fuel st = if l.all hourB then some (.ex 0, X35_0) else some (.ret, R35 (.sc (.int .i64 1))) := by
  refine loop_rule (fun m st => ∃ i : Nat, i ≤ l.length ∧ m = l.length - i ∧ (l.take i).all hourB = true ∧ drops st h35_0 = L35_0 (.ro (sl b l)) (.sc (.int .i64 (i : Nat))))
    (fun r => r = if l.all hourB then some (.ex 0, X35_0) else some (.ret, R35 (.sc (.int .i64 1)))) ?_ l.length fuel st ⟨0, by omega, by omega, by simp, by simpa using h0⟩ (by omega)
  rintro m st ⟨i, hi, hm, hall, hst⟩
  by_cases hlt : i < l.length
  · have hx := List.getElem?_eq_getElem hlt
    have hw1 := wrap_succ (i := i) (by omega)
    cases hp : hourB l[i]
    · right
      have : l.all hourB = false := by
        rw [List.all_eq_false]
        exact ⟨l[i], List.getElem_mem hlt, by simp [hp]⟩
      refine ⟨.ret, _, by rw [b35_0, run_scr, hst]; simp [sl, hlt, h21, hp, hw1, hour_in]; rfl, by simp, ?_⟩
      simp [this]
    · left
      refine ⟨_, by rw [b35_0, run_scr, hst]; simp [sl, hlt, h21, hp, hw1, hour_in]; rfl, m - 1, by omega, i + 1, by omega, by omega, ?_, ?_⟩
      · rw [take_succ hx]
        rw [List.all_append, hall]
        simp [hp]
      · simp [sl]
  · right
    have : i = l.length := by omega
    subst this
    rw [List.take_length] at hall
    refine ⟨.ex 0, _, by rw [b35_0, run_scr, hst]; simp [sl]; rfl, by simp, ?_⟩
    simp [hall]

theorem f35 (call : Oracle) (fuel : Nat) (h21 : ∀ n lo hi : Int, call 21 [.v (.int .i64 n), .v (.int .i64 lo), .v (.int .i64 hi)] = some (.v (.bool (inB n lo hi)))) (b : Bool) (l : List Int) (hl : l.length ≤ 80) (hf : 100 < fuel) :
    callF call fuel c35 [sl b l] = some (.v (.int .i64 (checkZ l))) := by
  have e : ((l.length : Int) > 64) ↔ 64 < l.length := by omega
  by_cases h : 64 < l.length
  · have e2 : (64 : Int) < (l.length : Int) := by omega
    simp [c35, sl, e2, checkZ, h]
  · have e2 : ¬ (64 : Int) < (l.length : Int) := by omega
    simp [c35, sl, e2]
    rw [loop35 call fuel h21 b l hl hf]
    · cases hq : l.all hourB <;> simp [checkZ, h, hq]
    · simp [sl]

theorem f43 (call : Oracle) (fuel : Nat) (h31 : ∀ n : Int, call 31 [.v (.int .i64 n)] = some (.v (.bool (hourB n)))) (n : Int) : callF call fuel c43 [.v (.int .i64 n)] = some (.v (.bool (!hourB n))) := by
  cases h : hourB n <;> simp [c43, h31, h]

/-- The index of the first element of a kind, from a place on. -/
def idxFrom (p : Int → Bool) : List Int → Nat → Int
  | [], _ => -1
  | x :: xs, i => if p x then i else idxFrom p xs (i + 1)

theorem idxFrom_eq (p : Int → Bool) : ∀ (l : List Int) (i : Nat), (decide (0 ≤ idxFrom p l i)) = l.any p
  | [], i => by simp [idxFrom]
  | x :: xs, i => by
    simp only [idxFrom, List.any_cons]
    by_cases h : p x = true
    · simp [h]
    · simpa [h] using idxFrom_eq p xs (i + 1)

theorem loop42 (call : Oracle) (fuel : Nat) (g : FuncId) (caps : List D) (p : Int → Bool) (hg : ∀ x : Int, call g (.v (.int .i64 x) :: caps) = some (.v (.bool (p x)))) (b : Bool) (l : List Int) (hl : l.length ≤ 80) (hf : 100 < fuel) (st : St)
    (h0 : drops st h42_0 = L42_0 (.ro (sl b l)) (.ro (.nd (.fn (.func g) 0) caps)) (.sc (.int .i64 l.length)) (.sc (.int .i64 0))) :
    run.loopN (run call fuel b42_0) fuel st = if 0 ≤ idxFrom p l 0 then some (.ret, R42 (.sc (.int .i64 (idxFrom p l 0)))) else some (.ex 0, X42_0) := by
  refine loop_rule (fun m st => ∃ i : Nat, i ≤ l.length ∧ m = l.length - i ∧ idxFrom p (l.drop i) i = idxFrom p l 0 ∧ drops st h42_0 = L42_0 (.ro (sl b l)) (.ro (.nd (.fn (.func g) 0) caps)) (.sc (.int .i64 l.length)) (.sc (.int .i64 (i : Nat))))
    (fun r => r = if 0 ≤ idxFrom p l 0 then some (.ret, R42 (.sc (.int .i64 (idxFrom p l 0)))) else some (.ex 0, X42_0)) ?_ l.length fuel st ⟨0, by omega, by omega, by simp, by simpa using h0⟩ (by omega)
  rintro m st ⟨i, hi, hm, hall, hst⟩
  by_cases hlt : i < l.length
  · have hw1 := wrap_succ (i := i) (by omega)
    rw [List.drop_eq_getElem_cons hlt] at hall
    cases hp : p l[i]
    · left
      simp only [idxFrom, hp] at hall
      refine ⟨_, by rw [b42_0, run_scr, hst]; simp [sl, hlt, hg, hp, hw1]; rfl, m - 1, by omega, i + 1, by omega, by omega, by simpa using hall, ?_⟩
      simp [sl]
    · right
      simp only [idxFrom, hp, if_true] at hall
      refine ⟨.ret, _, by rw [b42_0, run_scr, hst]; simp [sl, hlt, hg, hp, hw1]; rfl, by simp, ?_⟩
      rw [← hall]
      simp
  · right
    have : i = l.length := by omega
    subst this
    rw [List.drop_length] at hall
    simp only [idxFrom] at hall
    refine ⟨.ex 0, _, by rw [b42_0, run_scr, hst]; simp [sl]; rfl, by simp, ?_⟩
    rw [← hall]
    simp

theorem f42 (call : Oracle) (fuel : Nat) (g : FuncId) (caps : List D) (p : Int → Bool) (hg : ∀ x : Int, call g (.v (.int .i64 x) :: caps) = some (.v (.bool (p x)))) (b : Bool) (l : List Int) (hl : l.length ≤ 80) (hf : 100 < fuel) :
    callF call fuel c42 [sl b l, .nd (.fn (.func g) 0) caps] = some (.v (.int .i64 (idxFrom p l 0))) := by
  simp [c42, sl]
  rw [loop42 call fuel g caps p hg b l hl hf]
  · by_cases h : 0 ≤ idxFrom p l 0
    · simp [h]
    · have : idxFrom p l 0 = -1 := by
        have : ∀ (l : List Int) (i : Nat), idxFrom p l i = -1 ∨ 0 ≤ idxFrom p l i := by
          intro l
          induction l with
          | nil => intro i; left; rfl
          | cons x xs ih =>
            intro i
            simp only [idxFrom]
            split
            · right; omega
            · exact ih _
        have := this l 0
        omega
      simp [h, this]
  · simp [sl]

theorem f37 (call : Oracle) (fuel : Nat) (g : FuncId) (caps : List D) (p : Int → Bool) (b : Bool) (l : List Int) (h42 : call 42 [sl b l, .nd (.fn (.func g) 0) caps] = some (.v (.int .i64 (idxFrom p l 0)))) :
    callF call fuel c37 [sl b l, .nd (.fn (.func g) 0) caps] = some (.v (.bool (l.any p))) := by
  have e := idxFrom_eq p l 0
  rw [← e]
  unfold sl at *
  simp [c37, h42]

theorem f39 (call : Oracle) (fuel : Nat) (b : Bool) (l : List Int) (h37 : call 37 [sl b l, .nd (.fn (.func 43) 0) []] = some (.v (.bool (l.any fun x => !hourB x)))) :
    callF call fuel c39 [sl b l] = some (.v (.int .i64 (checkZ l))) := by
  by_cases h : 64 < l.length
  · have e2 : (64 : Int) < (l.length : Int) := by omega
    simp [c39, sl, e2, checkZ, h]
  · have e2 : ¬ (64 : Int) < (l.length : Int) := by omega
    have e3 : (l.any fun x => !hourB x) = !l.all hourB := by
      rw [Bool.eq_iff_iff]
      simp
    unfold sl at *
    cases hq : l.all hourB <;> rw [hq] at e3 <;> rw [e3] at h37 <;> simp [c39, e2, h37, checkZ, h, hq]

def filledZ (l : List Int) : Int := if checkZ l = 0 ∧ l.length = 0 then 7 else checkZ l

theorem f33 (call : Oracle) (fuel : Nat) (b : Bool) (l : List Int) (h39 : call 39 [sl b l] = some (.v (.int .i64 (checkZ l)))) :
    callF call fuel c33 [sl b l] = some (.v (.int .i64 (filledZ l))) := by
  by_cases h1 : checkZ l = 0
  · cases l with
    | nil =>
      rw [h1] at h39
      simp [sl] at h39
      simp [c33, sl, h39, filledZ, h1]
    | cons x xs =>
      have e : ¬ ((xs.length : Int) + 1 = 0) := by omega
      rw [h1] at h39
      simp [sl] at h39
      simp [c33, sl, h39, filledZ, h1, e]
  · have h1' : (checkZ l == 0) = false := by simpa using h1
    unfold sl at *
    simp [c33, h39, filledZ, h1, h1']

end Go.Mx
