import Derived.Test.YtldfddgdcjaogaaDiC
/-
  Limits between all variables: the program.
-/
namespace Go.Mx
set_option linter.unusedVariables false
set_option linter.unusedSimpArgs false
set_option linter.unusedSectionVars false
open Go

abbrev zN : Bn := (0, 0, 0)
def nbL (l : List Bn) : List (Int × Int × Int) := l.map fun c => ((c.1 : Int), (c.2.1 : Int), c.2.2)
@[simp] theorem nb_len (l : List Bn) : (nbL l).length = l.length := by simp [nbL]
@[simp] theorem nb_nth (l : List Bn) (i : Nat) : nth (nbL l) z3 i = (((nth l zN i).1 : Int), ((nth l zN i).2.1 : Int), (nth l zN i).2.2) := nth_map (fun (c : Bn) => ((c.1 : Int), (c.2.1 : Int), c.2.2)) l zN i
@[simp] theorem nb_drop (l : List Bn) (k : Nat) : (nbL l).drop k = nbL (l.drop k) := by simp [nbL]
@[simp] theorem nb_take (l : List Bn) (k : Nat) : (nbL l).take k = nbL (l.take k) := by simp [nbL]

/-- Valid bounds. -/
structure VB (n : Nat) (l : List Bn) : Prop where
  ok : OkB n l
  c : ∀ c ∈ l, -1000000 ≤ c.2.2 ∧ c.2.2 ≤ 1000000
  n1 : 1 ≤ n
  n16 : n ≤ 16
  len : l.length ≤ 80
theorem VB.at {n : Nat} {l : List Bn} (h : VB n l) {i : Nat} (hi : i < l.length) : (nth l zN i).1 < n ∧ (nth l zN i).2.1 < n ∧ (nth l zN i).1 ≠ (nth l zN i).2.1 := h.ok _ (nth_mem zN hi)

def Bd (N : Int) (a : Lm) : Prop := ∀ v, a = some v → -N ≤ v ∧ v ≤ N
theorem Bd.less {N : Int} {a b : Lm} (h : Bd N a) (k : Bd N b) : Bd N (less a b) := by
  rcases less_eq a b with e | e <;> rw [e] <;> assumption
theorem Bd.plus {N M : Int} {a b : Lm} (h : Bd N a) (k : Bd M b) : Bd (N + M) (plus a b) := by
  intro v hv
  cases a with
  | none => simp at hv
  | some a =>
    cases b with
    | none => simp at hv
    | some b =>
      have h1 := h a rfl
      have h2 := k b rfl
      simp at hv
      omega
theorem Bd.mono {N M : Int} {a : Lm} (h : Bd N a) (hm : N ≤ M) : Bd M a := fun v hv => by have := h v hv; omega
theorem m0_bd {l : List Bn} (h : ∀ c ∈ l, -1000000 ≤ c.2.2 ∧ c.2.2 ≤ 1000000) (i j : Nat) : Bd 1000000 (m0 l i j) := by
  have : ∀ (l : List Bn) (g : MM), (∀ c ∈ l, -1000000 ≤ c.2.2 ∧ c.2.2 ≤ 1000000) → (∀ i j, Bd 1000000 (g i j)) → ∀ i j, Bd 1000000 (l.foldl addB g i j) := by
    intro l
    induction l with
    | nil => intro g _ h; exact h
    | cons c l ih =>
      intro g hc hg
      refine ih _ (fun d hd => hc d (List.mem_cons_of_mem _ hd)) fun i j => ?_
      unfold addB upM
      split
      · refine (hg _ _).less fun v hv => ?_
        have := hc c (List.mem_cons_self ..)
        cases hv; exact this
      · exact hg _ _
  refine this l idM h (fun i j v hv => ?_) i j
  unfold idM at hv
  split at hv
  · cases hv; omega
  · cases hv
theorem fwN_bd {l : List Bn} (h : ∀ c ∈ l, -1000000 ≤ c.2.2 ∧ c.2.2 ≤ 1000000) : ∀ (k i j : Nat), Bd (1000000 * 2 ^ k) (fwN l k i j)
  | 0, i, j => by simpa [fwN] using m0_bd h i j
  | k + 1, i, j => by
    have e : (1000000 : Int) * 2 ^ (k + 1) = 1000000 * 2 ^ k + 1000000 * 2 ^ k := by rw [Int.pow_succ]; omega
    rw [e]
    have hp : (0 : Int) ≤ 1000000 * 2 ^ k := Int.mul_nonneg (by omega) (Int.pow_nonneg (by omega))
    exact ((fwN_bd h k i j).mono (by omega)).less ((fwN_bd h k i k).plus (fwN_bd h k k j))
theorem fwN_bd16 {n : Nat} {l : List Bn} (h : VB n l) {k : Nat} (hk : k ≤ 16) (i j : Nat) : Bd 65536000000 (fwN l k i j) := by
  refine (fwN_bd h.c k i j).mono ?_
  have : (2 : Nat) ^ k ≤ 2 ^ 16 := Nat.pow_le_pow_right (by omega) hk
  have h2 : (2 : Int) ^ k = ((2 ^ k : Nat) : Int) := by simp
  rw [h2]
  omega

def rlG (g : MM) : Nat → Nat → Int × Bool := fun i j => rl (g i j)
/-- A table as a tree. -/
abbrev mT (n : Nat) (g : MM) : D := gsl (eL eM) false (tb2 n n (rlG g))
theorem set_rlG (g : MM) (i j : Nat) (x : Lm) : updF (rlG g) i (updF (rlG g i) j (rl x)) = rlG (upM g i j x) := by
  funext r c
  unfold updF rlG upM
  by_cases h1 : r = i
  · subst h1
    by_cases h2 : c = j
    · simp [h2]
    · simp [h2]
  · simp [h1]
@[simp] theorem nth_set_self {α : Type} (l : List α) (d y : α) (i : Nat) (h : i < l.length) : nth (l.set i y) d i = y := by simp [nth, h]
@[simp] theorem LM_reps (n : Nat) : T.nd (K.sl false 1 n) (reps n [.nd (.sl true 2 0) []]) = gsl (eL eM) false (List.replicate n (true, [])) := by
  have e : reps n [(T.nd (K.sl true 2 0) [] : D)] = gk (eL eM) (List.replicate n (true, [])) := by
    unfold reps gk
    rw [List.flatMap, List.map_replicate]; rfl
  rw [e, gsl]; simp [eL]

def ini (n i : Nat) : List (Bool × List (Int × Bool)) := row n fun r => if r < i then (false, row n (rlG idM r)) else (true, [])
@[simp] theorem ini_len (n i : Nat) : (ini n i).length = n := row_len _ _
theorem ini_zero (n : Nat) : List.replicate n (true, []) = ini n 0 := by
  rw [row_rep]; rfl
theorem ini_end (n : Nat) : ini n n = tb2 n n (rlG idM) := row_ext _ fun i hi => by rw [if_pos hi]
theorem ini_set (n i : Nat) : (ini n i).set i (false, row n (updF (fun _ => zM) i (0, true))) = ini n (i + 1) := by
  unfold ini
  rw [row_set]
  apply row_ext
  intro j _
  unfold updF
  by_cases h : j = i
  · subst h
    rw [if_pos rfl, if_pos (by omega)]
    congr 1
    apply row_ext
    intro k _
    unfold rlG idM
    by_cases h2 : k = j
    · simp [h2]
    · simp [h2, Ne.symm h2]
  · rw [if_neg h]
    show (if j < i then _ else _) = _
    by_cases h2 : j < i
    · rw [if_pos h2, if_pos (by omega)]
    · rw [if_neg h2, if_neg (by omega)]

theorem loop32_0 (call : Oracle) (fuel : Nat) (n : Nat) (hn : n ≤ 16) (d : D) (fu : Nat) (hf : 100 < fu) (st : St)
    (h0 : drops st h32_0 = L32_0 (ii n) (.ro d) (.own (gsl (eL eM) false (ini n 0))) (ii n) (ii 0)) :
    run.loopN (run call fuel b32_0) fu st = some (.ex 0, X32_0 (ii n) (.ro d) (.own (gsl (eL eM) false (ini n n)))) := by
  refine loop_cnt call fuel h32_0 _ n (fun i => L32_0 (ii n) (.ro d) (.own (gsl (eL eM) false (ini n i))) (ii n) (ii i)) _ (by simp) ?_ (by simp) fu st (by rw [h0]; rfl) (by omega)
  intro i hi
  have hw := wrap_succ (i := i) (by omega)
  have hs := ini_set n i
  have hm : n ≤ most := by unfold most; omega
  have hr : List.replicate n zM = row n fun _ => zM := row_rep _ _
  simp [hi, hw, hm, hr, nth_row, hs]
def mA (l : List Bn) (i : Nat) : MM := (l.take i).foldl addB idM
theorem mA_succ {l : List Bn} {i : Nat} (h : i < l.length) : mA l (i + 1) = addB (mA l i) (nth l zN i) := by
  unfold mA
  rw [nth_get zN h, List.take_add_one, List.getElem?_eq_getElem h, List.foldl_append]; rfl

theorem loop32_1 (call : Oracle) (fuel : Nat) (n : Nat) (l : List Bn) (h : VB n l) (b : Bool) (h47 : ∀ x y, call 47 [mD (rl x), mD (rl y)] = some (mD (rl (less x y)))) (fu : Nat) (hf : 100 < fu) (st : St)
    (h0 : drops st h32_1 = L32_1 (ii n) (.ro (sd b (nbL l))) (.own (mT n (mA l 0))) (.ro (sd b (nbL l))) (ii l.length) (ii 0)) :
    run.loopN (run call fuel b32_1) fu st = some (.ex 2, X32_2 (ii n) (.own (mT n (m0 l)))) := by
  have hlen := h.len
  have e0 : m0 l = mA l l.length := by unfold mA; rw [List.take_length]; rfl
  rw [e0]
  refine loop_cnt call fuel h32_1 _ l.length (fun i => L32_1 (ii n) (.ro (sd b (nbL l))) (.own (mT n (mA l i))) (.ro (sd b (nbL l))) (ii l.length) (ii i)) _ (by simp) ?_ (by simp) fu st (by rw [h0]; rfl) (by omega)
  intro i hi
  have hw := wrap_succ (i := i) (by omega)
  have hc := h.at hi
  rw [mA_succ hi]
  generalize mA l i = g at *
  generalize hq : nth l zN i = c at *
  obtain ⟨a, b', x⟩ := c
  have h1 : a < n := hc.1
  have h2 : b' < n := hc.2.1
  have e := h47 (g a b') (some x)
  have hs := set_rlG g a b' (less (g a b') (some x))
  have ha : addB g (a, b', x) = upM g a b' (less (g a b') (some x)) := rfl
  rw [rl_some] at e
  have e' : call 47 [mD (rlG g a b'), mD (x, true)] = some (mD (rl (less (g a b') (some x)))) := e
  rw [ha]
  generalize rl (less (g a b') (some x)) = y at *
  simp [hi, hw, hq, h1, h2, tb2_nth, nth_row, e', hs]
end Go.Mx
