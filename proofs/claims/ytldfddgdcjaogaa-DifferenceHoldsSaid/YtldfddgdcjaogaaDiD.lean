import Derived.Test.YtldfddgdcjaogaaDiC
/-
  Limits between all variables: the program.
-/
namespace Go.Mx
set_option linter.unusedVariables false
set_option linter.unusedSimpArgs false
set_option linter.unusedSectionVars false
open Go

abbrev zN : Bn := (0, 0, 0)
def nbL (l : List Bn) : List (Int × Int × Int) := l.map fun c => ((c.1 : Int), (c.2.1 : Int), c.2.2)
@[simp] theorem nb_len (l : List Bn) : (nbL l).length = l.length := by simp [nbL]
@[simp] theorem nb_nth (l : List Bn) (i : Nat) : nth (nbL l) z3 i = (((nth l zN i).1 : Int), ((nth l zN i).2.1 : Int), (nth l zN i).2.2) := nth_map (fun (c : Bn) => ((c.1 : Int), (c.2.1 : Int), c.2.2)) l zN i
@[simp] theorem nb_drop (l : List Bn) (k : Nat) : (nbL l).drop k = nbL (l.drop k) := by simp [nbL]
@[simp] theorem nb_take (l : List Bn) (k : Nat) : (nbL l).take k = nbL (l.take k) := by simp [nbL]

/-- Valid bounds. -/
structure VB (n : Nat) (l : List Bn) : Prop where
  ok : OkB n l
  c : ∀ c ∈ l, -1000000 ≤ c.2.2 ∧ c.2.2 ≤ 1000000
  n1 : 1 ≤ n
  n16 : n ≤ 16
  len : l.length ≤ 80
theorem VB.at {n : Nat} {l : List Bn} (h : VB n l) {i : Nat} (hi : i < l.length) : (nth l zN i).1 < n ∧ (nth l zN i).2.1 < n ∧ (nth l zN i).1 ≠ (nth l zN i).2.1 := h.ok _ (nth_mem zN hi)

def Bd (N : Int) (a : Lm) : Prop := ∀ v, a = some v → -N ≤ v ∧ v ≤ N
theorem Bd.less {N : Int} {a b : Lm} (h : Bd N a) (k : Bd N b) : Bd N (less a b) := by
  rcases less_eq a b with e | e <;> rw [e] <;> assumption
theorem Bd.plus {N M : Int} {a b : Lm} (h : Bd N a) (k : Bd M b) : Bd (N + M) (plus a b) := by
  intro v hv
  cases a with
  | none => simp at hv
  | some a =>
    cases b with
    | none => simp at hv
    | some b =>
      have h1 := h a rfl
      have h2 := k b rfl
      simp at hv
      omega
theorem Bd.mono {N M : Int} {a : Lm} (h : Bd N a) (hm : N ≤ M) : Bd M a := fun v hv => by have := h v hv; omega
theorem m0_bd {l : List Bn} (h : ∀ c ∈ l, -1000000 ≤ c.2.2 ∧ c.2.2 ≤ 1000000) (i j : Nat) : Bd 1000000 (m0 l i j) := by
  have : ∀ (l : List Bn) (g : MM), (∀ c ∈ l, -1000000 ≤ c.2.2 ∧ c.2.2 ≤ 1000000) → (∀ i j, Bd 1000000 (g i j)) → ∀ i j, Bd 1000000 (l.foldl addB g i j) := by
    intro l
    induction l with
    | nil => intro g _ h; exact h
    | cons c l ih =>
      intro g hc hg
      refine ih _ (fun d hd => hc d (List.mem_cons_of_mem _ hd)) fun i j => ?_
      unfold addB upM
      split
      · refine (hg _ _).less fun v hv => ?_
        have := hc c (List.mem_cons_self ..)
        cases hv; exact this
      · exact hg _ _
  refine this l idM h (fun i j v hv => ?_) i j
  unfold idM at hv
  split at hv
  · cases hv; omega
  · cases hv
theorem fwN_bd {l : List Bn} (h : ∀ c ∈ l, -1000000 ≤ c.2.2 ∧ c.2.2 ≤ 1000000) : ∀ (k i j : Nat), Bd (1000000 * 2 ^ k) (fwN l k i j)
  | 0, i, j => by simpa [fwN] using m0_bd h i j
  | k + 1, i, j => by
    have e : (1000000 : Int) * 2 ^ (k + 1) = 1000000 * 2 ^ k + 1000000 * 2 ^ k := by rw [Int.pow_succ]; omega
    rw [e]
    have hp : (0 : Int) ≤ 1000000 * 2 ^ k := Int.mul_nonneg (by omega) (Int.pow_nonneg (by omega))
    exact ((fwN_bd h k i j).mono (by omega)).less ((fwN_bd h k i k).plus (fwN_bd h k k j))
theorem fwN_bd16 {n : Nat} {l : List Bn} (h : VB n l) {k : Nat} (hk : k ≤ 16) (i j : Nat) : Bd 65536000000 (fwN l k i j) := by
  refine (fwN_bd h.c k i j).mono ?_
  have : (2 : Nat) ^ k ≤ 2 ^ 16 := Nat.pow_le_pow_right (by omega) hk
  have h2 : (2 : Int) ^ k = ((2 ^ k : Nat) : Int) := by simp
  rw [h2]
  omega

def rlG (g : MM) : Nat → Nat → Int × Bool := fun i j => rl (g i j)
/-- A table as a tree. -/
abbrev mT (n : Nat) (g : MM) : D := gsl (eL eM) false (tb2 n n (rlG g))
theorem set_rlG (g : MM) (i j : Nat) (x : Lm) : updF (rlG g) i (updF (rlG g i) j (rl x)) = rlG (upM g i j x) := by
  funext r c
  unfold updF rlG upM
  by_cases h1 : r = i
  · subst h1
    by_cases h2 : c = j
    · simp [h2]
    · simp [h2]
  · simp [h1]
@[simp] theorem nth_set_self {α : Type} (l : List α) (d y : α) (i : Nat) (h : i < l.length) : nth (l.set i y) d i = y := by simp [nth, h]
@[simp] theorem LM_reps (n : Nat) : T.nd (K.sl false 1 n) (reps n [.nd (.sl true 2 0) []]) = gsl (eL eM) false (List.replicate n (true, [])) := by
  have e : reps n [(T.nd (K.sl true 2 0) [] : D)] = gk (eL eM) (List.replicate n (true, [])) := by
    unfold reps gk
    rw [List.flatMap, List.map_replicate]; rfl
  rw [e, gsl]; simp [eL]

def ini (n i : Nat) : List (Bool × List (Int × Bool)) := row n fun r => if r < i then (false, row n (rlG idM r)) else (true, [])
@[simp] theorem ini_len (n i : Nat) : (ini n i).length = n := row_len _ _
theorem ini_zero (n : Nat) : List.replicate n (true, []) = ini n 0 := by
  rw [row_rep]; rfl
theorem ini_end (n : Nat) : ini n n = tb2 n n (rlG idM) := row_ext _ fun i hi => by rw [if_pos hi]
theorem ini_set (n i : Nat) : (ini n i).set i (false, row n (updF (fun _ => zM) i (0, true))) = ini n (i + 1) := by
  unfold ini
  rw [row_set]
  apply row_ext
  intro j _
  unfold updF
  by_cases h : j = i
  · subst h
    rw [if_pos rfl, if_pos (by omega)]
    congr 1
    apply row_ext
    intro k _
    unfold rlG idM
    by_cases h2 : k = j
    · simp [h2]
    · simp [h2, Ne.symm h2]
  · rw [if_neg h]
    show (if j < i then _ else _) = _
    by_cases h2 : j < i
    · rw [if_pos h2, if_pos (by omega)]
    · rw [if_neg h2, if_neg (by omega)]

theorem loop32_0 (call : Oracle) (fuel : Nat) (n : Nat) (hn : n ≤ 16) (d : D) (fu : Nat) (hf : 100 < fu) (st : St)
    (h0 : drops st h32_0 = L32_0 (ii n) (.ro d) (.own (gsl (eL eM) false (ini n 0))) (ii n) (ii 0)) :
    run.loopN (run call fuel b32_0) fu st = some (.ex 0, X32_0 (ii n) (.ro d) (.own (gsl (eL eM) false (ini n n)))) := by
  refine loop_cnt call fuel h32_0 _ n (fun i => L32_0 (ii n) (.ro d) (.own (gsl (eL eM) false (ini n i))) (ii n) (ii i)) _ (by simp) ?_ (by simp) fu st (by rw [h0]; rfl) (by omega)
  intro i hi
  have hw := wrap_succ (i := i) (by omega)
  have hs := ini_set n i
  have hm : n ≤ most := by unfold most; omega
  have hr : List.replicate n zM = row n fun _ => zM := row_rep _ _
  simp [hi, hw, hm, hr, nth_row, hs]
def mA (l : List Bn) (i : Nat) : MM := (l.take i).foldl addB idM
theorem mA_succ {l : List Bn} {i : Nat} (h : i < l.length) : mA l (i + 1) = addB (mA l i) (nth l zN i) := by
  unfold mA
  rw [nth_get zN h, List.take_add_one, List.getElem?_eq_getElem h, List.foldl_append]; rfl

theorem loop32_1 (call : Oracle) (fuel : Nat) (n : Nat) (l : List Bn) (h : VB n l) (b : Bool) (h47 : ∀ x y, call 47 [mD (rl x), mD (rl y)] = some (mD (rl (less x y)))) (fu : Nat) (hf : 100 < fu) (st : St)
    (h0 : drops st h32_1 = L32_1 (ii n) (.ro (sd b (nbL l))) (.own (mT n (mA l 0))) (.ro (sd b (nbL l))) (ii l.length) (ii 0)) :
    run.loopN (run call fuel b32_1) fu st = some (.ex 2, X32_2 (ii n) (.own (mT n (m0 l)))) := by
  have hlen := h.len
  have e0 : m0 l = mA l l.length := by unfold mA; rw [List.take_length]; rfl
  rw [e0]
  refine loop_cnt call fuel h32_1 _ l.length (fun i => L32_1 (ii n) (.ro (sd b (nbL l))) (.own (mT n (mA l i))) (.ro (sd b (nbL l))) (ii l.length) (ii i)) _ (by simp) ?_ (by simp) fu st (by rw [h0]; rfl) (by omega)
  intro i hi
  have hw := wrap_succ (i := i) (by omega)
  have hc := h.at hi
  rw [mA_succ hi]
  generalize mA l i = g at *
  generalize hq : nth l zN i = c at *
  obtain ⟨a, b', x⟩ := c
  have h1 : a < n := hc.1
  have h2 : b' < n := hc.2.1
  have e := h47 (g a b') (some x)
  have hs := set_rlG g a b' (less (g a b') (some x))
  have ha : addB g (a, b', x) = upM g a b' (less (g a b') (some x)) := rfl
  rw [rl_some] at e
  have e' : call 47 [mD (rlG g a b'), mD (x, true)] = some (mD (rl (less (g a b') (some x)))) := e
  rw [ha]
  generalize rl (less (g a b') (some x)) = y at *
  simp [hi, hw, hq, h1, h2, tb2_nth, nth_row, e', hs]

/-! ### Limits between all variables: the rounds of the program. -/

/-- In the midst of a round. -/
def fwP (g : MM) (k i j : Nat) : MM := fun r c => if r < i ∨ (r = i ∧ c < j) then fwS g k r c else g r c
theorem fwP_cur (g : MM) (k i j : Nat) : fwP g k i j i j = g i j := by unfold fwP; rw [if_neg (by omega)]
theorem fwP_col {g : MM} {k : Nat} (h : g k k = some 0) (i j r : Nat) : fwP g k i j r k = g r k := by
  unfold fwP; split
  · exact fw_col h r
  · rfl
theorem fwP_row {g : MM} {k : Nat} (h : g k k = some 0) (i j c : Nat) : fwP g k i j k c = g k c := by
  unfold fwP; split
  · exact fw_row h c
  · rfl
theorem fwP_succ (g : MM) (k i j : Nat) : upM (fwP g k i j) i j (fwS g k i j) = fwP g k i (j + 1) := by
  funext r c
  unfold upM fwP
  by_cases h : r = i ∧ c = j
  · obtain ⟨rfl, rfl⟩ := h
    rw [if_pos ⟨rfl, rfl⟩, if_pos (by omega)]
  · rw [if_neg h]
    by_cases h2 : r < i ∨ (r = i ∧ c < j)
    · rw [if_pos h2, if_pos (by omega)]
    · rw [if_neg h2, if_neg (by omega)]
theorem fwP_row_end (n : Nat) (g : MM) (k i : Nat) : mT n (fwP g k i n) = mT n (fwP g k (i + 1) 0) := by
  refine congrArg (gsl (eL eM) false) (tb2_ext ?_)
  intro r c _ hc
  unfold rlG fwP
  by_cases h2 : r < i ∨ (r = i ∧ c < n)
  · rw [if_pos h2, if_pos (by omega)]
  · rw [if_neg h2, if_neg (by omega)]
theorem fwP_end (n : Nat) (g : MM) (k : Nat) : mT n (fwP g k n 0) = mT n (fwS g k) := by
  refine congrArg (gsl (eL eM) false) (tb2_ext ?_)
  intro r c hr _
  unfold rlG fwP
  rw [if_pos (by omega)]
theorem fwP_zero (g : MM) (k : Nat) : fwP g k 0 0 = g := by
  funext r c
  unfold fwP
  rw [if_neg (by omega)]

theorem loop32_4 (call : Oracle) (fuel : Nat) (n : Nat) (hn : n ≤ 16) (g : MM) (hB : ∀ i j, Bd 65536000000 (g i j)) (k i : Nat) (hk : k < n) (hi : i < n) (hd : g k k = some 0)
    (h47 : ∀ x y, call 47 [mD (rl x), mD (rl y)] = some (mD (rl (less x y)))) (h48 : ∀ x y, (∀ a b, x = some a → y = some b → I64 (a + b)) → call 48 [mD (rl x), mD (rl y)] = some (mD (rl (plus x y))))
    (fu : Nat) (hf : 100 < fu) (st : St)
    (h0 : drops st h32_4 = L32_4 (ii n) (.own (mT n (fwP g k i 0))) (ii k) (ii i) (ii n) (ii k) (ii n) (ii i) (ii n) (ii 0)) :
    run.loopN (run call fuel b32_4) fu st = some (.ex 8, X32_8 (ii n) (.own (mT n (fwP g k (i + 1) 0))) (ii k) (ii n) (ii k) (ii n) (ii i)) := by
  rw [← fwP_row_end n g k i]
  refine loop_cnt call fuel h32_4 _ n (fun j => L32_4 (ii n) (.own (mT n (fwP g k i j))) (ii k) (ii i) (ii n) (ii k) (ii n) (ii i) (ii n) (ii j)) _ (by simp) ?_ (by simp) fu st (by rw [h0]; rfl) (by omega)
  intro j hj
  have hw := wrap_succ (i := j) (by omega)
  have e1 : rlG (fwP g k i j) i k = rl (g i k) := by unfold rlG; rw [fwP_col hd]
  have e2 : rlG (fwP g k i j) k j = rl (g k j) := by unfold rlG; rw [fwP_row hd]
  have e3 : rlG (fwP g k i j) i j = rl (g i j) := by unfold rlG; rw [fwP_cur]
  have g1 := h48 (g i k) (g k j) fun a b ha hb => by
    have := hB _ _ a ha
    have := hB _ _ b hb
    unfold I64; omega
  have g2 := h47 (g i j) (plus (g i k) (g k j))
  have hs := set_rlG (fwP g k i j) i j (fwS g k i j)
  rw [fwP_succ] at hs
  have g3 : call 47 [mD (rl (g i j)), mD (rl (plus (g i k) (g k j)))] = some (mD (rl (fwS g k i j))) := g2
  generalize rl (fwS g k i j) = y at *
  generalize rl (plus (g i k) (g k j)) = z at *
  rw [← e1, ← e2] at g1
  rw [← e3] at g3
  dsimp only [mT]
  generalize rlG (fwP g k i (j + 1)) = G' at *
  generalize rlG (fwP g k i j) = G at *
  simp [hj, hw, hi, hk, tb2_nth, nth_row, g1, g3, hs]

theorem loop32_3 (call : Oracle) (fuel : Nat) (hF : 100 < fuel) (n : Nat) (hn : n ≤ 16) (g : MM) (hB : ∀ i j, Bd 65536000000 (g i j)) (k : Nat) (hk : k < n) (hd : g k k = some 0)
    (h47 : ∀ x y, call 47 [mD (rl x), mD (rl y)] = some (mD (rl (less x y)))) (h48 : ∀ x y, (∀ a b, x = some a → y = some b → I64 (a + b)) → call 48 [mD (rl x), mD (rl y)] = some (mD (rl (plus x y))))
    (fu : Nat) (hf : 100 < fu) (st : St)
    (h0 : drops st h32_3 = L32_3 (ii n) (.own (mT n g)) (ii k) (ii n) (ii k) (ii n) (ii 0)) :
    run.loopN (run call fuel b32_3) fu st = some (.ex 6, X32_6 (ii n) (.own (mT n (fwS g k))) (ii n) (ii k)) := by
  rw [← fwP_end n g k]
  refine loop_cnt call fuel h32_3 _ n (fun i => L32_3 (ii n) (.own (mT n (fwP g k i 0))) (ii k) (ii n) (ii k) (ii n) (ii i)) _ (by simp) ?_ (by simp) fu st (by rw [h0, fwP_zero]; rfl) (by omega)
  intro i hi
  have hw := wrap_succ (i := i) (by omega)
  have hL := loop32_4 call fuel n hn g hB k i hk hi hd h47 h48 fuel hF
  simp [hi]
  rw [hL _ (by simp)]
  simp [hw]

theorem ngL_rl (a : Lm) : decide ((rl a).1 < 0) = ngL a := by cases a <;> rfl
theorem loop32_5 (call : Oracle) (fuel : Nat) (n : Nat) (hn : n ≤ 16) (g : MM) (k : Nat) (fu : Nat) (hf : 100 < fu) (st : St) (h0 : drops st h32_5 = L32_5 (ii n) (.own (mT n g)) (ii n) (ii k) (ii n) (ii 0)) :
    run.loopN (run call fuel b32_5) fu st = some (if ngD n g = true then (.ret, R32 (.own (gsl (eL eM) true [])) (bb false)) else (.ex 10, X32_10 (ii n) (.own (mT n g)) (ii n) (ii k))) := by
  refine loop_any call fuel h32_5 _ n (fun i => ngL (g i i)) (fun i => L32_5 (ii n) (.own (mT n g)) (ii n) (ii k) (ii n) (ii i)) (.ret, R32 (.own (gsl (eL eM) true [])) (bb false)) (.ex 10, X32_10 (ii n) (.own (mT n g)) (ii n) (ii k)) (by simp) (by simp) ?_ (by simp) fu st (by rw [h0]; rfl) (by omega)
  intro i hi _
  have hw := wrap_succ (i := i) (by omega)
  have e : decide ((rlG g i i).1 < 0) = ngL (g i i) := ngL_rl _
  rw [← e]
  by_cases h : (rlG g i i).1 < 0
  · simp [hi, tb2_nth, nth_row, h]
    rfl
  · simp [hi, hw, tb2_nth, nth_row, h]

/-! ### limits. -/

abbrev nilM : D := gsl (eL eM) true []
theorem loop32_2 (call : Oracle) (fuel : Nat) (hF : 100 < fuel) (n : Nat) (l : List Bn) (h : VB n l)
    (h47 : ∀ x y, call 47 [mD (rl x), mD (rl y)] = some (mD (rl (less x y)))) (h48 : ∀ x y, (∀ a b, x = some a → y = some b → I64 (a + b)) → call 48 [mD (rl x), mD (rl y)] = some (mD (rl (plus x y))))
    (fu : Nat) (hf : 100 < fu) (st : St) (h0 : drops st h32_2 = L32_2 (ii n) (.own (mT n (fwN l 0))) (ii n) (ii 0)) :
    run.loopN (run call fuel b32_2) fu st = some (if bad n l = true then (.ret, R32 (.own nilM) (bb false)) else (.ex 4, X32_4 (.own (mT n (fwN l n))))) := by
  have hn := h.n16
  refine loop_any call fuel h32_2 _ n (fun k => ngD n (fwN l (k + 1))) (fun k => L32_2 (ii n) (.own (mT n (fwN l k))) (ii n) (ii k)) (.ret, R32 (.own nilM) (bb false)) (.ex 4, X32_4 (.own (mT n (fwN l n)))) (by simp) (by simp) ?_ (by simp) fu st (by rw [h0]; rfl) (by omega)
  intro k hk hj
  have hw := wrap_succ (i := k) (by omega)
  have hd := fwN_dg h.ok hj k hk
  have hB := fwN_bd16 h (k := k) (by omega)
  have hL := loop32_3 call fuel hF n hn (fwN l k) hB k hk hd h47 h48 fuel hF
  have hM := loop32_5 call fuel n hn (fwS (fwN l k) k) k fuel hF
  have e : fwN l (k + 1) = fwS (fwN l k) k := rfl
  rw [e]
  generalize fwS (fwN l k) k = g' at *
  simp [hk]
  rw [hL _ (by simp)]
  simp
  rw [hM _ (by simp)]
  cases ngD n g' with
  | true => simp
  | false => simp [hw]

/-- limits. -/
def limD (n : Nat) (l : List Bn) : D := if bad n l = true then .nd .tu [nilM, .v (.bool false)] else .nd .tu [mT n (fwN l n), .v (.bool true)]
theorem f32 (call : Oracle) (fuel : Nat) (hF : 100 < fuel) (n : Nat) (l : List Bn) (h : VB n l) (b : Bool)
    (h47 : ∀ x y, call 47 [mD (rl x), mD (rl y)] = some (mD (rl (less x y)))) (h48 : ∀ x y, (∀ a b, x = some a → y = some b → I64 (a + b)) → call 48 [mD (rl x), mD (rl y)] = some (mD (rl (plus x y)))) :
    callF call fuel c32 [.v (.int .i64 (n : Int)), sd b (nbL l)] = some (limD n l) := by
  rw [callF_tab call fuel c32 107 _ (by exact Nat.le_of_ble_eq_true rfl) (by exact Nat.le_of_ble_eq_true rfl)]
  have hn := h.n16
  have hm : n ≤ most := by unfold most; omega
  have hz := ini_zero n
  have h1 := loop32_0 call fuel n hn (sd b (nbL l)) fuel hF
  rw [ini_end] at h1
  have e0 : idM = mA l 0 := rfl
  rw [e0] at h1
  have h2 := loop32_1 call fuel n l h b h47 fuel hF
  have h3 := loop32_2 call fuel hF n l h h47 h48 fuel hF
  have e1 : fwN l 0 = m0 l := rfl
  rw [e1] at h3
  simp [c32, hm, hz]
  rw [h1 _ (by simp)]
  simp
  rw [h2 _ (by simp)]
  simp
  rw [h3 _ (by simp)]
  unfold limD
  cases bad n l <;> simp
end Go.Mx
