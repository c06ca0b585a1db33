import Derived.Test.YtldfddgdcjaogaaDiD
/-
  Limits between all variables: the reference.
-/
namespace Go.Mx
set_option linter.unusedVariables false
set_option linter.unusedSimpArgs false
set_option linter.unusedSectionVars false
open Go

/-- A limit as a number of the reference. -/
def lz : Lm → Int
  | none => 1099511627776
  | some v => v
@[simp] theorem lz_none : lz none = 1099511627776 := rfl
@[simp] theorem lz_some (v : Int) : lz (some v) = v := rfl
theorem lz_big {a : Lm} (h : Bd 65536000000 a) : (lz a = 1099511627776) ↔ a = none := by
  cases a with
  | none => simp
  | some v => have := h v rfl; simp; omega
theorem lz_less {a : Lm} (h : Bd 200000000000 a) {c : Lm} (hc : Bd 200000000000 c) : lz (less a c) = min (lz a) (lz c) := by
  cases a with
  | none =>
    cases c with
    | none => rfl
    | some c => have := hc c rfl; simp; omega
  | some a =>
    have := h a rfl
    cases c with
    | none => simp; omega
    | some c =>
      rw [less_some]
      split <;> simp <;> omega
def lzG (g : MM) : Nat → Nat → Int := fun i j => lz (g i j)
abbrev eII : En (Bool × List Int) := eL (eI .i64)
abbrev iT (n : Nat) (g : MM) : D := gsl eII false (tb2 n n (lzG g))
theorem set_lzG (g : MM) (i j : Nat) (x : Lm) : updF (lzG g) i (updF (lzG g i) j (lz x)) = lzG (upM g i j x) := by
  funext r c
  unfold updF lzG upM
  by_cases h1 : r = i
  · subst h1
    by_cases h2 : c = j
    · simp [h2]
    · simp [h2]
  · simp [h1]

def inR (i j c : Nat) : Int := if c < j ∧ i ≠ c then 1099511627776 else 0
theorem inR_zero (i : Nat) : (fun c => inR i 0 c) = fun _ => 0 := by funext c; unfold inR; rw [if_neg (by omega)]
theorem inR_eq (i : Nat) : updF (inR i i) i 0 = inR i (i + 1) := by
  funext c
  unfold updF inR
  by_cases h : c = i
  · subst h; rw [if_pos rfl, if_neg (by omega)]
  · rw [if_neg h]
    by_cases h2 : c < i ∧ i ≠ c
    · rw [if_pos h2, if_pos (by omega)]
    · rw [if_neg h2, if_neg (by omega)]
theorem inR_same (i : Nat) : inR i i = inR i (i + 1) := by
  funext c
  unfold inR
  by_cases h2 : c < i ∧ i ≠ c
  · rw [if_pos h2, if_pos (by omega)]
  · rw [if_neg h2, if_neg (by omega)]
theorem inR_ne (i j : Nat) (h : ¬ i = j) : updF (inR i j) j 1099511627776 = inR i (j + 1) := by
  funext c
  unfold updF inR
  by_cases hc : c = j
  · subst hc; rw [if_pos rfl, if_pos (by omega)]
  · rw [if_neg hc]
    by_cases h2 : c < j ∧ i ≠ c
    · rw [if_pos h2, if_pos (by omega)]
    · rw [if_neg h2, if_neg (by omega)]
theorem inR_end (n i : Nat) : row n (inR i n) = row n (lzG idM i) := row_ext _ fun c hc => by
  unfold inR lzG idM
  by_cases h : i = c
  · rw [if_neg (by omega), if_pos h]; rfl
  · rw [if_pos ⟨hc, h⟩, if_neg h]; rfl

theorem loop35_1 (call : Oracle) (fuel : Nat) (n : Nat) (hn : n ≤ 16) (d o : D) (i : Nat) (hi : i < n) (fu : Nat) (hf : 100 < fu) (st : St)
    (h0 : drops st h35_1 = L35_1 (ii n) (.ro d) (.own o) (ii i) (.own (si false (row n (inR i 0)))) (ii 0)) :
    run.loopN (run call fuel b35_1) fu st = some (.ex 2, X35_2 (ii n) (.ro d) (.own o) (ii i) (.own (si false (row n (inR i n))))) := by
  refine loop_cnt call fuel h35_1 _ n (fun j => L35_1 (ii n) (.ro d) (.own o) (ii i) (.own (si false (row n (inR i j)))) (ii j)) _ (by simp) ?_ (by simp) fu st (by rw [h0]; rfl) (by omega)
  intro j hj
  have hw := wrap_succ (i := j) (by omega)
  by_cases h : i = j
  · subst h
    have e := inR_same i
    rw [← e]
    simp [hj, hw]
  · have h' : ¬ (i : Int) = (j : Int) := by omega
    have e := inR_ne i j h
    simp [hj, hw, h, h', e]
theorem loop35_0 (call : Oracle) (fuel : Nat) (hF : 100 < fuel) (n : Nat) (hn : n ≤ 16) (d : D) (fu : Nat) (hf : 100 < fu) (st : St)
    (h0 : drops st h35_0 = L35_0 (ii n) (.ro d) (.own (gsl eII true [])) (ii 0)) :
    run.loopN (run call fuel b35_0) fu st = some (.ex 0, X35_0 (ii n) (.ro d) (.own (gsl eII (n == 0) (tb2 n n (lzG idM))))) := by
  refine loop_cnt call fuel h35_0 _ n (fun i => L35_0 (ii n) (.ro d) (.own (gsl eII (i == 0) (tb2 i n (lzG idM)))) (ii i)) _ (by simp) ?_ (by simp) fu st (by rw [h0]; rfl) (by omega)
  intro i hi
  have hw := wrap_succ (i := i) (by omega)
  have hL := loop35_1 call fuel n hn d (gsl eII (i == 0) (tb2 i n (lzG idM))) i hi fuel hF
  have hm : n ≤ most := by unfold most; omega
  have hm2 : i + 1 ≤ most := by unfold most; omega
  have hr : List.replicate n (0 : Int) = row n (inR i 0) := by rw [row_rep]; exact congrArg (row n) (inR_zero i).symm
  have he := inR_end n i
  have hs := tb2_succ i n (lzG idM)
  simp [hi, hm, hr]
  rw [hL _ (by simp)]
  rw [he]
  simp [hw, hm2, ← hs]

/-! ### Limits between all variables: the rounds of the reference. -/

theorem m_bd {n : Nat} {l : List Bn} (h : VB n l) (i r c : Nat) : Bd 200000000000 (mA l i r c) :=
  (m0_bd (l := l.take i) (fun c hc => h.c c (List.mem_of_mem_take hc)) r c).mono (by omega)
theorem loop35_2 (call : Oracle) (fuel : Nat) (n : Nat) (l : List Bn) (h : VB n l) (b : Bool) (fu : Nat) (hf : 100 < fu) (st : St)
    (h0 : drops st h35_2 = L35_2 (ii n) (.ro (sd b (nbL l))) (.own (iT n (mA l 0))) (ii 0)) :
    run.loopN (run call fuel b35_2) fu st = some (.ex 4, X35_4 (ii n) (.own (iT n (m0 l)))) := by
  have hlen := h.len
  have e0 : m0 l = mA l l.length := by unfold mA; rw [List.take_length]; rfl
  rw [e0]
  refine loop_cnt call fuel h35_2 _ l.length (fun i => L35_2 (ii n) (.ro (sd b (nbL l))) (.own (iT n (mA l i))) (ii i)) _ (by simp) ?_ (by simp) fu st (by rw [h0]; rfl) (by omega)
  intro i hi
  have hw := wrap_succ (i := i) (by omega)
  have hc := h.at hi
  have hx := h.c _ (nth_mem zN hi)
  have hb := m_bd h i
  rw [mA_succ hi]
  generalize mA l i = g at *
  generalize hq : nth l zN i = c at *
  obtain ⟨a, b', x⟩ := c
  have h1 : a < n := hc.1
  have h2 : b' < n := hc.2.1
  have e : min (lzG g a b') x = lz (less (g a b') (some x)) := by
    rw [lz_less (hb _ _) (fun v hv => by cases hv; have := hx; simp at this; omega)]; rfl
  have hs := set_lzG g a b' (less (g a b') (some x))
  have ha : addB g (a, b', x) = upM g a b' (less (g a b') (some x)) := rfl
  rw [ha]
  generalize lz (less (g a b') (some x)) = y at *
  simp [hi, hw, hq, h1, h2, tb2_nth, nth_row, e, hs]

theorem iP_row_end (n : Nat) (g : MM) (k i : Nat) : iT n (fwP g k i n) = iT n (fwP g k (i + 1) 0) := by
  refine congrArg (gsl eII false) (tb2_ext ?_)
  intro r c _ hc
  unfold lzG fwP
  by_cases h2 : r < i ∨ (r = i ∧ c < n)
  · rw [if_pos h2, if_pos (by omega)]
  · rw [if_neg h2, if_neg (by omega)]
theorem iP_end (n : Nat) (g : MM) (k : Nat) : iT n (fwP g k n 0) = iT n (fwS g k) := by
  refine congrArg (gsl eII false) (tb2_ext ?_)
  intro r c hr _
  unfold lzG fwP
  rw [if_pos (by omega)]

theorem loop35_5 (call : Oracle) (fuel : Nat) (n : Nat) (hn : n ≤ 16) (g : MM) (hB : ∀ i j, Bd 65536000000 (g i j)) (k i : Nat) (hk : k < n) (hi : i < n) (hd : g k k = some 0)
    (fu : Nat) (hf : 100 < fu) (st : St)
    (h0 : drops st h35_5 = L35_5 (ii n) (.own (iT n (fwP g k i 0))) (ii k) (ii i) (ii 0)) :
    run.loopN (run call fuel b35_5) fu st = some (.ex 10, X35_10 (ii n) (.own (iT n (fwP g k (i + 1) 0))) (ii k) (ii i)) := by
  rw [← iP_row_end n g k i]
  refine loop_cnt call fuel h35_5 _ n (fun j => L35_5 (ii n) (.own (iT n (fwP g k i j))) (ii k) (ii i) (ii j)) _ (by simp) ?_ (by simp) fu st (by rw [h0]; rfl) (by omega)
  intro j hj
  have hw := wrap_succ (i := j) (by omega)
  have e1 : lzG (fwP g k i j) i k = lz (g i k) := by unfold lzG; rw [fwP_col hd]
  have e2 : lzG (fwP g k i j) k j = lz (g k j) := by unfold lzG; rw [fwP_row hd]
  have e3 : lzG (fwP g k i j) i j = lz (g i j) := by unfold lzG; rw [fwP_cur]
  have hs := set_lzG (fwP g k i j) i j (fwS g k i j)
  rw [fwP_succ] at hs
  have k1 := lz_big (hB i k)
  have k2 := lz_big (hB k j)
  dsimp only [iT]
  by_cases c1 : g i k = none
  · have e4 : fwS g k i j = g i j := by unfold fwS; rw [c1]; simp
    have e5 : fwP g k i (j + 1) = fwP g k i j := by
      rw [← fwP_succ, e4]
      funext r c
      unfold upM
      split
      · rename_i h; rw [h.1, h.2, fwP_cur]
      · rfl
    rw [e5]
    have k3 : lzG (fwP g k i j) i k = 1099511627776 := by rw [e1, c1]; rfl
    generalize lzG (fwP g k i j) = G at *
    simp [hj, hw, hi, hk, tb2_nth, nth_row, k3]
  by_cases c2 : g k j = none
  · have e4 : fwS g k i j = g i j := by unfold fwS; rw [c2]; simp
    have e5 : fwP g k i (j + 1) = fwP g k i j := by
      rw [← fwP_succ, e4]
      funext r c
      unfold upM
      split
      · rename_i h; rw [h.1, h.2, fwP_cur]
      · rfl
    rw [e5]
    have k3 : lzG (fwP g k i j) k j = 1099511627776 := by rw [e2, c2]; rfl
    have k4 : ¬ lzG (fwP g k i j) i k = 1099511627776 := by rw [e1, k1]; exact c1
    generalize lzG (fwP g k i j) = G at *
    simp [hj, hw, hi, hk, tb2_nth, nth_row, k3, k4]
  have k3 : ¬ lzG (fwP g k i j) k j = 1099511627776 := by rw [e2, k2]; exact c2
  have k4 : ¬ lzG (fwP g k i j) i k = 1099511627776 := by rw [e1, k1]; exact c1
  have k5 : min (lzG (fwP g k i j) i j) (IntKind.i64.wrap (lzG (fwP g k i j) i k + lzG (fwP g k i j) k j)) = lz (fwS g k i j) := by
    rw [e1, e2, e3]
    have hx := hB i k
    have hy := hB k j
    have hz := hB i j
    unfold fwS
    generalize g i k = x at *
    generalize g k j = y at *
    cases x with
    | none => exact absurd rfl c1
    | some x =>
      cases y with
      | none => exact absurd rfl c2
      | some y =>
        have := hx x rfl
        have := hy y rfl
        rw [plus_some, lz_less (hz.mono (by omega)) (fun v hv => by cases hv; omega), lz_some, lz_some, lz_some, wrap_eq (by unfold I64; omega)]
  generalize lz (fwS g k i j) = y at *
  generalize lzG (fwP g k i (j + 1)) = G' at *
  generalize lzG (fwP g k i j) = G at *
  simp [hj, hw, hi, hk, tb2_nth, nth_row, k3, k4, k5, hs]

theorem ngL_lz (a : Lm) : decide (lz a < 0) = ngL a := by cases a <;> rfl
theorem loop35_4 (call : Oracle) (fuel : Nat) (hF : 100 < fuel) (n : Nat) (hn : n ≤ 16) (g : MM) (hB : ∀ i j, Bd 65536000000 (g i j)) (k : Nat) (hk : k < n) (hd : g k k = some 0)
    (fu : Nat) (hf : 100 < fu) (st : St) (h0 : drops st h35_4 = L35_4 (ii n) (.own (iT n g)) (ii k) (ii 0)) :
    run.loopN (run call fuel b35_4) fu st = some (((List.range n).find? fun i => ngL (fwS g k i i)).elim (.ex 8, X35_8 (ii n) (.own (iT n (fwS g k))) (ii k)) fun i => (.ret, R35 (.own (iT n (fwP g k (i + 1) 0))))) := by
  rw [← iP_end n g k]
  refine loop_find call fuel h35_4 _ n (fun i => ngL (fwS g k i i)) (fun i => L35_4 (ii n) (.own (iT n (fwP g k i 0))) (ii k) (ii i)) (fun i => (.ret, R35 (.own (iT n (fwP g k (i + 1) 0))))) _ (by simp) (by simp) ?_ (by simp) fu st (by rw [h0, fwP_zero]; rfl) (by omega)
  intro i hi _
  have hw := wrap_succ (i := i) (by omega)
  have hL := loop35_5 call fuel n hn g hB k i hk hi hd fuel hF
  have e : decide (lzG (fwP g k (i + 1) 0) i i < 0) = ngL (fwS g k i i) := by
    rw [← ngL_lz]; unfold lzG fwP; rw [if_pos (by omega)]
  simp [hi]
  rw [hL _ (by simp)]
  rw [← e]
  dsimp only [iT]
  generalize lzG (fwP g k (i + 1) 0) = G at *
  by_cases c : G i i < 0
  · simp [hi, tb2_nth, nth_row, c]
  · simp [hi, tb2_nth, nth_row, c, hw]

/-! ### least, Solvable. -/

def ngI (n : Nat) (g : MM) : Nat := ((List.range n).find? fun i => ngL (g i i)).getD 0
def lstK (n : Nat) (l : List Bn) (k : Nat) : MM := fwP (fwN l k) k (ngI n (fwN l (k + 1)) + 1) 0
def lstG (n : Nat) (l : List Bn) : MM := ((List.range n).find? fun k => ngD n (fwN l (k + 1))).elim (fwN l n) (lstK n l)

theorem loop35_3 (call : Oracle) (fuel : Nat) (hF : 100 < fuel) (n : Nat) (l : List Bn) (h : VB n l) (fu : Nat) (hf : 100 < fu) (st : St) (h0 : drops st h35_3 = L35_3 (ii n) (.own (iT n (fwN l 0))) (ii 0)) :
    run.loopN (run call fuel b35_3) fu st = some (((List.range n).find? fun k => ngD n (fwN l (k + 1))).elim (.ex 6, X35_6 (.own (iT n (fwN l n)))) fun k => (.ret, R35 (.own (iT n (lstK n l k))))) := by
  have hn := h.n16
  refine loop_find call fuel h35_3 _ n (fun k => ngD n (fwN l (k + 1))) (fun k => L35_3 (ii n) (.own (iT n (fwN l k))) (ii k)) (fun k => (.ret, R35 (.own (iT n (lstK n l k))))) _ (by simp) (by simp) ?_ (by simp) fu st (by rw [h0]; rfl) (by omega)
  intro k hk hj
  have hw := wrap_succ (i := k) (by omega)
  have hd := fwN_dg h.ok hj k hk
  have hB := fwN_bd16 h (k := k) (by omega)
  have hL := loop35_4 call fuel hF n hn (fwN l k) hB k hk hd fuel hF
  have e : fwS (fwN l k) k = fwN l (k + 1) := rfl
  rw [e] at hL
  have hq : lstK n l k = fwP (fwN l k) k (ngI n (fwN l (k + 1)) + 1) 0 := rfl
  rw [hq]
  have hN : ngD n (fwN l (k + 1)) = ((List.range n).find? fun i => ngL (fwN l (k + 1) i i)).isSome := by
    rw [find_some]; rfl
  unfold ngI
  generalize ngD n (fwN l (k + 1)) = q at *
  generalize (List.range n).find? (fun i => ngL (fwN l (k + 1) i i)) = o at *
  subst hN
  simp [hk]
  rw [hL _ (by simp)]
  cases o with
  | none => simp [hw]
  | some i => simp

theorem f35 (call : Oracle) (fuel : Nat) (hF : 100 < fuel) (n : Nat) (l : List Bn) (h : VB n l) (b : Bool) :
    callF call fuel c35 [.v (.int .i64 (n : Int)), sd b (nbL l)] = some (iT n (lstG n l)) := by
  rw [callF_tab call fuel c35 13 _ (by exact Nat.le_of_ble_eq_true rfl) (by exact Nat.le_of_ble_eq_true rfl)]
  have hn := h.n16
  have hm : n ≤ most := by unfold most; omega
  have h1 := loop35_0 call fuel hF n hn (sd b (nbL l)) fuel hF
  have hn0 : (n == 0) = false := by have := h.n1; simp; omega
  rw [hn0] at h1
  have e0 : idM = mA l 0 := rfl
  rw [e0] at h1
  have h2 := loop35_2 call fuel n l h b fuel hF
  have h3 := loop35_3 call fuel hF n l h fuel hF
  have e1 : fwN l 0 = m0 l := rfl
  rw [e1] at h3
  simp [c35]
  rw [h1 _ (by simp; rfl)]
  simp
  rw [h2 _ (by simp)]
  simp
  rw [h3 _ (by simp)]
  unfold lstG
  cases (List.range n).find? fun k => ngD n (fwN l (k + 1)) <;> simp

theorem lst_bad {n : Nat} {l : List Bn} (h : VB n l) : ngD n (lstG n l) = bad n l := by
  unfold lstG
  cases hk : (List.range n).find? fun k => ngD n (fwN l (k + 1)) with
  | none =>
    have hb : bad n l = false := by
      unfold bad
      rw [← find_some, hk]; rfl
    rw [hb]
    have := bad_false hb (k := n - 1) (by have := h.n1; omega)
    rwa [show n - 1 + 1 = n by have := h.n1; omega] at this
  | some k =>
    have hb : bad n l = true := by
      unfold bad
      rw [← find_some, hk]; rfl
    rw [hb]
    have h1 := List.find?_some hk
    show ngD n (lstK n l k) = true
    unfold lstK ngI
    have h2 : ((List.range n).find? fun i => ngL (fwN l (k + 1) i i)).isSome = true := by rw [find_some]; exact h1
    obtain ⟨i, hi⟩ := Option.isSome_iff_exists.1 h2
    rw [hi]
    have h3 := List.find?_some hi
    have h4 := List.mem_of_find?_eq_some hi
    refine List.any_eq_true.2 ⟨i, h4, ?_⟩
    show ngL (fwP (fwN l k) k (i + 1) 0 i i) = true
    unfold fwP
    rw [if_pos (by omega)]
    exact h3
theorem lst_good {n : Nat} {l : List Bn} (hb : bad n l = false) : lstG n l = fwN l n := by
  unfold lstG
  have : (List.range n).find? (fun k => ngD n (fwN l (k + 1))) = none := by
    rw [← Option.isNone_iff_eq_none, ← Option.not_isSome, find_some]
    show (!bad n l) = true
    rw [hb]; rfl
  rw [this]; rfl

theorem loop34 (call : Oracle) (fuel : Nat) (n : Nat) (hn : n ≤ 16) (g : MM) (fu : Nat) (hf : 100 < fu) (st : St) (h0 : drops st h34_0 = L34_0 (ii n) (.own (iT n g)) (ii 0)) :
    run.loopN (run call fuel b34_0) fu st = some (if ngD n g = true then (.ret, R34 (bb false)) else (.ex 0, X34_0)) := by
  refine loop_any call fuel h34_0 _ n (fun i => ngL (g i i)) (fun i => L34_0 (ii n) (.own (iT n g)) (ii i)) (.ret, R34 (bb false)) (.ex 0, X34_0) (by simp) (by simp) ?_ (by simp) fu st (by rw [h0]; rfl) (by omega)
  intro i hi _
  have hw := wrap_succ (i := i) (by omega)
  have e : decide (lzG g i i < 0) = ngL (g i i) := ngL_lz _
  rw [← e]
  dsimp only [iT]
  generalize lzG g = G at *
  by_cases c : G i i < 0
  · simp [hi, tb2_nth, nth_row, c]
  · simp [hi, tb2_nth, nth_row, c, hw]
theorem f34 (call : Oracle) (fuel : Nat) (hF : 100 < fuel) (n : Nat) (l : List Bn) (h : VB n l) (b : Bool) (h35 : call 35 [.v (.int .i64 (n : Int)), sd b (nbL l)] = some (iT n (lstG n l))) :
    callF call fuel c34 [.v (.int .i64 (n : Int)), sd b (nbL l)] = some (.v (.bool (!bad n l))) := by
  rw [callF_tab call fuel c34 7 _ (by exact Nat.le_of_ble_eq_true rfl) (by exact Nat.le_of_ble_eq_true rfl)]
  have hL := loop34 call fuel n h.n16 (lstG n l) fuel hF
  rw [lst_bad h] at hL
  simp [c34, h35]
  rw [hL _ (by simp)]
  cases bad n l <;> simp
end Go.Mx
