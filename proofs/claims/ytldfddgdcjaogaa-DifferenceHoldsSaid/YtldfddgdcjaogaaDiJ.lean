import Derived.Test.YtldfddgdcjaogaaDiG
/-
  Tight, Solve.
-/
namespace Go.Mx
set_option linter.unusedVariables false
set_option linter.unusedSimpArgs false
set_option linter.unusedSectionVars false
open Go

theorem right_iff {n : Int} {c : Int × Int × Int} : rightB n c = true ↔ (0 ≤ c.1 ∧ c.1 < n ∧ 0 ≤ c.2.1 ∧ c.2.1 < n ∧ c.1 ≠ c.2.1 ∧ -1000000 ≤ c.2.2 ∧ c.2.2 ≤ 1000000) := by
  unfold rightB
  simp only [Bool.and_eq_true, decide_eq_true_eq]
  omega
theorem valid_iff {n : Int} {l : List (Int × Int × Int)} : validB n l = true ↔ (1 ≤ n ∧ n ≤ 16 ∧ l.length ≤ 80 ∧ ∀ c ∈ l, rightB n c = true) := by
  unfold validB
  simp [and_assoc]
def nat3 (c : Int × Int × Int) : Bn := (c.1.toNat, c.2.1.toNat, c.2.2)
theorem valid_vb {n : Int} {l : List (Int × Int × Int)} (h : validB n l = true) : ∃ (n' : Nat) (l' : List Bn), n = (n' : Int) ∧ l = nbL l' ∧ VB n' l' := by
  obtain ⟨h1, h2, h3, h4⟩ := valid_iff.1 h
  refine ⟨n.toNat, l.map nat3, by omega, ?_, ?_⟩
  · unfold nbL
    rw [List.map_map]
    conv => lhs; rw [← List.map_id l]
    apply List.map_congr_left
    intro c hc
    have := right_iff.1 (h4 c hc)
    obtain ⟨x, y, z⟩ := c
    simp only [id, Function.comp, nat3]
    simp at this
    rw [Int.toNat_of_nonneg (by omega), Int.toNat_of_nonneg (by omega)]
  · refine ⟨?_, ?_, by omega, by omega, by simpa using h3⟩
    · intro c hc
      obtain ⟨d, hd, rfl⟩ := List.mem_map.1 hc
      have := right_iff.1 (h4 d hd)
      simp only [nat3]
      omega
    · intro c hc
      obtain ⟨d, hd, rfl⟩ := List.mem_map.1 hc
      have := right_iff.1 (h4 d hd)
      simp only [nat3]
      omega
theorem vb_valid {n : Nat} {l : List Bn} (h : VB n l) : validB (n : Int) (nbL l) = true := by
  rw [valid_iff]
  have h1 := h.n1
  have h2 := h.n16
  have h3 := h.len
  refine ⟨by omega, by omega, by simpa using h3, ?_⟩
  intro c hc
  unfold nbL at hc
  obtain ⟨d, hd, rfl⟩ := List.mem_map.1 hc
  have := h.ok d hd
  have := h.c d hd
  rw [right_iff]
  simp only
  omega

abbrev tgD (d : Int) (b : Bool) (e : Int) : D := .nd .tu [.v (.int .i64 d), .v (.bool b), .v (.int .i64 e)]
def tigM (n : Nat) (l : List Bn) (i j : Nat) : D := match fwN l n i j with
  | none => tgD 0 false 0
  | some d => tgD d true 0
def tigD (n : Nat) (l : List Bn) (i j : Int) : D := if i < 0 ∨ (n : Int) ≤ i ∨ j < 0 ∨ (n : Int) ≤ j then tgD 0 false 2 else if bad n l = true then tgD 0 false 10 else tigM n l i.toNat j.toNat
theorem tigM_eq (n : Nat) (l : List Bn) (i j : Nat) : tigM n l i j = tgD (rl (fwN l n i j)).1 (rl (fwN l n i j)).2 0 := by
  unfold tigM
  cases fwN l n i j <;> rfl

theorem f14e (call : Oracle) (fuel : Nat) (n : Int) (b : Bool) (l : List (Int × Int × Int)) (i j : Int) (h16 : call 16 [.v (.int .i64 n), sd b l] = some (.v (.bool false))) :
    callF call fuel c14 [.v (.int .i64 n), sd b l, .v (.int .i64 i), .v (.int .i64 j)] = some (tgD 0 false 1) := by
  rw [callF_tab call fuel c14 36 _ (by exact Nat.le_of_ble_eq_true rfl) (by exact Nat.le_of_ble_eq_true rfl)]
  simp [c14, h16]
theorem f15e (call : Oracle) (fuel : Nat) (n : Int) (b : Bool) (l : List (Int × Int × Int)) (i j : Int) (h17 : call 17 [.v (.int .i64 n), sd b l] = some (.v (.bool false))) :
    callF call fuel c15 [.v (.int .i64 n), sd b l, .v (.int .i64 i), .v (.int .i64 j)] = some (tgD 0 false 1) := by
  rw [callF_tab call fuel c15 12 _ (by exact Nat.le_of_ble_eq_true rfl) (by exact Nat.le_of_ble_eq_true rfl)]
  simp [c15, h17]
theorem f14 (call : Oracle) (fuel : Nat) (n : Nat) (b : Bool) (l : List Bn) (h : VB n l) (i j : Int) (h16 : call 16 [.v (.int .i64 (n : Int)), sd b (nbL l)] = some (.v (.bool true)))
    (h32 : call 32 [.v (.int .i64 (n : Int)), sd b (nbL l)] = some (limD n l)) :
    callF call fuel c14 [.v (.int .i64 (n : Int)), sd b (nbL l), .v (.int .i64 i), .v (.int .i64 j)] = some (tigD n l i j) := by
  rw [callF_tab call fuel c14 36 _ (by exact Nat.le_of_ble_eq_true rfl) (by exact Nat.le_of_ble_eq_true rfl)]
  unfold tigD
  by_cases c1 : i < 0
  · simp [c14, h16, c1]
  by_cases c2 : (n : Int) ≤ i
  · simp [c14, h16, c1, c2]
  by_cases c3 : j < 0
  · simp [c14, h16, c1, c2, c3]
  by_cases c4 : (n : Int) ≤ j
  · simp [c14, h16, c1, c2, c3, c4]
  rw [if_neg (by omega)]
  obtain ⟨i, rfl⟩ := Int.eq_ofNat_of_zero_le (show 0 ≤ i by omega)
  obtain ⟨j, rfl⟩ := Int.eq_ofNat_of_zero_le (show 0 ≤ j by omega)
  have d2 : ¬ n ≤ i := by omega
  have d4 : ¬ n ≤ j := by omega
  have e2 : i < n := by omega
  have e4 : j < n := by omega
  unfold limD at h32
  cases hb : bad n l with
  | true =>
    rw [hb, if_pos rfl] at h32
    simp [c14, h16, d2, d4, h32]
  | false =>
    rw [hb, if_neg (by simp)] at h32
    have e : tigM n l i j = tgD (rlG (fwN l n) i j).1 (rlG (fwN l n) i j).2 0 := tigM_eq n l i j
    simp [c14, h16, d2, d4, h32, e2, e4, tb2_nth, nth_row, e]
theorem f15 (call : Oracle) (fuel : Nat) (n : Nat) (b : Bool) (l : List Bn) (h : VB n l) (i j : Int) (h17 : call 17 [.v (.int .i64 (n : Int)), sd b (nbL l)] = some (.v (.bool true)))
    (h33 : ∀ x y z : Int, call 33 [.v (.int .i64 x), .v (.int .i64 y), .v (.int .i64 z)] = some (.v (.bool (decide (y ≤ x) && decide (x ≤ z)))))
    (h34 : call 34 [.v (.int .i64 (n : Int)), sd b (nbL l)] = some (.v (.bool (!bad n l)))) (h35 : call 35 [.v (.int .i64 (n : Int)), sd b (nbL l)] = some (iT n (lstG n l))) :
    callF call fuel c15 [.v (.int .i64 (n : Int)), sd b (nbL l), .v (.int .i64 i), .v (.int .i64 j)] = some (tigD n l i j) := by
  rw [callF_tab call fuel c15 12 _ (by exact Nat.le_of_ble_eq_true rfl) (by exact Nat.le_of_ble_eq_true rfl)]
  unfold tigD
  have hn := h.n16
  have hn1 := h.n1
  obtain ⟨m, hm⟩ : ∃ m : Int, m = (n : Int) - 1 := ⟨_, rfl⟩
  have w : IntKind.i64.wrap ((n : Int) - 1) = m := by rw [hm]; exact wrap_eq (by unfold I64; omega)
  by_cases c1 : i < 0
  · have : ¬ 0 ≤ i := by omega
    simp [c15, h17, h33, w, this, c1]
  have g1 : 0 ≤ i := by omega
  by_cases c2 : (n : Int) ≤ i
  · have : ¬ i ≤ m := by omega
    simp [c15, h17, h33, w, this, g1, c2]
  have g2 : i ≤ m := by omega
  by_cases c3 : j < 0
  · have : ¬ 0 ≤ j := by omega
    simp [c15, h17, h33, w, g1, g2, this, c3]
  have g3 : 0 ≤ j := by omega
  by_cases c4 : (n : Int) ≤ j
  · have : ¬ j ≤ m := by omega
    simp [c15, h17, h33, w, g1, g2, g3, this, c4]
  have g4 : j ≤ m := by omega
  rw [if_neg (by omega)]
  obtain ⟨i, rfl⟩ := Int.eq_ofNat_of_zero_le (show 0 ≤ i by omega)
  obtain ⟨j, rfl⟩ := Int.eq_ofNat_of_zero_le (show 0 ≤ j by omega)
  have e2 : i < n := by omega
  have e4 : j < n := by omega
  cases hb : bad n l with
  | true =>
    rw [hb] at h34
    simp [c15, h17, h33, w, g2, g4, h34]
  | false =>
    rw [hb] at h34
    rw [lst_good hb] at h35
    have k := lz_big (fwN_bd16 h hn i j)
    have e : lzG (fwN l n) i j = lz (fwN l n i j) := rfl
    dsimp only [iT] at h35
    unfold tigM
    rw [← e] at k
    simp [c15, h17, h33, w, g2, g4, h34, h35, e2, e4, tb2_nth, nth_row]
    generalize lzG (fwN l n) i j = y at *
    cases hf : fwN l n i j with
    | none => rw [hf] at k; simp [k.2 rfl]
    | some d =>
      rw [hf] at k e
      have : ¬ y = 1099511627776 := fun h => by have := k.1 h; cases this
      rw [lz_some] at e
      rw [e] at this
      simp [this, e]

/-! ### Solve; lists of numbers are the same. -/

/-- A solution, or none. -/
def noneAt (n : Nat) (l : List Bn) : Bool := (List.range n).any fun j => (fwN l n 0 j).isNone
abbrev slD (d : D) (e : Int) : D := .nd .tu [d, .v (.int .i64 e)]
abbrev nilI : D := si true []
def solD (n : Nat) (l : List Bn) : D := if bad n l = true then slD nilI 10 else if noneAt n l = true then slD nilI 7 else slD (si false (row n (lzG (fwN l n) 0))) 0

theorem loop18 (call : Oracle) (fuel : Nat) (n : Nat) (hn : n ≤ 16) (g : MM) (fu : Nat) (hf : 100 < fu) (st : St)
    (h0 : drops st h18_0 = L18_0 (.own (mT n g)) (.own nilI) (.ref 6 []) (.ad 6 [] 0) (.ref 6 [0]) (ii n) (ii 0)) (hn1 : 1 ≤ n) :
    run.loopN (run call fuel b18_0) fu st = some (if (List.range n).any (fun j => (g 0 j).isNone) = true then (.ret, R18 (.own nilI) (ii 7)) else (.ex 0, X18_0 (.own (si (n == 0) (row n (lzG g 0)))))) := by
  refine loop_any call fuel h18_0 _ n (fun j => (g 0 j).isNone) (fun i => L18_0 (.own (mT n g)) (.own (si (i == 0) (row i (lzG g 0)))) (.ref 6 []) (.ad 6 [] 0) (.ref 6 [0]) (ii n) (ii i)) (.ret, R18 (.own nilI) (ii 7)) (.ex 0, X18_0 (.own (si (n == 0) (row n (lzG g 0))))) (by simp) (by simp) ?_ (by simp) fu st (by rw [h0]; rfl) (by omega)
  intro i hi _
  have hw := wrap_succ (i := i) (by omega)
  have h0 : 0 < n := by omega
  have hm : i + 1 ≤ most := by unfold most; omega
  have hs : row (i + 1) (lzG g 0) = row i (lzG g 0) ++ [lzG g 0 i] := row_succ _ _
  have e0 : rlG g 0 i = rl (g 0 i) := rfl
  have e1 : lzG g 0 i = lz (g 0 i) := rfl
  rw [e1] at hs
  cases hg : g 0 i with
  | none =>
    rw [hg, rl_none] at e0
    simp [hi, h0, tb2_nth, nth_row, e0]
    rfl
  | some d =>
    rw [hg, rl_some] at e0
    rw [hg, lz_some] at hs
    simp [hi, h0, tb2_nth, nth_row, e0, hw, hm, hs]

theorem f18e (call : Oracle) (fuel : Nat) (n : Int) (b : Bool) (l : List (Int × Int × Int)) (h16 : call 16 [.v (.int .i64 n), sd b l] = some (.v (.bool false))) :
    callF call fuel c18 [.v (.int .i64 n), sd b l] = some (slD nilI 1) := by
  rw [callF_tab call fuel c18 28 _ (by exact Nat.le_of_ble_eq_true rfl) (by exact Nat.le_of_ble_eq_true rfl)]
  simp [c18, h16]
  rfl
theorem f19e (call : Oracle) (fuel : Nat) (n : Int) (b : Bool) (l : List (Int × Int × Int)) (h17 : call 17 [.v (.int .i64 n), sd b l] = some (.v (.bool false))) :
    callF call fuel c19 [.v (.int .i64 n), sd b l] = some (slD nilI 1) := by
  rw [callF_tab call fuel c19 21 _ (by exact Nat.le_of_ble_eq_true rfl) (by exact Nat.le_of_ble_eq_true rfl)]
  simp [c19, h17]
  rfl
theorem f18 (call : Oracle) (fuel : Nat) (hF : 100 < fuel) (n : Nat) (b : Bool) (l : List Bn) (h : VB n l) (h16 : call 16 [.v (.int .i64 (n : Int)), sd b (nbL l)] = some (.v (.bool true)))
    (h32 : call 32 [.v (.int .i64 (n : Int)), sd b (nbL l)] = some (limD n l)) :
    callF call fuel c18 [.v (.int .i64 (n : Int)), sd b (nbL l)] = some (solD n l) := by
  rw [callF_tab call fuel c18 28 _ (by exact Nat.le_of_ble_eq_true rfl) (by exact Nat.le_of_ble_eq_true rfl)]
  unfold solD
  unfold limD at h32
  have hn1 := h.n1
  have hp : 0 < n := by omega
  have hn0 : (n == 0) = false := by simp; omega
  cases hb : bad n l with
  | true =>
    rw [hb, if_pos rfl] at h32
    simp [c18, h16, h32]
    rfl
  | false =>
    rw [hb, if_neg (by simp)] at h32
    have hL := loop18 call fuel n h.n16 (fwN l n) fuel hF
    simp [c18, h16, h32, hp, tb2_nth]
    rw [hL _ (by simp; rfl) hn1]
    have hv : noneAt n l = (List.range n).any fun j => (fwN l n 0 j).isNone := rfl
    rw [← hv]
    cases noneAt n l <;> simp [hn0]

theorem loop19 (call : Oracle) (fuel : Nat) (n : Nat) (l : List Bn) (h : VB n l) (d : D) (fu : Nat) (hf : 100 < fu) (st : St)
    (h0 : drops st h19_0 = L19_0 (ii n) (.own (si false (row n (lzG (fwN l n) 0)))) (ii 0) (.own d) (.ad 18 [] 0) (.dead)) :
    run.loopN (run call fuel b19_0) fu st = some (if noneAt n l = true then (.ret, R19 (.own nilI) (ii 7)) else (.ex 0, X19_0 (.own (si false (row n (lzG (fwN l n) 0)))) (.own d) (.ad 18 [] 0) (.dead))) := by
  have hn := h.n16
  refine loop_any call fuel h19_0 _ n (fun j => (fwN l n 0 j).isNone) (fun i => L19_0 (ii n) (.own (si false (row n (lzG (fwN l n) 0)))) (ii i) (.own d) (.ad 18 [] 0) (.dead)) (.ret, R19 (.own nilI) (ii 7)) _ (by simp) (by simp) ?_ (by simp) fu st (by rw [h0]; rfl) (by omega)
  intro i hi _
  have hw := wrap_succ (i := i) (by omega)
  have k := lz_big (fwN_bd16 h hn 0 i)
  have e : lzG (fwN l n) 0 i = lz (fwN l n 0 i) := rfl
  rw [← e] at k
  generalize lzG (fwN l n) 0 = G at *
  cases hf : fwN l n 0 i with
  | none =>
    rw [hf] at k
    simp [hi, nth_row, k]
    rfl
  | some x =>
    rw [hf] at k
    have : ¬ G i = 1099511627776 := fun h => by have := k.1 h; cases this
    simp [hi, nth_row, this, hw]
theorem f19 (call : Oracle) (fuel : Nat) (hF : 100 < fuel) (n : Nat) (b : Bool) (l : List Bn) (h : VB n l) (h17 : call 17 [.v (.int .i64 (n : Int)), sd b (nbL l)] = some (.v (.bool true)))
    (h34 : call 34 [.v (.int .i64 (n : Int)), sd b (nbL l)] = some (.v (.bool (!bad n l)))) (h35 : call 35 [.v (.int .i64 (n : Int)), sd b (nbL l)] = some (iT n (lstG n l))) :
    callF call fuel c19 [.v (.int .i64 (n : Int)), sd b (nbL l)] = some (solD n l) := by
  rw [callF_tab call fuel c19 21 _ (by exact Nat.le_of_ble_eq_true rfl) (by exact Nat.le_of_ble_eq_true rfl)]
  unfold solD
  have hn1 := h.n1
  have hp : 0 < n := by omega
  cases hb : bad n l with
  | true =>
    rw [hb] at h34
    simp [c19, h17, h34]
    rfl
  | false =>
    rw [hb] at h34
    rw [lst_good hb] at h35
    have hL := loop19 call fuel n l h (setAt (gsl eII false (tb2 n n (lzG (fwN l n)))) [0] (T.hole false)) fuel hF
    simp [c19, h17, h34, h35, hp, tb2_nth]
    rw [hL _ (by simp)]
    cases noneAt n l <;> simp

theorem loop20 (call : Oracle) (fuel : Nat) (b c : Bool) (l m : List Int) (hl : l.length ≤ 1000) (hm : m.length = l.length) (fu : Nat) (hf : 1000 < fu) (st : St) (h0 : drops st h20_0 = L20_0 (.ro (si b l)) (.ro (si c m)) (ii 0)) :
    run.loopN (run call fuel b20_0) fu st = some (if (List.range l.length).any (fun i => nth l 0 i != nth m 0 i) = true then (.ret, R20 (bb false)) else (.ex 0, X20_0)) := by
  refine loop_any call fuel h20_0 _ l.length (fun i => nth l 0 i != nth m 0 i) (fun i => L20_0 (.ro (si b l)) (.ro (si c m)) (ii i)) (.ret, R20 (bb false)) (.ex 0, X20_0) (by simp) (by simp) ?_ (by simp) fu st (by rw [h0]; rfl) (by omega)
  intro i hi _
  have hw := wrap_succ (i := i) (by omega)
  simp [hi, hw, hm]
/-- Ints. -/
theorem f20 (call : Oracle) (fuel : Nat) (hf : 1000 < fuel) (b c : Bool) (l m : List Int) (hl : l.length ≤ 1000) : callF call fuel c20 [si b l, si c m] = some (.v (.bool (l == m))) := by
  rw [callF_tab call fuel c20 6 _ (by exact Nat.le_of_ble_eq_true rfl) (by exact Nat.le_of_ble_eq_true rfl)]
  by_cases hm : m.length = l.length
  · have e := loop20 call fuel b c l m hl hm fuel hf
    rw [any_ne l m 0 hm.symm] at e
    simp [c20, hm]
    rw [e _ (by simp)]
    cases (l == m) <;> simp
  · have h1 : (l == m) = false := by
      rw [beq_eq_false_iff_ne]; rintro rfl; exact hm rfl
    have h2 : ¬ (l.length : Int) = (m.length : Int) := by omega
    have h3 : ¬ l.length = m.length := by omega
    rw [h1]
    simp [c20, h2, h3]
end Go.Mx
