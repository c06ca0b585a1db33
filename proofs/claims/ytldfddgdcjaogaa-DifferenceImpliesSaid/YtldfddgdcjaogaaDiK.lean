import Derived.Test.YtldfddgdcjaogaaDiJ
/-
  Solve; lists of numbers are the same.
-/
namespace Go.Mx
set_option linter.unusedVariables false
set_option linter.unusedSimpArgs false
set_option linter.unusedSectionVars false
open Go

/-- A solution, or none. -/
def noneAt (n : Nat) (l : List Bn) : Bool := (List.range n).any fun j => (fwN l n 0 j).isNone
abbrev slD (d : D) (e : Int) : D := .nd .tu [d, .v (.int .i64 e)]
abbrev nilI : D := si true []
def solD (n : Nat) (l : List Bn) : D := if bad n l = true then slD nilI 10 else if noneAt n l = true then slD nilI 7 else slD (si false (row n (lzG (fwN l n) 0))) 0

theorem loop18 (call : Oracle) (fuel : Nat) (n : Nat) (hn : n ≤ 16) (g : MM) (fu : Nat) (hf : 100 < fu) (st : St)
    (h0 : drops st h18_0 = L18_0 (.own (mT n g)) (.own nilI) (.ref 6 []) (.ad 6 [] 0) (.ref 6 [0]) (ii n) (ii 0)) (hn1 : 1 ≤ n) :
    run.loopN (run call fuel b18_0) fu st = some (if (List.range n).any (fun j => (g 0 j).isNone) = true then (.ret, R18 (.own nilI) (ii 7)) else (.ex 0, X18_0 (.own (si (n == 0) (row n (lzG g 0)))))) := by
  refine loop_any call fuel h18_0 _ n (fun j => (g 0 j).isNone) (fun i => L18_0 (.own (mT n g)) (.own (si (i == 0) (row i (lzG g 0)))) (.ref 6 []) (.ad 6 [] 0) (.ref 6 [0]) (ii n) (ii i)) (.ret, R18 (.own nilI) (ii 7)) (.ex 0, X18_0 (.own (si (n == 0) (row n (lzG g 0))))) (by simp) (by simp) ?_ (by simp) fu st (by rw [h0]; rfl) (by omega)
  intro i hi _
  have hw := wrap_succ (i := i) (by omega)
  have h0 : 0 < n := by omega
  have hm : i + 1 ≤ most := by unfold most; omega
  have hs : row (i + 1) (lzG g 0) = row i (lzG g 0) ++ [lzG g 0 i] := row_succ _ _
  have e0 : rlG g 0 i = rl (g 0 i) := rfl
  have e1 : lzG g 0 i = lz (g 0 i) := rfl
  rw [e1] at hs
  cases hg : g 0 i with
  | none =>
    rw [hg, rl_none] at e0
    simp [hi, h0, tb2_nth, nth_row, e0]
    rfl
  | some d =>
    rw [hg, rl_some] at e0
    rw [hg, lz_some] at hs
    simp [hi, h0, tb2_nth, nth_row, e0, hw, hm, hs]

theorem f18e (call : Oracle) (fuel : Nat) (n : Int) (b : Bool) (l : List (Int × Int × Int)) (h16 : call 16 [.v (.int .i64 n), sd b l] = some (.v (.bool false))) :
    callF call fuel c18 [.v (.int .i64 n), sd b l] = some (slD nilI 1) := by
  rw [callF_tab call fuel c18 28 _ (by exact Nat.le_of_ble_eq_true rfl) (by exact Nat.le_of_ble_eq_true rfl)]
  simp [c18, h16]
  rfl
theorem f19e (call : Oracle) (fuel : Nat) (n : Int) (b : Bool) (l : List (Int × Int × Int)) (h17 : call 17 [.v (.int .i64 n), sd b l] = some (.v (.bool false))) :
    callF call fuel c19 [.v (.int .i64 n), sd b l] = some (slD nilI 1) := by
  rw [callF_tab call fuel c19 21 _ (by exact Nat.le_of_ble_eq_true rfl) (by exact Nat.le_of_ble_eq_true rfl)]
  simp [c19, h17]
  rfl
theorem f18 (call : Oracle) (fuel : Nat) (hF : 100 < fuel) (n : Nat) (b : Bool) (l : List Bn) (h : VB n l) (h16 : call 16 [.v (.int .i64 (n : Int)), sd b (nbL l)] = some (.v (.bool true)))
    (h32 : call 32 [.v (.int .i64 (n : Int)), sd b (nbL l)] = some (limD n l)) :
    callF call fuel c18 [.v (.int .i64 (n : Int)), sd b (nbL l)] = some (solD n l) := by
  rw [callF_tab call fuel c18 28 _ (by exact Nat.le_of_ble_eq_true rfl) (by exact Nat.le_of_ble_eq_true rfl)]
  unfold solD
  unfold limD at h32
  have hn1 := h.n1
  have hp : 0 < n := by omega
  have hn0 : (n == 0) = false := by simp; omega
  cases hb : bad n l with
  | true =>
    rw [hb, if_pos rfl] at h32
    simp [c18, h16, h32]
    rfl
  | false =>
    rw [hb, if_neg (by simp)] at h32
    have hL := loop18 call fuel n h.n16 (fwN l n) fuel hF
    simp [c18, h16, h32, hp, tb2_nth]
    rw [hL _ (by simp; rfl) hn1]
    have hv : noneAt n l = (List.range n).any fun j => (fwN l n 0 j).isNone := rfl
    rw [← hv]
    cases noneAt n l <;> simp [hn0]

theorem loop19 (call : Oracle) (fuel : Nat) (n : Nat) (l : List Bn) (h : VB n l) (d : D) (fu : Nat) (hf : 100 < fu) (st : St)
    (h0 : drops st h19_0 = L19_0 (ii n) (.own (si false (row n (lzG (fwN l n) 0)))) (ii 0) (.own d) (.ad 18 [] 0) (.dead)) :
    run.loopN (run call fuel b19_0) fu st = some (if noneAt n l = true then (.ret, R19 (.own nilI) (ii 7)) else (.ex 0, X19_0 (.own (si false (row n (lzG (fwN l n) 0)))) (.own d) (.ad 18 [] 0) (.dead))) := by
  have hn := h.n16
  refine loop_any call fuel h19_0 _ n (fun j => (fwN l n 0 j).isNone) (fun i => L19_0 (ii n) (.own (si false (row n (lzG (fwN l n) 0)))) (ii i) (.own d) (.ad 18 [] 0) (.dead)) (.ret, R19 (.own nilI) (ii 7)) _ (by simp) (by simp) ?_ (by simp) fu st (by rw [h0]; rfl) (by omega)
  intro i hi _
  have hw := wrap_succ (i := i) (by omega)
  have k := lz_big (fwN_bd16 h hn 0 i)
  have e : lzG (fwN l n) 0 i = lz (fwN l n 0 i) := rfl
  rw [← e] at k
  generalize lzG (fwN l n) 0 = G at *
  cases hf : fwN l n 0 i with
  | none =>
    rw [hf] at k
    simp [hi, nth_row, k]
    rfl
  | some x =>
    rw [hf] at k
    have : ¬ G i = 1099511627776 := fun h => by have := k.1 h; cases this
    simp [hi, nth_row, this, hw]
theorem f19 (call : Oracle) (fuel : Nat) (hF : 100 < fuel) (n : Nat) (b : Bool) (l : List Bn) (h : VB n l) (h17 : call 17 [.v (.int .i64 (n : Int)), sd b (nbL l)] = some (.v (.bool true)))
    (h34 : call 34 [.v (.int .i64 (n : Int)), sd b (nbL l)] = some (.v (.bool (!bad n l)))) (h35 : call 35 [.v (.int .i64 (n : Int)), sd b (nbL l)] = some (iT n (lstG n l))) :
    callF call fuel c19 [.v (.int .i64 (n : Int)), sd b (nbL l)] = some (solD n l) := by
  rw [callF_tab call fuel c19 21 _ (by exact Nat.le_of_ble_eq_true rfl) (by exact Nat.le_of_ble_eq_true rfl)]
  unfold solD
  have hn1 := h.n1
  have hp : 0 < n := by omega
  cases hb : bad n l with
  | true =>
    rw [hb] at h34
    simp [c19, h17, h34]
    rfl
  | false =>
    rw [hb] at h34
    rw [lst_good hb] at h35
    have hL := loop19 call fuel n l h (setAt (gsl eII false (tb2 n n (lzG (fwN l n)))) [0] (T.hole false)) fuel hF
    simp [c19, h17, h34, h35, hp, tb2_nth]
    rw [hL _ (by simp)]
    cases noneAt n l <;> simp

theorem loop20 (call : Oracle) (fuel : Nat) (b c : Bool) (l m : List Int) (hl : l.length ≤ 1000) (hm : m.length = l.length) (fu : Nat) (hf : 1000 < fu) (st : St) (h0 : drops st h20_0 = L20_0 (.ro (si b l)) (.ro (si c m)) (ii 0)) :
    run.loopN (run call fuel b20_0) fu st = some (if (List.range l.length).any (fun i => nth l 0 i != nth m 0 i) = true then (.ret, R20 (bb false)) else (.ex 0, X20_0)) := by
  refine loop_any call fuel h20_0 _ l.length (fun i => nth l 0 i != nth m 0 i) (fun i => L20_0 (.ro (si b l)) (.ro (si c m)) (ii i)) (.ret, R20 (bb false)) (.ex 0, X20_0) (by simp) (by simp) ?_ (by simp) fu st (by rw [h0]; rfl) (by omega)
  intro i hi _
  have hw := wrap_succ (i := i) (by omega)
  simp [hi, hw, hm]
/-- Ints. -/
theorem f20 (call : Oracle) (fuel : Nat) (hf : 1000 < fuel) (b c : Bool) (l m : List Int) (hl : l.length ≤ 1000) : callF call fuel c20 [si b l, si c m] = some (.v (.bool (l == m))) := by
  rw [callF_tab call fuel c20 6 _ (by exact Nat.le_of_ble_eq_true rfl) (by exact Nat.le_of_ble_eq_true rfl)]
  by_cases hm : m.length = l.length
  · have e := loop20 call fuel b c l m hl hm fuel hf
    rw [any_ne l m 0 hm.symm] at e
    simp [c20, hm]
    rw [e _ (by simp)]
    cases (l == m) <;> simp
  · have h1 : (l == m) = false := by
      rw [beq_eq_false_iff_ne]; rintro rfl; exact hm rfl
    have h2 : ¬ (l.length : Int) = (m.length : Int) := by omega
    have h3 : ¬ l.length = m.length := by omega
    rw [h1]
    simp [c20, h2, h3]
end Go.Mx
