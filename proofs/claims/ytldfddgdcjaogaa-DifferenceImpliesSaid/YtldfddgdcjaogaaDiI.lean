import Derived.Test.YtldfddgdcjaogaaDiH
/-
  least, Solvable.
-/
namespace Go.Mx
set_option linter.unusedVariables false
set_option linter.unusedSimpArgs false
set_option linter.unusedSectionVars false
open Go

def ngI (n : Nat) (g : MM) : Nat := ((List.range n).find? fun i => ngL (g i i)).getD 0
def lstK (n : Nat) (l : List Bn) (k : Nat) : MM := fwP (fwN l k) k (ngI n (fwN l (k + 1)) + 1) 0
def lstG (n : Nat) (l : List Bn) : MM := ((List.range n).find? fun k => ngD n (fwN l (k + 1))).elim (fwN l n) (lstK n l)

theorem loop35_3 (call : Oracle) (fuel : Nat) (hF : 100 < fuel) (n : Nat) (l : List Bn) (h : VB n l) (fu : Nat) (hf : 100 < fu) (st : St) (h0 : drops st h35_3 = L35_3 (ii n) (.own (iT n (fwN l 0))) (ii 0)) :
    run.loopN (run call fuel b35_3) fu st = some (((List.range n).find? fun k => ngD n (fwN l (k + 1))).elim (.ex 6, X35_6 (.own (iT n (fwN l n)))) fun k => (.ret, R35 (.own (iT n (lstK n l k))))) := by
  have hn := h.n16
  refine loop_find call fuel h35_3 _ n (fun k => ngD n (fwN l (k + 1))) (fun k => L35_3 (ii n) (.own (iT n (fwN l k))) (ii k)) (fun k => (.ret, R35 (.own (iT n (lstK n l k))))) _ (by simp) (by simp) ?_ (by simp) fu st (by rw [h0]; rfl) (by omega)
  intro k hk hj
  have hw := wrap_succ (i := k) (by omega)
  have hd := fwN_dg h.ok hj k hk
  have hB := fwN_bd16 h (k := k) (by omega)
  have hL := loop35_4 call fuel hF n hn (fwN l k) hB k hk hd fuel hF
  have e : fwS (fwN l k) k = fwN l (k + 1) := rfl
  rw [e] at hL
  have hq : lstK n l k = fwP (fwN l k) k (ngI n (fwN l (k + 1)) + 1) 0 := rfl
  rw [hq]
  have hN : ngD n (fwN l (k + 1)) = ((List.range n).find? fun i => ngL (fwN l (k + 1) i i)).isSome := by
    rw [find_some]; rfl
  unfold ngI
  generalize ngD n (fwN l (k + 1)) = q at *
  generalize (List.range n).find? (fun i => ngL (fwN l (k + 1) i i)) = o at *
  subst hN
  simp [hk]
  rw [hL _ (by simp)]
  cases o with
  | none => simp [hw]
  | some i => simp

theorem f35 (call : Oracle) (fuel : Nat) (hF : 100 < fuel) (n : Nat) (l : List Bn) (h : VB n l) (b : Bool) :
    callF call fuel c35 [.v (.int .i64 (n : Int)), sd b (nbL l)] = some (iT n (lstG n l)) := by
  rw [callF_tab call fuel c35 13 _ (by exact Nat.le_of_ble_eq_true rfl) (by exact Nat.le_of_ble_eq_true rfl)]
  have hn := h.n16
  have hm : n ≤ most := by unfold most; omega
  have h1 := loop35_0 call fuel hF n hn (sd b (nbL l)) fuel hF
  have hn0 : (n == 0) = false := by have := h.n1; simp; omega
  rw [hn0] at h1
  have e0 : idM = mA l 0 := rfl
  rw [e0] at h1
  have h2 := loop35_2 call fuel n l h b fuel hF
  have h3 := loop35_3 call fuel hF n l h fuel hF
  have e1 : fwN l 0 = m0 l := rfl
  rw [e1] at h3
  simp [c35]
  rw [h1 _ (by simp; rfl)]
  simp
  rw [h2 _ (by simp)]
  simp
  rw [h3 _ (by simp)]
  unfold lstG
  cases (List.range n).find? fun k => ngD n (fwN l (k + 1)) <;> simp

theorem lst_bad {n : Nat} {l : List Bn} (h : VB n l) : ngD n (lstG n l) = bad n l := by
  unfold lstG
  cases hk : (List.range n).find? fun k => ngD n (fwN l (k + 1)) with
  | none =>
    have hb : bad n l = false := by
      unfold bad
      rw [← find_some, hk]; rfl
    rw [hb]
    have := bad_false hb (k := n - 1) (by have := h.n1; omega)
    rwa [show n - 1 + 1 = n by have := h.n1; omega] at this
  | some k =>
    have hb : bad n l = true := by
      unfold bad
      rw [← find_some, hk]; rfl
    rw [hb]
    have h1 := List.find?_some hk
    show ngD n (lstK n l k) = true
    unfold lstK ngI
    have h2 : ((List.range n).find? fun i => ngL (fwN l (k + 1) i i)).isSome = true := by rw [find_some]; exact h1
    obtain ⟨i, hi⟩ := Option.isSome_iff_exists.1 h2
    rw [hi]
    have h3 := List.find?_some hi
    have h4 := List.mem_of_find?_eq_some hi
    refine List.any_eq_true.2 ⟨i, h4, ?_⟩
    show ngL (fwP (fwN l k) k (i + 1) 0 i i) = true
    unfold fwP
    rw [if_pos (by omega)]
    exact h3
theorem lst_good {n : Nat} {l : List Bn} (hb : bad n l = false) : lstG n l = fwN l n := by
  unfold lstG
  have : (List.range n).find? (fun k => ngD n (fwN l (k + 1))) = none := by
    rw [← Option.isNone_iff_eq_none, ← Option.not_isSome, find_some]
    show (!bad n l) = true
    rw [hb]; rfl
  rw [this]; rfl

theorem loop34 (call : Oracle) (fuel : Nat) (n : Nat) (hn : n ≤ 16) (g : MM) (fu : Nat) (hf : 100 < fu) (st : St) (h0 : drops st h34_0 = L34_0 (ii n) (.own (iT n g)) (ii 0)) :
    run.loopN (run call fuel b34_0) fu st = some (if ngD n g = true then (.ret, R34 (bb false)) else (.ex 0, X34_0)) := by
  refine loop_any call fuel h34_0 _ n (fun i => ngL (g i i)) (fun i => L34_0 (ii n) (.own (iT n g)) (ii i)) (.ret, R34 (bb false)) (.ex 0, X34_0) (by simp) (by simp) ?_ (by simp) fu st (by rw [h0]; rfl) (by omega)
  intro i hi _
  have hw := wrap_succ (i := i) (by omega)
  have e : decide (lzG g i i < 0) = ngL (g i i) := ngL_lz _
  rw [← e]
  dsimp only [iT]
  generalize lzG g = G at *
  by_cases c : G i i < 0
  · simp [hi, tb2_nth, nth_row, c]
  · simp [hi, tb2_nth, nth_row, c, hw]
theorem f34 (call : Oracle) (fuel : Nat) (hF : 100 < fuel) (n : Nat) (l : List Bn) (h : VB n l) (b : Bool) (h35 : call 35 [.v (.int .i64 (n : Int)), sd b (nbL l)] = some (iT n (lstG n l))) :
    callF call fuel c34 [.v (.int .i64 (n : Int)), sd b (nbL l)] = some (.v (.bool (!bad n l))) := by
  rw [callF_tab call fuel c34 7 _ (by exact Nat.le_of_ble_eq_true rfl) (by exact Nat.le_of_ble_eq_true rfl)]
  have hL := loop34 call fuel n h.n16 (lstG n l) fuel hF
  rw [lst_bad h] at hL
  simp [c34, h35]
  rw [hL _ (by simp)]
  cases bad n l <;> simp
end Go.Mx
