import Derived.Test.YtldfddgdcjaogaaDiN
/-
  Refute: the program.
-/
namespace Go.Mx
set_option linter.unusedVariables false
set_option linter.unusedSimpArgs false
set_option linter.unusedSectionVars false
open Go

def cS (l : List Bn) (len : Nat) : Option Nat := (List.range l.length).find? fun s => ngC l s len
def cC (l : List Bn) (s len : Nat) : List Nat := (stK l (wC l s) s len (len - 1)).1
def cR (l : List Bn) (len : Nat) : List Nat := cC l ((cS l len).getD 0) len
def cF (n : Nat) (l : List Bn) : Option Nat := (List.range (n - 1)).find? fun i => (cS l (i + 2)).isSome
def srD (n : Nat) (l : List Bn) : D := match cF n l with
  | some i => slD (si false (zl (cR l (i + 2)))) 0
  | none => slD nilI 7
def refD (n : Nat) (l : List Bn) : D := if bad n l = true then srD n l else slD nilI 7

theorem loop21_1 (call : Oracle) (fuel : Nat) (n : Nat) (l : List Bn) (hlen : l.length ≤ 80) (b : Bool) (len : Nat) (h39 : ∀ s : Nat, s < l.length → call 39 [nV n, sd b (nbL l), nV s, nV len] = some (cycD l s len)) (fu : Nat) (hf : 100 < fu) (st : St)
    (h0 : drops st h21_1 = L21_1 (ii n) (.ro (sd b (nbL l))) (ii len) (ii l.length) (ii 0)) :
    run.loopN (run call fuel b21_1) fu st = some ((cS l len).elim (.ex 2, X21_2 (ii n) (.ro (sd b (nbL l))) (ii len)) fun s => (.ret, R21 (.own (si false (zl (cC l s len)))) (ii 0))) := by
  refine loop_find call fuel h21_1 _ l.length (fun s => ngC l s len) (fun s => L21_1 (ii n) (.ro (sd b (nbL l))) (ii len) (ii l.length) (ii s)) (fun s => (.ret, R21 (.own (si false (zl (cC l s len)))) (ii 0))) _ (by simp) (by simp) ?_ (by simp) fu st (by rw [h0]; rfl) (by omega)
  intro s hs _
  have hw := wrap_succ (i := s) (by omega)
  have e := h39 s hs
  unfold cycD cyc at e
  unfold cC
  cases hg : ngC l s len with
  | true =>
    rw [hg, if_pos rfl] at e
    simp only at e
    generalize (stK l (wC l s) s len (len - 1)).1 = c at *
    simp [hs, e]
  | false =>
    rw [hg, if_neg (by simp)] at e
    simp only at e
    simp [hs, e, hw]
theorem loop21_0 (call : Oracle) (fuel : Nat) (hF : 100 < fuel) (n : Nat) (l : List Bn) (h : VB n l) (b : Bool) (h39 : ∀ s len : Nat, s < l.length → 2 ≤ len → len ≤ 16 → call 39 [nV n, sd b (nbL l), nV s, nV len] = some (cycD l s len)) (fu : Nat) (hf : 100 < fu) (st : St)
    (h0 : drops st h21_0 = L21_0 (ii n) (.ro (sd b (nbL l))) (ii ((ad 2 0 : Nat) : Int))) :
    run.loopN (run call fuel b21_0) fu st = some ((cF n l).elim (.ex 0, X21_0) fun i => (.ret, R21 (.own (si false (zl (cR l (i + 2))))) (ii 0))) := by
  have hn := h.n16
  have hn1 := h.n1
  have hend : ¬ ad 2 (n - 1) ≤ n := by unfold ad; omega
  refine loop_find call fuel h21_0 _ (n - 1) (fun i => (cS l (i + 2)).isSome) (fun i => L21_0 (ii n) (.ro (sd b (nbL l))) (ii ((ad 2 i : Nat) : Int))) (fun i => (.ret, R21 (.own (si false (zl (cR l (i + 2))))) (ii 0))) _ (by simp) (by simp) ?_ (by simp [hend]) fu st h0 (by omega)
  intro i hi _
  have hle : ad 2 i ≤ n := by unfold ad; omega
  have hw : IntKind.i64.wrap (((ad 2 i : Nat) : Int) + 1) = ((ad 2 (i + 1) : Nat) : Int) := by
    rw [wrap_eq (by unfold I64; omega)]; unfold ad; omega
  have hL := loop21_1 call fuel n l h.len b (ad 2 i) (fun s hs => h39 s (ad 2 i) hs (by unfold ad; omega) (by omega)) fuel hF
  have he : i + 2 = ad 2 i := by unfold ad; omega
  unfold cR
  rw [he]
  simp [hle]
  rw [hL _ (by simp)]
  cases cS l (ad 2 i) with
  | none => simp [hw]
  | some s => simp
theorem f21 (call : Oracle) (fuel : Nat) (hF : 100 < fuel) (n : Nat) (l : List Bn) (h : VB n l) (b : Bool) (h16 : call 16 [nV n, sd b (nbL l)] = some (bV true)) (h32 : call 32 [nV n, sd b (nbL l)] = some (limD n l))
    (h39 : ∀ s len : Nat, s < l.length → 2 ≤ len → len ≤ 16 → call 39 [nV n, sd b (nbL l), nV s, nV len] = some (cycD l s len)) :
    callF call fuel c21 [nV n, sd b (nbL l)] = some (refD n l) := by
  rw [callF_tab call fuel c21 30 _ (by exact Nat.le_of_ble_eq_true rfl) (by exact Nat.le_of_ble_eq_true rfl)]
  have hL := loop21_0 call fuel hF n l h b h39 fuel hF
  unfold refD srD
  unfold limD at h32
  cases hb : bad n l with
  | false =>
    rw [hb, if_neg (by simp)] at h32
    simp [c21, h16, h32]
    rfl
  | true =>
    rw [hb, if_pos rfl] at h32
    simp [c21, h16, h32]
    rw [hL _ (by simp; rfl)]
    cases cF n l with
    | none => simp; rfl
    | some i => simp
theorem f21e (call : Oracle) (fuel : Nat) (n : Int) (b : Bool) (l : List (Int × Int × Int)) (h16 : call 16 [nV n, sd b l] = some (bV false)) :
    callF call fuel c21 [nV n, sd b l] = some (slD nilI 1) := by
  rw [callF_tab call fuel c21 30 _ (by exact Nat.le_of_ble_eq_true rfl) (by exact Nat.le_of_ble_eq_true rfl)]
  simp [c21, h16]
  rfl
end Go.Mx
