import Derived.Test.YtldfddgdcjaogaaDiE
/-
  limits.
-/
namespace Go.Mx
set_option linter.unusedVariables false
set_option linter.unusedSimpArgs false
set_option linter.unusedSectionVars false
open Go

abbrev nilM : D := gsl (eL eM) true []
theorem loop32_2 (call : Oracle) (fuel : Nat) (hF : 100 < fuel) (n : Nat) (l : List Bn) (h : VB n l)
    (h47 : ∀ x y, call 47 [mD (rl x), mD (rl y)] = some (mD (rl (less x y)))) (h48 : ∀ x y, (∀ a b, x = some a → y = some b → I64 (a + b)) → call 48 [mD (rl x), mD (rl y)] = some (mD (rl (plus x y))))
    (fu : Nat) (hf : 100 < fu) (st : St) (h0 : drops st h32_2 = L32_2 (ii n) (.own (mT n (fwN l 0))) (ii n) (ii 0)) :
    run.loopN (run call fuel b32_2) fu st = some (if bad n l = true then (.ret, R32 (.own nilM) (bb false)) else (.ex 4, X32_4 (.own (mT n (fwN l n))))) := by
  have hn := h.n16
  refine loop_any call fuel h32_2 _ n (fun k => ngD n (fwN l (k + 1))) (fun k => L32_2 (ii n) (.own (mT n (fwN l k))) (ii n) (ii k)) (.ret, R32 (.own nilM) (bb false)) (.ex 4, X32_4 (.own (mT n (fwN l n)))) (by simp) (by simp) ?_ (by simp) fu st (by rw [h0]; rfl) (by omega)
  intro k hk hj
  have hw := wrap_succ (i := k) (by omega)
  have hd := fwN_dg h.ok hj k hk
  have hB := fwN_bd16 h (k := k) (by omega)
  have hL := loop32_3 call fuel hF n hn (fwN l k) hB k hk hd h47 h48 fuel hF
  have hM := loop32_5 call fuel n hn (fwS (fwN l k) k) k fuel hF
  have e : fwN l (k + 1) = fwS (fwN l k) k := rfl
  rw [e]
  generalize fwS (fwN l k) k = g' at *
  simp [hk]
  rw [hL _ (by simp)]
  simp
  rw [hM _ (by simp)]
  cases ngD n g' with
  | true => simp
  | false => simp [hw]

/-- limits. -/
def limD (n : Nat) (l : List Bn) : D := if bad n l = true then .nd .tu [nilM, .v (.bool false)] else .nd .tu [mT n (fwN l n), .v (.bool true)]
theorem f32 (call : Oracle) (fuel : Nat) (hF : 100 < fuel) (n : Nat) (l : List Bn) (h : VB n l) (b : Bool)
    (h47 : ∀ x y, call 47 [mD (rl x), mD (rl y)] = some (mD (rl (less x y)))) (h48 : ∀ x y, (∀ a b, x = some a → y = some b → I64 (a + b)) → call 48 [mD (rl x), mD (rl y)] = some (mD (rl (plus x y)))) :
    callF call fuel c32 [.v (.int .i64 (n : Int)), sd b (nbL l)] = some (limD n l) := by
  rw [callF_tab call fuel c32 107 _ (by exact Nat.le_of_ble_eq_true rfl) (by exact Nat.le_of_ble_eq_true rfl)]
  have hn := h.n16
  have hm : n ≤ most := by unfold most; omega
  have hz := ini_zero n
  have h1 := loop32_0 call fuel n hn (sd b (nbL l)) fuel hF
  rw [ini_end] at h1
  have e0 : idM = mA l 0 := rfl
  rw [e0] at h1
  have h2 := loop32_1 call fuel n l h b h47 fuel hF
  have h3 := loop32_2 call fuel hF n l h h47 h48 fuel hF
  have e1 : fwN l 0 = m0 l := rfl
  rw [e1] at h3
  simp [c32, hm, hz]
  rw [h1 _ (by simp)]
  simp
  rw [h2 _ (by simp)]
  simp
  rw [h3 _ (by simp)]
  unfold limD
  cases bad n l <;> simp
end Go.Mx
