import Derived.Test.YtnmdjhmhdpiecaaSqG
/-
  Sequences: the order with a number, of the reference.
-/
namespace Go.Mx
set_option linter.unusedVariables false
set_option linter.unusedSimpArgs false
set_option linter.unusedSectionVars false
open Go

theorem loop33_1 (call : Oracle) (fuel : Nat) (n : Nat) (hn : n ≤ 10) (a : NA) (dA : D) (w : Nat → Nat) (hw : ∀ s, w s ≤ 10000000000)
    (h42 : ∀ s v : Nat, s < pw n → v < n → call 42 [dA, nV s, nV v] = some (bV (rdy a s v)))
    (s : Nat) (hs : s < pw n) (k : Nat) (hk : k ≤ 10000000000) (out : List Nat) (ho : out.length ≤ 10) (fu : Nat) (hf : 1100 < fu) (st : St)
    (h0 : drops st h33_1 = L33_1 (ii n) (.ro dA) (ii k) (.own (sz (pw n) w)) (ii s) (.own (so out)) (ii 0)) :
    run.loopN (run call fuel b33_1) fu st = some (((List.range n).find? (stpS a w s k)).elim (.ex 2, X33_2 (ii n) (.ro dA) (ii (remK a w s k n)) (.own (sz (pw n) w)) (ii s) (.own (so out)))
      fun v => (.ex 2, X33_2 (ii n) (.ro dA) (ii (remK a w s k v)) (.own (sz (pw n) w)) (ii (s ||| pw v : Nat)) (.own (so (out ++ [v]))))) := by
  refine loop_find call fuel h33_1 _ n (stpS a w s k) (fun v => L33_1 (ii n) (.ro dA) (ii (remK a w s k v)) (.own (sz (pw n) w)) (ii s) (.own (so out)) (ii v)) _ _ (by simp) (by simp) ?_ (by simp) fu st (by rw [h0]; simp [remK, psum]) (by omega)
  intro v hv hbef
  have hwv := wrap_succ (i := v) (by omega)
  have hN := pw_le10 hn
  have hor := or_lt hs hv
  have kk := h42 s v hs hv
  have hle : psum a w s v ≤ k := stp_below hbef
  have hrk : remK a w s k v ≤ k := Nat.sub_le _ _
  have e1 := bits_shl1 .i64 (t := v) (by show v < 63; omega)
  have e2 : intBin .or .i64 (s : Int) ((pw v : Nat) : Int) = some (.int .i64 ((s ||| pw v : Nat) : Int)) := by
    have hpv : pw v < pw n := Nat.pow_lt_pow_right (by decide) hv
    exact bits_or .i64 (show s < 2 ^ 63 by omega) (show pw v < 2 ^ 63 by omega)
  have n2 := zr_nth (pw n) w hor
  have hwq := hw (s ||| pw v)
  have hso : so (out ++ [v]) = gsl (eI .i64) false (zl out ++ [(v : Int)]) := so_snoc out v
  have hm : out.length + 1 ≤ most := by unfold most; omega
  have est : stpS a w s k v = (rdy a s v && decide (remK a w s k v < w (s ||| pw v))) := by
    unfold stpS remK
    have e : psum a w s (v + 1) = if rdy a s v = true then psum a w s v + w (s ||| pw v) else psum a w s v := rfl
    cases hr : rdy a s v with
    | false => rfl
    | true =>
      rw [hr, if_pos rfl] at e
      rw [Bool.true_and, Bool.true_and, e, Bool.eq_iff_iff, decide_eq_true_eq, decide_eq_true_eq]
      omega
  have hsu : stpS a w s k v = false → remK a w s k (v + 1) = if rdy a s v = true then remK a w s k v - w (s ||| pw v) else remK a w s k v := fun h => remK_succ h hle
  rw [hso]
  generalize remK a w s k v = r at *
  generalize remK a w s k (v + 1) = r' at *
  generalize hq : s ||| pw v = q at *
  generalize hx : w q = x at *
  rw [est]
  cases hr : rdy a s v with
  | false =>
    rw [hr] at kk
    have : r' = r := by rw [hsu (by rw [est, hr]; rfl), hr]; rfl
    subst this
    simp [hv, hwv, kk]
  | true =>
    rw [hr] at kk
    by_cases hlt : r < x
    · have h1 : (r : Int) < (x : Int) := by omega
      simp [hv, hwv, kk, e1, e2, hor, n2, hlt, h1, hm]
    · have h1 : ¬ (r : Int) < (x : Int) := by omega
      have h2 : r' = r - x := by rw [hsu (by rw [est, hr]; simp [hlt]), hr]; rfl
      have h3 : IntKind.i64.wrap ((r : Int) - (x : Int)) = (r' : Int) := by rw [wrapI (by omega) (by omega)]; omega
      simp [hv, hwv, kk, e1, e2, hor, n2, hlt, h1, h3]
theorem loop33_0 (call : Oracle) (fuel : Nat) (hF : 1100 < fuel) (n : Nat) (hn : n ≤ 10) (a : NA) (dA : D)
    (h42 : ∀ s v : Nat, s < pw n → v < n → call 42 [dA, nV s, nV v] = some (bV (rdy a s v)))
    (k : Nat) (hk : k < wyG n a 0) (fu : Nat) (hf : 1100 < fu) (st : St)
    (h0 : drops st h33_0 = L33_0 (ii n) (.ro dA) (ii k) (.own (sz (pw n) (wyG n a))) (ii 0) (.own (so []))) :
    run.loopN (run call fuel b33_0) fu st = some (.ex 0, X33_0 (.own (so (atL n a k)))) := by
  have hk' := wy_lt hn a
  refine loop_cnt call fuel h33_0 _ n (fun i => L33_0 (ii n) (.ro dA) (ii (atS a (wyG n a) n k i).2.1) (.own (sz (pw n) (wyG n a))) (ii (atS a (wyG n a) n k i).1) (.own (so (atS a (wyG n a) n k i).2.2))) _ (by simp) ?_ ?_ fu st (by rw [h0]; rfl) (by omega)
  · intro i hi
    obtain ⟨h1, h2, h3, h4⟩ := atS_inv hk i (by omega)
    have h5 := atS_find hk hi
    have hL := loop33_1 call fuel n hn a dA (wyG n a) hk' h42 _ h1 _ (Nat.le_trans (Nat.le_of_lt h3) (hk' _)) (atS a (wyG n a) n k i).2.2 (by omega) fuel hF
    rw [h5] at hL
    simp only [Option.elim_some] at hL
    simp only [atS]
    generalize pickV a (wyG n a) n (atS a (wyG n a) n k i).1 (atS a (wyG n a) n k i).2.1 = v at *
    generalize remK a (wyG n a) (atS a (wyG n a) n k i).1 (atS a (wyG n a) n k i).2.1 v = r at *
    generalize (atS a (wyG n a) n k i).1 = s at *
    generalize (atS a (wyG n a) n k i).2.1 = k' at *
    generalize (atS a (wyG n a) n k i).2.2 = out at *
    generalize s ||| pw v = s' at *
    simp [h4, hi]
    rw [hL _ (by simp)]
    simp
  · obtain ⟨h1, h2, h3, h4⟩ := atS_inv hk n (Nat.le_refl _)
    unfold atL
    generalize (atS a (wyG n a) n k n).2.2 = out at *
    simp [h4]
/-- The answers of Count and At; without one the error's number. -/
def ctD (n : Nat) (a : NA) (e : Int) : D := .nd .tu [nV (if e = 0 then (wyG n a 0 : Nat) else 0), nV e]
def atD (n : Nat) (a : NA) (e k : Int) : D := if e = 0 then if k < 0 ∨ (wyG n a 0 : Nat) ≤ k then .nd .tu [si true [], nV 7] else .nd .tu [so (atL n a k.toNat), nV 0] else .nd .tu [si true [], nV e]
theorem ctD_ok (n : Nat) (a : NA) : ctD n a 0 = .nd .tu [nV (wyG n a 0 : Nat), nV 0] := rfl
theorem ctD_err (n : Nat) (a : NA) {e : Int} (h : e ≠ 0) : ctD n a e = .nd .tu [nV 0, nV e] := by unfold ctD; rw [if_neg h]
theorem atD_err (n : Nat) (a : NA) {e : Int} (k : Int) (h : e ≠ 0) : atD n a e k = .nd .tu [si true [], nV e] := by unfold atD; rw [if_neg h]
theorem atD_neg (n : Nat) (a : NA) {k : Int} (h : k < 0) : atD n a 0 k = .nd .tu [si true [], nV 7] := by unfold atD; rw [if_pos rfl, if_pos (.inl h)]
theorem atD_big (n : Nat) (a : NA) {k : Nat} (h : wyG n a 0 ≤ k) : atD n a 0 k = .nd .tu [si true [], nV 7] := by unfold atD; rw [if_pos rfl, if_pos (.inr (by omega))]
theorem atD_in (n : Nat) (a : NA) {k : Nat} (h : k < wyG n a 0) : atD n a 0 k = .nd .tu [so (atL n a k), nV 0] := by unfold atD; rw [if_pos rfl, if_neg (by omega), Int.toNat_natCast]
theorem f33 (call : Oracle) (fuel : Nat) (hF : 1100 < fuel) (n : Nat) (b : Bool) (a : NA) (e k : Int) (hE : e = 0 → n ≤ 10)
    (h22 : call 22 [nV n, sa b (arcsZ a)] = some (ctD n a e)) (h41 : e = 0 → call 41 [nV n, sa b (arcsZ a)] = some (sz (pw n) (wyG n a)))
    (h42 : e = 0 → ∀ s v : Nat, s < pw n → v < n → call 42 [sa b (arcsZ a), nV s, nV v] = some (bV (rdy a s v))) :
    callF call fuel c33 [nV n, sa b (arcsZ a), nV k] = some (atD n a e k) := by
  rw [callF_tab call fuel c33 15 _ (by exact Nat.le_of_ble_eq_true rfl) (by exact Nat.le_of_ble_eq_true rfl)]
  by_cases he : e = 0
  · subst he
    have h41 := h41 rfl
    have h42 := h42 rfl
    have hn := hE rfl
    rw [ctD_ok] at h22
    by_cases h1 : k < 0
    · rw [atD_neg n a h1]
      simp [c33, h22, h1]
      rfl
    · obtain ⟨k, rfl⟩ : ∃ m : Nat, k = (m : Int) := ⟨k.toNat, by omega⟩
      by_cases h2 : k < wyG n a 0
      · have hL := loop33_0 call fuel hF n hn a _ h42 k h2 fuel hF
        rw [atD_in n a h2]
        have h3 : ¬ ((wyG n a 0 : Nat) : Int) ≤ (k : Int) := by omega
        have h4 : ¬ wyG n a 0 ≤ k := by omega
        generalize atL n a k = out at *
        simp [c33, h22, h3, h4, h41]
        rw [hL _ (by simp; rfl)]
        simp
      · have h3 : wyG n a 0 ≤ k := by omega
        rw [atD_big n a h3]
        simp [c33, h22, h3]
        rfl
  · rw [ctD_err n a he] at h22
    rw [atD_err n a k he]
    simp [c33, h22, he]
    rfl
end Go.Mx
