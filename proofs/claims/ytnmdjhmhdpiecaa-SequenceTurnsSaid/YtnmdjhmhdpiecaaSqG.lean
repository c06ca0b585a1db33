import Derived.Test.YtnmdjhmhdpiecaaSqF
/-
  Sequences: the order with a number.
-/
namespace Go.Mx
set_option linter.unusedVariables false
set_option linter.unusedSimpArgs false
set_option linter.unusedSectionVars false
open Go

abbrev roT (n : Nat) (c d : Bool) (need ways : List Int) : V := .ro (.nd (.bx false) [nV n, si c need, si d ways])
@[simp] theorem aggR3 (x y z : D) : aggR [x, y, z] 0 3 = some (.ro (.nd .ag [x, y, z])) := rfl
theorem remK_succ {a : NA} {w : Nat → Nat} {s k v : Nat} (hv : stpS a w s k v = false) (h : psum a w s v ≤ k) :
    remK a w s k (v + 1) = if rdy a s v = true then remK a w s k v - w (s ||| pw v) else remK a w s k v := by
  unfold remK
  have e : psum a w s (v + 1) = if rdy a s v = true then psum a w s v + w (s ||| pw v) else psum a w s v := rfl
  rw [e]
  split <;> omega
theorem loop37_1 (call : Oracle) (fuel : Nat) (n : Nat) (hn : n ≤ 10) (a : NA) (c d : Bool) (need : List Int) (w : Nat → Nat) (hw : ∀ s, w s ≤ 10000000000)
    (h43 : ∀ s v : Nat, s < pw n → v < n → call 43 [tbD n c d need (zr (pw n) w), nV s, nV v] = some (bV (rdy a s v)))
    (s : Nat) (hs : s < pw n) (k : Nat) (hk : k ≤ 10000000000) (out : List Nat) (ho : out.length ≤ 10) (fu : Nat) (hf : 1100 < fu) (st : St)
    (h0 : drops st h37_1 = L37_1 (ii k) (roT n c d need (zr (pw n) w)) (.own (so out)) (ii s) (ii n) (ii 0)) :
    run.loopN (run call fuel b37_1) fu st = some (((List.range n).find? (stpS a w s k)).elim (.ex 2, X37_2 (ii (remK a w s k n)) (roT n c d need (zr (pw n) w)) (.own (so out)) (ii s))
      fun v => (.ex 2, X37_2 (ii (remK a w s k v)) (roT n c d need (zr (pw n) w)) (.own (so (out ++ [v]))) (ii (s ||| pw v : Nat)))) := by
  refine loop_find call fuel h37_1 _ n (stpS a w s k) (fun v => L37_1 (ii (remK a w s k v)) (roT n c d need (zr (pw n) w)) (.own (so out)) (ii s) (ii n) (ii v)) _ _ (by simp) (by simp) ?_ (by simp) fu st (by rw [h0]; simp [remK, psum]) (by omega)
  intro v hv hbef
  have hwv := wrap_succ (i := v) (by omega)
  have hN := pw_le10 hn
  have hor := or_lt hs hv
  have kk := h43 s v hs hv
  have hle : psum a w s v ≤ k := stp_below hbef
  have hrk : remK a w s k v ≤ k := Nat.sub_le _ _
  have e1 := bits_shl1 .i64 (t := v) (by show v < 63; omega)
  have e2 : intBin .or .i64 (s : Int) ((pw v : Nat) : Int) = some (.int .i64 ((s ||| pw v : Nat) : Int)) := by
    have hpv : pw v < pw n := Nat.pow_lt_pow_right (by decide) hv
    exact bits_or .i64 (show s < 2 ^ 63 by omega) (show pw v < 2 ^ 63 by omega)
  have n2 := zr_nth (pw n) w hor
  have hwq := hw (s ||| pw v)
  have hso : so (out ++ [v]) = gsl (eI .i64) false (zl out ++ [(v : Int)]) := so_snoc out v
  have hm : out.length + 1 ≤ most := by unfold most; omega
  have est : stpS a w s k v = (rdy a s v && decide (remK a w s k v < w (s ||| pw v))) := by
    unfold stpS remK
    have e : psum a w s (v + 1) = if rdy a s v = true then psum a w s v + w (s ||| pw v) else psum a w s v := rfl
    cases hr : rdy a s v with
    | false => rfl
    | true =>
      rw [hr, if_pos rfl] at e
      rw [Bool.true_and, Bool.true_and, e, Bool.eq_iff_iff, decide_eq_true_eq, decide_eq_true_eq]
      omega
  have hsu : stpS a w s k v = false → remK a w s k (v + 1) = if rdy a s v = true then remK a w s k v - w (s ||| pw v) else remK a w s k v := fun h => remK_succ h hle
  rw [hso]
  generalize remK a w s k v = r at *
  generalize remK a w s k (v + 1) = r' at *
  generalize hq : s ||| pw v = q at *
  generalize hx : w q = x at *
  rw [est]
  cases hr : rdy a s v with
  | false =>
    rw [hr] at kk
    have : r' = r := by rw [hsu (by rw [est, hr]; rfl), hr]; rfl
    subst this
    simp [hv, hwv, kk]
  | true =>
    rw [hr] at kk
    by_cases hlt : r < x
    · have h1 : ¬ (x : Int) ≤ (r : Int) := by omega
      simp [hv, hwv, kk, e1, e2, hor, n2, hlt, h1, hm]
    · have h1 : (x : Int) ≤ (r : Int) := by omega
      have h2 : r' = r - x := by rw [hsu (by rw [est, hr]; simp [hlt]), hr]; rfl
      have h3 : IntKind.i64.wrap ((r : Int) - (x : Int)) = (r' : Int) := by rw [wrapI (by omega) (by omega)]; omega
      simp [hv, hwv, kk, e1, e2, hor, n2, hlt, h1, h3]
/-- The first vertices of the order with a number: which they are as a set, what remains of the number, and they. -/
def atS (a : NA) (w : Nat → Nat) (n k : Nat) : Nat → Nat × Nat × List Nat
  | 0 => (0, k, [])
  | i + 1 => ((atS a w n k i).1 ||| pw (pickV a w n (atS a w n k i).1 (atS a w n k i).2.1), remK a w (atS a w n k i).1 (atS a w n k i).2.1 (pickV a w n (atS a w n k i).1 (atS a w n k i).2.1),
    (atS a w n k i).2.2 ++ [pickV a w n (atS a w n k i).1 (atS a w n k i).2.1])
def atL (n : Nat) (a : NA) (k : Nat) : List Nat := (atS a (wyG n a) n k n).2.2
theorem miss_full (n : Nat) : ∀ m, m ≤ n → miss m (pw n - 1) = 0
  | 0, _ => rfl
  | m + 1, h => by simp only [miss]; rw [miss_full n m (by omega), full_bit (by omega)]; rfl
theorem miss_zero (n : Nat) : ∀ m, miss m 0 = m
  | 0 => rfl
  | m + 1 => by simp only [miss]; rw [miss_zero n m, Nat.zero_testBit]; rfl
theorem atS_inv {n : Nat} {a : NA} {k : Nat} (hk : k < wyG n a 0) : ∀ i, i ≤ n →
    (atS a (wyG n a) n k i).1 < pw n ∧ miss n (atS a (wyG n a) n k i).1 = n - i ∧ (atS a (wyG n a) n k i).2.1 < wyG n a (atS a (wyG n a) n k i).1 ∧ (atS a (wyG n a) n k i).2.2.length = i
  | 0, _ => by
    refine ⟨Nat.pow_pos (by decide), ?_, hk, rfl⟩
    show miss n 0 = n - 0
    rw [miss_zero n]; rfl
  | i + 1, h => by
    obtain ⟨h1, h2, h3, h4⟩ := atS_inv hk i (by omega)
    have hne : (atS a (wyG n a) n k i).1 < pw n - 1 := by
      have : (atS a (wyG n a) n k i).1 ≠ pw n - 1 := by
        intro e
        rw [e, miss_full n n (Nat.le_refl _)] at h2
        omega
      omega
    rw [wy_rec hne] at h3
    obtain ⟨p1, p2, p3, p4, p5⟩ := pickV_ok h3
    refine ⟨or_lt h1 p2, ?_, ?_, by simp [atS, h4]⟩
    · have := miss_or n _ _ p2 (rdy_bit p3)
      show miss n ((atS a (wyG n a) n k i).1 ||| pw _) = _
      omega
    · show remK _ _ _ _ _ < wyG n a ((atS a (wyG n a) n k i).1 ||| pw _)
      unfold remK
      omega
theorem atS_find {n : Nat} {a : NA} {k : Nat} (hk : k < wyG n a 0) {i : Nat} (h : i < n) :
    (List.range n).find? (stpS a (wyG n a) (atS a (wyG n a) n k i).1 (atS a (wyG n a) n k i).2.1) = some (pickV a (wyG n a) n (atS a (wyG n a) n k i).1 (atS a (wyG n a) n k i).2.1) := by
  obtain ⟨h1, h2, h3, h4⟩ := atS_inv hk i (by omega)
  have hne : (atS a (wyG n a) n k i).1 < pw n - 1 := by
    have : (atS a (wyG n a) n k i).1 ≠ pw n - 1 := by
      intro e
      rw [e, miss_full n n (Nat.le_refl _)] at h2
      omega
    omega
  rw [wy_rec hne] at h3
  exact (pickV_ok h3).1
theorem loop37_0 (call : Oracle) (fuel : Nat) (hF : 1100 < fuel) (n : Nat) (hn : n ≤ 10) (a : NA) (c d : Bool) (need : List Int)
    (h43 : ∀ s v : Nat, s < pw n → v < n → call 43 [tbD n c d need (zr (pw n) (wyG n a)), nV s, nV v] = some (bV (rdy a s v)))
    (k : Nat) (hk : k < wyG n a 0) (fu : Nat) (hf : 1100 < fu) (st : St)
    (h0 : drops st h37_0 = L37_0 (ii k) (roT n c d need (zr (pw n) (wyG n a))) (.own (so [])) (ii 0)) :
    run.loopN (run call fuel b37_0) fu st = some (.ex 0, X37_0 (.own (so (atL n a k)))) := by
  have hk' := wy_lt hn a
  refine loop_cnt call fuel h37_0 _ n (fun i => L37_0 (ii (atS a (wyG n a) n k i).2.1) (roT n c d need (zr (pw n) (wyG n a))) (.own (so (atS a (wyG n a) n k i).2.2)) (ii (atS a (wyG n a) n k i).1)) _ (by simp) ?_ ?_ fu st (by rw [h0]; rfl) (by omega)
  · intro i hi
    obtain ⟨h1, h2, h3, h4⟩ := atS_inv hk i (by omega)
    have h5 := atS_find hk hi
    have hL := loop37_1 call fuel n hn a c d need (wyG n a) hk' h43 _ h1 _ (Nat.le_trans (Nat.le_of_lt h3) (hk' _)) (atS a (wyG n a) n k i).2.2 (by omega) fuel hF
    rw [h5] at hL
    simp only [Option.elim_some] at hL
    simp only [atS]
    generalize pickV a (wyG n a) n (atS a (wyG n a) n k i).1 (atS a (wyG n a) n k i).2.1 = v at *
    generalize remK a (wyG n a) (atS a (wyG n a) n k i).1 (atS a (wyG n a) n k i).2.1 v = r at *
    generalize (atS a (wyG n a) n k i).1 = s at *
    generalize (atS a (wyG n a) n k i).2.1 = k' at *
    generalize (atS a (wyG n a) n k i).2.2 = out at *
    generalize s ||| pw v = s' at *
    simp [h4, hi]
    rw [hL _ (by simp)]
    simp
  · obtain ⟨h1, h2, h3, h4⟩ := atS_inv hk n (Nat.le_refl _)
    unfold atL
    generalize (atS a (wyG n a) n k n).2.2 = out at *
    simp [h4]
theorem f37 (call : Oracle) (fuel : Nat) (hF : 1100 < fuel) (n : Nat) (hn : n ≤ 10) (a : NA) (c d : Bool) (need : List Int)
    (h43 : ∀ s v : Nat, s < pw n → v < n → call 43 [tbD n c d need (zr (pw n) (wyG n a)), nV s, nV v] = some (bV (rdy a s v)))
    (k : Nat) (hk : k < wyG n a 0) :
    callB call fuel c37 [tbD n c d need (zr (pw n) (wyG n a)), nV k] = some (so (atL n a k)) := by
  rw [callB_tab call fuel c37 17 _ rfl (by exact Nat.le_of_ble_eq_true rfl) (by exact Nat.le_of_ble_eq_true rfl)]
  have hL := loop37_0 call fuel hF n hn a c d need h43 k hk fuel hF
  simp [c37]
  rw [hL _ (by simp; rfl)]
  simp
end Go.Mx
