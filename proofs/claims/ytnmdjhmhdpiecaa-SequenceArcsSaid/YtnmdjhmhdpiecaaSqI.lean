import Derived.Test.YtnmdjhmhdpiecaaSqH
/-
  Sequences: the number of an order.
-/
namespace Go.Mx
set_option linter.unusedVariables false
set_option linter.unusedSimpArgs false
set_option linter.unusedSectionVars false
open Go

/-- The vertices of the first places, as a set; how many orders come before. -/
def stS (l : List Int) : Nat → Nat
  | 0 => 0
  | i + 1 => stS l i ||| pw (nth l 0 i).toNat
def kS (a : NA) (w : Nat → Nat) (l : List Int) : Nat → Nat
  | 0 => 0
  | i + 1 => kS a w l i + psum a w (stS l i) (nth l 0 i).toNat
def badV (n : Nat) (a : NA) (s : Nat) (v : Int) : Bool := !(decide (0 ≤ v ∧ v < n) && rdy a s v.toNat)
def okB (n : Nat) (a : NA) (l : List Int) : Bool := decide (l.length = n) && !(List.range n).any fun i => badV n a (stS l i) (nth l 0 i)
def rkZ (n : Nat) (a : NA) (w : Nat → Nat) (l : List Int) : Int := if okB n a l = true then (kS a w l n : Nat) else -1
theorem stS_lt {n : Nat} {a : NA} {l : List Int} : ∀ i, (∀ j, j < i → badV n a (stS l j) (nth l 0 j) = false) → stS l i < pw n
  | 0, _ => Nat.pow_pos (by decide)
  | i + 1, h => by
    have h1 := stS_lt i fun j hj => h j (by omega)
    have h2 := h i (by omega)
    unfold badV at h2
    simp only [Bool.not_eq_false', Bool.and_eq_true, decide_eq_true_eq] at h2
    exact or_lt h1 (by omega)
theorem kS_lt {n : Nat} (hn : n ≤ 10) {a : NA} {l : List Int} : ∀ i, (∀ j, j < i → badV n a (stS l j) (nth l 0 j) = false) → kS a (wyG n a) l i ≤ i * 10000000000
  | 0, _ => Nat.le_refl _
  | i + 1, h => by
    have h1 := kS_lt hn i fun j hj => h j (by omega)
    have h2 := h i (by omega)
    unfold badV at h2
    simp only [Bool.not_eq_false', Bool.and_eq_true, decide_eq_true_eq] at h2
    have h3 := psum_lt hn a (stS_lt (n := n) (a := a) i fun j hj => h j (by omega)) (v := (nth l 0 i).toNat) (by omega)
    simp only [kS]
    omega
theorem loop40_1 (call : Oracle) (fuel : Nat) (n : Nat) (hn : n ≤ 10) (a : NA) (c d b : Bool) (need : List Int) (w : Nat → Nat) (hw : w = wyG n a)
    (h43 : ∀ s v : Nat, s < pw n → v < n → call 43 [tbD n c d need (zr (pw n) w), nV s, nV v] = some (bV (rdy a s v)))
    (l : List Int) (s : Nat) (hs : s < pw n) (k : Nat) (hk : k ≤ 1000000000000) (i v : Nat) (hv : v < n) (fu : Nat) (hf : 1100 < fu) (st : St)
    (h0 : drops st h40_1 = L40_1 (.ro (si b l)) (roT n c d need (zr (pw n) w)) (ii s) (ii k) (ii v) (.ro (si b l)) (ii l.length) (ii i) (ii v) (ii 0)) :
    run.loopN (run call fuel b40_1) fu st = some (.ex 2, X40_2 (.ro (si b l)) (roT n c d need (zr (pw n) w)) (ii s) (ii (k + psum a w s v : Nat)) (ii v) (.ro (si b l)) (ii l.length) (ii i)) := by
  refine loop_cnt call fuel h40_1 _ v (fun u => L40_1 (.ro (si b l)) (roT n c d need (zr (pw n) w)) (ii s) (ii (k + psum a w s u : Nat)) (ii v) (.ro (si b l)) (ii l.length) (ii i) (ii v) (ii u)) _ (by simp) ?_ (by simp) fu st (by rw [h0]; rfl) (by omega)
  intro u hu
  have hwv := wrap_succ (i := u) (by omega)
  have hN := pw_le10 hn
  have hor := or_lt hs (show u < n by omega)
  have kk := h43 s u hs (by omega)
  have b1 := psum_lt hn a hs (v := u) (by omega)
  have b2 := wy_lt hn a (s ||| pw u)
  rw [← hw] at b1 b2
  have e1 := bits_shl1 .i64 (t := u) (by show u < 63; omega)
  have e2 : intBin .or .i64 (s : Int) ((pw u : Nat) : Int) = some (.int .i64 ((s ||| pw u : Nat) : Int)) := by
    have hpv : pw u < pw n := Nat.pow_lt_pow_right (by decide) (by omega)
    exact bits_or .i64 (show s < 2 ^ 63 by omega) (show pw u < 2 ^ 63 by omega)
  have n2 := zr_nth (pw n) w hor
  simp only [psum]
  obtain ⟨p, hp⟩ : ∃ p, p = k + psum a w s u := ⟨_, rfl⟩
  have e3 : IntKind.i64.wrap ((p : Int) + ((w (s ||| pw u) : Nat) : Int)) = ((p + w (s ||| pw u) : Nat) : Int) := by
    rw [wrapI (by omega) (by omega)]; omega
  obtain ⟨y, hy⟩ : ∃ y, y = p + w (s ||| pw u) := ⟨_, rfl⟩
  rw [← hy] at e3
  cases hr : rdy a s u with
  | true =>
    rw [hr] at kk
    rw [if_pos rfl, show k + (psum a w s u + w (s ||| pw u)) = y by omega, ← hp]
    generalize s ||| pw u = q at *
    simp [hu, hwv, kk, e1, e2, hor, n2, e3]
  | false =>
    rw [hr] at kk
    rw [if_neg (by decide), ← hp]
    simp [hu, hwv, kk]
theorem loop40_0 (call : Oracle) (fuel : Nat) (hF : 1100 < fuel) (n : Nat) (hn : n ≤ 10) (a : NA) (c d b : Bool) (need : List Int) (w : Nat → Nat) (hw : w = wyG n a)
    (h43 : ∀ s v : Nat, s < pw n → v < n → call 43 [tbD n c d need (zr (pw n) w), nV s, nV v] = some (bV (rdy a s v)))
    (l : List Int) (hl : l.length = n) (fu : Nat) (hf : 1100 < fu) (st : St)
    (h0 : drops st h40_0 = L40_0 (.ro (si b l)) (roT n c d need (zr (pw n) w)) (ii 0) (ii 0) (.ro (si b l)) (ii n) (ii 0)) :
    run.loopN (run call fuel b40_0) fu st = some (if (List.range n).any (fun i => badV n a (stS l i) (nth l 0 i)) = true then (.ret, R40 (ii (-1))) else (.ex 0, X40_0 (ii (kS a w l n : Nat)))) := by
  refine loop_any call fuel h40_0 _ n (fun i => badV n a (stS l i) (nth l 0 i)) (fun i => L40_0 (.ro (si b l)) (roT n c d need (zr (pw n) w)) (ii (stS l i)) (ii (kS a w l i : Nat)) (.ro (si b l)) (ii n) (ii i)) (.ret, R40 (ii (-1))) _ (by simp) (by simp) ?_ (by simp) fu st (by rw [h0]; rfl) (by omega)
  intro i hi hbef
  have hwi := wrap_succ (i := i) (by omega)
  have hN := pw_le10 hn
  have hil : i < l.length := by omega
  have hs := stS_lt (n := n) (a := a) (l := l) i hbef
  have hk : kS a w l i ≤ 1000000000000 := by
    have := kS_lt hn (a := a) (l := l) i hbef
    rw [← hw] at this
    have h2 : i * 10000000000 ≤ 10 * 10000000000 := Nat.mul_le_mul_right _ (by omega)
    omega
  have es : stS l (i + 1) = stS l i ||| pw (nth l 0 i).toNat := rfl
  have ek : kS a w l (i + 1) = kS a w l i + psum a w (stS l i) (nth l 0 i).toNat := rfl
  rw [es, ek]
  generalize hx : nth l 0 i = x at *
  generalize stS l i = s at *
  generalize kS a w l i = k at *
  unfold badV
  by_cases h1 : x < 0
  · have : ¬ (0 ≤ x ∧ x < n) := by omega
    simp [hi, hl, hx, h1, this]
  · obtain ⟨v, rfl⟩ : ∃ v : Nat, x = (v : Int) := ⟨x.toNat, by omega⟩
    rw [Int.toNat_natCast]
    by_cases h2 : v < n
    · have kk := h43 s v hs h2
      have h3 : ¬ (n : Int) ≤ (v : Int) := by omega
      have h4 : ¬ n ≤ v := by omega
      have h5 : (v : Int) < (n : Int) := by omega
      have e1 := bits_shl1 .i64 (t := v) (by show v < 63; omega)
      have e2 : intBin .or .i64 (s : Int) ((pw v : Nat) : Int) = some (.int .i64 ((s ||| pw v : Nat) : Int)) := by
        have hpv : pw v < pw n := Nat.pow_lt_pow_right (by decide) (by omega)
        exact bits_or .i64 (show s < 2 ^ 63 by omega) (show pw v < 2 ^ 63 by omega)
      cases hr : rdy a s v with
      | false =>
        rw [hr] at kk
        simp [hi, hl, hx, h2, h3, h4, h5, kk]
      | true =>
        rw [hr] at kk
        have hL := loop40_1 call fuel n hn a c d b need w hw h43 l s hs k hk i v h2 fuel hF
        rw [hl] at hL
        generalize k + psum a w s v = k' at *
        generalize s ||| pw v = s' at *
        simp [hi, hl, hx, h2, h3, h4, h5, kk]
        rw [hL _ (by simp)]
        simp [hwi, e1, e2]
    · have h3 : (n : Int) ≤ (v : Int) := by omega
      have h4 : n ≤ v := by omega
      have h5 : ¬ (v : Int) < (n : Int) := by omega
      simp [hi, hl, hx, h2, h3, h4, h5]
theorem f40 (call : Oracle) (fuel : Nat) (hF : 1100 < fuel) (n : Nat) (hn : n ≤ 10) (a : NA) (c d b : Bool) (need : List Int)
    (h43 : ∀ s v : Nat, s < pw n → v < n → call 43 [tbD n c d need (zr (pw n) (wyG n a)), nV s, nV v] = some (bV (rdy a s v))) (l : List Int) :
    callB call fuel c40 [tbD n c d need (zr (pw n) (wyG n a)), si b l] = some (nV (rkZ n a (wyG n a) l)) := by
  rw [callB_tab call fuel c40 38 _ rfl (by exact Nat.le_of_ble_eq_true rfl) (by exact Nat.le_of_ble_eq_true rfl)]
  unfold rkZ okB
  by_cases hl : l.length = n
  · have hL := loop40_0 call fuel hF n hn a c d b need _ rfl h43 l hl fuel hF
    generalize kS a (wyG n a) l n = k at *
    generalize (List.range n).any (fun i => badV n a (stS l i) (nth l 0 i)) = t at *
    simp [c40, hl]
    rw [hL _ (by simp)]
    cases t <;> simp
  · have h2 : ¬ (l.length : Int) = (n : Int) := by omega
    simp [c40, hl, h2]

/-! ### an order of the vertices -/
def ordB (n : Int) (l : List Int) : Bool := decide ((l.length : Int) = n) && !(List.range l.length).any fun i => !decide (0 ≤ nth l 0 i ∧ nth l 0 i < n) || (List.range i).any fun j => nth l 0 i == nth l 0 j
theorem loop16_1 (call : Oracle) (fuel : Nat) (b : Bool) (l : List Int) (n : Int) (hl : l.length ≤ 1000) (i : Nat) (hi : i < l.length) (fu : Nat) (hf : 1100 < fu) (st : St)
    (h0 : drops st h16_1 = L16_1 (.ro (si b l)) (ii n) (ii i) (ii 0)) :
    run.loopN (run call fuel b16_1) fu st = some (if (List.range i).any (fun j => nth l 0 i == nth l 0 j) = true then (.ret, R16 (bb false)) else (.ex 2, X16_2 (.ro (si b l)) (ii n) (ii i))) := by
  refine loop_any call fuel h16_1 _ i (fun j => nth l 0 i == nth l 0 j) (fun j => L16_1 (.ro (si b l)) (ii n) (ii i) (ii j)) (.ret, R16 (bb false)) _ (by simp) (by simp) ?_ (by simp) fu st (by rw [h0]; rfl) (by omega)
  intro j hj _
  have hw := wrap_succ (i := j) (by omega)
  have hjl : j < l.length := by omega
  generalize hx : nth l 0 i = x
  generalize hy : nth l 0 j = y
  by_cases h : x = y
  · simp [hj, hi, hjl, hw, hx, hy, h]
  · simp [hj, hi, hjl, hw, hx, hy, h]
theorem f16 (call : Oracle) (fuel : Nat) (hF : 1100 < fuel) (b : Bool) (l : List Int) (n : Int) (hl : l.length ≤ 1000) : callF call fuel c16 [si b l, nV n] = some (bV (ordB n l)) := by
  rw [callF_tab call fuel c16 7 _ (by exact Nat.le_of_ble_eq_true rfl) (by exact Nat.le_of_ble_eq_true rfl)]
  unfold ordB
  by_cases h : (l.length : Int) = n
  · have hL : ∀ st, drops st h16_0 = L16_0 (.ro (si b l)) (ii n) (ii 0) → run.loopN (run call fuel b16_0) fuel st =
        some (if (List.range l.length).any (fun i => !decide (0 ≤ nth l 0 i ∧ nth l 0 i < n) || (List.range i).any fun j => nth l 0 i == nth l 0 j) = true then (.ret, R16 (bb false)) else (.ex 0, X16_0)) := by
      intro st h0
      refine loop_any call fuel h16_0 _ l.length _ (fun i => L16_0 (.ro (si b l)) (ii n) (ii i)) (.ret, R16 (bb false)) _ (by simp) (by simp) ?_ (by simp [← h]) fuel st (by rw [h0]; rfl) (by omega)
      intro i hi _
      have hw := wrap_succ (i := i) (by omega)
      have hL1 := loop16_1 call fuel b l n hl i hi fuel hF
      have hin : (i : Int) < n := by omega
      generalize (List.range i).any (fun j => nth l 0 i == nth l 0 j) = t at *
      generalize hx : nth l 0 i = x at *
      by_cases h1 : x < 0
      · have : ¬ (0 ≤ x ∧ x < n) := by omega
        simp [hi, hin, hx, h1, this]
      · by_cases h2 : n ≤ x
        · have : ¬ (0 ≤ x ∧ x < n) := by omega
          simp [hi, hin, hx, h1, h2, this]
        · have h3 : 0 ≤ x ∧ x < n := by omega
          have h4 : 0 ≤ x := by omega
          have h5 : x < n := by omega
          simp [hi, hin, hx, h1, h2, h4, h5]
          rw [hL1 _ (by simp)]
          cases t <;> simp [hw]
    generalize (List.range l.length).any (fun i => !decide (0 ≤ nth l 0 i ∧ nth l 0 i < n) || (List.range i).any fun j => nth l 0 i == nth l 0 j) = t at *
    simp [c16, h]
    rw [hL _ (by simp)]
    cases t <;> simp
  · simp [c16, h]
end Go.Mx
