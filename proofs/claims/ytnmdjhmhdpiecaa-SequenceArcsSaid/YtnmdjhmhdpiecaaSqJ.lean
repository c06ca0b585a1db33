import Derived.Test.YtnmdjhmhdpiecaaSqI
/-
  Sequences: what is exported; the reference's number of an order.
-/
namespace Go.Mx
set_option linter.unusedVariables false
set_option linter.unusedSimpArgs false
set_option linter.unusedSectionVars false
open Go

theorem ord_in {n : Nat} {l : List Int} (h : ordB n l = true) : l.length = n ∧ ∀ i, i < n → 0 ≤ nth l 0 i ∧ nth l 0 i < n := by
  unfold ordB at h
  simp only [Bool.and_eq_true, decide_eq_true_eq, Bool.not_eq_true', List.any_eq_false] at h
  refine ⟨by omega, fun i hi => ?_⟩
  have := h.2 i (List.mem_range.2 (by omega))
  simp only [Bool.or_eq_true, not_or, Bool.not_eq_true', decide_eq_false_iff_not] at this
  exact Decidable.not_not.1 this.1
/-- What the reference asks besides. -/
def fitB (n : Nat) (a : NA) (l : List Int) : Bool := !(List.range n).any fun i => !rdy a (stS l i) (nth l 0 i).toNat
theorem stS_bit (l : List Int) : ∀ i j, j < i → (stS l i).testBit (nth l 0 j).toNat = true
  | i + 1, j, h => by
    simp only [stS]
    rw [Nat.testBit_or, pw_bit]
    by_cases hj : j = i
    · subst hj; simp
    · rw [stS_bit l i j (by omega)]; rfl
theorem ok_eq (n : Nat) (a : NA) (l : List Int) : okB n a l = (ordB n l && fitB n a l) := by
  rw [Bool.eq_iff_iff, Bool.and_eq_true]
  constructor
  · intro h
    unfold okB at h
    simp only [Bool.and_eq_true, decide_eq_true_eq, Bool.not_eq_true', List.any_eq_false] at h
    have h1 : ∀ i, i < n → (0 ≤ nth l 0 i ∧ nth l 0 i < n) ∧ rdy a (stS l i) (nth l 0 i).toNat = true := by
      intro i hi
      have := h.2 i (List.mem_range.2 hi)
      unfold badV at this
      simpa using this
    constructor
    · unfold ordB
      simp only [Bool.and_eq_true, decide_eq_true_eq, Bool.not_eq_true', List.any_eq_false]
      refine ⟨by omega, fun i hi => ?_⟩
      have hi := List.mem_range.1 hi
      simp only [Bool.or_eq_true, not_or, Bool.not_eq_true', decide_eq_false_iff_not, List.any_eq_true, not_exists, not_and]
      refine ⟨fun hh => hh (h1 i (by omega)).1.1 (h1 i (by omega)).1.2, fun j hj he => ?_⟩
      have hj := List.mem_range.1 hj
      have e : nth l 0 i = nth l 0 j := by simpa using he
      have h2 := rdy_bit (h1 i (by omega)).2
      rw [e, stS_bit l i j hj] at h2
      cases h2
    · unfold fitB
      simp only [Bool.not_eq_true', List.any_eq_false]
      intro i hi
      rw [(h1 i (List.mem_range.1 hi)).2]
      simp
  · rintro ⟨h1, h2⟩
    obtain ⟨h3, h4⟩ := ord_in h1
    unfold fitB at h2
    simp only [Bool.not_eq_true', List.any_eq_false] at h2
    unfold okB
    simp only [Bool.and_eq_true, decide_eq_true_eq, Bool.not_eq_true', List.any_eq_false]
    refine ⟨h3, fun i hi => ?_⟩
    have h5 := h4 i (List.mem_range.1 hi)
    have h6 := h2 i hi
    unfold badV
    simp at h6
    simp [h5, h6]
theorem loop30_0 (call : Oracle) (fuel : Nat) (n : Nat) (hn : n ≤ 10) (a : NA) (dA : D) (b : Bool) (l : List Int) (hl : l.length = n) (hin : ∀ i, i < n → 0 ≤ nth l 0 i ∧ nth l 0 i < n)
    (h42 : ∀ s v : Nat, s < pw n → v < n → call 42 [dA, nV s, nV v] = some (bV (rdy a s v))) (fu : Nat) (hf : 1100 < fu) (st : St)
    (h0 : drops st h30_0 = L30_0 (ii n) (.ro dA) (.ro (si b l)) (ii 0) (ii 0)) :
    run.loopN (run call fuel b30_0) fu st = some (if (List.range n).any (fun i => !rdy a (stS l i) (nth l 0 i).toNat) = true then (.ret, R30 (bb false)) else (.ex 0, X30_0)) := by
  refine loop_any call fuel h30_0 _ n (fun i => !rdy a (stS l i) (nth l 0 i).toNat) (fun i => L30_0 (ii n) (.ro dA) (.ro (si b l)) (ii (stS l i)) (ii i)) (.ret, R30 (bb false)) _ (by simp) (by simp) ?_ (by simp) fu st (by rw [h0]; rfl) (by omega)
  intro i hi hbef
  have hwi := wrap_succ (i := i) (by omega)
  have hN := pw_le10 hn
  have hil : i < l.length := by omega
  have hs : stS l i < pw n := by
    refine stS_lt (a := a) i fun j hj => ?_
    have := hbef j hj
    simp at this
    unfold badV
    have h2 := hin j (by omega)
    simp [h2, this]
  have hx0 := hin i hi
  have es : stS l (i + 1) = stS l i ||| pw (nth l 0 i).toNat := rfl
  rw [es]
  generalize hx : nth l 0 i = x at *
  generalize stS l i = s at *
  obtain ⟨v, rfl⟩ : ∃ v : Nat, x = (v : Int) := ⟨x.toNat, by omega⟩
  rw [Int.toNat_natCast]
  have h2 : v < n := by omega
  have kk := h42 s v hs h2
  have e1 := bits_shl1 .i64 (t := v) (by show v < 63; omega)
  have e2 : intBin .or .i64 (s : Int) ((pw v : Nat) : Int) = some (.int .i64 ((s ||| pw v : Nat) : Int)) := by
    have hpv : pw v < pw n := Nat.pow_lt_pow_right (by decide) (by omega)
    exact bits_or .i64 (show s < 2 ^ 63 by omega) (show pw v < 2 ^ 63 by omega)
  generalize s ||| pw v = s' at *
  cases hr : rdy a s v with
  | false =>
    rw [hr] at kk
    simp [hi, hil, hx, kk]
  | true =>
    rw [hr] at kk
    simp [hi, hil, hx, kk, e1, e2, hwi]
theorem f30 (call : Oracle) (fuel : Nat) (hF : 1100 < fuel) (n : Nat) (a : NA) (b b' : Bool) (l : List Int) (e : Int) (hE : e = 0 → n ≤ 10)
    (h15 : call 15 [nV n, sa b' (arcsZ a)] = some (nV e)) (h16 : call 16 [si b l, nV n] = some (bV (ordB n l)))
    (h42 : e = 0 → ∀ s v : Nat, s < pw n → v < n → call 42 [sa b' (arcsZ a), nV s, nV v] = some (bV (rdy a s v))) :
    callF call fuel c30 [nV n, sa b' (arcsZ a), si b l] = some (bV (decide (e = 0) && okB n a l)) := by
  rw [callF_tab call fuel c30 9 _ (by exact Nat.le_of_ble_eq_true rfl) (by exact Nat.le_of_ble_eq_true rfl)]
  by_cases he : e = 0
  · subst he
    rw [ok_eq]
    cases ho : ordB n l with
    | false =>
      rw [ho] at h16
      simp [c30, h15, h16]
    | true =>
      rw [ho] at h16
      obtain ⟨h1, h2⟩ := ord_in ho
      have hL := loop30_0 call fuel n (hE rfl) a _ b l h1 h2 (h42 rfl) fuel hF
      unfold fitB
      generalize (List.range n).any (fun i => !rdy a (stS l i) (nth l 0 i).toNat) = t at *
      simp [c30, h15, h16]
      rw [hL _ (by simp)]
      cases t <;> simp
  · simp [c30, h15, he]

theorem loop29_1 (call : Oracle) (fuel : Nat) (n : Nat) (hn : n ≤ 10) (a : NA) (dA : D) (b : Bool) (w : Nat → Nat) (hw : w = wyG n a)
    (h42 : ∀ s v : Nat, s < pw n → v < n → call 42 [dA, nV s, nV v] = some (bV (rdy a s v)))
    (l : List Int) (s : Nat) (hs : s < pw n) (k : Nat) (hk : k ≤ 1000000000000) (i v : Nat) (hil : i < l.length) (hx : nth l 0 i = (v : Int)) (hv : v < n) (fu : Nat) (hf : 1100 < fu) (st : St)
    (h0 : drops st h29_1 = L29_1 (ii n) (.ro dA) (.ro (si b l)) (.own (sz (pw n) w)) (ii s) (ii k) (ii i) (ii 0)) :
    run.loopN (run call fuel b29_1) fu st = some (.ex 2, X29_2 (ii n) (.ro dA) (.ro (si b l)) (.own (sz (pw n) w)) (ii s) (ii (k + psum a w s v : Nat)) (ii i)) := by
  refine loop_cnt call fuel h29_1 _ v (fun u => L29_1 (ii n) (.ro dA) (.ro (si b l)) (.own (sz (pw n) w)) (ii s) (ii (k + psum a w s u : Nat)) (ii i) (ii u)) _ (by simp) ?_ (by simp [hil, hx]) fu st (by rw [h0]; rfl) (by omega)
  intro u hu
  have hwv := wrap_succ (i := u) (by omega)
  have hN := pw_le10 hn
  have hor := or_lt hs (show u < n by omega)
  have kk := h42 s u hs (by omega)
  have b1 := psum_lt hn a hs (v := u) (by omega)
  have b2 := wy_lt hn a (s ||| pw u)
  rw [← hw] at b1 b2
  have e1 := bits_shl1 .i64 (t := u) (by show u < 63; omega)
  have e2 : intBin .or .i64 (s : Int) ((pw u : Nat) : Int) = some (.int .i64 ((s ||| pw u : Nat) : Int)) := by
    have hpv : pw u < pw n := Nat.pow_lt_pow_right (by decide) (by omega)
    exact bits_or .i64 (show s < 2 ^ 63 by omega) (show pw u < 2 ^ 63 by omega)
  have n2 := zr_nth (pw n) w hor
  simp only [psum]
  obtain ⟨p, hp⟩ : ∃ p, p = k + psum a w s u := ⟨_, rfl⟩
  have e3 : IntKind.i64.wrap ((p : Int) + ((w (s ||| pw u) : Nat) : Int)) = ((p + w (s ||| pw u) : Nat) : Int) := by
    rw [wrapI (by omega) (by omega)]; omega
  obtain ⟨y, hy⟩ : ∃ y, y = p + w (s ||| pw u) := ⟨_, rfl⟩
  rw [← hy] at e3
  cases hr : rdy a s u with
  | true =>
    rw [hr] at kk
    rw [if_pos rfl, show k + (psum a w s u + w (s ||| pw u)) = y by omega, ← hp]
    generalize s ||| pw u = q at *
    simp [hu, hwv, kk, e1, e2, hor, n2, e3, hil, hx]
  | false =>
    rw [hr] at kk
    rw [if_neg (by decide), ← hp]
    simp [hu, hwv, kk, hil, hx]
theorem loop29_0 (call : Oracle) (fuel : Nat) (hF : 1100 < fuel) (n : Nat) (hn : n ≤ 10) (a : NA) (dA : D) (b : Bool) (w : Nat → Nat) (hw : w = wyG n a)
    (h42 : ∀ s v : Nat, s < pw n → v < n → call 42 [dA, nV s, nV v] = some (bV (rdy a s v)))
    (l : List Int) (hl : l.length = n) (hok : ∀ i, i < n → badV n a (stS l i) (nth l 0 i) = false) (fu : Nat) (hf : 1100 < fu) (st : St)
    (h0 : drops st h29_0 = L29_0 (ii n) (.ro dA) (.ro (si b l)) (.own (sz (pw n) w)) (ii 0) (ii 0) (ii 0)) :
    run.loopN (run call fuel b29_0) fu st = some (.ex 0, X29_0 (ii (kS a w l n : Nat))) := by
  refine loop_cnt call fuel h29_0 _ n (fun i => L29_0 (ii n) (.ro dA) (.ro (si b l)) (.own (sz (pw n) w)) (ii (stS l i)) (ii (kS a w l i : Nat)) (ii i)) _ (by simp) ?_ (by simp) fu st (by rw [h0]; rfl) (by omega)
  intro i hi
  have hwi := wrap_succ (i := i) (by omega)
  have hN := pw_le10 hn
  have hil : i < l.length := by omega
  have hs := stS_lt (n := n) (a := a) (l := l) i fun j hj => hok j (by omega)
  have hk : kS a w l i ≤ 1000000000000 := by
    have := kS_lt hn (a := a) (l := l) i fun j hj => hok j (by omega)
    rw [← hw] at this
    have h2 : i * 10000000000 ≤ 10 * 10000000000 := Nat.mul_le_mul_right _ (by omega)
    omega
  have es : stS l (i + 1) = stS l i ||| pw (nth l 0 i).toNat := rfl
  have ek : kS a w l (i + 1) = kS a w l i + psum a w (stS l i) (nth l 0 i).toNat := rfl
  have hb := hok i hi
  rw [es, ek]
  generalize hx : nth l 0 i = x at *
  generalize stS l i = s at *
  generalize kS a w l i = k at *
  unfold badV at hb
  simp only [Bool.not_eq_false', Bool.and_eq_true, decide_eq_true_eq] at hb
  obtain ⟨v, rfl⟩ : ∃ v : Nat, x = (v : Int) := ⟨x.toNat, by omega⟩
  rw [Int.toNat_natCast]
  have h2 : v < n := by omega
  have e1 := bits_shl1 .i64 (t := v) (by show v < 63; omega)
  have e2 : intBin .or .i64 (s : Int) ((pw v : Nat) : Int) = some (.int .i64 ((s ||| pw v : Nat) : Int)) := by
    have hpv : pw v < pw n := Nat.pow_lt_pow_right (by decide) (by omega)
    exact bits_or .i64 (show s < 2 ^ 63 by omega) (show pw v < 2 ^ 63 by omega)
  have hL := loop29_1 call fuel n hn a dA b w hw h42 l s hs k hk i v hil hx h2 fuel hF
  generalize k + psum a w s v = k' at *
  generalize s ||| pw v = s' at *
  simp [hi]
  rw [hL _ (by simp)]
  simp [hwi, hil, hx, e1, e2]
theorem ok_bad {n : Nat} {a : NA} {l : List Int} (h : okB n a l = true) : l.length = n ∧ ∀ i, i < n → badV n a (stS l i) (nth l 0 i) = false := by
  unfold okB at h
  simp only [Bool.and_eq_true, decide_eq_true_eq, Bool.not_eq_true', List.any_eq_false] at h
  exact ⟨h.1, fun i hi => by simpa using h.2 i (List.mem_range.2 hi)⟩
/-- The answer of Rank. -/
def rkD (n : Nat) (a : NA) (e : Int) (l : List Int) : D := if e = 0 then if okB n a l = true then .nd .tu [nV (kS a (wyG n a) l n : Nat), nV 0] else .nd .tu [nV 0, nV 9] else .nd .tu [nV 0, nV e]
theorem f29 (call : Oracle) (fuel : Nat) (hF : 1100 < fuel) (n : Nat) (a : NA) (b b' : Bool) (l : List Int) (e : Int) (hE : e = 0 → n ≤ 10)
    (h15 : call 15 [nV n, sa b' (arcsZ a)] = some (nV e)) (h30 : call 30 [nV n, sa b' (arcsZ a), si b l] = some (bV (decide (e = 0) && okB n a l)))
    (h41 : e = 0 → call 41 [nV n, sa b' (arcsZ a)] = some (sz (pw n) (wyG n a)))
    (h42 : e = 0 → ∀ s v : Nat, s < pw n → v < n → call 42 [sa b' (arcsZ a), nV s, nV v] = some (bV (rdy a s v))) :
    callF call fuel c29 [nV n, sa b' (arcsZ a), si b l] = some (rkD n a e l) := by
  rw [callF_tab call fuel c29 14 _ (by exact Nat.le_of_ble_eq_true rfl) (by exact Nat.le_of_ble_eq_true rfl)]
  unfold rkD
  by_cases he : e = 0
  · subst he
    have h41 := h41 rfl
    cases ho : okB n a l with
    | false =>
      rw [ho] at h30
      simp [c29, h15, h30]
    | true =>
      rw [ho] at h30
      obtain ⟨h1, h2⟩ := ok_bad ho
      have hL := loop29_0 call fuel hF n (hE rfl) a _ b _ rfl (h42 rfl) l h1 h2 fuel hF
      generalize kS a (wyG n a) l n = k at *
      simp [c29, h15, h30, h41]
      rw [hL _ (by simp)]
      simp
  · simp [c29, h15, he]
end Go.Mx
