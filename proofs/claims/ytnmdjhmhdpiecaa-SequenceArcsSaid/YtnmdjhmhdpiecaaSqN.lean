import Derived.Test.YtnmdjhmhdpiecaaSqM
/-
  Sequences: how many orders have a vertex at a place, the walks.
-/
namespace Go.Mx
set_option linter.unusedVariables false
set_option linter.unusedSimpArgs false
set_option linter.unusedSectionVars false
open Go

def plD (n : Nat) (a : NA) (e i : Int) : D := if e = 0 then if 0 ≤ i ∧ i < n then .nd .tu [sz n (outJ n a (wyG n a) i.toNat (pw n)), nV 0] else .nd .tu [si true [], nV 2] else .nd .tu [si true [], nV e]
theorem loop34_1 (call : Oracle) (fuel : Nat) (n : Nat) (hn : n ≤ 10) (a : NA) (dA : D) (h42 : ∀ s v : Nat, s < pw n → v < n → call 42 [dA, nV s, nV v] = some (bV (rdy a s v))) (i : Nat) (w o : Nat → Nat) (s : Nat) (hs : s < pw n) (fu : Nat) (hf : 1100 < fu) (st : St)
    (h0 : drops st h34_1 = L34_1 (ii n) (.ro dA) (ii i) (.own (sz (pw n) w)) (.own (sz (pw n) (frJ n a s))) (.own (sz n o)) (ii s) (ii 0) (ii 0)) :
    run.loopN (run call fuel b34_1) fu st = some (.ex 2, X34_2 (ii n) (.ro dA) (ii i) (.own (sz (pw n) w)) (.own (sz (pw n) (frJ n a (s + 1)))) (.own (sz n o)) (ii s) (ii (cnB n s))) := by
  refine loop_cnt call fuel h34_1 _ n (fun u => L34_1 (ii n) (.ro dA) (ii i) (.own (sz (pw n) w)) (.own (sz (pw n) (frU a (frJ n a s) s u))) (.own (sz n o)) (ii s) (ii (cnB u s)) (ii u)) _ (by simp) ?_ (by simp [frJ]) fu st (by rw [h0]; rfl) (by omega)
  intro u hu
  have hwu := wrap_succ (i := u) (by omega)
  have hN := pw_le10 hn
  have hor := or_lt hs hu
  have kk := h42 s u hs hu
  have e1 := bits_shl1 .i64 (t := u) (by show u < 63; omega)
  have e2 : intBin .or .i64 (s : Int) ((pw u : Nat) : Int) = some (.int .i64 ((s ||| pw u : Nat) : Int)) := by
    have hpv : pw u < pw n := Nat.pow_lt_pow_right (by decide) hu
    exact bits_or .i64 (show s < 2 ^ 63 by omega) (show pw u < 2 ^ 63 by omega)
  have e3 : shiftBin .shr .i64 (s : Int) (u : Int) = some (.int .i64 ((srn s u : Nat) : Int)) := bits_shr .i64 s u (by show u ≤ 64; omega)
  have e4 := bits_bit .i64 (s := s) (show s < 2 ^ 63 by omega) u
  have hcb : cnB u s ≤ u := by have := cnB_miss u s; omega
  have hq : s ||| pw u ≠ s → True := fun _ => trivial
  have b1 := frU_bd hn a (s := s) (u := u + 1) (by omega) hor
  have b0 : frU a (frJ n a s) s u s = frJ n a s s := frU_below a _ s u s (Nat.le_refl _)
  have c1 : cnB (u + 1) s = cnB u s + if s.testBit u then 1 else 0 := rfl
  have c2 : IntKind.i64.wrap ((cnB u s : Int) + (if s.testBit u then 1 else 0)) = ((cnB u s + if s.testBit u then 1 else 0 : Nat) : Int) := by
    split
    · rw [wrapI (by omega) (by omega)]; rfl
    · rw [wrapI (by omega) (by omega)]; rfl
  rw [c1]
  generalize (cnB u s + if s.testBit u then 1 else 0) = c' at *
  generalize cnB u s = c at *
  generalize (if s.testBit u then (1 : Int) else 0) = tb at *
  simp only [frU] at b1 ⊢
  cases hr : rdy a s u with
  | false =>
    rw [hr] at kk
    generalize frU a (frJ n a s) s u = g at *
    simp [hu, hwu, kk, e3, e4, c2]
  | true =>
    rw [hr] at kk b1
    rw [if_pos rfl] at b1
    rw [← b0] at b1 ⊢
    generalize frU a (frJ n a s) s u = g at *
    generalize s ||| pw u = q at *
    have n1 := zr_nth (pw n) g hs
    have n2 := zr_nth (pw n) g hor
    obtain ⟨y, hy⟩ : ∃ y, y = g q + g s := ⟨_, rfl⟩
    have h5 : updF g q (g q + g s) q = g q + g s := by unfold updF; rw [if_pos rfl]
    rw [h5] at b1
    have e5 : IntKind.i64.wrap (((g q : Nat) : Int) + ((g s : Nat) : Int)) = (y : Int) := by rw [wrapI (by omega) (by omega)]; omega
    rw [← hy]
    simp [hu, hwu, kk, e1, e2, e3, e4, c2, hs, hor, n1, n2, e5]
theorem loop34_0 (call : Oracle) (fuel : Nat) (hF : 1100 < fuel) (n : Nat) (hn : n ≤ 10) (a : NA) (dA : D) (h42 : ∀ s v : Nat, s < pw n → v < n → call 42 [dA, nV s, nV v] = some (bV (rdy a s v))) (i : Nat) (hi : i < n) (w : Nat → Nat) (hw : w = wyG n a) (fu : Nat) (hf : 1100 < fu) (st : St)
    (h0 : drops st h34_0 = L34_0 (ii n) (.ro dA) (ii i) (.own (sz (pw n) w)) (.own (sz (pw n) (frJ n a 0))) (.own (sz n fun _ => 0)) (ii 0)) :
    run.loopN (run call fuel b34_0) fu st = some (.ex 0, X34_0 (.own (sz n (outJ n a w i (pw n))))) := by
  have hN := pw_le10 hn
  have e1 := bits_shl1 .i64 (t := n) (by show n < 63; omega)
  refine loop_cnt call fuel h34_0 _ (pw n) (fun s => L34_0 (ii n) (.ro dA) (ii i) (.own (sz (pw n) w)) (.own (sz (pw n) (frJ n a s))) (.own (sz n (outJ n a w i s))) (ii s)) _ (by simp) ?_ (by simp [e1]) fu st (by rw [h0]; rfl) (by omega)
  intro s hs
  have hws := wrap_succ (i := s) (by omega)
  have hL := loop34_1 call fuel n hn a dA h42 i w (outJ n a w i s) s hs fuel hF
  have kk := h42 s i hs hi
  have hor := or_lt hs hi
  have b1 := outJ_le hn a hi (s := s + 1) (p := cnB n s) (by omega)
  have eF : frJ n a (s + 1) s = frF n a s := frJ_done n a s (s + 1) (by omega)
  have f1 : frF n a s ≤ 10000000000 := frF_le hn a (Nat.le_refl s) hs
  have f2 := wy_lt hn a (s ||| pw i)
  rw [← hw] at b1 f2
  have e2 := bits_shl1 .i64 (t := i) (by show i < 63; omega)
  have e3 : intBin .or .i64 (s : Int) ((pw i : Nat) : Int) = some (.int .i64 ((s ||| pw i : Nat) : Int)) := by
    have hpv : pw i < pw n := Nat.pow_lt_pow_right (by decide) hi
    exact bits_or .i64 (show s < 2 ^ 63 by omega) (show pw i < 2 ^ 63 by omega)
  simp only [outJ] at b1 ⊢
  cases hr : rdy a s i with
  | false =>
    rw [hr] at kk
    generalize outJ n a w i s = o at *
    generalize frJ n a (s + 1) = g' at *
    generalize frJ n a s = g at *
    generalize cnB n s = c at *
    simp [hs, e1]
    rw [hL _ (by simp)]
    simp [kk, hws]
  | true =>
    have hc := cnB_lt hi (rdy_bit hr)
    have b1 := b1 hc
    rw [hr] at kk b1
    rw [if_pos rfl] at b1
    generalize outJ n a w i s = o at *
    generalize cnB n s = c at *
    generalize s ||| pw i = q at *
    have h5 : updF o c (o c + frF n a s * w q) c = o c + frF n a s * w q := by unfold updF; rw [if_pos rfl]
    rw [h5] at b1
    rw [← eF] at b1 f1 ⊢
    generalize frJ n a (s + 1) = g' at *
    generalize frJ n a s = g at *
    have n1 := zr_nth (pw n) g' hs
    have n2 := zr_nth (pw n) w hor
    have n3 := zr_nth n o hc
    obtain ⟨x, hx⟩ : ∃ x, x = g' s * w q := ⟨_, rfl⟩
    rw [← hx] at b1 ⊢
    have e5 : IntKind.i64.wrap (((g' s : Nat) : Int) * ((w q : Nat) : Int)) = (x : Int) := by rw [← Int.natCast_mul, ← hx, wrapI (by omega) (by omega)]
    obtain ⟨y, hy⟩ : ∃ y, y = o c + x := ⟨_, rfl⟩
    have e6 : IntKind.i64.wrap (((o c : Nat) : Int) + (x : Int)) = (y : Int) := by rw [wrapI (by omega) (by omega)]; omega
    rw [← hy]
    simp [hs, e1]
    rw [hL _ (by simp)]
    simp [kk, hws, hs, e2, e3, hor, hc, n1, n2, n3, e5, e6]
theorem f34 (call : Oracle) (fuel : Nat) (hF : 1100 < fuel) (n : Nat) (b : Bool) (a : NA) (e i : Int) (hE : e = 0 → n ≤ 10)
    (h15 : call 15 [nV n, sa b (arcsZ a)] = some (nV e)) (h41 : e = 0 → call 41 [nV n, sa b (arcsZ a)] = some (sz (pw n) (wyG n a)))
    (h42 : e = 0 → ∀ s v : Nat, s < pw n → v < n → call 42 [sa b (arcsZ a), nV s, nV v] = some (bV (rdy a s v))) :
    callF call fuel c34 [nV n, sa b (arcsZ a), nV i] = some (plD n a e i) := by
  rw [callF_tab call fuel c34 15 _ (by exact Nat.le_of_ble_eq_true rfl) (by exact Nat.le_of_ble_eq_true rfl)]
  unfold plD
  by_cases he : e = 0
  · subst he
    have hn := hE rfl
    have h41 := h41 rfl
    rw [if_pos rfl]
    by_cases h1 : i < 0
    · rw [if_neg (by omega)]
      simp [c34, h15, h1]
      rfl
    · by_cases h2 : i < n
      · obtain ⟨k, rfl⟩ : ∃ m : Nat, i = (m : Int) := ⟨i.toNat, by omega⟩
        have hk : k < n := by omega
        have hN := pw_le10 hn
        have hL := loop34_0 call fuel hF n hn a _ (h42 rfl) k hk _ rfl fuel hF
        have e1 := bits_shl1 .i64 (t := n) (by show n < 63; omega)
        have hm : pw n ≤ most := by unfold most; omega
        have hm' : n ≤ most := by unfold most; omega
        have hr : List.replicate (pw n) (0 : Int) = zr (pw n) fun _ => 0 := row_rep _ _
        have hr' : List.replicate n (0 : Int) = zr n fun _ => 0 := row_rep _ _
        have hs : (zr (pw n) fun _ => 0).set 0 1 = zr (pw n) (frJ n a 0) := zr_set (pw n) (fun _ => 0) 0 1
        have hp : 0 < pw n := by omega
        have h3 : ¬ n ≤ k := by omega
        rw [if_pos (by omega), Int.toNat_natCast]
        generalize outJ n a (wyG n a) k (pw n) = o at *
        simp [c34, h15, h41, h3, e1, hm, hm', hr, hr', hs, hp]
        rw [hL _ (by simp)]
        simp
      · have h3 : (n : Int) ≤ i := by omega
        rw [if_neg (by omega)]
        simp [c34, h15, h1, h3]
        rfl
  · rw [if_neg he]
    simp [c34, h15, he]
    rfl
end Go.Mx
