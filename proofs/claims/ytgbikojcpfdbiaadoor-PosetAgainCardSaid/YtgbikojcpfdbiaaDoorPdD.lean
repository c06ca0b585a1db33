import Derived.Test.YtgbikojcpfdbiaaDoorPdC
/-
  Posets: the reference's closure and reduction.
-/
namespace Go.Mx
set_option linter.unusedVariables false
set_option linter.unusedSimpArgs false
set_option linter.unusedSectionVars false
open Go

abbrev tM (g : Nat → Nat) : D := gbx eB (mat 24 (tbl35 g))
theorem arc_room (n : Nat) (hn : n ≤ 24) (p : Nat → Nat → Bool) (i j : Nat) (hi : i < n) (hj : j < n) : (arcP n p i ++ rowT p i j).length + 1 ≤ most := by
  have h1 := arcP_len n p i
  have h2 := rowT_len p i j
  have h3 : i * n ≤ 24 * 24 := Nat.mul_le_mul (by omega) (by omega)
  rw [List.length_append]
  unfold most
  omega
theorem loop9_1 (call : Oracle) (fuel : Nat) (n : Nat) (hn : n ≤ 24) (g : Nat → Nat) (i : Nat) (hi : i < n) (fu : Nat) (hf : 1000 < fu) (st : St)
    (h0 : drops st h9_1 = L9_1 (ii n) (.own (tM g)) (.own (saE (arcP n (pL g) i))) (ii i) (ii 0)) :
    run.loopN (run call fuel b9_1) fu st = some (.ex 2, X9_2 (ii n) (.own (tM g)) (.own (saE (arcP n (pL g) (i + 1)))) (ii i)) := by
  have e0 : arcP n (pL g) i ++ rowT (pL g) i 0 = arcP n (pL g) i := by simp [rowT]
  have hm := mat_len 24 (tbl35 g)
  rw [← e0] at h0
  rw [arcP_succ]
  refine loop_cnt call fuel h9_1 _ n (fun j => L9_1 (ii n) (.own (tM g)) (.own (saE (arcP n (pL g) i ++ rowT (pL g) i j))) (ii i) (ii j)) _ (by simp) ?_ ?_ fu st h0 (by omega)
  · intro j hj
    have hw := wrap_succ (i := j) (by omega)
    have hlen := arc_room n hn (pL g) i j hi hj
    have b1 : i < 24 := by omega
    have b2 : j < 24 := by omega
    have l1 : i * 24 + j < 576 := mat_lt (m := 24) b1 b2
    have e1 := mat_nth (m := 24) (tbl35 g) b1 b2
    change _ = (g i).testBit j at e1
    rw [rowT_succ]
    by_cases hij : i = j
    · have hp : ¬ pL g i j = true := by simp [pL, hij]
      rw [if_neg hp]
      generalize arcP n (pL g) i ++ rowT (pL g) i j = A at *
      simp [hj, hw, hij]
    · have hij' : ¬ (i : Int) = (j : Int) := by omega
      by_cases hb : (g i).testBit j = true
      · have hp : pL g i j = true := by simp [pL, hij, hb]
        rw [if_pos hp, ← List.append_assoc]
        rw [hb] at e1
        generalize arcP n (pL g) i ++ rowT (pL g) i j = A at *
        rw [saE_snoc]
        simp [hj, hw, hij, hij', b1, b2, l1, hm, e1, hlen]
      · have hb : (g i).testBit j = false := by simpa using hb
        have hp : ¬ pL g i j = true := by simp [pL, hb]
        rw [if_neg hp]
        rw [hb] at e1
        generalize arcP n (pL g) i ++ rowT (pL g) i j = A at *
        simp [hj, hw, hij, hij', b1, b2, l1, hm, e1]
  · generalize arcP n (pL g) i ++ rowT (pL g) i n = A at *
    simp
theorem loop9_0 (call : Oracle) (fuel : Nat) (n : Nat) (hn : n ≤ 24) (g : Nat → Nat) (hF : 1000 < fuel) (st : St)
    (h0 : drops st h9_0 = L9_0 (ii n) (.own (tM g)) (.own (saE [])) (ii 0)) :
    run.loopN (run call fuel b9_0) fuel st = some (.ex 0, X9_0 (.own (saE (arcL n (pL g))))) := by
  refine loop_cnt call fuel h9_0 _ n (fun i => L9_0 (ii n) (.own (tM g)) (.own (saE (arcP n (pL g) i))) (ii i)) _ (by simp) ?_ ?_ fuel st (by rw [h0]; rfl) (by omega)
  · intro i hi
    have hw := wrap_succ (i := i) (by omega)
    have L := loop9_1 call fuel n hn g i hi fuel hF
    generalize arcP n (pL g) (i + 1) = B at *
    generalize arcP n (pL g) i = A at *
    simp [hi, hw]
    rw [L _ (by simp)]
    simp [hw]
  · unfold arcL
    generalize arcP n (pL g) n = A at *
    simp
theorem f9 (call : Oracle) (fuel : Nat) (hF : 1000 < fuel) (b : Bool) (n : Int) (a : List (Int × Int))
    (h21 : call 21 [.v (.int .i64 n), sa b a] = some (.v (.bool (validB n a)))) (h22 : validB n a = true → call 22 [.v (.int .i64 n), sa b a] = some (tabD (rea n a))) :
    callF call fuel c9 [.v (.int .i64 n), sa b a] = some (clD n a) := by
  rw [callF_tab call fuel c9 10 _ (by exact Nat.le_of_ble_eq_true rfl) (by exact Nat.le_of_ble_eq_true rfl)]
  unfold clD
  by_cases hv : validB n a = true
  · rw [if_pos hv]
    have e := h22 hv
    rw [hv] at h21
    obtain ⟨k, rfl, hk2, _⟩ := valid_nat hv
    have hm := mat_len 24 (tbl35 (rea k a))
    have L := loop9_0 call fuel k hk2 (rea k a) hF
    rw [Int.toNat_natCast]
    generalize arcL k (pL (rea k a)) = A at *
    unfold tabD at e
    simp [c9, h21, e, hm]
    rw [L _ (by simp; rfl)]
    simp
  · rw [if_neg hv]
    have hv : validB n a = false := by simpa using hv
    rw [hv] at h21
    simp [c9, h21]
    rfl

/-! ### the reference's reduction -/
def nd2 (g : Nat → Nat) (i j k : Nat) : Bool := (g i).testBit j && (List.range k).all fun m => !((g i).testBit m && (g m).testBit j)
theorem nd2_succ (g : Nat → Nat) (i j k : Nat) : nd2 g i j (k + 1) = (nd2 g i j k && !((g i).testBit k && (g k).testBit j)) := by
  unfold nd2
  rw [List.range_succ, List.all_append, Bool.and_assoc]
  simp
theorem loop10_2 (call : Oracle) (fuel : Nat) (n : Nat) (hn : n ≤ 24) (g : Nat → Nat) (i j : Nat) (hi : i < n) (hj : j < n) (A : List (Int × Int)) (fu : Nat) (hf : 1000 < fu) (st : St)
    (h0 : drops st h10_2 = L10_2 (ii n) (.own (tM g)) (.own (saE A)) (ii i) (ii j) (bb ((g i).testBit j)) (ii 0)) :
    run.loopN (run call fuel b10_2) fu st = some (.ex 4, X10_4 (ii n) (.own (tM g)) (.own (saE A)) (ii i) (ii j) (bb (nd2 g i j n))) := by
  have hm := mat_len 24 (tbl35 g)
  have e0 : nd2 g i j 0 = (g i).testBit j := by simp [nd2]
  rw [← e0] at h0
  refine loop_cnt call fuel h10_2 _ n (fun k => L10_2 (ii n) (.own (tM g)) (.own (saE A)) (ii i) (ii j) (bb (nd2 g i j k)) (ii k)) _ (by simp) ?_ (by simp) fu st h0 (by omega)
  intro k hk
  have hw := wrap_succ (i := k) (by omega)
  have b1 : i < 24 := by omega
  have b2 : j < 24 := by omega
  have b3 : k < 24 := by omega
  have l1 : i * 24 + k < 576 := mat_lt (m := 24) b1 b3
  have l2 : k * 24 + j < 576 := mat_lt (m := 24) b3 b2
  have e1 := mat_nth (m := 24) (tbl35 g) b1 b3
  have e2 := mat_nth (m := 24) (tbl35 g) b3 b2
  change _ = (g i).testBit k at e1
  change _ = (g k).testBit j at e2
  rw [nd2_succ]
  cases nd2 g i j k <;> cases c1 : (g i).testBit k <;> rw [c1] at e1 <;> cases c2 : (g k).testBit j <;> rw [c2] at e2 <;> simp [hk, hw, b1, b2, b3, l1, l2, hm, e1, e2]
def pR (g : Nat → Nat) (n i j : Nat) : Bool := nd2 g i j n
theorem loop10_1 (call : Oracle) (fuel : Nat) (n : Nat) (hn : n ≤ 24) (g : Nat → Nat) (i : Nat) (hi : i < n) (hF : 1000 < fuel) (st : St)
    (h0 : drops st h10_1 = L10_1 (ii n) (.own (tM g)) (.own (saE (arcP n (pR g n) i))) (ii i) (ii 0)) :
    run.loopN (run call fuel b10_1) fuel st = some (.ex 2, X10_2 (ii n) (.own (tM g)) (.own (saE (arcP n (pR g n) (i + 1)))) (ii i)) := by
  have e0 : arcP n (pR g n) i ++ rowT (pR g n) i 0 = arcP n (pR g n) i := by simp [rowT]
  have hm := mat_len 24 (tbl35 g)
  rw [← e0] at h0
  rw [arcP_succ]
  refine loop_cnt call fuel h10_1 _ n (fun j => L10_1 (ii n) (.own (tM g)) (.own (saE (arcP n (pR g n) i ++ rowT (pR g n) i j))) (ii i) (ii j)) _ (by simp) ?_ ?_ fuel st h0 (by omega)
  · intro j hj
    have hw := wrap_succ (i := j) (by omega)
    have hlen := arc_room n hn (pR g n) i j hi hj
    have b1 : i < 24 := by omega
    have b2 : j < 24 := by omega
    have l1 : i * 24 + j < 576 := mat_lt (m := 24) b1 b2
    have e1 := mat_nth (m := 24) (tbl35 g) b1 b2
    change _ = (g i).testBit j at e1
    rw [rowT_succ]
    have L := loop10_2 call fuel n hn g i j hi hj (arcP n (pR g n) i ++ rowT (pR g n) i j) fuel hF
    have hp : pR g n i j = nd2 g i j n := rfl
    rw [hp]
    by_cases hc : nd2 g i j n = true
    · rw [if_pos hc, ← List.append_assoc]
      rw [hc] at L
      generalize arcP n (pR g n) i ++ rowT (pR g n) i j = A at *
      rw [saE_snoc]
      simp [hj, hw, b1, b2, l1, hm, e1]
      rw [L _ (by simp)]
      simp [hw, hlen]
    · rw [if_neg hc]
      have hc : nd2 g i j n = false := by simpa using hc
      rw [hc] at L
      generalize arcP n (pR g n) i ++ rowT (pR g n) i j = A at *
      simp [hj, hw, b1, b2, l1, hm, e1]
      rw [L _ (by simp)]
      simp [hw]
  · generalize arcP n (pR g n) i ++ rowT (pR g n) i n = A at *
    simp
theorem loop10_0 (call : Oracle) (fuel : Nat) (n : Nat) (hn : n ≤ 24) (g : Nat → Nat) (hF : 1000 < fuel) (st : St)
    (h0 : drops st h10_0 = L10_0 (ii n) (.own (tM g)) (.own (saE [])) (ii 0)) :
    run.loopN (run call fuel b10_0) fuel st = some (.ex 0, X10_0 (.own (saE (arcL n (pR g n))))) := by
  refine loop_cnt call fuel h10_0 _ n (fun i => L10_0 (ii n) (.own (tM g)) (.own (saE (arcP n (pR g n) i))) (ii i)) _ (by simp) ?_ ?_ fuel st (by rw [h0]; rfl) (by omega)
  · intro i hi
    have hw := wrap_succ (i := i) (by omega)
    have L := loop10_1 call fuel n hn g i hi hF
    generalize arcP n (pR g n) (i + 1) = B at *
    generalize arcP n (pR g n) i = A at *
    simp [hi, hw]
    rw [L _ (by simp)]
    simp [hw]
  · unfold arcL
    generalize arcP n (pR g n) n = A at *
    simp
/-- What Reduction returns. -/
def rdD (n : Int) (a : List (Int × Int)) : D := if validB n a = true then (if acyB n a = true then .nd .tu [saE (arcL n.toNat (pR (rea n a) n.toNat)), .v (.int .i64 0)] else .nd .tu [sa true [], .v (.int .i64 11)]) else .nd .tu [sa true [], .v (.int .i64 1)]
theorem f10 (call : Oracle) (fuel : Nat) (hF : 1000 < fuel) (b : Bool) (n : Int) (a : List (Int × Int))
    (h21 : call 21 [.v (.int .i64 n), sa b a] = some (.v (.bool (validB n a)))) (h23 : call 23 [.v (.int .i64 n), sa b a] = some (.v (.bool (acyB n a)))) (h22 : validB n a = true → call 22 [.v (.int .i64 n), sa b a] = some (tabD (rea n a))) :
    callF call fuel c10 [.v (.int .i64 n), sa b a] = some (rdD n a) := by
  rw [callF_tab call fuel c10 12 _ (by exact Nat.le_of_ble_eq_true rfl) (by exact Nat.le_of_ble_eq_true rfl)]
  unfold rdD
  by_cases hv : validB n a = true
  · rw [if_pos hv]
    have e := h22 hv
    rw [hv] at h21
    by_cases hac : acyB n a = true
    · rw [if_pos hac]
      rw [hac] at h23
      obtain ⟨k, rfl, hk2, _⟩ := valid_nat hv
      have hm := mat_len 24 (tbl35 (rea k a))
      have L := loop10_0 call fuel k hk2 (rea k a) hF
      rw [Int.toNat_natCast]
      generalize arcL k (pR (rea k a) k) = A at *
      unfold tabD at e
      simp [c10, h21, h23, e, hm]
      rw [L _ (by simp; rfl)]
      simp
    · rw [if_neg hac]
      have hac : acyB n a = false := by simpa using hac
      rw [hac] at h23
      simp [c10, h21, h23]
      rfl
  · rw [if_neg hv]
    have hv : validB n a = false := by simpa using hv
    rw [hv] at h21
    simp [c10, h21]
    rfl
end Go.Mx
