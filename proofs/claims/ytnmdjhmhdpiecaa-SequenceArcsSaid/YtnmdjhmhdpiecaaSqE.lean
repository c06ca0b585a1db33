import Derived.Test.YtnmdjhmhdpiecaaSqD
/-
  Sequences: the table of a digraph.
-/
namespace Go.Mx
set_option linter.unusedVariables false
set_option linter.unusedSimpArgs false
set_option linter.unusedSectionVars false
open Go

/-- The table in memory. -/
abbrev bxT (n : Nat) (need ways : List Int) : D := .nd (.bx false) [nV n, si false need, si false ways]
abbrev bx0 : D := .nd (.bx false) [nV 0, .nd (.sl true 1 0) [], .nd (.sl true 1 0) []]
@[simp] theorem aggV3 {α β : Type} (r : Nat) (p : List Nat) (x : Value) (e : En α) (b : Bool) (l : List α) (e' : En β) (b' : Bool) (l' : List β) :
    aggV r p [.v x, gsl e b l, gsl e' b' l'] 0 3 = some (.vn .ag [.sc x, .ref r (p ++ [1]), .ref r (p ++ [2])]) := rfl
def needJ (a : NA) (i : Nat) : Nat → Nat := needG (a.take i)
theorem needJ_zero (a : NA) : needJ a 0 = fun _ => 0 := rfl
theorem needJ_succ (a : NA) {i : Nat} (h : i < a.length) : needJ a (i + 1) = addNeed (needJ a i) (nth a (0, 0) i) := by
  unfold needJ needG
  rw [List.take_succ_eq_append_getElem h, List.foldl_append]
  simp [nth, h]
theorem needJ_all (a : NA) : needJ a a.length = needG a := by unfold needJ; rw [List.take_length]
theorem loop36_0 (call : Oracle) (fuel : Nat) (n : Nat) (hn : n ≤ 10) (b : Bool) (a : NA) (hl : a.length ≤ 1000) (ha : ∀ p ∈ a, p.1 < n ∧ p.2 < n) (ways : List Int) (fu : Nat) (hf : 1100 < fu) (st : St)
    (h0 : drops st h36_0 = L36_0 (ii n) (.ro (sa b (arcsZ a))) (.sc undef) (.own bx0) (.own (bxT n (zr n fun _ => 0) ways)) (.ro (sa b (arcsZ a))) (ii a.length) (ii 0)) :
    run.loopN (run call fuel b36_0) fu st = some (.ex 0, X36_0 (ii n) (.sc undef) (.own bx0) (.own (bxT n (zr n (needG a)) ways))) := by
  refine loop_cnt call fuel h36_0 _ a.length (fun i => L36_0 (ii n) (.ro (sa b (arcsZ a))) (.sc undef) (.own bx0) (.own (bxT n (zr n (needJ a i)) ways)) (.ro (sa b (arcsZ a))) (ii a.length) (ii i)) _ (by simp) ?_ (by simp [needJ_all]) fu st (by rw [h0]; rfl) (by omega)
  intro i hi
  have hw := wrap_succ (i := i) (by omega)
  have hv := ha _ (nth_mem (0, 0) hi)
  rw [needJ_succ a hi]
  have hlt : ∀ v, needJ a i v < 2 ^ n := needG_lt fun p hp => ha p (List.mem_of_mem_take hp)
  generalize needJ a i = g at *
  generalize hq : nth a (0, 0) i = p at *
  obtain ⟨x, y⟩ := p
  obtain ⟨hx, hy⟩ := hv
  simp only at hx hy
  have hp : (2 : Nat) ^ n ≤ 2 ^ 10 := Nat.pow_le_pow_right (by decide) hn
  have e1 := bits_shl1 .i64 (t := x) (by show x < 63; omega)
  have e2 : intBin .or .i64 ((g y : Nat) : Int) ((pw x : Nat) : Int) = some (.int .i64 ((g y ||| pw x : Nat) : Int)) := by
    have hpv : pw x < pw n := Nat.pow_lt_pow_right (by decide) hx
    have := hlt y
    exact bits_or .i64 (show g y < 2 ^ 63 by omega) (show pw x < 2 ^ 63 by unfold pw at *; omega)
  have n1 := zr_nth n g hy
  simp [hi, hw, hq, e1, e2, n1, hy, addNeed]
theorem loop36_2 (call : Oracle) (fuel : Nat) (n : Nat) (hn : n ≤ 10) (a : NA) (need : List Int) (h43 : ∀ (w : List Int) (s v : Nat), s < pw n → v < n → call 43 [tbD n false false need w, nV s, nV v] = some (bV (rdy a s v))) (j : Nat) (hj : j + 2 ≤ pw n) (s : Nat) (hsj : s = pw n - 2 - j) (fu : Nat) (hf : 1100 < fu) (st : St)
    (h0 : drops st h36_2 = L36_2 (ii n) (.sc undef) (.own bx0) (.own (bxT n need (zr (pw n) (innS a (tabJ n a j) s 0)))) (ii s) (ii n) (ii 0)) :
    run.loopN (run call fuel b36_2) fu st = some (.ex 4, X36_4 (ii n) (.sc undef) (.own bx0) (.own (bxT n need (zr (pw n) (innS a (tabJ n a j) s n)))) (ii s)) := by
  refine loop_cnt call fuel h36_2 _ n (fun v => L36_2 (ii n) (.sc undef) (.own bx0) (.own (bxT n need (zr (pw n) (innS a (tabJ n a j) s v)))) (ii s) (ii n) (ii v)) _ (by simp) ?_ (by simp) fu st (by rw [h0]; rfl) (by omega)
  intro v hv
  have hw := wrap_succ (i := v) (by omega)
  have hN := pw_le10 hn
  have hs : s < pw n := by omega
  have hor := or_lt hs hv
  have k := h43 (zr (pw n) (innS a (tabJ n a j) s v)) s v hs hv
  have b1 := inn_lt hn a hj (v := v) (by omega) s
  have b2 := inn_lt hn a hj (v := v) (by omega) (s ||| pw v)
  rw [← hsj] at b1 b2
  have e1 := bits_shl1 .i64 (t := v) (by show v < 63; omega)
  have e2 : intBin .or .i64 (s : Int) ((pw v : Nat) : Int) = some (.int .i64 ((s ||| pw v : Nat) : Int)) := by
    have hpv : pw v < pw n := Nat.pow_lt_pow_right (by decide) hv
    exact bits_or .i64 (show s < 2 ^ 63 by omega) (show pw v < 2 ^ 63 by omega)
  simp only [innS]
  generalize innS a (tabJ n a j) s v = g at *
  have n1 := zr_nth (pw n) g hs
  have n2 := zr_nth (pw n) g hor
  have e3 : IntKind.i64.wrap (((g s : Nat) : Int) + ((g (s ||| pw v) : Nat) : Int)) = ((g s + g (s ||| pw v) : Nat) : Int) := by
    rw [wrapI (by omega) (by omega)]; omega
  generalize hq : s ||| pw v = q at *
  obtain ⟨y, hy⟩ : ∃ y, y = g s + g q := ⟨_, rfl⟩
  rw [← hy] at e3 ⊢
  cases hr : rdy a s v with
  | true =>
    rw [hr] at k
    simp [hv, hw, k, hs, hor, e1, e2, n1, n2, e3, hq]
  | false =>
    rw [hr] at k
    simp [hv, hw, k]
theorem loop36_1 (call : Oracle) (fuel : Nat) (hF : 1100 < fuel) (n : Nat) (hn : n ≤ 10) (a : NA) (need : List Int) (h43 : ∀ (w : List Int) (s v : Nat), s < pw n → v < n → call 43 [tbD n false false need w, nV s, nV v] = some (bV (rdy a s v))) (fu : Nat) (hf : 1100 < fu) (st : St)
    (h0 : drops st h36_1 = L36_1 (ii n) (.sc undef) (.own bx0) (.own (bxT n need (zr (pw n) (tabJ n a 0)))) (ii ((pw n : Int) - 2))) :
    run.loopN (run call fuel b36_1) fu st = some (.ex 2, X36_2 (.sc undef) (.own bx0) (.own (bxT n need (zr (pw n) (wyG n a))))) := by
  have hN := pw_le10 hn
  refine loop_cnt call fuel h36_1 _ (pw n - 1) (fun j => L36_1 (ii n) (.sc undef) (.own bx0) (.own (bxT n need (zr (pw n) (tabJ n a j)))) (ii ((pw n : Int) - 2 - (j : Int)))) _ (by simp) ?_ ?_ fu st (by rw [h0]; simp) (by omega)
  · intro j hj
    obtain ⟨s, hs⟩ : ∃ s, s = pw n - 2 - j := ⟨_, rfl⟩
    have e1 : (pw n : Int) - 2 - (j : Int) = (s : Int) := by omega
    have e2 : IntKind.i64.wrap ((s : Int) - 1) = (pw n : Int) - 2 - ((j + 1 : Nat) : Int) := by rw [wrapI (by omega) (by omega)]; omega
    have hL := loop36_2 call fuel n hn a need h43 j (by omega) s hs fuel hF
    have e3 : tabJ n a (j + 1) = innS a (tabJ n a j) s n := by rw [hs]; rfl
    have e4 : innS a (tabJ n a j) s 0 = tabJ n a j := rfl
    rw [e4] at hL
    rw [e3, e1, ← e2]
    generalize innS a (tabJ n a j) s n = g' at *
    generalize tabJ n a j = g at *
    simp
    rw [hL _ (by simp)]
    simp
  · have e1 : (pw n : Int) - 2 - ((pw n - 1 : Nat) : Int) = -1 := by omega
    rw [e1]
    simp [wyG]
theorem f36 (call : Oracle) (fuel : Nat) (hF : 1100 < fuel) (n : Nat) (hn : n ≤ 10) (a : NA) (hl : a.length ≤ 1000) (ha : ∀ p ∈ a, p.1 < n ∧ p.2 < n) (b : Bool) (h43 : ∀ (w : List Int) (s v : Nat), s < pw n → v < n → call 43 [tbD n false false (zr n (needG a)) w, nV s, nV v] = some (bV (rdy a s v))) :
    callF call fuel c36 [nV n, sa b (arcsZ a)] = some (tbD n false false (zr n (needG a)) (zr (pw n) (wyG n a))) := by
  rw [callF_tab call fuel c36 74 _ (by exact Nat.le_of_ble_eq_true rfl) (by exact Nat.le_of_ble_eq_true rfl)]
  have hN := pw_le10 hn
  have hL0 := loop36_0 call fuel n hn b a hl ha (zr (pw n) fun _ => 0) fuel hF
  have hL1 := loop36_1 call fuel hF n hn a _ h43 fuel hF
  have e1 := bits_shl1 .i64 (t := n) (by show n < 63; omega)
  have hm : pw n ≤ most := by unfold most; omega
  have hm' : n ≤ most := by unfold most; omega
  have hr : List.replicate (pw n) (0 : Int) = zr (pw n) fun _ => 0 := row_rep _ _
  have hr' : List.replicate n (0 : Int) = zr n fun _ => 0 := row_rep _ _
  obtain ⟨m, hm1⟩ : ∃ m, m = pw n - 1 := ⟨_, rfl⟩
  have e2 : IntKind.i64.wrap ((pw n : Int) - 1) = (m : Int) := by rw [wrapI (by omega) (by omega)]; omega
  have e3 : IntKind.i64.wrap ((m : Int) - 1) = (pw n : Int) - 2 := by rw [wrapI (by omega) (by omega)]; omega
  have hlt : m < pw n := by omega
  have hs : (zr (pw n) fun _ => 0).set m 1 = zr (pw n) (tabJ n a 0) := by
    have := zr_set (pw n) (fun _ => 0) m 1
    rw [show tabJ n a 0 = updF (fun _ => 0) m 1 by rw [hm1]; rfl]
    exact this
  simp [c36, e1, hm, hm', hr, hr']
  rw [hL0 _ (by simp)]
  simp [e1, e2, e3, hlt, hs]
  rw [hL1 _ (by simp)]
  simp
  and_intros <;> rfl
end Go.Mx
