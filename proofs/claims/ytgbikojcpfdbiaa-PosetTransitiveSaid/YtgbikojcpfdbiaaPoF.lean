import Derived.Test.YtgbikojcpfdbiaaPoE
/-
  What the vertices reach.
-/
namespace Go.Mx
set_option linter.unusedVariables false
set_option linter.unusedSimpArgs false
set_option linter.unusedSectionVars false
open Go

def stp (g : Nat → Nat) (m : Nat) : Nat → Nat := fun j => if (g j).testBit m then g j ||| g m else g j
def warr (g : Nat → Nat) : Nat → Nat → Nat
  | 0 => g
  | k + 1 => stp (warr g k) k
def prt (g : Nat → Nat) (m i : Nat) : Nat → Nat := fun j => if j < i then stp g m j else g j

theorem stp_lt {g : Nat → Nat} (h : ∀ i, g i < 2 ^ 32) (m i : Nat) : stp g m i < 2 ^ 32 := by
  unfold stp
  split
  · exact Nat.or_lt_two_pow (h _) (h _)
  · exact h i

theorem warr_lt {g : Nat → Nat} (h : ∀ i, g i < 2 ^ 32) (k i : Nat) : warr g k i < 2 ^ 32 := by
  induction k generalizing i with
  | zero => exact h i
  | succ k ih => exact stp_lt ih k i

theorem prt_lt {g : Nat → Nat} (h : ∀ i, g i < 2 ^ 32) (m k i : Nat) : prt g m k i < 2 ^ 32 := by
  unfold prt
  split
  · exact stp_lt h m i
  · exact h i

theorem stp_same (g : Nat → Nat) (m : Nat) : stp g m m = g m := by simp [stp]

theorem prt_m (g : Nat → Nat) (m i : Nat) : prt g m i m = g m := by simp [prt, stp_same]
theorem prt_i (g : Nat → Nat) (m i : Nat) : prt g m i i = g i := by simp [prt]

theorem prt_succ (g : Nat → Nat) (m i : Nat) : prt g m (i + 1) = if (g i).testBit m then upd (prt g m i) i (g i ||| g m) else prt g m i := by
  funext j
  by_cases hb : (g i).testBit m = true
  · simp only [hb, if_true, upd, prt]
    by_cases hj : j = i
    · subst hj; simp [stp, hb]
    · have : (j < i + 1) ↔ j < i := by omega
      simp [hj, this]
  · simp only [hb, prt]
    by_cases hj : j = i
    · subst hj; simp [stp, hb, prt]
    · have : (j < i + 1) ↔ j < i := by omega
      simp [this, prt]

set_option maxHeartbeats 2000000 in
theorem loop31_1 (call : Oracle) (fuel : Nat) (hf : 1000 ≤ fuel) (n : Nat) (hn : n ≤ 24) (g : Nat → Nat) (hg : ∀ i, g i < 2 ^ 32) (m : Nat) (hm : m < n)
    (h28 : ∀ s t : Nat, s < 2 ^ 32 → t < 32 → call 28 [.v (.int .u32 (s : Int)), .v (.int .i64 (t : Int))] = some (.v (.bool (s.testBit t)))) (st : St)
    (h0 : drops st h31_1 = L31_1 (ii n) (.own (rsl n g)) (ii m) (.ref 5 []) (ii n) (ii m) (ii n) (ii 0)) :
    run.loopN (run call fuel b31_1) fuel st = some (.ex 2, X31_2 (ii n) (.own (rsl n (stp g m))) (.ref 5 []) (ii n) (ii m)) := by
  refine loop_rule (fun q st => ∃ i : Nat, i ≤ n ∧ q = n - i ∧ drops st h31_1 = L31_1 (ii n) (.own (rsl n (prt g m i))) (ii m) (.ref 5 []) (ii n) (ii m) (ii n) (ii (i : Nat)))
    (fun r => r = some (.ex 2, X31_2 (ii n) (.own (rsl n (stp g m))) (.ref 5 []) (ii n) (ii m))) ?_ n fuel st ⟨0, by omega, by omega, by
      have : prt g m 0 = g := by funext j; simp [prt]
      rw [this]; exact h0⟩ (by omega)
  rintro q st ⟨i, hi, hq, hst⟩
  by_cases hlt : i < n
  · left
    have hw1 := wrap_succ (i := i) (by omega)
    have g1 := rowD_get (prt g m i) hlt
    have g2 := rowD_get (prt g m i) hm
    have g3 := rowD_len n (prt g m i)
    have g4 := rowD_set (prt g m i) (g i ||| g m) hlt
    rw [prt_i] at g1
    rw [prt_m] at g2
    have hs := prt_succ g m i
    have e2 := u32_orN (hg i) (hg m)
    have hc := h28 (g i) m (hg i) (by omega)
    obtain ⟨_, g5⟩ := List.getElem?_eq_some_iff.1 g1
    obtain ⟨_, g6⟩ := List.getElem?_eq_some_iff.1 g2
    unfold rsl at hst ⊢
    by_cases hb : (g i).testBit m = true
    · rw [hb] at hc
      rw [if_pos hb] at hs
      rw [← hs] at g4
      generalize hG : rowD n (prt g m i) = G at *
      generalize hG' : rowD n (prt g m (i + 1)) = G' at *
      generalize g i ||| g m = y at *
      generalize g i = x at *
      generalize g m = z at *
      refine ⟨_, by rw [b31_1, run_scr, hst]; simp (maxSteps := 100000000) [hlt, hm, hc, Mx.store, target, cellsOfD, flatOk, putCells, Value.oneCell', hw1, e2, g1, g2, g3, g4, g5, g6]; rfl, q - 1, by omega, i + 1, by omega, by omega, ?_⟩
      simp [e2, g4, hw1, hG']
    · have hb' : (g i).testBit m = false := by simpa using hb
      rw [hb'] at hc
      rw [if_neg hb] at hs
      generalize hG : rowD n (prt g m i) = G at *
      generalize g i = x at *
      refine ⟨_, by rw [b31_1, run_scr, hst]; simp (maxSteps := 100000000) [hlt, hm, hc, Mx.store, target, cellsOfD, flatOk, putCells, Value.oneCell', hw1, g1, g2, g3, g5, g6]; rfl, q - 1, by omega, i + 1, by omega, by omega, ?_⟩
      simp [hw1, hs, hG]
  · right
    have : i = n := by omega
    subst this
    have : rsl i (prt g m i) = rsl i (stp g m) := by
      unfold rsl
      rw [rowD_ext (g := prt g m i) (h := stp g m) fun j hj => by simp [prt, hj]]
    rw [this] at hst
    refine ⟨.ex 2, _, by rw [b31_1, run_scr, hst]; simp [rsl]; rfl, by simp, ?_⟩
    simp [rsl]

set_option maxHeartbeats 2000000 in
theorem loop31_0 (call : Oracle) (fuel : Nat) (hf : 1000 ≤ fuel) (n : Nat) (hn : n ≤ 24) (g : Nat → Nat) (hg : ∀ i, g i < 2 ^ 32)
    (h28 : ∀ s t : Nat, s < 2 ^ 32 → t < 32 → call 28 [.v (.int .u32 (s : Int)), .v (.int .i64 (t : Int))] = some (.v (.bool (s.testBit t)))) (st : St)
    (h0 : drops st h31_0 = L31_0 (ii n) (.own (rsl n g)) (.ref 5 []) (ii n) (ii 0)) :
    run.loopN (run call fuel b31_0) fuel st = some (.ex 0, X31_0 (.own (rsl n (warr g n))) (.ref 5 [])) := by
  refine loop_rule (fun q st => ∃ i : Nat, i ≤ n ∧ q = n - i ∧ drops st h31_0 = L31_0 (ii n) (.own (rsl n (warr g i))) (.ref 5 []) (ii n) (ii (i : Nat)))
    (fun r => r = some (.ex 0, X31_0 (.own (rsl n (warr g n))) (.ref 5 []))) ?_ n fuel st ⟨0, by omega, by omega, h0⟩ (by omega)
  rintro q st ⟨i, hi, hq, hst⟩
  by_cases hlt : i < n
  · left
    have hw1 := wrap_succ (i := i) (by omega)
    have e := loop31_1 call fuel hf n hn (warr g i) (warr_lt hg i) i hlt h28
    unfold rsl at *
    refine ⟨_, by rw [b31_0, run_scr, hst]; simp (maxSteps := 100000000) [hlt]; rw [e _ (by simp)]; simp [hw1]; rfl, q - 1, by omega, i + 1, by omega, by omega, ?_⟩
    simp [warr, hw1]
  · right
    have : i = n := by omega
    subst this
    refine ⟨.ex 0, _, by rw [b31_0, run_scr, hst]; simp [rsl]; rfl, by simp, ?_⟩
    simp [rsl]

theorem f31 (call : Oracle) (fuel : Nat) (hf : 1000 ≤ fuel) (b : Bool) (n : Nat) (hn : n ≤ 24) (a : NA) (hv : ∀ p ∈ a, p.1 < n ∧ p.2 < n)
    (h28 : ∀ s t : Nat, s < 2 ^ 32 → t < 32 → call 28 [.v (.int .u32 (s : Int)), .v (.int .i64 (t : Int))] = some (.v (.bool (s.testBit t))))
    (h29 : call 29 [.v (.int .i64 (n : Int)), asl b (arcsZ a)] = some (rsl n (nextG a))) :
    callF call fuel c31 [.v (.int .i64 (n : Int)), asl b (arcsZ a)] = some (rsl n (warr (nextG a) n)) := by
  have e := loop31_0 call fuel hf n hn (nextG a) (nextG_lt (by omega) hv) h28
  unfold asl rsl at *
  simp [c31, isOwn, h29]
  rw [e]
  · simp
  · simp

end Go.Mx
