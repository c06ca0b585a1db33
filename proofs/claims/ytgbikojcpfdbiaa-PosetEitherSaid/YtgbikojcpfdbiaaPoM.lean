import Derived.Test.YtgbikojcpfdbiaaPoK
/-
  Cycle: the reference's distances.
-/
namespace Go.Mx
set_option linter.unusedVariables false
set_option linter.unusedSimpArgs false
set_option linter.unusedSectionVars false
open Go

def farP (F : Nat → Int) (low k : Nat) (ws : NA) : Nat → Int := fun u => if decide (low ≤ u) && decide (F u < 0) && ws.any (fun p => p.1 == u && decide (low ≤ p.2) && F p.2 == (k : Int)) then (k : Int) + 1 else F u
def farF (a : NA) (low to : Nat) : Nat → Nat → Int
  | 0 => updF (fun _ => -1) to 0
  | k + 1 => farP (farF a low to k) low k a

theorem farP_at {F : Nat → Int} {low k : Nat} {ws : NA} (t : Nat) : farP F low k ws t = (k : Int) ↔ F t = (k : Int) := by
  unfold farP
  split
  · rename_i h
    simp only [Bool.and_eq_true, decide_eq_true_eq] at h
    omega
  · exact Iff.rfl

theorem farP_snoc (F : Nat → Int) (low k : Nat) (ws : NA) (f t : Nat) : farP F low k (ws ++ [(f, t)]) = if low ≤ f ∧ low ≤ t ∧ farP F low k ws f < 0 ∧ farP F low k ws t = (k : Int) then updF (farP F low k ws) f ((k : Int) + 1) else farP F low k ws := by
  have hat := farP_at (F := F) (low := low) (k := k) (ws := ws) t
  funext u
  by_cases hu : u = f
  · subst hu
    have e1 : farP F low k (ws ++ [(u, t)]) u = if decide (low ≤ u) && decide (F u < 0) && (ws.any (fun p => p.1 == u && decide (low ≤ p.2) && F p.2 == (k : Int)) || (decide (low ≤ t) && F t == (k : Int))) then (k : Int) + 1 else F u := by
      unfold farP
      rw [List.any_append]
      simp only [List.any_cons, List.any_nil, beq_self_eq_true, Bool.true_and, Bool.or_false]
    have e2 : farP F low k ws u = if decide (low ≤ u) && decide (F u < 0) && ws.any (fun p => p.1 == u && decide (low ≤ p.2) && F p.2 == (k : Int)) then (k : Int) + 1 else F u := rfl
    rw [e1]
    simp only [hat]
    rw [apply_ite (fun (q : Nat → Int) => q u)]
    simp only [updF, if_true]
    rw [e2]
    generalize ws.any (fun p => p.1 == u && decide (low ≤ p.2) && F p.2 == (k : Int)) = c
    by_cases h1 : low ≤ u <;> by_cases h2 : F u < 0 <;> by_cases h3 : low ≤ t <;> by_cases h4 : F t = (k : Int) <;> cases c <;> simp [h1, h2, h3, h4] <;> omega
  · have e1 : farP F low k (ws ++ [(f, t)]) u = farP F low k ws u := by
      unfold farP
      rw [List.any_append]
      have : (f == u) = false := by simp; exact fun e => hu e.symm
      simp only [List.any_cons, List.any_nil, this, Bool.false_and, Bool.or_false]
    rw [e1, apply_ite (fun (q : Nat → Int) => q u)]
    simp only [updF, if_neg hu]
    split <;> rfl

theorem loop37_2 (call : Oracle) (fuel : Nat) (n : Nat) (hn : n ≤ 24) (b : Bool) (a : NA) (hv : ∀ p ∈ a, p.1 < n ∧ p.2 < n) (hl : a.length ≤ 1000) (F : Nat → Int) (low k : Nat) (hk : k ≤ 100) (fu : Nat) (hf : 1000 < fu) (st : St)
    (h0 : drops st h37_2 = L37_2 (ii n) (.ro (sa b (arcsZ a))) (ii low) (.own (ri n F)) (ii ((k + 1 : Nat) : Int)) (ii 0)) :
    run.loopN (run call fuel b37_2) fu st = some (.ex 4, X37_4 (ii n) (.ro (sa b (arcsZ a))) (ii low) (.own (ri n (farP F low k a))) (ii ((k + 1 : Nat) : Int))) := by
  have e0 : farP F low k [] = F := by funext u; simp [farP]
  refine loop_cnt call fuel h37_2 _ a.length (fun i => L37_2 (ii n) (.ro (sa b (arcsZ a))) (ii low) (.own (ri n (farP F low k (a.take i)))) (ii ((k + 1 : Nat) : Int)) (ii i)) _ (by simp) ?_ (by simp) fu st (by rw [List.take_zero, e0]; exact h0) (by omega)
  intro i hi
  have hw := wrap_succ (i := i) (by omega)
  have hw2 : IntKind.i64.wrap (k : Int) = (k : Int) := wrap_eq (by unfold I64; omega)
  obtain ⟨h1, h2⟩ := hv _ (nth_mem (0, 0) hi)
  rw [take_succ_nth (0, 0) hi]
  generalize hp : nth a (0, 0) i = p at *
  obtain ⟨f, t⟩ := p
  simp only at h1 h2
  rw [farP_snoc]
  generalize farP F low k (a.take i) = P at *
  have e1 := nth_row n P 0 h1
  have e2 := nth_row n P 0 h2
  by_cases c1 : low ≤ f
  · by_cases c2 : low ≤ t
    · by_cases c3 : P f < 0
      · by_cases c4 : P t = (k : Int)
        · rw [if_pos ⟨c1, c2, c3, c4⟩]
          simp [hi, hw, hp, h1, h2, e1, e2, c1, c2, c3, c4, hw2]
        · rw [if_neg (by omega)]
          simp [hi, hw, hp, h1, h2, e1, e2, c1, c2, c3, c4, hw2]
      · rw [if_neg (by omega)]
        simp [hi, hw, hp, h1, h2, e1, e2, c1, c2, c3]
    · rw [if_neg (by omega)]
      simp [hi, hw, hp, h1, h2, c1, c2]
  · rw [if_neg (by omega)]
    simp [hi, hw, hp, h1, h2, c1]

theorem loop37_1 (call : Oracle) (fuel : Nat) (n : Nat) (hn : n ≤ 24) (b : Bool) (a : NA) (hv : ∀ p ∈ a, p.1 < n ∧ p.2 < n) (hl : a.length ≤ 1000) (low to : Nat) (hf : 1000 < fuel) (st : St)
    (h0 : drops st h37_1 = L37_1 (ii n) (.ro (sa b (arcsZ a))) (ii low) (.own (ri n (farF a low to 0))) (ii 1)) :
    run.loopN (run call fuel b37_1) fuel st = some (.ex 2, X37_2 (.own (ri n (farF a low to n)))) := by
  refine loop_cnt call fuel h37_1 _ n (fun k => L37_1 (ii n) (.ro (sa b (arcsZ a))) (ii low) (.own (ri n (farF a low to k))) (ii ((k + 1 : Nat) : Int))) _ (by simp) ?_ (by simp; omega) fuel st h0 (by omega)
  intro k hk
  have hw : IntKind.i64.wrap ((k : Int) + 1 + 1) = (k : Int) + 1 + 1 := wrap_eq (by unfold I64; omega)
  have hle : (k : Int) + 1 ≤ (n : Int) := by omega
  have e := loop37_2 call fuel n hn b a hv hl (farF a low to k) low k (by omega) fuel hf
  simp [hle]
  rw [e _ (by simp)]
  simp [hw, farF]

theorem loop37_0 (call : Oracle) (fuel : Nat) (n : Nat) (hn : n ≤ 24) (x : D) (hx : ∃ b l, x = sa b l) (to low : Int) (fu : Nat) (hf : 1000 < fu) (st : St)
    (h0 : drops st h37_0 = L37_0 (ii n) (.ro x) (ii to) (ii low) (.own (ri n fun _ => 0)) (ii 0)) :
    run.loopN (run call fuel b37_0) fu st = some (.ex 0, X37_0 (ii n) (.ro x) (ii to) (ii low) (.own (ri n fun _ => -1))) := by
  obtain ⟨b, a, rfl⟩ := hx
  have e0 : ri n (fun j => if j < 0 then (-1 : Int) else 0) = ri n (fun _ => 0) := by simp
  have e1 : ri n (fun j => if j < n then (-1 : Int) else 0) = ri n (fun _ => -1) := congrArg (gsl (eI .i64) false) (row_ext _ fun i hi => by simp [hi])
  refine loop_cnt call fuel h37_0 _ n (fun i => L37_0 (ii n) (.ro (sa b a)) (ii to) (ii low) (.own (ri n fun j => if j < i then -1 else 0)) (ii i)) _ (by simp) ?_ (by simp [e1]) fu st (by rw [e0]; exact h0) (by omega)
  intro i hi
  have hw := wrap_succ (i := i) (by omega)
  have e2 : row n (updF (fun j => if j < i then (-1 : Int) else 0) i (-1)) = row n (fun j => if j < i + 1 then (-1 : Int) else 0) := row_ext _ fun j _ => by
    simp only [updF]
    by_cases h : j = i
    · subst h; simp
    · have : j < i + 1 ↔ j < i := by omega
      simp [h, this]
  simp [hi, hw, e2]

theorem f37 (call : Oracle) (fuel : Nat) (hf : 1000 < fuel) (n : Nat) (hn : n ≤ 24) (b : Bool) (a : NA) (hv : ∀ p ∈ a, p.1 < n ∧ p.2 < n) (hl : a.length ≤ 1000) (to low : Nat) (ht : to < n) :
    callF call fuel c37 [.v (.int .i64 (n : Int)), sa b (arcsZ a), .v (.int .i64 (to : Int)), .v (.int .i64 (low : Int))] = some (ri n (farF a low to n)) := by
  have e0 := loop37_0 call fuel n hn (sa b (arcsZ a)) ⟨_, _, rfl⟩ to low fuel hf
  have e1 := loop37_1 call fuel n hn b a hv hl low to hf
  have hz : List.replicate n (0 : Int) = row n fun _ => 0 := row_rep n 0
  have hm : n ≤ most := by unfold most; omega
  rw [callF_tab call fuel c37 13 _ (by exact Nat.le_of_ble_eq_true rfl) (by exact Nat.le_of_ble_eq_true rfl)]
  simp [c37, hz, hm]
  rw [e0 _ (by simp)]
  simp [ht]
  rw [e1 _ (by simp [farF])]
  simp

end Go.Mx
