import Derived.Test.YtgbikojcpfdbiaaPoV
/-
  What the arcs lead to: rows of sets.
-/
namespace Go.Mx
set_option linter.unusedVariables false
set_option linter.unusedSimpArgs false
set_option linter.unusedSectionVars false
open Go

def upd (g : Nat → Nat) (i y : Nat) : Nat → Nat := fun j => if j = i then y else g j

def rowD (n : Nat) (g : Nat → Nat) : List D := (List.range n).map fun i => .v (.int .u32 (g i : Int))

/-- Rows of sets, as a tree. -/
def rsl (n : Nat) (g : Nat → Nat) : D := .nd (.sl false 1 n) (rowD n g)

theorem rowD_len (n : Nat) (g : Nat → Nat) : (rowD n g).length = n := by simp [rowD]

theorem rowD_get {n i : Nat} (g : Nat → Nat) (h : i < n) : (rowD n g)[i]? = some (.v (.int .u32 (g i : Int))) := by
  simp [rowD, h]

theorem rowD_set {n i : Nat} (g : Nat → Nat) (y : Nat) (h : i < n) : (rowD n g).set i (.v (.int .u32 (y : Int))) = rowD n (upd g i y) := by
  apply List.ext_getElem?
  intro j
  rcases Nat.lt_or_ge j n with hj | hj
  · rw [rowD_get _ hj]
    by_cases he : j = i
    · subst he
      rw [List.getElem?_set_self (by rw [rowD_len]; exact hj)]
      simp [upd]
    · rw [List.getElem?_set_ne (Ne.symm he), rowD_get _ hj]
      simp [upd, he]
  · rw [List.getElem?_eq_none (by rw [List.length_set, rowD_len]; exact hj), List.getElem?_eq_none (by rw [rowD_len]; exact hj)]

theorem rowD_ext {n : Nat} {g h : Nat → Nat} (e : ∀ i, i < n → g i = h i) : rowD n g = rowD n h := by
  unfold rowD
  apply List.map_congr_left
  intro i hi
  rw [e i (List.mem_range.1 hi)]

/-- The arcs, as numbers. -/
abbrev NA := List (Nat × Nat)
def arcsZ (a : NA) : List (Int × Int) := a.map fun p => ((p.1 : Int), (p.2 : Int))

def addArc (g : Nat → Nat) (p : Nat × Nat) : Nat → Nat := upd g p.1 (g p.1 ||| 2 ^ p.2)
def nextG (a : NA) : Nat → Nat := a.foldl addArc fun _ => 0

theorem nextG_snoc (a : NA) (p : Nat × Nat) : nextG (a ++ [p]) = upd (nextG a) p.1 (nextG a p.1 ||| 2 ^ p.2) := by
  simp [nextG, addArc]

theorem nextG_lt {n : Nat} (hn : n ≤ 32) {a : NA} (h : ∀ p ∈ a, p.1 < n ∧ p.2 < n) (i : Nat) : nextG a i < 2 ^ 32 := by
  suffices ∀ (a : NA) (g : Nat → Nat), (∀ p ∈ a, p.1 < n ∧ p.2 < n) → (∀ i, g i < 2 ^ 32) → ∀ i, a.foldl addArc g i < 2 ^ 32 from this a _ h (fun _ => by simp) i
  intro a
  induction a with
  | nil => intro g _ hg i; exact hg i
  | cons p a ih =>
    intro g h hg i
    apply ih
    · exact fun q hq => h q (List.mem_cons_of_mem _ hq)
    · intro j
      unfold addArc upd
      split
      · exact Nat.or_lt_two_pow (hg _) (Nat.pow_lt_pow_right (by omega) (by have := (h p (List.mem_cons_self ..)).2; omega))
      · exact hg j

theorem nextG_bit (a : NA) (i j : Nat) : (nextG a i).testBit j = a.any fun p => p.1 == i && p.2 == j := by
  suffices ∀ (a : NA) (g : Nat → Nat), (a.foldl addArc g i).testBit j = ((g i).testBit j || a.any fun p => p.1 == i && p.2 == j) by
    have := this a fun _ => 0
    simpa [nextG] using this
  intro a
  induction a with
  | nil => intro g; simp
  | cons p a ih =>
    intro g
    rw [List.foldl_cons, ih]
    unfold addArc upd
    by_cases h : i = p.1
    · subst h
      simp [Nat.testBit_or, Nat.testBit_two_pow, Bool.or_assoc]
      rfl
    · have : (p.1 == i) = false := by simpa using Ne.symm h
      simp [h, this]

set_option maxHeartbeats 2000000 in
theorem loop29_0 (call : Oracle) (fuel : Nat) (hf : 1000 ≤ fuel) (b : Bool) (n : Nat) (hn : n ≤ 24) (a : NA) (hv : ∀ p ∈ a, p.1 < n ∧ p.2 < n) (hl : a.length ≤ 150) (st : St)
    (h0 : drops st h29_0 = L29_0 (.ro (asl b (arcsZ a))) (.own (rsl n fun _ => 0)) (.ref 5 []) (.ro (asl b (arcsZ a))) (ii a.length) (ii 0)) :
    run.loopN (run call fuel b29_0) fuel st = some (.ex 0, X29_0 (.own (rsl n (nextG a))) (.ref 5 [])) := by
  refine loop_rule (fun m st => ∃ i : Nat, i ≤ a.length ∧ m = a.length - i ∧ drops st h29_0 = L29_0 (.ro (asl b (arcsZ a))) (.own (rsl n (nextG (a.take i)))) (.ref 5 []) (.ro (asl b (arcsZ a))) (ii a.length) (ii (i : Nat)))
    (fun r => r = some (.ex 0, X29_0 (.own (rsl n (nextG a))) (.ref 5 []))) ?_ a.length fuel st ⟨0, by omega, by omega, by simpa [nextG] using h0⟩ (by omega)
  rintro m st ⟨i, hi, hm, hst⟩
  by_cases hlt : i < a.length
  · left
    have hw1 := wrap_succ (i := i) (by omega)
    obtain ⟨f, t, hp⟩ : ∃ f t, a[i]? = some (f, t) := ⟨_, _, List.getElem?_eq_getElem hlt⟩
    obtain ⟨hf1, ht1⟩ : f < n ∧ t < n := hv (f, t) (List.mem_of_getElem? hp)
    have hpz : (arcsZ a)[i]? = some ((f : Int), (t : Int)) := by simp [arcsZ, hp]
    have h2 := arcs_two hpz
    have hkl := arcs_len (arcsZ a)
    have hzl : (arcsZ a).length = a.length := by simp [arcsZ]
    rw [hzl] at hkl
    have hle2 : i * 2 + 2 ≤ a.length * 2 := by omega
    have hs : nextG (a.take (i + 1)) = upd (nextG (a.take i)) f (nextG (a.take i) f ||| 2 ^ t) := by
      rw [List.take_add_one, hp]
      exact nextG_snoc _ _
    have hb : nextG (a.take i) f < 2 ^ 32 := nextG_lt (n := n) (by omega) (fun p hp => hv p (List.mem_of_mem_take hp)) f
    have e1 := u32_shl (t := t) (by omega)
    have e2' := u32_orN hb (Nat.pow_lt_pow_right (a := 2) (by omega) (by omega : t < 32))
    have g1 := rowD_get (nextG (a.take i)) hf1
    have g2 := rowD_len n (nextG (a.take i))
    have g3 := rowD_set (nextG (a.take i)) (nextG (a.take i) f ||| 2 ^ t) hf1
    rw [← hs] at g3
    unfold rsl asl at hst ⊢
    rw [hzl] at hst ⊢
    generalize (arcsZ a).flatMap arcD = K at *
    generalize rowD n (nextG (a.take i)) = G at *
    generalize hG' : rowD n (nextG (a.take (i + 1))) = G' at *
    generalize nextG (a.take i) f ||| 2 ^ t = y at *
    generalize 2 ^ t = z at *
    generalize nextG (a.take i) f = x at *
    obtain ⟨_, g4⟩ := List.getElem?_eq_some_iff.1 g1
    refine ⟨_, by rw [b29_0, run_scr, hst]; simp (maxSteps := 100000000) [hlt, hkl, hle2, aggR, h2, loadN, Mx.store, target, cellsOfD, flatOk, putCells, Value.oneCell', hw1, e1, e2', g1, g2, g3, g4, hf1]; rfl, m - 1, by omega, i + 1, by omega, by omega, ?_⟩
    simp [e2', g3, hw1, hG']
  · right
    have : i = a.length := by omega
    subst this
    rw [List.take_length] at hst
    refine ⟨.ex 0, _, by rw [b29_0, run_scr, hst]; simp [asl]; rfl, by simp, ?_⟩
    simp

theorem reps_one (n : Nat) (x : D) : reps n [x] = List.replicate n x := by
  induction n with
  | zero => rfl
  | succ n ih => simp [reps, ih, List.replicate_succ]

theorem f29 (call : Oracle) (fuel : Nat) (hf : 1000 ≤ fuel) (b : Bool) (n : Nat) (hn : n ≤ 24) (a : NA) (hv : ∀ p ∈ a, p.1 < n ∧ p.2 < n) (hl : a.length ≤ 150) :
    callF call fuel c29 [.v (.int .i64 (n : Int)), asl b (arcsZ a)] = some (rsl n (nextG a)) := by
  have e := loop29_0 call fuel hf b n hn a hv hl
  have hr : rsl n (fun _ => 0) = .nd (.sl false 1 n) (List.replicate n (.v (.int .u32 0))) := by
    unfold rsl rowD
    congr 1
    apply List.ext_getElem <;> simp
  rw [hr, ← reps_one] at e
  have hmo : n ≤ most := by unfold most; omega
  have hzl : (arcsZ a).length = a.length := by simp [arcsZ]
  unfold asl rsl at *
  rw [hzl] at e ⊢
  simp [c29, isOwn, hmo]
  rw [e]
  · simp
  · simp

end Go.Mx
