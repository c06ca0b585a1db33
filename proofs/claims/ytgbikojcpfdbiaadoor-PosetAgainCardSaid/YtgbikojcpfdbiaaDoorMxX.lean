import Derived.Test.YtgbikojcpfdbiaaDoorMxV
/-
  Mx, part X: loops by a family of head states.
-/
namespace Go.Mx
set_option linter.unusedVariables false
set_option linter.unusedSimpArgs false
set_option linter.unusedSectionVars false
open Go

/-- A loop whose head states are a family: each round either leads to a head state of smaller measure with the same result, or ends with the result. -/
theorem loop_by {α : Type} (call : Oracle) (fuel : Nat) (h : List Bool) (c : MC) (Inv : α → Prop) (I : α → St) (μ : α → Nat) (res : α → Ex × St)
    (hs : ∀ a, Inv a → (∃ a', Inv a' ∧ μ a' < μ a ∧ res a' = res a ∧ ∃ st', run call fuel c (I a) = some (.norm, st') ∧ drops st' h = I a') ∨ ((res a).1 ≠ .norm ∧ run call fuel c (I a) = some (res a))) :
    ∀ (fu : Nat) (a : α) (st : St), Inv a → drops st h = I a → μ a < fu → run.loopN (run call fuel (.seq (.scr h) c)) fu st = some (res a) := by
  intro fu
  induction fu with
  | zero => intro a st _ _ hf; omega
  | succ fu ih =>
    intro a st hi hd hf
    rw [loop_succ, run_scr, hd]
    rcases hs a hi with ⟨a', hi', hm, hr, st', h1, h2⟩ | ⟨hn, h1⟩
    · rw [h1, ← hr]
      exact ih a' st' hi' h2 (by omega)
    · rw [h1]
      generalize res a = r at *
      obtain ⟨e, s⟩ := r
      cases e with
      | norm => exact absurd rfl hn
      | _ => rfl

/-- A counting loop: rounds 0 .. n-1, then the end; any round may end the loop with its result. -/
theorem loop_up (call : Oracle) (fuel : Nat) (h : List Bool) (c : MC) (n : Nat) (I : Nat → St) (res : Ex × St) (hne : res.1 ≠ .norm)
    (hs : ∀ i, i < n → (∃ st', run call fuel c (I i) = some (.norm, st') ∧ drops st' h = I (i + 1)) ∨ run call fuel c (I i) = some res)
    (he : run call fuel c (I n) = some res) :
    ∀ (fu : Nat) (st : St), drops st h = I 0 → n < fu → run.loopN (run call fuel (.seq (.scr h) c)) fu st = some res := by
  intro fu st hd hf
  refine loop_by call fuel h c (fun i => i ≤ n) I (fun i => n - i) (fun _ => res) ?_ fu 0 st (Nat.zero_le _) hd (by simpa using hf)
  intro i hi
  by_cases hlt : i < n
  · rcases hs i hlt with ⟨st', h1, h2⟩ | h1
    · exact .inl ⟨i + 1, hlt, by show n - (i + 1) < n - i; omega, rfl, st', h1, h2⟩
    · exact .inr ⟨hne, h1⟩
  · have hi' : i ≤ n := hi
    have : i = n := by omega
    subst this
    exact .inr ⟨hne, he⟩

/-- A counting loop with an early way out: in the first round that 'stop' names the loop ends with that round's result. -/
theorem loop_until (call : Oracle) (fuel : Nat) (h : List Bool) (c : MC) (n : Nat) (stop : Nat → Bool) (I : Nat → St) (out : Nat → Ex × St) (res : Ex × St) (hne : res.1 ≠ .norm) (hno : ∀ i, (out i).1 ≠ .norm)
    (hs : ∀ i, i < n → (∀ j, j < i → stop j = false) → stop i = false → ∃ st', run call fuel c (I i) = some (.norm, st') ∧ drops st' h = I (i + 1))
    (ho : ∀ i, i < n → (∀ j, j < i → stop j = false) → stop i = true → run call fuel c (I i) = some (out i))
    (he : (∀ j, j < n → stop j = false) → run call fuel c (I n) = some res) :
    ∀ (fu : Nat) (st : St), drops st h = I 0 → n < fu → run.loopN (run call fuel (.seq (.scr h) c)) fu st = some (((List.range n).find? stop).elim res out) := by
  intro fu st hd hf
  refine loop_by call fuel h c (fun i => i ≤ n ∧ ∀ j, j < i → stop j = false) I (fun i => n - i) (fun _ => ((List.range n).find? stop).elim res out) ?_ fu 0 st ⟨Nat.zero_le _, fun j hj => by omega⟩ hd (by simpa using hf)
  rintro i ⟨hi, hj⟩
  by_cases hlt : i < n
  · by_cases hst : stop i = true
    · right
      have : (List.range n).find? stop = some i := by
        rw [List.find?_eq_some_iff_append]
        refine ⟨hst, List.range i, (List.range' (i + 1) (n - i - 1)), ?_, fun j hj' => by rw [hj j (List.mem_range.1 hj')]; rfl⟩
        have e1 : n = i + (1 + (n - i - 1)) := by omega
        conv => lhs; rw [e1]
        rw [List.range_add, List.range_add]
        simp [List.range_eq_range', List.map_map, List.map_add_range']
        try rw [show (fun x => i + (1 + x)) = (fun x => (i + 1) + x) from by funext x; omega, List.map_add_range']
        try simp
      rw [this]
      exact ⟨hno i, ho i hlt hj hst⟩
    · left
      have hst' : stop i = false := by simpa using hst
      obtain ⟨st', h1, h2⟩ := hs i hlt hj hst'
      exact ⟨i + 1, ⟨hlt, fun j hj' => by
        by_cases hji : j = i
        · subst hji; exact hst'
        · exact hj j (by omega)⟩, by show n - (i + 1) < n - i; omega, rfl, st', h1, h2⟩
  · right
    have : i = n := by omega
    subst this
    have : (List.range i).find? stop = none := by
      rw [List.find?_eq_none]
      intro j hj'
      rw [hj j (List.mem_range.1 hj')]; simp
    rw [this]
    exact ⟨hne, he hj⟩

end Go.Mx
