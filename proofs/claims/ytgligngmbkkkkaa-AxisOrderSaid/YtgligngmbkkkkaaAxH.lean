import Derived.Test.YtgligngmbkkkkaaAxG
/-
  The axis: the laws on arcs and medians.
-/
namespace Go.Mx
set_option linter.unusedVariables false
set_option linter.unusedSimpArgs false
set_option linter.unusedSectionVars false
open Go

theorem findFrom_congr {p q : Nat → Bool} : ∀ (s k : Nat), s + k ≤ 12 → (∀ f, f < 12 → p f = q f) → findFrom p s k = findFrom q s k
  | _, 0, _, _ => rfl
  | s, k + 1, h, hpq => by
    simp only [findFrom]
    rw [hpq s (by omega), findFrom_congr (s + 1) k (by omega) hpq]

theorem arcFrom_congr {p q : Nat → Nat → Bool} (hpq : ∀ n f, f < 12 → p n f = q n f) : ∀ (n k : Nat), arcFrom p n k = arcFrom q n k
  | _, 0 => rfl
  | n, k + 1 => by
    simp only [arcFrom]
    rw [findFrom_congr (p := p n) (q := q n) 0 12 (by omega) (hpq n), arcFrom_congr hpq (n + 1) k]

theorem fin_turn : ∀ x f : Fin 12, turnZ x.val (IntKind.i64.wrap (-(f.val : Int))) = modZ (IntKind.i64.wrap ((x.val : Int) - f.val)) 12 := by decide +kernel

theorem turn_mod {x : Int} (hx : hourB x = true) {f : Nat} (hf : f < 12) : turnZ x (IntKind.i64.wrap (-(f : Int))) = modZ (IntKind.i64.wrap (x - (f : Int))) 12 := by
  obtain ⟨i, rfl⟩ := hour_fin hx
  exact fin_turn i ⟨f, hf⟩

theorem within_in {l : List Int} (hl : ∀ x ∈ l, hourB x = true) {f : Nat} (hf : f < 12) (n : Int) : l.countP (withinP (f : Nat) n) = l.countP (inP (f : Nat) n) := by
  apply List.countP_congr
  intro x hx
  simp only [withinP, inP, turn_mod (hl x hx) hf]

theorem arcD_tri (e : Int) (p : Nat → Nat → Bool) : ∃ a b c, arcD e p = tri a b c := by
  unfold arcD
  split
  · split
    · exact ⟨_, _, _, rfl⟩
    · exact ⟨_, _, _, rfl⟩
  · exact ⟨_, _, _, rfl⟩

theorem arc_same (l : List Int) : arcD (filledZ l) (fun n f => decide (l.countP (withinP (f : Nat) (n : Nat)) = l.length)) = arcD (filledZ l) (fun n f => decide (l.countP (inP (f : Nat) (n : Nat)) = l.length)) := by
  unfold arcD
  split
  · rename_i h
    have hh := hours_of_filled h
    rw [arcFrom_congr (q := fun n f => decide (l.countP (inP (f : Nat) (n : Nat)) = l.length)) fun n f hf => by rw [within_in hh hf]]
  · rfl

theorem medD_tri (e : Int) (s : Nat → Int) : ∃ a b c, medD e s = tri a b c := by
  unfold medD
  split
  · exact ⟨_, _, _, rfl⟩
  · exact ⟨_, _, _, rfl⟩

theorem f4 (call : Oracle) (fuel : Nat) (b : Bool) (l : List Int) (h12 : call 12 [] = some (.v (.bool true))) (h16 : call 16 [sl b l] = some (.v (.bool (decide (l.length ≤ 80)))))
    (h17 : l.length ≤ 80 → call 17 [sl b l] = some (arcD (filledZ l) (fun n f => decide (l.countP (withinP (f : Nat) (n : Nat)) = l.length))))
    (h18 : l.length ≤ 80 → call 18 [sl b l] = some (arcD (filledZ l) (fun n f => decide (l.countP (inP (f : Nat) (n : Nat)) = l.length))))
    (h19 : l.length ≤ 80 → call 19 [sl b l] = some (medD (filledZ l) (fun h => sumD (distZ (h : Nat)) l)))
    (h20 : l.length ≤ 80 → call 20 [sl b l] = some (medD (filledZ l) (fun h => sumD (distZ (h : Nat)) l))) :
    callF call fuel c4 [sl b l] = some (.v (.bool true)) := by
  by_cases hl : l.length ≤ 80
  · have h17 := h17 hl
    have h18 := h18 hl
    have h19 := h19 hl
    have h20 := h20 hl
    rw [← arc_same] at h18
    obtain ⟨a1, a2, a3, ha⟩ := arcD_tri (filledZ l) (fun n f => decide (l.countP (withinP (f : Nat) (n : Nat)) = l.length))
    obtain ⟨m1, m2, m3, hm⟩ := medD_tri (filledZ l) (fun h => sumD (distZ (h : Nat)) l)
    rw [ha] at h17 h18
    rw [hm] at h19 h20
    simp only [hl, decide_true] at h16
    unfold sl tri at *
    simp [c4, h12, h16, h17, h18, h19, h20]
  · simp only [hl, decide_false] at h16
    unfold sl at *
    simp [c4, h12, h16]

end Go.Mx
