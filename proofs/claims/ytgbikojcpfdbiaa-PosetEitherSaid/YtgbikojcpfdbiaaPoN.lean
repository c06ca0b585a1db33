import Derived.Test.YtgbikojcpfdbiaaPoM
/-
  Cycle, the plain law: layers, distances, the next vertex.
-/
namespace Go.Mx
set_option linter.unusedVariables false
set_option linter.unusedSimpArgs false
set_option linter.unusedSectionVars false
open Go

section
variable (n : Nat) (succ : Nat → Nat) (v : Nat)

theorem lay_le (k u : Nat) : (layG n succ v k).1 u ≤ k := by
  induction k with
  | zero => exact Nat.le_refl _
  | succ k ih =>
    simp only [layG]
    split
    · exact Nat.le_refl _
    · omega

theorem lay_keep (k j u : Nat) (h : 0 < (layG n succ v k).1 u) : (layG n succ v (k + j)).1 u = (layG n succ v k).1 u := by
  induction j with
  | zero => rfl
  | succ j ih =>
    rw [← Nat.add_assoc]
    simp only [layG]
    rw [ih]
    have : newU succ (layG n succ v (k + j)).2 (layG n succ v (k + j)).1 u = false := by
      unfold newU; rw [ih]
      have : ((layG n succ v k).1 u == 0) = false := by simp; omega
      rw [this]; rfl
    rw [this]; simp

theorem lay_in (k u : Nat) (h : 0 < (layG n succ v k).1 u) : v ≤ u ∧ u < n := by
  induction k with
  | zero => simp [layG] at h
  | succ k ih =>
    simp only [layG] at h
    split at h
    · rename_i hc
      simp only [Bool.and_eq_true, decide_eq_true_eq] at hc
      exact hc.1
    · exact ih h

theorem lay_mem (k w : Nat) : (layG n succ v (k + 1)).2.testBit w = true ↔ w ≠ v ∧ (layG n succ v (k + 1)).1 w = k + 1 := by
  have hle := lay_le n succ v k w
  simp only [layG, andN_bit, mask_bit, pw_bit]
  generalize hq : (decide (v ≤ w) && decide (w < n) && newU succ (layG n succ v k).2 (layG n succ v k).1 w) = q
  cases q
  · simp; intro _; omega
  · simp
    exact ⟨fun h e => h e.symm, fun h e => h e.symm⟩

theorem new_iff (m : Nat) (g : Nat → Nat) (u : Nat) : newU succ m g u = true ↔ g u = 0 ∧ ∃ w, (succ u).testBit w = true ∧ m.testBit w = true := by
  unfold newU
  simp only [Bool.and_eq_true, beq_iff_eq, Bool.not_eq_true', beq_eq_false_iff_ne]
  constructor
  · rintro ⟨h1, h2⟩
    obtain ⟨w, hw⟩ := Nat.exists_testBit_of_ne_zero h2
    rw [Nat.testBit_and, Bool.and_eq_true] at hw
    exact ⟨h1, w, hw⟩
  · rintro ⟨h1, w, h2, h3⟩
    refine ⟨h1, fun e => ?_⟩
    have : (succ u &&& m).testBit w = true := by rw [Nat.testBit_and, h2, h3]; rfl
    rw [e] at this; simp at this

/-- From n on the layers are empty. -/
theorem lay_end_n (hv : v < n) : (layG n succ v n).2 = 0 := by
  by_cases hall : ∀ k, k ≤ n → (layG n succ v k).2 ≠ 0
  · exfalso
    have pick : ∀ k, ∃ u, k < n → (u < n ∧ u ≠ v ∧ (layG n succ v n).1 u = k + 1) := by
      intro k
      by_cases hk : k < n
      · obtain ⟨u, hu⟩ := Nat.exists_testBit_of_ne_zero (hall (k + 1) (by omega))
        obtain ⟨h1, h2⟩ := (lay_mem n succ v k u).1 hu
        have h3 := lay_keep n succ v (k + 1) (n - (k + 1)) u (by omega)
        rw [show k + 1 + (n - (k + 1)) = n by omega] at h3
        exact ⟨u, fun _ => ⟨(lay_in n succ v (k + 1) u (by omega)).2, h1, by omega⟩⟩
      · exact ⟨0, fun h => absurd h hk⟩
    have hsub := nodup_sub (v :: (List.range n).map fun k => Classical.choose (pick k)) (List.range n) ?_ ?_
    · simp at hsub
      omega
    · rw [List.nodup_cons]
      refine ⟨fun hm => ?_, ?_⟩
      · obtain ⟨k, hk, e⟩ := List.mem_map.1 hm
        exact (Classical.choose_spec (pick k) (List.mem_range.1 hk)).2.1 e
      · rw [List.nodup_iff_pairwise_ne, List.pairwise_map]
        refine List.Pairwise.imp_of_mem ?_ (List.pairwise_lt_range)
        intro i j hi hj hij he
        have h1 := (Classical.choose_spec (pick i) (List.mem_range.1 hi)).2.2
        have h2 := (Classical.choose_spec (pick j) (List.mem_range.1 hj)).2.2
        rw [he, h2] at h1
        omega
    · intro x hx
      rcases List.mem_cons.1 hx with rfl | hx
      · exact List.mem_range.2 hv
      · obtain ⟨k, hk, rfl⟩ := List.mem_map.1 hx
        exact List.mem_range.2 (Classical.choose_spec (pick k) (List.mem_range.1 hk)).1
  · have : ∃ k, k ≤ n ∧ (layG n succ v k).2 = 0 := by
      by_cases h : ∃ k, k ≤ n ∧ (layG n succ v k).2 = 0
      · exact h
      · exact absurd (fun k hk hz => h ⟨k, hk, hz⟩) hall
    obtain ⟨k, hk, hz⟩ := this
    have := (lay_stable n succ v k hz (n - k) 0).2
    rw [show k + (n - k) = n by omega] at this
    exact this

theorem home_at (hv : v < n) (u : Nat) : homeG n succ v u = (layG n succ v n).1 u := (lay_stable n succ v n (lay_end_n n succ v hv) 1 u).1
theorem home_le (hv : v < n) (u : Nat) : homeG n succ v u ≤ n := by rw [home_at n succ v hv]; exact lay_le n succ v n u
theorem home_in (u : Nat) (h : 0 < homeG n succ v u) : v ≤ u ∧ u < n := lay_in n succ v _ u h

/-- A vertex with a way home has a next one that is one nearer. -/
theorem home_next (k u : Nat) (h : homeG n succ v u = k + 2) : ∃ w, v < w ∧ w < n ∧ (succ u).testBit w = true ∧ homeG n succ v w = k + 1 := by
  have key : ∀ m, (layG n succ v m).1 u = k + 2 → ∃ w, v < w ∧ w < n ∧ (succ u).testBit w = true ∧ 0 < (layG n succ v (k + 1)).1 w ∧ (layG n succ v (k + 1)).1 w = k + 1 ∧ k + 1 ≤ m := by
    intro m
    induction m with
    | zero => intro h; simp [layG] at h
    | succ m ih =>
      intro h
      simp only [layG] at h
      split at h
      · rename_i hc
        have hm : m = k + 1 := by omega
        subst hm
        simp only [Bool.and_eq_true, decide_eq_true_eq] at hc
        obtain ⟨_, w, h1, h2⟩ := (new_iff succ _ _ u).1 hc.2
        obtain ⟨h3, h4⟩ := (lay_mem n succ v k w).1 h2
        have := lay_in n succ v (k + 1) w (by omega)
        exact ⟨w, by omega, this.2, h1, by omega, h4, by omega⟩
      · obtain ⟨w, h1, h2, h3, h4, h5, h6⟩ := ih h
        exact ⟨w, h1, h2, h3, h4, h5, by omega⟩
  obtain ⟨w, h1, h2, h3, h4, h5, h6⟩ := key (n + 1) h
  refine ⟨w, h1, h2, h3, ?_⟩
  have := lay_keep n succ v (k + 1) (n + 1 - (k + 1)) w h4
  rw [show k + 1 + (n + 1 - (k + 1)) = n + 1 by omega] at this
  unfold homeG
  omega

/-- Who leads to a vertex with a way home has one that is at most one longer. -/
theorem home_prev (u w : Nat) (hu : v ≤ u) (hun : u < n) (hb : (succ u).testBit w = true) (hw : w ≠ v) (h : 0 < homeG n succ v w) : 0 < homeG n succ v u ∧ homeG n succ v u ≤ homeG n succ v w + 1 := by
  obtain ⟨k, hk⟩ : ∃ k, homeG n succ v w = k + 1 := ⟨homeG n succ v w - 1, by omega⟩
  have hkn : k + 1 ≤ n + 1 := by have := lay_le n succ v (n + 1) w; unfold homeG at hk; omega
  have key : ∀ m, (layG n succ v m).1 w = k + 1 → (layG n succ v (k + 1)).1 w = k + 1 := by
    intro m
    induction m with
    | zero => intro h; simp [layG] at h
    | succ m ih =>
      intro h
      have h' := h
      simp only [layG] at h
      split at h
      · have hm : m = k := by omega
        subst hm; exact h'
      · exact ih h
  have h1 := key (n + 1) hk
  have h2 : (layG n succ v (k + 1)).2.testBit w = true := (lay_mem n succ v k w).2 ⟨hw, h1⟩
  by_cases h0 : (layG n succ v (k + 1)).1 u = 0
  · have hnew := (new_iff succ (layG n succ v (k + 1)).2 (layG n succ v (k + 1)).1 u).2 ⟨h0, w, hb, h2⟩
    have h3 : (layG n succ v (k + 2)).1 u = k + 2 := by
      show (if decide (v ≤ u) && decide (u < n) && newU succ (layG n succ v (k + 1)).2 (layG n succ v (k + 1)).1 u then k + 1 + 1 else _) = _
      rw [hnew]; simp [hu, hun]
    by_cases hkn2 : k + 2 ≤ n + 1
    · have h4 := lay_keep n succ v (k + 2) (n + 1 - (k + 2)) u (by omega)
      rw [show k + 2 + (n + 1 - (k + 2)) = n + 1 by omega] at h4
      unfold homeG at hk ⊢
      omega
    · have hkk : k = n := by omega
      have hvn : v < n := by omega
      have := home_le n succ v hvn w
      omega
  · have h4 := lay_keep n succ v (k + 1) (n + 1 - (k + 1)) u (by omega)
    rw [show k + 1 + (n + 1 - (k + 1)) = n + 1 by omega] at h4
    have h5 := lay_le n succ v (k + 1) u
    unfold homeG at hk ⊢
    omega

/-- The next vertex towards home. -/
def nextC (at' l : Nat) : Option Nat := ((List.range (n - (v + 1))).find? (fun j => (succ at').testBit (v + 1 + j) && homeG n succ v (v + 1 + j) == l)).map (fun j => v + 1 + j)

theorem nextC_some {at' l w : Nat} (h1 : v < w) (h2 : w < n) (h3 : (succ at').testBit w = true) (h4 : homeG n succ v w = l) : ∃ u, nextC n succ v at' l = some u ∧ v < u ∧ u < n ∧ (succ at').testBit u = true ∧ homeG n succ v u = l ∧ u ≤ w := by
  unfold nextC
  cases hf : (List.range (n - (v + 1))).find? (fun j => (succ at').testBit (v + 1 + j) && homeG n succ v (v + 1 + j) == l) with
  | none =>
    exfalso
    rw [List.find?_eq_none] at hf
    apply hf (w - (v + 1)) (List.mem_range.2 (by omega))
    rw [show v + 1 + (w - (v + 1)) = w by omega, h3, h4]; simp
  | some j =>
    have hj := List.mem_range.1 (List.mem_of_find?_eq_some hf)
    have hp := List.find?_some hf
    simp only [Bool.and_eq_true, beq_iff_eq] at hp
    refine ⟨v + 1 + j, rfl, by omega, by omega, hp.1, hp.2, ?_⟩
    rcases Nat.lt_or_ge (w - (v + 1)) j with hlt | hge
    · exfalso
      obtain ⟨_, l1, l2, e, hno⟩ := List.find?_eq_some_iff_append.1 hf
      have hm : w - (v + 1) ∈ l1 := by
        have hlen : l1.length = j := by
          have h5 : (List.range (n - (v + 1)))[l1.length]? = some j := by rw [e]; simp
          rw [List.getElem?_eq_some_iff] at h5
          obtain ⟨_, h6⟩ := h5
          simpa using h6
        have h7 : (List.range (n - (v + 1)))[w - (v + 1)]? = some (w - (v + 1)) := by rw [List.getElem?_range (by omega)]
        rw [e, List.getElem?_append_left (by omega)] at h7
        exact List.mem_of_getElem? h7
      have := hno _ hm
      rw [show v + 1 + (w - (v + 1)) = w by omega, h3, h4] at this
      simp at this
    · omega

/-- The vertices of the cycle. -/
def atC (size : Nat) : Nat → Nat
  | 0 => v
  | j + 1 => (nextC n succ v (atC size j) (size - (j + 1))).getD 0

theorem atC_ok (hv : v < n) {size : Nat} (hs : homeG n succ v v = size) (hp : 0 < size) (j : Nat) (hj : j < size) :
    v ≤ atC n succ v size j ∧ atC n succ v size j < n ∧ homeG n succ v (atC n succ v size j) = size - j ∧ (j ≠ 0 → v < atC n succ v size j) ∧ (j + 1 < size → nextC n succ v (atC n succ v size j) (size - (j + 1)) = some (atC n succ v size (j + 1)) ∧ (succ (atC n succ v size j)).testBit (atC n succ v size (j + 1)) = true) := by
  have nx : ∀ u, v ≤ u → u < n → homeG n succ v u = size - j → j + 1 < size → ∃ x, nextC n succ v u (size - (j + 1)) = some x ∧ v < x ∧ x < n ∧ (succ u).testBit x = true ∧ homeG n succ v x = size - (j + 1) := by
    intro u hu hun hd hlt
    obtain ⟨w, h1, h2, h3, h4⟩ := home_next n succ v (size - (j + 2)) u (by omega)
    obtain ⟨x, g1, g2, g3, g4, g5, _⟩ := nextC_some n succ v (at' := u) (l := size - (j + 1)) h1 h2 h3 (by omega)
    exact ⟨x, g1, g2, g3, g4, g5⟩
  have main : v ≤ atC n succ v size j ∧ atC n succ v size j < n ∧ homeG n succ v (atC n succ v size j) = size - j ∧ (j ≠ 0 → v < atC n succ v size j) := by
    clear nx
    induction j with
    | zero => exact ⟨Nat.le_refl _, hv, hs, fun h => absurd rfl h⟩
    | succ j ih =>
      obtain ⟨h1, h2, h3, h4⟩ := ih (by omega)
      obtain ⟨w, g1, g2, g3, g4⟩ := home_next n succ v (size - (j + 2)) (atC n succ v size j) (by omega)
      obtain ⟨x, k1, k2, k3, k4, k5, _⟩ := nextC_some n succ v (at' := atC n succ v size j) (l := size - (j + 1)) g1 g2 g3 (by omega)
      have e : atC n succ v size (j + 1) = x := by simp only [atC]; rw [k1]; rfl
      rw [e]
      exact ⟨by omega, k3, k5, fun _ => k2⟩
  obtain ⟨h1, h2, h3, h4⟩ := main
  refine ⟨h1, h2, h3, h4, fun hlt => ?_⟩
  obtain ⟨x, k1, k2, k3, k4, k5⟩ := nx _ h1 h2 h3 hlt
  have e : atC n succ v size (j + 1) = x := by simp only [atC]; rw [k1]; rfl
  rw [e]
  exact ⟨k1, k4⟩
end

/-! ### the reference's distances are these -/
theorem far_lay {n : Nat} {a : NA} (hv : ∀ p ∈ a, p.1 < n ∧ p.2 < n) (v : Nat) (hvn : v < n) (k u : Nat) : farF a v v k u = if u = v then 0 else if (layG n (nextG a) v k).1 u = 0 then -1 else ((layG n (nextG a) v k).1 u : Int) := by
  induction k generalizing u with
  | zero =>
    simp only [farF, updF, layG]
    split <;> simp
  | succ k ih =>
    simp only [farF, farP]
    rw [ih u]
    by_cases hu : u = v
    · subst hu; simp
    · rw [if_neg hu, if_neg hu]
      by_cases h0 : (layG n (nextG a) v k).1 u = 0
      · rw [if_pos h0]
        have hmem : ∀ w, w < n → ((layG n (nextG a) v k).2.testBit w = true ↔ v ≤ w ∧ farF a v v k w = (k : Int)) := by
          intro w hw
          rw [ih w]
          cases k with
          | zero =>
            simp only [layG, pw_bit]
            by_cases hwv : w = v
            · subst hwv; simp
            · have : ¬ v = w := fun e => hwv e.symm
              simp [hwv, this]
          | succ k =>
            rw [lay_mem]
            by_cases hwv : w = v
            · subst hwv; simp; omega
            · rw [if_neg hwv]
              constructor
              · rintro ⟨_, h⟩
                have := lay_in n (nextG a) v (k + 1) w (by omega)
                refine ⟨this.1, ?_⟩
                rw [h, if_neg (by omega)]
              · rintro ⟨_, h⟩
                refine ⟨hwv, ?_⟩
                split at h
                · omega
                · omega
        have hex : (decide (v ≤ u) && decide ((-1 : Int) < 0) && a.any (fun p => p.1 == u && decide (v ≤ p.2) && farF a v v k p.2 == (k : Int))) = (decide (v ≤ u) && decide (u < n) && newU (nextG a) (layG n (nextG a) v k).2 (layG n (nextG a) v k).1 u) := by
          rw [Bool.eq_iff_iff]
          simp only [Bool.and_eq_true, decide_eq_true_eq, List.any_eq_true, beq_iff_eq]
          rw [new_iff]
          constructor
          · rintro ⟨⟨h1, _⟩, p, hp, ⟨h2, h3⟩, h4⟩
            have hpv := hv p hp
            refine ⟨⟨h1, by omega⟩, h0, p.2, ?_, (hmem p.2 hpv.2).2 ⟨h3, h4⟩⟩
            rw [next_bit, ← h2]
            simpa using hp
          · rintro ⟨⟨h1, h2⟩, _, w, h3, h4⟩
            rw [next_bit] at h3
            have hp : (u, w) ∈ a := by simpa using h3
            have hpv := hv _ hp
            have := (hmem w hpv.2).1 h4
            exact ⟨⟨h1, by omega⟩, (u, w), hp, ⟨rfl, this.1⟩, this.2⟩
        rw [hex]
        simp only [layG]
        split
        · simp
        · simp [h0]
      · rw [if_neg h0]
        have h1 : ¬ ((layG n (nextG a) v k).1 u : Int) < 0 := by omega
        have h2 := lay_keep n (nextG a) v k 1 u (by omega)
        rw [h2, if_neg h0]
        simp [h1]

theorem far_home {n : Nat} {a : NA} (hv : ∀ p ∈ a, p.1 < n ∧ p.2 < n) (v : Nat) (hvn : v < n) (u : Nat) (hu : u ≠ v) : farF a v v n u = if homeG n (nextG a) v u = 0 then -1 else (homeG n (nextG a) v u : Int) := by
  rw [far_lay hv v hvn, if_neg hu, home_at n (nextG a) v hvn]

end Go.Mx
