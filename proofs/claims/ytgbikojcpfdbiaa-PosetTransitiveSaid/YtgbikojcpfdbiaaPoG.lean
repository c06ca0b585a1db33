import Derived.Test.YtgbikojcpfdbiaaPoC
import Derived.Test.YtgbikojcpfdbiaaPoF
/-
  Posets: valid digraphs in numbers; Reaches.
-/
namespace Go.Mx
set_option linter.unusedVariables false
set_option linter.unusedSimpArgs false
set_option linter.unusedSectionVars false
open Go

theorem f20 (call : Oracle) (fuel : Nat) (hf : 1000 ≤ fuel) (b : Bool) (n : Int) (a : List (Int × Int)) (hl : a.length ≤ 150) :
    callF call fuel c20 [.v (.int .i64 n), asl b a] = some (.v (.bool (validB n a))) := by
  have e := loop20_0 call fuel hf b n a hl
  have hv : validB n a = (decide (0 ≤ n) && decide (n ≤ 24) && (List.range a.length).all (okArc n a)) := rfl
  unfold asl at *
  by_cases c1 : n < 0
  · have d1 : ¬ 0 ≤ n := by omega
    simp [c20, c1, hv, d1]
  · have d1 : 0 ≤ n := by omega
    by_cases c2 : 24 < n
    · have d2 : ¬ n ≤ 24 := by omega
      simp [c20, c1, c2, hv, d2]
    · have d2 : n ≤ 24 := by omega
      simp [c20, c1, c2, hv, d1, d2]
      rw [e]
      · by_cases h : (List.range a.length).all (okArc n a) = true
        · rw [if_pos h]
          simp at h
          simp [h]
          exact h
        · rw [if_neg h]
          simp at h
          simp
          exact h
      · simp

def natA (a : List (Int × Int)) : NA := a.map fun p => (p.1.toNat, p.2.toNat)

theorem valid_all {n : Int} {a : List (Int × Int)} (h : validB n a = true) {i : Nat} {f t : Int} (hp : a[i]? = some (f, t)) : 0 ≤ f ∧ f < n ∧ 0 ≤ t ∧ t < n ∧ f ≠ t := by
  simp only [validB, Bool.and_eq_true, List.all_eq_true, List.mem_range] at h
  have hlt : i < a.length := (List.getElem?_eq_some_iff.1 hp).1
  have := h.2 i hlt
  simp only [okArc, hp, Bool.and_eq_true, decide_eq_true_eq, Bool.not_eq_true', beq_eq_false_iff_ne] at this
  obtain ⟨⟨⟨⟨⟨h1, h2⟩, h3⟩, h4⟩, h5⟩, _⟩ := this
  exact ⟨h1, h2, h3, h4, h5⟩

/-- A valid digraph is one of numbers. -/
theorem valid_nat {n : Int} {a : List (Int × Int)} (h : validB n a = true) : ∃ k : Nat, n = (k : Int) ∧ k ≤ 24 ∧ a = arcsZ (natA a) ∧ (∀ p ∈ natA a, p.1 < k ∧ p.2 < k ∧ p.1 ≠ p.2) := by
  have hall : ∀ p ∈ a, 0 ≤ p.1 ∧ p.1 < n ∧ 0 ≤ p.2 ∧ p.2 < n ∧ p.1 ≠ p.2 := by
    intro p hp
    obtain ⟨i, hi⟩ := List.getElem?_of_mem hp
    exact valid_all h (f := p.1) (t := p.2) hi
  have h' := h
  simp only [validB, Bool.and_eq_true, decide_eq_true_eq] at h'
  obtain ⟨⟨h1, h2⟩, _⟩ := h'
  refine ⟨n.toNat, by omega, by omega, ?_, ?_⟩
  · unfold arcsZ natA
    rw [List.map_map]
    conv => lhs; rw [← List.map_id a]
    apply List.map_congr_left
    intro p hp
    obtain ⟨g1, _, g2, _, _⟩ := hall p hp
    simp only [Function.comp, id]
    ext <;> simp <;> omega
  · intro p hp
    unfold natA at hp
    obtain ⟨q, hq, rfl⟩ := List.mem_map.1 hp
    obtain ⟨g1, g2, g3, g4, g5⟩ := hall q hq
    simp only
    omega

/-- What Reaches says. -/
def reachZ (n : Int) (a : List (Int × Int)) (i j : Int) : Bool :=
  validB n a && decide (0 ≤ i) && decide (i < n) && decide (0 ≤ j) && decide (j < n) && (warr (nextG (natA a)) n.toNat i.toNat).testBit j.toNat

set_option maxHeartbeats 2000000 in
theorem f16 (call : Oracle) (fuel : Nat) (b : Bool) (n : Int) (a : List (Int × Int)) (hl : a.length ≤ 150) (i j : Int)
    (h20 : call 20 [.v (.int .i64 n), asl b a] = some (.v (.bool (validB n a))))
    (h28 : ∀ s t : Nat, s < 2 ^ 32 → t < 32 → call 28 [.v (.int .u32 (s : Int)), .v (.int .i64 (t : Int))] = some (.v (.bool (s.testBit t))))
    (h31 : ∀ k : Nat, k ≤ 24 → ∀ x : NA, (∀ p ∈ x, p.1 < k ∧ p.2 < k) → x.length ≤ 150 → call 31 [.v (.int .i64 (k : Int)), asl b (arcsZ x)] = some (rsl k (warr (nextG x) k))) :
    callF call fuel c16 [.v (.int .i64 n), asl b a, .v (.int .i64 i), .v (.int .i64 j)] = some (.v (.bool (reachZ n a i j))) := by
  by_cases hv : validB n a = true
  · obtain ⟨k, rfl, hk, ha, hp⟩ := valid_nat hv
    have hq : ∀ p ∈ natA a, p.1 < k ∧ p.2 < k := fun p h => ⟨(hp p h).1, (hp p h).2.1⟩
    have e := h31 k hk (natA a) hq (by simpa [natA] using hl)
    rw [← ha] at e
    have hr : reachZ (k : Int) a i j = (decide (0 ≤ i) && decide (i < (k : Int)) && decide (0 ≤ j) && decide (j < (k : Int)) && (warr (nextG (natA a)) k i.toNat).testBit j.toNat) := by
      simp [reachZ, hv]
    rw [hv] at h20
    rw [hr]
    have hb := warr_lt (nextG_lt (n := k) (by omega) hq) k
    generalize warr (nextG (natA a)) k = g at *
    unfold asl rsl at *
    by_cases c1 : 0 ≤ i
    · by_cases c2 : i < (k : Int)
      · by_cases c3 : 0 ≤ j
        · by_cases c4 : j < (k : Int)
          · obtain ⟨u, rfl⟩ := Int.eq_ofNat_of_zero_le c1
            obtain ⟨v, rfl⟩ := Int.eq_ofNat_of_zero_le c3
            have c2' : u < k := by omega
            have c4' : v < k := by omega
            have g1 := rowD_get g c2'
            obtain ⟨_, g2⟩ := List.getElem?_eq_some_iff.1 g1
            have g3 := h28 (g u) v (hb u) (by omega)
            have g4 := rowD_len k g
            simp [c16, h20, c2', c4', e, g1, g2, g3, g4]
          · simp [c16, h20, c1, c2, c3, c4]
        · simp [c16, h20, c1, c2, c3]
      · simp [c16, h20, c1, c2]
    · simp [c16, h20, c1]
  · have hv' : validB n a = false := by simpa using hv
    have hr : reachZ n a i j = false := by simp [reachZ, hv']
    rw [hv'] at h20
    rw [hr]
    unfold asl at *
    simp [c16, h20]

/-! ### transitive -/
theorem warr_bit (g : Nat → Nat) (k i j : Nat) : (warr g (k + 1) i).testBit j = ((warr g k i).testBit j || (warr g k i).testBit k && (warr g k k).testBit j) := by
  show (stp (warr g k) k i).testBit j = _
  unfold stp
  by_cases h : (warr g k i).testBit k = true
  · simp [h, Nat.testBit_or]
  · simp [h]

theorem warr_trans (g : Nat → Nat) (k v i j : Nat) (hv : v < k) (h1 : (warr g k i).testBit v = true) (h2 : (warr g k v).testBit j = true) : (warr g k i).testBit j = true := by
  induction k generalizing v i j with
  | zero => omega
  | succ k ih =>
    rw [warr_bit] at h1 h2 ⊢
    simp only [Bool.or_eq_true, Bool.and_eq_true] at *
    by_cases hk : v = k
    · subst hk
      have a1 : (warr g v i).testBit v = true := by rcases h1 with h | ⟨h, _⟩ <;> exact h
      have a2 : (warr g v v).testBit j = true := by rcases h2 with h | ⟨_, h⟩ <;> exact h
      exact Or.inr ⟨a1, a2⟩
    · have hv' : v < k := by omega
      rcases h1 with h1 | ⟨h1, h3⟩ <;> rcases h2 with h2 | ⟨h2, h4⟩
      · exact Or.inl (ih v i j hv' h1 h2)
      · exact Or.inr ⟨ih v i k hv' h1 h2, h4⟩
      · exact Or.inr ⟨h1, ih v k j hv' h3 h2⟩
      · exact Or.inr ⟨h1, h4⟩

theorem reachZ_trans (n : Int) (a : List (Int × Int)) (i v j : Int) (h1 : reachZ n a i v = true) (h2 : reachZ n a v j = true) : reachZ n a i j = true := by
  simp only [reachZ, Bool.and_eq_true, decide_eq_true_eq] at *
  obtain ⟨⟨⟨⟨⟨a1, a2⟩, a3⟩, a4⟩, a5⟩, a6⟩ := h1
  obtain ⟨⟨⟨⟨⟨_, b2⟩, b3⟩, b4⟩, b5⟩, b6⟩ := h2
  exact ⟨⟨⟨⟨⟨a1, a2⟩, a3⟩, b4⟩, b5⟩, warr_trans _ _ _ _ _ (by omega) a6 b6⟩

end Go.Mx
