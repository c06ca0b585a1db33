import Derived.Test.YtgbikojcpfdbiaaPoJ
/-
  Cycle: the least numbers of arcs of paths home: the program's (home) and the reference's (far).
-/
namespace Go.Mx
set_option linter.unusedVariables false
set_option linter.unusedSimpArgs false
set_option linter.unusedSectionVars false
open Go

/-! ### home -/
/-- The vertices from v on up to i with a property, as bits. -/
def maskF (v : Nat) (p : Nat → Bool) (i : Nat) : Nat := ((List.range' v (i - v)).filter p).foldl (fun m u => m ||| pw u) 0
theorem mask_bit (v : Nat) (p : Nat → Bool) (i u : Nat) : (maskF v p i).testBit u = (decide (v ≤ u) && decide (u < i) && p u) := by
  have h := done_bit ((List.range' v (i - v)).filter p) u
  unfold doneM at h
  unfold maskF
  rw [h, Bool.eq_iff_iff]
  simp [List.mem_range']
  intro _
  constructor
  · rintro ⟨j, h1, rfl⟩; exact ⟨by omega, by omega⟩
  · rintro ⟨h1, h2⟩; exact ⟨u - v, by omega, by omega⟩
theorem mask_lt {n : Nat} (hn : n ≤ 32) (v : Nat) (p : Nat → Bool) {i : Nat} (hi : i ≤ n) : maskF v p i < 2 ^ 32 := by
  refine done_lt (n := n) hn (out := (List.range' v (i - v)).filter p) fun u hu => ?_
  have := (List.mem_filter.1 hu).1
  rw [List.mem_range'] at this
  obtain ⟨j, h1, rfl⟩ := this
  omega
theorem mask_succ (v : Nat) (p : Nat → Bool) {i : Nat} (h : v ≤ i) : maskF v p (i + 1) = if p i = true then maskF v p i ||| pw i else maskF v p i := by
  unfold maskF
  have e : i + 1 - v = (i - v) + 1 := by omega
  rw [e, List.range'_concat, List.filter_append, List.foldl_append]
  have e2 : v + 1 * (i - v) = i := by omega
  rw [e2]
  cases hp : p i <;> simp [hp]
theorem mask_zero (v : Nat) (p : Nat → Bool) : maskF v p v = 0 := by simp [maskF]

/-- Does a vertex come into the next layer? -/
def newU (succ : Nat → Nat) (m : Nat) (g : Nat → Nat) (u : Nat) : Bool := g u == 0 && !(succ u &&& m == 0)

theorem loop36_1 (call : Oracle) (fuel : Nat) (n : Nat) (hn : n ≤ 24) (b : Bool) (succ : Nat → Nat) (hs : ∀ i, succ i < 2 ^ 32) (v : Nat) (hv : v ≤ n) (m : Nat) (hm : m < 2 ^ 32) (g : Nat → Nat) (k : Nat) (hk : 0 < k) (fu : Nat) (hf : 1000 < fu) (st : St)
    (h0 : drops st h36_1 = L36_1 (.ro (gsl (eI .u32) b (zr n succ))) (ii v) (.own (lz n g)) (uu (m : Nat)) (ii k) (uu 0) (ii v)) :
    run.loopN (run call fuel b36_1) fu st = some (.ex 2, X36_2 (.ro (gsl (eI .u32) b (zr n succ))) (ii v) (.own (lz n (fun u => if decide (v ≤ u) && decide (u < n) && newU succ m g u then k else g u))) (ii k) (uu (maskF v (newU succ m g) n : Nat))) := by
  have e0 : (fun u => if decide (v ≤ u) && decide (u < v) && newU succ m g u then k else g u) = g := by
    funext u
    have : (decide (v ≤ u) && decide (u < v)) = false := by
      rw [Bool.and_eq_false_iff, decide_eq_false_iff_not, decide_eq_false_iff_not]; omega
    rw [this]; rfl
  have hz := mask_zero v (newU succ m g)
  refine loop_cnt call fuel h36_1 _ (n - v) (fun j => L36_1 (.ro (gsl (eI .u32) b (zr n succ))) (ii v) (.own (lz n (fun u => if decide (v ≤ u) && decide (u < v + j) && newU succ m g u then k else g u))) (uu (m : Nat)) (ii k) (uu (maskF v (newU succ m g) (v + j) : Nat)) (ii ((v + j : Nat) : Int))) _ (by simp) ?_ ?_ fu st ?_ (by omega)
  · intro j hj
    obtain ⟨u, hu⟩ : ∃ u, u = v + j := ⟨_, rfl⟩
    have hun : u < n := by omega
    have hw := wrap_succ (i := u) (by omega)
    rw [← Nat.add_assoc, ← hu]
    have e1 := zr_nth n succ hun
    have e2 := zr_nth n (fun w => if decide (v ≤ w) && decide (w < u) && newU succ m g w then k else g w) hun
    have e3 : (if decide (v ≤ u) && decide (u < u) && newU succ m g u then k else g u) = g u := by simp
    rw [e3] at e2
    have e4 := bits_and .u32 (hs u) hm
    have e5 := mask_succ v (newU succ m g) (i := u) (by omega)
    have e6 := mask_lt (n := n) (by omega) v (newU succ m g) (i := u) (by omega)
    have e7 := bits_shl1 .u32 (t := u) (Nat.lt_of_lt_of_le hun (Nat.le_trans hn (by decide)))
    have e8 := bits_or .u32 e6 (b := pw u) (pw_lt (m := 32) (by omega))
    have e9 : lz n (fun w => if decide (v ≤ w) && decide (w < u + 1) && newU succ m g w then k else g w) = if newU succ m g u = true then lz n (updF (fun w => if decide (v ≤ w) && decide (w < u) && newU succ m g w then k else g w) u k) else lz n (fun w => if decide (v ≤ w) && decide (w < u) && newU succ m g w then k else g w) := by
      split
      · rename_i hnew
        refine congrArg (gsl (eI .i64) false) (zr_ext fun w _ => ?_)
        simp only [updF]
        by_cases hwu : w = u
        · subst hwu; have : v ≤ w := by omega
          simp [hnew, this]
        · have : w < u + 1 ↔ w < u := by omega
          simp [hwu, this]
      · rename_i hnew
        refine congrArg (gsl (eI .i64) false) (zr_ext fun w _ => ?_)
        by_cases hwu : w = u
        · subst hwu; simp [hnew]
        · have : w < u + 1 ↔ w < u := by omega
          simp [this]
    rw [e9, e5]
    generalize (fun w => if decide (v ≤ w) && decide (w < u) && newU succ m g w then k else g w) = q at *
    generalize maskF v (newU succ m g) u = x at *
    unfold newU
    by_cases c1 : g u = 0
    · rw [c1] at e2
      by_cases c2 : succ u &&& m = 0
      · rw [c2] at e4
        simp [hun, hw, e1, e2, e4, c1, c2]
      · simp [hun, hw, e1, e2, e4, c1, c2, e7, e8]
    · simp [hun, hw, e1, e2, c1]
  · have : v + (n - v) = n := by omega
    rw [this]
    simp
  · rw [Nat.add_zero, e0, hz]; exact h0

/-- The layers, and the numbers that are known after each. -/
def layG (n : Nat) (succ : Nat → Nat) (v : Nat) : Nat → (Nat → Nat) × Nat
  | 0 => (fun _ => 0, pw v)
  | k + 1 => let q := layG n succ v k
    (fun u => if decide (v ≤ u) && decide (u < n) && newU succ q.2 q.1 u then k + 1 else q.1 u, andN (maskF v (newU succ q.2 q.1) n) (pw v))

theorem lay_lt {n : Nat} (hn : n ≤ 32) (succ : Nat → Nat) {v : Nat} (hv : v < n) (k : Nat) : (layG n succ v k).2 < 2 ^ 32 := by
  cases k with
  | zero => exact pw_lt (by omega)
  | succ k => exact Nat.lt_of_le_of_lt (andN_le _ _) (mask_lt (n := n) hn v _ (Nat.le_refl _))

theorem loop36_0 (call : Oracle) (fuel : Nat) (n : Nat) (hn : n ≤ 24) (b : Bool) (succ : Nat → Nat) (hs : ∀ i, succ i < 2 ^ 32) (v : Nat) (hv : v < n) (K : Nat) (hK : K ≤ 500) (hne : ∀ k, k < K → (layG n succ v k).2 ≠ 0) (hend : (layG n succ v K).2 = 0) (hf : 1000 < fuel) (st : St)
    (h0 : drops st h36_0 = L36_0 (.ro (gsl (eI .u32) b (zr n succ))) (ii v) (.own (lz n fun _ => 0)) (uu (pw v : Nat)) (ii 1)) :
    run.loopN (run call fuel b36_0) fuel st = some (.ex 0, X36_0 (.own (lz n (layG n succ v K).1))) := by
  refine loop_cnt call fuel h36_0 _ K (fun k => L36_0 (.ro (gsl (eI .u32) b (zr n succ))) (ii v) (.own (lz n (layG n succ v k).1)) (uu ((layG n succ v k).2 : Nat)) (ii ((k + 1 : Nat) : Int))) _ (by simp) ?_ ?_ fuel st h0 (by omega)
  · intro k hk
    have hw := wrap_succ (i := k + 1) (by omega)
    have hm := lay_lt (n := n) (by omega) succ hv k
    have h1 := hne k hk
    have e := loop36_1 call fuel n hn b succ hs v (by omega) (layG n succ v k).2 hm (layG n succ v k).1 (k + 1) (by omega) fuel hf
    have e7 := bits_shl1 .u32 (t := v) (Nat.lt_of_lt_of_le hv (Nat.le_trans hn (by decide)))
    have e8 := bits_andN .u32 (mask_lt (n := n) (by omega) v (newU succ (layG n succ v k).2 (layG n succ v k).1) (i := n) (Nat.le_refl _)) (b := pw v) (pw_lt (m := 32) (by omega))
    simp only [layG]
    generalize layG n succ v k = q at *
    simp [h1]
    rw [e _ (by simp)]
    have hw' : IntKind.i64.wrap ((k : Int) + 1 + 1) = (k : Int) + 1 + 1 := wrap_eq (by unfold I64; omega)
    simp [e7, e8, hw']
  · rw [hend]
    simp

/-- Some layer is empty, soon. -/
theorem lay_ends (n : Nat) (succ : Nat → Nat) (v : Nat) : ∃ K, K ≤ n + 1 ∧ (∀ k, k < K → (layG n succ v k).2 ≠ 0) ∧ (layG n succ v K).2 = 0 := by
  have keep : ∀ k j u, 0 < (layG n succ v k).1 u → (layG n succ v (k + j)).1 u = (layG n succ v k).1 u := by
    intro k j u h
    induction j with
    | zero => rfl
    | succ j ih =>
      rw [← Nat.add_assoc]
      simp only [layG]
      rw [ih]
      have : newU succ (layG n succ v (k + j)).2 (layG n succ v (k + j)).1 u = false := by
        unfold newU; rw [ih]
        have : ((layG n succ v k).1 u == 0) = false := by simp; omega
        rw [this]; rfl
      rw [this]; simp
  have mem : ∀ k, (layG n succ v (k + 1)).2 ≠ 0 → ∃ u, u < n ∧ (layG n succ v (k + 1)).1 u = k + 1 := by
    intro k h
    obtain ⟨u, hu⟩ : ∃ u, (layG n succ v (k + 1)).2.testBit u = true := Nat.exists_testBit_of_ne_zero h
    simp only [layG, andN_bit, mask_bit, Bool.and_eq_true, decide_eq_true_eq] at hu
    obtain ⟨⟨⟨h1, h2⟩, h3⟩, _⟩ := hu
    refine ⟨u, h2, ?_⟩
    simp only [layG]
    rw [h3]
    simp [h1, h2]
  by_cases hall : ∀ k, k ≤ n + 1 → (layG n succ v k).2 ≠ 0
  · exfalso
    have pick : ∀ k, ∃ u, k ≤ n → (u < n ∧ (layG n succ v (n + 1)).1 u = k + 1) := by
      intro k
      by_cases hk : k ≤ n
      · obtain ⟨u, h1, h2⟩ := mem k (hall (k + 1) (by omega))
        refine ⟨u, fun _ => ⟨h1, ?_⟩⟩
        have := keep (k + 1) (n - k) u (by omega)
        rw [show k + 1 + (n - k) = n + 1 by omega] at this
        omega
      · exact ⟨0, fun h => absurd h hk⟩
    have hsub := nodup_sub ((List.range (n + 1)).map fun k => Classical.choose (pick k)) (List.range n) ?_ ?_
    · simp at hsub
      omega
    · rw [List.nodup_iff_pairwise_ne, List.pairwise_map]
      refine List.Pairwise.imp_of_mem ?_ (List.pairwise_lt_range)
      intro i j hi hj hij he
      have h1 := (Classical.choose_spec (pick i) (by have := List.mem_range.1 hi; omega)).2
      have h2 := (Classical.choose_spec (pick j) (by have := List.mem_range.1 hj; omega)).2
      rw [he, h2] at h1
      omega
    · intro x hx
      obtain ⟨k, hk, rfl⟩ := List.mem_map.1 hx
      exact List.mem_range.2 (Classical.choose_spec (pick k) (by have := List.mem_range.1 hk; omega)).1
  · have : ∃ k, k ≤ n + 1 ∧ (layG n succ v k).2 = 0 := by
      by_cases h : ∃ k, k ≤ n + 1 ∧ (layG n succ v k).2 = 0
      · exact h
      · exact absurd (fun k hk hz => h ⟨k, hk, hz⟩) hall
    obtain ⟨k, hk, hz⟩ := this
    induction k using Nat.strongRecOn with
    | _ k ih =>
      by_cases hc : ∃ j, j < k ∧ (layG n succ v j).2 = 0
      · obtain ⟨j, hj, hjz⟩ := hc
        exact ih j hj (by omega) hjz
      · exact ⟨k, hk, fun j hj hjz => hc ⟨j, hj, hjz⟩, hz⟩

theorem lay_stable (n : Nat) (succ : Nat → Nat) (v K : Nat) (h : (layG n succ v K).2 = 0) (j u : Nat) : (layG n succ v (K + j)).1 u = (layG n succ v K).1 u ∧ (layG n succ v (K + j)).2 = 0 := by
  induction j with
  | zero => exact ⟨rfl, h⟩
  | succ j ih =>
    obtain ⟨h1, h2⟩ := ih
    have hnew : ∀ w, newU succ (layG n succ v (K + j)).2 (layG n succ v (K + j)).1 w = false := by
      intro w; unfold newU; rw [h2]; simp
    refine ⟨?_, ?_⟩
    · rw [← Nat.add_assoc]
      simp only [layG, hnew]
      simp [h1]
    · rw [← Nat.add_assoc]
      simp only [layG]
      apply Nat.eq_of_testBit_eq
      intro w
      rw [andN_bit, mask_bit, hnew]
      simp

/-- What home returns. -/
def homeG (n : Nat) (succ : Nat → Nat) (v : Nat) : Nat → Nat := (layG n succ v (n + 1)).1

theorem f36 (call : Oracle) (fuel : Nat) (hf : 1000 < fuel) (n : Nat) (hn : n ≤ 24) (b : Bool) (succ : Nat → Nat) (hs : ∀ i, succ i < 2 ^ 32) (v : Nat) (hv : v < n) :
    callF call fuel c36 [gsl (eI .u32) b (zr n succ), .v (.int .i64 (v : Int))] = some (lz n (homeG n succ v)) := by
  obtain ⟨K, h1, h2, h3⟩ := lay_ends n succ v
  have e := loop36_0 call fuel n hn b succ hs v hv K (by omega) h2 h3 hf
  have he : lz n (layG n succ v K).1 = lz n (homeG n succ v) := by
    refine congrArg (gsl (eI .i64) false) (zr_ext fun u _ => ?_)
    have := (lay_stable n succ v K h3 (n + 1 - K) u).1
    rw [show K + (n + 1 - K) = n + 1 by omega] at this
    exact this.symm
  have hz : List.replicate n (0 : Int) = zr n fun _ => 0 := row_rep n 0
  have hm : n ≤ most := by unfold most; omega
  have e7 := bits_shl1 .u32 (t := v) (Nat.lt_of_lt_of_le hv (Nat.le_trans hn (by decide)))
  rw [callF_tab call fuel c36 10 _ (by exact Nat.le_of_ble_eq_true rfl) (by exact Nat.le_of_ble_eq_true rfl)]
  simp [c36, hz, hm, e7]
  rw [e _ (by simp)]
  simp [he]

end Go.Mx
