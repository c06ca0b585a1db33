import Derived.Test.YtldfddgdcjaogaaDiT
/-
  Differences: laws against the reference.
-/
namespace Go.Mx
set_option linter.unusedVariables false
set_option linter.unusedSimpArgs false
set_option linter.unusedSectionVars false
open Go

theorem f3 (call : Oracle) (fuel : Nat) (n : Int) (b : Bool) (l : List (Int × Int × Int)) (x y : Int) (h12 : call 12 [] = some (bV true)) (h13 : call 13 [sd b l] = some (bV (decide (l.length ≤ 90)))) (d : Int) (t : Bool) (e : Int)
    (h14 : l.length ≤ 90 → call 14 [nV n, sd b l, nV x, nV y] = some (tgD d t e)) (h15 : l.length ≤ 90 → call 15 [nV n, sd b l, nV x, nV y] = some (tgD d t e)) (v : Bool) (h16 : call 16 [nV n, sd b l] = some (bV v)) (h17 : l.length ≤ 90 → call 17 [nV n, sd b l] = some (bV v)) :
    callF call fuel c3 [nV n, sd b l, .nd .ag [nV x, nV y]] = some (bV true) := by
  rw [callF_tab call fuel c3 33 _ (by exact Nat.le_of_ble_eq_true rfl) (by exact Nat.le_of_ble_eq_true rfl)]
  by_cases hl : l.length ≤ 90
  · have h14 := h14 hl
    have h15 := h15 hl
    have h17 := h17 hl
    cases t <;> cases v <;> simp [c3, h12, h13, hl, h14, h15, h16, h17]
  · simp [c3, h12, h13, hl]
theorem law3 (n : Int) (b : Bool) (l : List (Int × Int × Int)) (x y : Int) : S 10 3 [nV n, sd b l, .nd .ag [nV x, nV y]] = some (bV true) := by
  rw [S, sem_succ (mf := c3) rfl]
  obtain ⟨d, t, e, ht⟩ := tigI_shape n l x y
  exact f3 _ _ n b l x y (s12 1) (s13 8 b l) d t e (fun h => (s14 2 n b l x y).trans (by rw [ht])) (fun h => (s15 5 n b l (by omega) x y).trans (by rw [ht])) _ (s16 3 n b l) (fun h => s17 6 n b l (by omega))

theorem f4 (call : Oracle) (fuel : Nat) (n : Int) (b : Bool) (l : List (Int × Int × Int)) (h12 : call 12 [] = some (bV true)) (h13 : call 13 [sd b l] = some (bV (decide (l.length ≤ 90)))) (t : Bool) (m : List Int) (e : Int)
    (h18 : l.length ≤ 90 → call 18 [nV n, sd b l] = some (slD (si t m) e)) (h19 : l.length ≤ 90 → call 19 [nV n, sd b l] = some (slD (si t m) e)) (h20 : call 20 [si t m, si t m] = some (bV true)) :
    callF call fuel c4 [nV n, sd b l] = some (bV true) := by
  rw [callF_tab call fuel c4 24 _ (by exact Nat.le_of_ble_eq_true rfl) (by exact Nat.le_of_ble_eq_true rfl)]
  by_cases hl : l.length ≤ 90
  · have h18 := h18 hl
    have h19 := h19 hl
    simp [c4, h12, h13, hl, h18, h19, h20]
  · simp [c4, h12, h13, hl]
theorem law4 (n : Int) (b : Bool) (l : List (Int × Int × Int)) : S 10 4 [nV n, sd b l] = some (bV true) := by
  rw [S, sem_succ (mf := c4) rfl]
  obtain ⟨t, m, e, ht, hm⟩ := solI_shape n l
  exact f4 _ _ n b l (s12 1) (s13 8 b l) t m e (fun h => (s18 2 n b l).trans (by rw [ht])) (fun h => (s19 5 n b l (by omega)).trans (by rw [ht])) ((s20 8 t t m m (by omega)).trans (by simp))

theorem refI_shape (n : Int) (l : List (Int × Int × Int)) : ∃ b m e, refI n l = slD (si b m) e ∧ m.length ≤ 16 := by
  unfold refI
  split
  · rename_i hv
    obtain ⟨n, l, rfl, rfl, h⟩ := valid_vb hv
    rw [nat3_nb]
    show ∃ b m e, srD n l = _ ∧ _
    unfold srD
    cases hf : cF n l with
    | none => exact ⟨_, _, _, rfl, by simp⟩
    | some i =>
      refine ⟨_, _, _, rfl, ?_⟩
      rw [zl_len]
      unfold cF at hf
      have hi := List.mem_range.1 (List.mem_of_find?_eq_some hf)
      have hs := List.find?_some hf
      obtain ⟨s, hs⟩ := Option.isSome_iff_exists.1 hs
      unfold cR
      rw [hs]
      show (cC l s (i + 2)).length ≤ 16
      unfold cS at hs
      have h1 := List.mem_range.1 (List.mem_of_find?_eq_some hs)
      have h2 := List.find?_some hs
      have := (stK_ok h h1 h2 (i + 2 - 1) (Nat.le_refl _)).cnt
      have := h.n16
      unfold cC
      omega
  · exact ⟨_, _, _, rfl, by simp⟩
theorem f5 (call : Oracle) (fuel : Nat) (n : Int) (b : Bool) (l : List (Int × Int × Int)) (h12 : call 12 [] = some (bV true)) (h13 : call 13 [sd b l] = some (bV (decide (l.length ≤ 90)))) (t : Bool) (m : List Int) (e : Int)
    (h21 : l.length ≤ 90 → call 21 [nV n, sd b l] = some (slD (si t m) e)) (h22 : l.length ≤ 90 → call 22 [nV n, sd b l] = some (slD (si t m) e)) (h20 : call 20 [si t m, si t m] = some (bV true)) :
    callF call fuel c5 [nV n, sd b l] = some (bV true) := by
  rw [callF_tab call fuel c5 24 _ (by exact Nat.le_of_ble_eq_true rfl) (by exact Nat.le_of_ble_eq_true rfl)]
  by_cases hl : l.length ≤ 90
  · have h21 := h21 hl
    have h22 := h22 hl
    simp [c5, h12, h13, hl, h21, h22, h20]
  · simp [c5, h12, h13, hl]
theorem law5 (n : Int) (b : Bool) (l : List (Int × Int × Int)) : S 10 5 [nV n, sd b l] = some (bV true) := by
  rw [S, sem_succ (mf := c5) rfl]
  obtain ⟨t, m, e, ht, hm⟩ := refI_shape n l
  exact f5 _ _ n b l (s12 1) (s13 8 b l) t m e (fun h => (s21 2 n b l).trans (by rw [ht])) (fun h => (s22 5 n b l (by omega)).trans (by rw [ht])) ((s20 8 t t m m (by omega)).trans (by simp))

/-- Implied. -/
theorem f25 (call : Oracle) (fuel : Nat) (n : Int) (b : Bool) (l : List (Int × Int × Int)) (c : Int × Int × Int) (v r : Bool) (h16 : call 16 [nV n, sd b l] = some (bV v)) (h37 : call 37 [nV n, bD c] = some (bV r)) (d : Int) (t : Bool) (e : Int)
    (h14 : call 14 [nV n, sd b l, nV c.1, nV c.2.1] = some (tgD d t e)) :
    callF call fuel c25 [nV n, sd b l, bD c] = some (bV (v && r && (decide (e = 0) && t && decide (d ≤ c.2.2)))) := by
  rw [callF_tab call fuel c25 21 _ (by exact Nat.le_of_ble_eq_true rfl) (by exact Nat.le_of_ble_eq_true rfl)]
  cases v with
  | false => simp [c25, h16]
  | true =>
    cases r with
    | false => simp [c25, h16, h37]
    | true =>
      by_cases he : e = 0
      · cases t <;> simp [c25, h16, h37, h14, he]
      · simp [c25, h16, h37, h14, he]
theorem f9 (call : Oracle) (fuel : Nat) (n : Int) (b : Bool) (l : List (Int × Int × Int)) (c : Int × Int × Int) (h12 : call 12 [] = some (bV true)) (h13 : call 13 [sd b l] = some (bV (decide (l.length ≤ 90)))) (d : Int) (t : Bool) (e : Int)
    (h14 : call 14 [nV n, sd b l, nV c.1, nV c.2.1] = some (tgD d t e)) (v : Bool) (h16 : call 16 [nV n, sd false [c]] = some (bV v)) (h25 : call 25 [nV n, sd b l, bD c] = some (bV (v && decide (e = 0) && t && decide (d ≤ c.2.2)))) :
    callF call fuel c9 [nV n, sd b l, bD c] = some (bV true) := by
  rw [callF_tab call fuel c9 20 _ (by exact Nat.le_of_ble_eq_true rfl) (by exact Nat.le_of_ble_eq_true rfl)]
  have hE : T.nd (K.sl false 3 1) [T.v (Value.int .i64 c.1), T.v (Value.int .i64 c.2.1), T.v (Value.int .i64 c.2.2)] = sd false [c] := rfl
  by_cases hl : l.length ≤ 90
  · cases v with
    | false => simp [c9, h12, h13, hl, h14, hE, h16, h25]
    | true =>
      by_cases he : e = 0
      · cases t <;> simp [c9, h12, h13, hl, h14, hE, h16, h25, he]
      · simp [c9, h12, h13, hl, h14, hE, h16, h25, he]
  · simp [c9, h12, h13, hl]
theorem tig_bad {n : Int} {l : List (Int × Int × Int)} (h : validB n l = false) (i j : Int) : tigI n l i j = tgD 0 false 1 := by
  unfold tigI; rw [h]; rfl
theorem s25 (k : Nat) (n : Int) (b : Bool) (l : List (Int × Int × Int)) (c : Int × Int × Int) (d : Int) (t : Bool) (e : Int) (ht : tigI n l c.1 c.2.1 = tgD d t e) :
    S (k + 8) 25 [nV n, sd b l, bD c] = some (bV (validB n l && rightB n c && (decide (e = 0) && t && decide (d ≤ c.2.2)))) := by
  rw [S, sem_succ (mf := c25) rfl]
  exact f25 _ _ n b l c _ _ (s16 (k + 1) n b l) (s37 (k + 5) n c) d t e ((s14 k n b l _ _).trans (by rw [ht]))
theorem law9 (n : Int) (b : Bool) (l : List (Int × Int × Int)) (c : Int × Int × Int) : S 10 9 [nV n, sd b l, bD c] = some (bV true) := by
  rw [S, sem_succ (mf := c9) rfl]
  obtain ⟨d, t, e, ht⟩ := tigI_shape n l c.1 c.2.1
  refine f9 _ _ n b l c (s12 1) (s13 8 b l) d t e ((s14 2 n b l _ _).trans (by rw [ht])) _ (s16 3 n false [c]) ?_
  refine (s25 1 n b l c d t e ht).trans (congrArg (fun q => some (bV q)) ?_)
  cases hv : validB n l with
  | false =>
    rw [tig_bad hv] at ht
    simp only [T.nd.injEq, List.cons.injEq, T.v.injEq, Value.int.injEq, Value.bool.injEq, true_and, and_true] at ht
    obtain ⟨_, _, rfl⟩ := ht
    simp
  | true =>
    have h1 := valid_iff.1 hv
    have : validB n [c] = rightB n c := by
      unfold validB
      have := h1.1
      have := h1.2.1
      simp [*]
    rw [this]
    simp [Bool.and_assoc]
end Go.Mx
