import Derived.Test.YtldfddgdcjaogaaDiJ
import Derived.Test.YtldfddgdcjaogaaMxV
/-
  Differences: calls up to a depth.
-/
namespace Go.Mx
set_option linter.unusedVariables false
set_option linter.unusedSimpArgs false
set_option linter.unusedSectionVars false
open Go

abbrev S (n : Nat) : Oracle := sem tbl 2100 n
abbrev nV (n : Int) : D := .v (.int .i64 n)
abbrev bV (t : Bool) : D := .v (.bool t)

theorem s44 (k : Nat) (x : Int) : S (k + 1) 44 [nV x, nV 1000000] = some (bV (decide (-1000000 ≤ x) && decide (x ≤ 1000000))) := by
  rw [S, sem_succ (mf := c44) rfl]; exact f44 _ _ x 1000000 (by decide)
theorem s41 (k : Nat) (x m : Int) (hm : 0 ≤ m ∧ m ≤ 1000000000) : S (k + 1) 41 [nV x, nV m] = some (bV (decide (-m ≤ x) && decide (x ≤ m))) := by
  rw [S, sem_succ (mf := c41) rfl]; exact f41 _ _ x m hm
theorem s33 (k : Nat) (x y z : Int) : S (k + 1) 33 [nV x, nV y, nV z] = some (bV (decide (y ≤ x) && decide (x ≤ z))) := by
  rw [S, sem_succ (mf := c33) rfl]; exact f33 _ _ x y z
theorem s13 (k : Nat) (b : Bool) (l : List (Int × Int × Int)) : S (k + 1) 13 [sd b l] = some (bV (decide (l.length ≤ 90))) := by
  rw [S, sem_succ (mf := c13) rfl]; exact f13 _ _ b l
theorem s37 (k : Nat) (n : Int) (c : Int × Int × Int) : S (k + 2) 37 [nV n, bD c] = some (bV (rightB n c)) := by
  rw [S, sem_succ (mf := c37) rfl]; exact f37 _ _ n c (s44 k _)
theorem s36 (k : Nat) (n : Int) (c : Int × Int × Int) : S (k + 3) 36 [bD c, bxI n] = some (bV (!rightB n c)) := by
  rw [S, sem_succ (mf := c36) rfl]; exact f36 _ _ n c (s37 k n c)
theorem s24 (k : Nat) (n : Int) (c : Int × Int × Int) : S (k + 2) 24 [nV n, bD c] = some (bV (bndB n c)) := by
  rw [S, sem_succ (mf := c24) rfl]; exact f24 _ _ n c (s41 k _ 1000000 (by decide)) (s33 k)
theorem s38 (k : Nat) (n : Int) (b : Bool) (l : List (Int × Int × Int)) (hl : l.length ≤ 1000) : S (k + 5) 38 [sd b l, fnV 36 [bxI n]] = some (bV (l.any fun c => !rightB n c)) := by
  rw [S, sem_succ (mf := c38) rfl]
  refine f38 _ _ b l 36 [bxI n] (fun c => !rightB n c) ?_
  rw [sem_succ (mf := c49) rfl]
  exact f49 _ _ (by decide) b l 36 [bxI n] (fun c => !rightB n c) (fun c _ => s36 k n c) hl
theorem s16 (k : Nat) (n : Int) (b : Bool) (l : List (Int × Int × Int)) : S (k + 6) 16 [nV n, sd b l] = some (bV (validB n l)) := by
  rw [S, sem_succ (mf := c16) rfl]; exact f16 _ _ n b l (fun h => s38 k n b l (by omega))
theorem s17 (k : Nat) (n : Int) (b : Bool) (l : List (Int × Int × Int)) (hl : l.length ≤ 1000) : S (k + 3) 17 [nV n, sd b l] = some (bV (validB n l)) := by
  rw [S, sem_succ (mf := c17) rfl]; exact f17 _ _ (by decide) n b l (s24 k n) (s33 (k + 1) n 1 16) hl
theorem s47 (k : Nat) (x y : Lm) : S (k + 1) 47 [mD (rl x), mD (rl y)] = some (mD (rl (less x y))) := by
  rw [S, sem_succ (mf := c47) rfl]; exact f47 _ _ x y
theorem s48 (k : Nat) (x y : Lm) (h : ∀ a b, x = some a → y = some b → I64 (a + b)) : S (k + 1) 48 [mD (rl x), mD (rl y)] = some (mD (rl (plus x y))) := by
  rw [S, sem_succ (mf := c48) rfl]; exact f48 _ _ x y h
theorem s32 (k : Nat) (n : Nat) (b : Bool) (l : List Bn) (h : VB n l) : S (k + 2) 32 [nV (n : Int), sd b (nbL l)] = some (limD n l) := by
  rw [S, sem_succ (mf := c32) rfl]; exact f32 _ _ (by decide) n l h b (s47 k) (s48 k)
theorem s35 (k : Nat) (n : Nat) (b : Bool) (l : List Bn) (h : VB n l) : S (k + 1) 35 [nV (n : Int), sd b (nbL l)] = some (iT n (lstG n l)) := by
  rw [S, sem_succ (mf := c35) rfl]; exact f35 _ _ (by decide) n l h b
theorem s34 (k : Nat) (n : Nat) (b : Bool) (l : List Bn) (h : VB n l) : S (k + 2) 34 [nV (n : Int), sd b (nbL l)] = some (bV (!bad n l)) := by
  rw [S, sem_succ (mf := c34) rfl]; exact f34 _ _ (by decide) n l h b (s35 k n b l h)
theorem s20 (k : Nat) (b c : Bool) (l m : List Int) (hl : l.length ≤ 1000) : S (k + 1) 20 [si b l, si c m] = some (bV (l == m)) := by
  rw [S, sem_succ (mf := c20) rfl]; exact f20 _ _ (by decide) b c l m hl

/-! ### Tight, Solve -/
def tigI (n : Int) (l : List (Int × Int × Int)) (i j : Int) : D := if validB n l = true then tigD n.toNat (l.map nat3) i j else tgD 0 false 1
def solI (n : Int) (l : List (Int × Int × Int)) : D := if validB n l = true then solD n.toNat (l.map nat3) else slD nilI 1
theorem nat3_nb (l : List Bn) : (nbL l).map nat3 = l := by
  unfold nbL
  rw [List.map_map]
  conv => rhs; rw [← List.map_id l]
  apply List.map_congr_left
  intro c _
  simp [nat3]
theorem tigI_nb {n : Nat} {l : List Bn} (h : VB n l) (i j : Int) : tigI (n : Int) (nbL l) i j = tigD n l i j := by
  unfold tigI
  rw [if_pos (vb_valid h), nat3_nb]; rfl
theorem solI_nb {n : Nat} {l : List Bn} (h : VB n l) : solI (n : Int) (nbL l) = solD n l := by
  unfold solI
  rw [if_pos (vb_valid h), nat3_nb]; rfl
theorem s14 (k : Nat) (n : Int) (b : Bool) (l : List (Int × Int × Int)) (i j : Int) : S (k + 7) 14 [nV n, sd b l, nV i, nV j] = some (tigI n l i j) := by
  rw [S, sem_succ (mf := c14) rfl]
  have h16 := s16 k n b l
  cases hv : validB n l with
  | false =>
    rw [hv] at h16
    unfold tigI
    rw [hv, if_neg (by simp)]
    exact f14e _ _ n b l i j h16
  | true =>
    rw [hv] at h16
    obtain ⟨n, l, rfl, rfl, h⟩ := valid_vb hv
    rw [tigI_nb h]
    exact f14 _ _ n b l h i j h16 (s32 (k + 4) n b l h)
theorem s15 (k : Nat) (n : Int) (b : Bool) (l : List (Int × Int × Int)) (hl : l.length ≤ 1000) (i j : Int) : S (k + 4) 15 [nV n, sd b l, nV i, nV j] = some (tigI n l i j) := by
  rw [S, sem_succ (mf := c15) rfl]
  have h17 := s17 k n b l hl
  cases hv : validB n l with
  | false =>
    rw [hv] at h17
    unfold tigI
    rw [hv, if_neg (by simp)]
    exact f15e _ _ n b l i j h17
  | true =>
    rw [hv] at h17
    obtain ⟨n, l, rfl, rfl, h⟩ := valid_vb hv
    rw [tigI_nb h]
    exact f15 _ _ n b l h i j h17 (s33 (k + 2)) (s34 (k + 1) n b l h) (s35 (k + 2) n b l h)
theorem s18 (k : Nat) (n : Int) (b : Bool) (l : List (Int × Int × Int)) : S (k + 7) 18 [nV n, sd b l] = some (solI n l) := by
  rw [S, sem_succ (mf := c18) rfl]
  have h16 := s16 k n b l
  cases hv : validB n l with
  | false =>
    rw [hv] at h16
    unfold solI
    rw [hv, if_neg (by simp)]
    exact f18e _ _ n b l h16
  | true =>
    rw [hv] at h16
    obtain ⟨n, l, rfl, rfl, h⟩ := valid_vb hv
    rw [solI_nb h]
    exact f18 _ _ (by decide) n b l h h16 (s32 (k + 4) n b l h)
theorem s19 (k : Nat) (n : Int) (b : Bool) (l : List (Int × Int × Int)) (hl : l.length ≤ 1000) : S (k + 4) 19 [nV n, sd b l] = some (solI n l) := by
  rw [S, sem_succ (mf := c19) rfl]
  have h17 := s17 k n b l hl
  cases hv : validB n l with
  | false =>
    rw [hv] at h17
    unfold solI
    rw [hv, if_neg (by simp)]
    exact f19e _ _ n b l h17
  | true =>
    rw [hv] at h17
    obtain ⟨n, l, rfl, rfl, h⟩ := valid_vb hv
    rw [solI_nb h]
    exact f19 _ _ (by decide) n b l h h17 (s34 (k + 1) n b l h) (s35 (k + 2) n b l h)
/-- What Tight gives. -/
theorem tigI_shape (n : Int) (l : List (Int × Int × Int)) (i j : Int) : ∃ d b e, tigI n l i j = tgD d b e := by
  unfold tigI tigD tigM
  split
  · split
    · exact ⟨_, _, _, rfl⟩
    split
    · exact ⟨_, _, _, rfl⟩
    split <;> exact ⟨_, _, _, rfl⟩
  · exact ⟨_, _, _, rfl⟩
theorem solI_shape (n : Int) (l : List (Int × Int × Int)) : ∃ b m e, solI n l = slD (si b m) e ∧ m.length ≤ 16 := by
  unfold solI
  split
  · rename_i hv
    have := (valid_iff.1 hv).2.1
    unfold solD
    split
    · exact ⟨_, _, _, rfl, by simp⟩
    split
    · exact ⟨_, _, _, rfl, by simp⟩
    · exact ⟨_, _, _, rfl, by simp; omega⟩
  · exact ⟨_, _, _, rfl, by simp⟩
end Go.Mx
