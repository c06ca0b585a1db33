import Derived.Test.YtldfddgdcjaogaaMxYb
/-
  Bounds of differences: limits, least sums of walks.
-/
namespace Go.Mx
set_option linter.unusedVariables false
set_option linter.unusedSimpArgs false
set_option linter.unusedSectionVars false
open Go

/-- A limit: a number, or none. -/
abbrev Lm := Option Int
def less : Lm → Lm → Lm
  | none, b => b
  | some a, none => some a
  | some a, some b => if b < a then some b else some a
def plus : Lm → Lm → Lm
  | some a, some b => some (a + b)
  | _, _ => none
/-- At most. -/
def lle : Lm → Lm → Prop
  | _, none => True
  | some a, some b => a ≤ b
  | none, some _ => False

@[simp] theorem less_none (b : Lm) : less none b = b := rfl
@[simp] theorem less_none' (a : Lm) : less a none = a := by cases a <;> rfl
theorem less_some (a b : Int) : less (some a) (some b) = if b < a then some b else some a := rfl
@[simp] theorem plus_none (b : Lm) : plus none b = none := rfl
@[simp] theorem plus_none' (a : Lm) : plus a none = none := by cases a <;> rfl
@[simp] theorem plus_some (a b : Int) : plus (some a) (some b) = some (a + b) := rfl
@[simp] theorem plus_zero (a : Lm) : plus a (some 0) = a := by cases a <;> simp [plus]
@[simp] theorem zero_plus (a : Lm) : plus (some 0) a = a := by cases a <;> simp [plus]
theorem plus_assoc (a b c : Lm) : plus (plus a b) c = plus a (plus b c) := by
  cases a <;> cases b <;> cases c <;> simp [plus]; omega
@[simp] theorem lle_none (a : Lm) : lle a none := by cases a <;> trivial
@[simp] theorem lle_some (a b : Int) : lle (some a) (some b) ↔ a ≤ b := Iff.rfl
theorem lle_refl (a : Lm) : lle a a := by cases a <;> simp
theorem lle_trans {a b c : Lm} (h : lle a b) (k : lle b c) : lle a c := by
  cases a <;> cases b <;> cases c <;> simp_all [lle]
  omega
theorem lle_antisymm {a b : Lm} (h : lle a b) (k : lle b a) : a = b := by
  cases a <;> cases b <;> simp_all [lle]
  omega
theorem less_eq (a b : Lm) : less a b = a ∨ less a b = b := by
  cases a with
  | none => exact .inr rfl
  | some a =>
    cases b with
    | none => exact .inl rfl
    | some b =>
      rw [less_some]
      split
      · exact .inr rfl
      · exact .inl rfl
theorem less_left (a b : Lm) : lle (less a b) a := by
  cases a <;> cases b <;> simp [less]
  split <;> simp; omega
theorem less_right (a b : Lm) : lle (less a b) b := by
  cases a <;> cases b <;> simp [less, lle_refl]
  split <;> simp; omega
theorem less_of_le {a b : Lm} (h : lle a b) : less a b = a := by
  cases a <;> cases b <;> simp_all [less, lle]
  omega
theorem plus_mono {a b c d : Lm} (h : lle a b) (k : lle c d) : lle (plus a c) (plus b d) := by
  cases a <;> cases b <;> cases c <;> cases d <;> simp_all [plus, lle]
  omega

/-- Limits between all variables. -/
abbrev MM := Nat → Nat → Lm
/-- A round: by way of a variable. -/
def fwS (g : MM) (k : Nat) : MM := fun i j => less (g i j) (plus (g i k) (g k j))
def Dg (n : Nat) (g : MM) : Prop := ∀ i, i < n → g i i = some 0
def Cl (n : Nat) (g : MM) (m : Nat) : Prop := ∀ k, k < m → ∀ i, i < n → ∀ j, j < n → lle (g i j) (plus (g i k) (g k j))

theorem fw_row {g : MM} {k : Nat} (h : g k k = some 0) (j : Nat) : fwS g k k j = g k j := by
  unfold fwS; rw [h, zero_plus]; exact less_of_le (lle_refl _)
theorem fw_col {g : MM} {k : Nat} (h : g k k = some 0) (i : Nat) : fwS g k i k = g i k := by
  unfold fwS; rw [h, plus_zero]; exact less_of_le (lle_refl _)
theorem fw_le (g : MM) (k i j : Nat) : lle (fwS g k i j) (g i j) := less_left _ _

theorem fw_closed {n m : Nat} {g : MM} (hm : m < n) (hd : Dg n g) (hc : Cl n g m) : Cl n (fwS g m) (m + 1) := by
  intro k hk i hi j hj
  by_cases hkm : k = m
  · subst hkm
    rw [fw_row (hd k hm), fw_col (hd k hm)]
    exact less_right _ _
  have hk' : k < m := by omega
  have hkn : k < n := by omega
  have c1 := hc k hk' i hi j hj
  have c2 := hc k hk' i hi m hm
  have c3 := hc k hk' m hm j hj
  have c4 := hc k hk' m hm m hm
  have L : lle (fwS g m i j) (g i j) := less_left _ _
  have R : lle (fwS g m i j) (plus (g i m) (g m j)) := less_right _ _
  rcases less_eq (g i k) (plus (g i m) (g m k)) with h1 | h1 <;> rcases less_eq (g k j) (plus (g k m) (g m j)) with h2 | h2
  · show lle _ (plus (less _ _) (less _ _))
    rw [h1, h2]; exact lle_trans L c1
  · show lle _ (plus (less _ _) (less _ _))
    rw [h1, h2, ← plus_assoc]
    exact lle_trans R (plus_mono c2 (lle_refl _))
  · show lle _ (plus (less _ _) (less _ _))
    rw [h1, h2, plus_assoc]
    exact lle_trans R (plus_mono (lle_refl _) c3)
  · show lle _ (plus (less _ _) (less _ _))
    rw [h1, h2, plus_assoc, ← plus_assoc (g m k)]
    refine lle_trans R (plus_mono (lle_refl _) ?_)
    rw [hd m hm] at c4
    have := plus_mono c4 (lle_refl (g m j))
    rwa [zero_plus] at this

/-- A bound between two variables. -/
abbrev Bn := Nat × Nat × Int
def upM (g : MM) (i j : Nat) (x : Lm) : MM := fun r c => if r = i ∧ c = j then x else g r c
def addB (g : MM) (c : Bn) : MM := upM g c.1 c.2.1 (less (g c.1 c.2.1) (some c.2.2))
def idM : MM := fun i j => if i = j then some 0 else none
def m0 (b : List Bn) : MM := b.foldl addB idM
/-- After some rounds. -/
def fwN (b : List Bn) : Nat → MM
  | 0 => m0 b
  | k + 1 => fwS (fwN b k) k
def ngL (a : Lm) : Bool := match a with
  | some v => v < 0
  | none => false
/-- A negative number on the diagonal after a round. -/
def ngD (n : Nat) (g : MM) : Bool := (List.range n).any fun i => ngL (g i i)
def bad (n : Nat) (b : List Bn) : Bool := (List.range n).any fun k => ngD n (fwN b (k + 1))

/-- Bounds between variables that are there. -/
def OkB (n : Nat) (b : List Bn) : Prop := ∀ c ∈ b, c.1 < n ∧ c.2.1 < n ∧ c.1 ≠ c.2.1

theorem foldl_addB_le (b : List Bn) (g : MM) (i j : Nat) : lle (b.foldl addB g i j) (g i j) := by
  induction b generalizing g with
  | nil => exact lle_refl _
  | cons c b ih =>
    refine lle_trans (ih _) ?_
    unfold addB upM
    split
    · rename_i h; rw [← h.1, ← h.2]; exact less_left _ _
    · exact lle_refl _
theorem foldl_addB_mem (b : List Bn) (g : MM) (c : Bn) (hc : c ∈ b) : lle (b.foldl addB g c.1 c.2.1) (some c.2.2) := by
  induction b generalizing g with
  | nil => cases hc
  | cons d b ih =>
    rcases List.mem_cons.1 hc with rfl | hc
    · refine lle_trans (foldl_addB_le b _ _ _) ?_
      unfold addB upM
      rw [if_pos ⟨rfl, rfl⟩]; exact less_right _ _
    · exact ih _ hc
theorem foldl_addB_dg {n : Nat} (b : List Bn) (hb : OkB n b) (g : MM) (i : Nat) : b.foldl addB g i i = g i i := by
  induction b generalizing g with
  | nil => rfl
  | cons c b ih =>
    rw [List.foldl_cons, ih fun d hd => hb d (List.mem_cons_of_mem _ hd)]
    unfold addB upM
    have := (hb c (List.mem_cons_self ..)).2.2
    rw [if_neg]; rintro ⟨rfl, h⟩; exact this h

theorem fwN_le (b : List Bn) (k i j : Nat) : lle (fwN b k i j) (m0 b i j) := by
  induction k with
  | zero => exact lle_refl _
  | succ k ih => exact lle_trans (fw_le _ _ _ _) ih
theorem fwN_dg {n : Nat} {b : List Bn} (hb : OkB n b) {k : Nat} (h : ∀ j, j < k → ngD n (fwN b (j + 1)) = false) : Dg n (fwN b k) := by
  intro i hi
  have h0 : m0 b i i = some 0 := by rw [m0, foldl_addB_dg b hb]; simp [idM]
  have h1 := fwN_le b k i i
  rw [h0] at h1
  cases k with
  | zero => exact h0
  | succ k =>
    have h2 := h k (by omega)
    unfold ngD at h2
    rw [any_range] at h2
    have h3 := h2 i hi
    generalize fwN b (k + 1) i i = x at *
    cases x with
    | none => exact absurd h1 (by simp [lle])
    | some v => simp [ngL] at h3; simp at h1; congr 1; omega
theorem fwN_cl {n : Nat} {b : List Bn} (hb : OkB n b) : ∀ (k : Nat), k ≤ n → (∀ j, j < k → ngD n (fwN b (j + 1)) = false) → Cl n (fwN b k) k
  | 0, _, _ => fun k hk => absurd hk (by omega)
  | k + 1, hk, h => fw_closed (by omega) (fwN_dg hb fun j hj => h j (by omega)) (fwN_cl hb k (by omega) fun j hj => h j (by omega))

/-- Limits that hold together. -/
structure Sol (n : Nat) (b : List Bn) (g : MM) : Prop where
  dg : Dg n g
  cl : Cl n g n
  le : ∀ c ∈ b, lle (g c.1 c.2.1) (some c.2.2)

theorem bad_false {n : Nat} {b : List Bn} (h : bad n b = false) {k : Nat} (hk : k < n) : ngD n (fwN b (k + 1)) = false := (any_range n _).1 h k hk
theorem sol_of {n : Nat} {b : List Bn} (hb : OkB n b) (h : bad n b = false) : Sol n b (fwN b n) where
  dg := fwN_dg hb fun j hj => bad_false h hj
  cl := fwN_cl hb n (Nat.le_refl _) fun j hj => bad_false h hj
  le := fun c hc => lle_trans (fwN_le b n _ _) (foldl_addB_mem b _ c hc)

/-! ### walks -/
def isW (b : List Bn) : Nat → List Bn → Nat → Prop
  | i, [], j => i = j
  | i, c :: l, j => c ∈ b ∧ c.1 = i ∧ isW b c.2.1 l j
def sumW (l : List Bn) : Int := (l.map (·.2.2)).sum
@[simp] theorem sumW_nil : sumW [] = 0 := rfl
@[simp] theorem sumW_cons (c : Bn) (l : List Bn) : sumW (c :: l) = c.2.2 + sumW l := by simp [sumW]
theorem sumW_app (l m : List Bn) : sumW (l ++ m) = sumW l + sumW m := by
  induction l with
  | nil => simp
  | cons c l ih => simp [ih]; omega
theorem isW_app {b : List Bn} {l m : List Bn} {i j k : Nat} (h : isW b i l j) (h2 : isW b j m k) : isW b i (l ++ m) k := by
  induction l generalizing i with
  | nil => cases h; exact h2
  | cons c l ih => exact ⟨h.1, h.2.1, ih h.2.2⟩
theorem isW_split {b : List Bn} {l m : List Bn} {i k : Nat} (h : isW b i (l ++ m) k) : ∃ j, isW b i l j ∧ isW b j m k := by
  induction l generalizing i with
  | nil => exact ⟨i, rfl, h⟩
  | cons c l ih =>
    obtain ⟨j, h1, h2⟩ := ih h.2.2
    exact ⟨j, ⟨h.1, h.2.1, h1⟩, h2⟩
theorem isW_mono {b b' : List Bn} (hs : ∀ c ∈ b, c ∈ b') {l : List Bn} {i j : Nat} (h : isW b i l j) : isW b' i l j := by
  induction l generalizing i with
  | nil => exact h
  | cons c l ih => exact ⟨hs c h.1, h.2.1, ih h.2.2⟩

/-- No walk is less. -/
theorem sol_walk {n : Nat} {b : List Bn} (hb : OkB n b) {g : MM} (hg : Sol n b g) {l : List Bn} {i j : Nat} (hi : i < n) (hj : j < n) (h : isW b i l j) : lle (g i j) (some (sumW l)) := by
  induction l generalizing i with
  | nil =>
    have e : i = j := h
    subst e
    rw [hg.dg i hi]; simp
  | cons c l ih =>
    obtain ⟨h1, rfl, h3⟩ := h
    have hc := hb c h1
    have := ih hc.2.1 h3
    have t := hg.cl c.2.1 hc.2.1 c.1 hi j hj
    have := plus_mono (hg.le c h1) this
    rw [plus_some] at this
    rw [sumW_cons]
    exact lle_trans t this
theorem sol_cycle {n : Nat} {b : List Bn} (hb : OkB n b) {g : MM} (hg : Sol n b g) {l : List Bn} {i : Nat} (hi : i < n) (h : isW b i l i) : 0 ≤ sumW l := by
  have := sol_walk hb hg hi hi h
  rw [hg.dg i hi] at this
  simpa using this

/-- Each limit is the sum of a walk. -/
theorem m0_walk (b : List Bn) {i j : Nat} {v : Int} (h : m0 b i j = some v) : ∃ l, isW b i l j ∧ sumW l = v := by
  have : ∀ (b' : List Bn) (g : MM), (∀ c ∈ b', c ∈ b) → (∀ i j v, g i j = some v → ∃ l, isW b i l j ∧ sumW l = v) → ∀ i j v, b'.foldl addB g i j = some v → ∃ l, isW b i l j ∧ sumW l = v := by
    intro b'
    induction b' with
    | nil => intro g _ h; exact h
    | cons c b' ih =>
      intro g hs hg
      refine ih _ (fun d hd => hs d (List.mem_cons_of_mem _ hd)) ?_
      intro i j v hv
      unfold addB upM at hv
      split at hv
      · rename_i hij
        obtain ⟨rfl, rfl⟩ := hij
        rcases less_eq (g c.1 c.2.1) (some c.2.2) with e | e
        · rw [e] at hv; exact hg _ _ _ hv
        · rw [e] at hv
          cases hv
          exact ⟨[c], ⟨hs c (List.mem_cons_self ..), rfl, rfl⟩, by simp⟩
      · exact hg _ _ _ hv
  refine this b idM (fun _ h => h) ?_ i j v h
  intro i j v hv
  unfold idM at hv
  split at hv
  · rename_i hij; subst hij; cases hv; exact ⟨[], rfl, rfl⟩
  · cases hv
theorem fwN_walk (b : List Bn) : ∀ (k : Nat) {i j : Nat} {v : Int}, fwN b k i j = some v → ∃ l, isW b i l j ∧ sumW l = v
  | 0, _, _, _, h => m0_walk b h
  | k + 1, i, j, v, h => by
    have h : less (fwN b k i j) (plus (fwN b k i k) (fwN b k k j)) = some v := h
    rcases less_eq (fwN b k i j) (plus (fwN b k i k) (fwN b k k j)) with e | e
    · rw [e] at h; exact fwN_walk b k h
    · rw [e] at h
      cases h1 : fwN b k i k with
      | none => rw [h1] at h; simp at h
      | some x =>
        cases h2 : fwN b k k j with
        | none => rw [h1, h2] at h; simp at h
        | some y =>
          rw [h1, h2, plus_some] at h
          obtain ⟨l, l1, l2⟩ := fwN_walk b k h1
          obtain ⟨m, m1, m2⟩ := fwN_walk b k h2
          refine ⟨l ++ m, isW_app l1 m1, ?_⟩
          rw [sumW_app, l2, m2]
          exact Option.some.inj h
/-- There is no solution exactly if a closed walk has a negative sum. -/
theorem bad_cycle {n : Nat} {b : List Bn} (h : bad n b = true) : ∃ i l, i < n ∧ isW b i l i ∧ sumW l < 0 := by
  unfold bad at h
  obtain ⟨k, _, h1⟩ := List.any_eq_true.1 h
  obtain ⟨i, h2, h3⟩ := List.any_eq_true.1 h1
  cases e : fwN b (k + 1) i i with
  | none => rw [e] at h3; simp [ngL] at h3
  | some v =>
    rw [e] at h3
    obtain ⟨l, l1, l2⟩ := fwN_walk b (k + 1) e
    exact ⟨i, l, List.mem_range.1 h2, l1, by simpa [ngL, l2] using h3⟩
theorem good_of_sol {n : Nat} {b : List Bn} (hb : OkB n b) {g : MM} (hg : Sol n b g) : bad n b = false := by
  cases h : bad n b with
  | false => rfl
  | true =>
    obtain ⟨i, l, hi, h1, h2⟩ := bad_cycle h
    have := sol_cycle hb hg hi h1
    omega
end Go.Mx
