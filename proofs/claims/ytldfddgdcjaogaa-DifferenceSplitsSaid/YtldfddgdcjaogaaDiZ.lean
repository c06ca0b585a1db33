import Derived.Test.YtldfddgdcjaogaaDiU
/-
  Bounds of differences: a system without a solution has a cycle that is found.
-/
namespace Go.Mx
set_option linter.unusedVariables false
set_option linter.unusedSimpArgs false
set_option linter.unusedSectionVars false
open Go

theorem nodup_sub : ∀ (l m : List Nat), l.Nodup → (∀ x ∈ l, x ∈ m) → l.length ≤ m.length
  | [], _, _, _ => Nat.zero_le _
  | x :: l, m, hn, hs => by
    rw [List.nodup_cons] at hn
    have hx := hs x (List.mem_cons_self ..)
    have := nodup_sub l (m.erase x) hn.2 (fun y hy => by
      have hne : y ≠ x := fun e => hn.1 (e ▸ hy)
      exact (List.mem_erase_of_ne hne).2 (hs y (List.mem_cons_of_mem _ hy)))
    rw [List.length_erase_of_mem hx] at this
    have : 0 < m.length := List.length_pos_of_mem hx
    simp only [List.length_cons]
    omega

/-- A list in which a value comes twice. -/
theorem twice {α β : Type} (f : α → β) : ∀ (l : List α), ¬ (l.map f).Nodup → ∃ A c1 B c2 D, l = A ++ c1 :: (B ++ c2 :: D) ∧ f c1 = f c2
  | [], h => absurd List.nodup_nil h
  | c :: l, h => by
    rw [List.map_cons, List.nodup_cons] at h
    by_cases hc : f c ∈ l.map f
    · obtain ⟨c2, h2, e⟩ := List.mem_map.1 hc
      obtain ⟨B, D, rfl⟩ := List.append_of_mem h2
      exact ⟨[], c, B, c2, D, rfl, e.symm⟩
    · have : ¬ (l.map f).Nodup := fun h' => h ⟨hc, h'⟩
      obtain ⟨A, c1, B, c2, D, rfl, e⟩ := twice f l this
      exact ⟨c :: A, c1, B, c2, D, rfl, e⟩

/-- A closed walk with a negative sum. -/
def Neg (l : List Bn) (w : List Bn) : Prop := ∃ i, isW l i w i ∧ sumW w < 0
theorem neg_min {l : List Bn} : ∀ (m : Nat) (w : List Bn), w.length = m → Neg l w → ∃ w', Neg l w' ∧ ∀ w2, Neg l w2 → w'.length ≤ w2.length := by
  intro m
  induction m using Nat.strongRecOn with
  | ind m ih =>
    intro w hw hn
    by_cases h : ∃ w2, Neg l w2 ∧ w2.length < m
    · obtain ⟨w2, h1, h2⟩ := h
      exact ih w2.length h2 w2 rfl h1
    · refine ⟨w, hn, fun w2 h2 => ?_⟩
      rcases Nat.lt_or_ge w2.length w.length with h3 | h3
      · exact absurd ⟨w2, h2, by omega⟩ h
      · exact h3
theorem min_nodup {l w : List Bn} (hn : Neg l w) (hm : ∀ w2, Neg l w2 → w.length ≤ w2.length) : (w.map (·.1)).Nodup := by
  by_cases h : (w.map (·.1)).Nodup
  · exact h
  exfalso
  obtain ⟨A, c1, B, c2, D, rfl, e⟩ := twice (·.1) w h
  obtain ⟨i, h1, h2⟩ := hn
  obtain ⟨j, ha, hb⟩ := isW_split h1
  obtain ⟨k, hc, hd⟩ := isW_split (l := c1 :: B) (m := c2 :: D) (by simpa using hb)
  have e1 : c1.1 = j := hc.2.1
  have e2 : c2.1 = k := hd.2.1
  have e : c1.1 = c2.1 := e
  have ejk : j = k := by rw [← e1, ← e2, e]
  subst ejk
  have s : sumW (A ++ c1 :: (B ++ c2 :: D)) = sumW (c1 :: B) + sumW (A ++ c2 :: D) := by
    simp only [sumW_app, sumW_cons]; omega
  rw [s] at h2
  by_cases h3 : sumW (c1 :: B) < 0
  · have := hm _ ⟨j, hc, h3⟩
    simp at this
    omega
  · have := hm _ ⟨i, isW_app ha hd, by omega⟩
    simp at this
    omega
theorem isW_mem {b : List Bn} : ∀ {l : List Bn} {i j : Nat}, isW b i l j → ∀ c ∈ l, c ∈ b
  | [], _, _, _, c, hc => by cases hc
  | d :: l, i, j, h, c, hc => by
    rcases List.mem_cons.1 hc with rfl | hc
    · exact h.1
    · exact isW_mem h.2.2 c hc
theorem W_walk {l : List Bn} {to : Nat} : ∀ (w : List Bn) {v : Nat}, isW l v w to → lle (W l to w.length v) (some (sumW w))
  | [], v, h => by
    have e : v = to := h
    subst e
    unfold W; rw [List.length_nil]; simp [W]
  | c :: w, v, h => by
    obtain ⟨h1, rfl, h3⟩ := h
    have ih := W_walk w h3
    have := wS_le (g := W l to w.length) h1
    refine lle_trans this ?_
    have := plus_mono (lle_refl (some c.2.2)) ih
    rw [sumW_cons]
    exact this
theorem isW_of {b b' : List Bn} : ∀ {l : List Bn} {i j : Nat}, isW b i l j → (∀ c ∈ l, c ∈ b') → isW b' i l j
  | [], _, _, h, _ => h
  | c :: l, _, _, h, hs => ⟨hs c (List.mem_cons_self ..), h.2.1, isW_of h.2.2 fun d hd => hs d (List.mem_cons_of_mem _ hd)⟩

theorem min_of {α : Type} (f : α → Nat) : ∀ (l : List α), l ≠ [] → ∃ c ∈ l, ∀ d ∈ l, f c ≤ f d
  | [], h => absurd rfl h
  | [c], _ => ⟨c, List.mem_cons_self .., fun d hd => by simp at hd; subst hd; exact Nat.le_refl _⟩
  | c :: c' :: l, _ => by
    obtain ⟨d, h1, h2⟩ := min_of f (c' :: l) (by simp)
    by_cases h : f c ≤ f d
    · refine ⟨c, List.mem_cons_self .., fun e he => ?_⟩
      rcases List.mem_cons.1 he with rfl | he
      · exact Nat.le_refl _
      · exact Nat.le_trans h (h2 e he)
    · refine ⟨d, List.mem_cons_of_mem _ h1, fun e he => ?_⟩
      rcases List.mem_cons.1 he with rfl | he
      · omega
      · exact h2 e he
theorem idx_nth {l : List Bn} {c : Bn} (h : c ∈ l) : l.idxOf c < l.length ∧ nth l zN (l.idxOf c) = c := by
  have h1 := List.idxOf_lt_length_of_mem h
  exact ⟨h1, by rw [nth_get zN h1]; exact List.getElem_idxOf h1⟩

/-- A system without a solution: the search finds a cycle. -/
theorem found {n : Nat} {l : List Bn} (h : VB n l) (hb : bad n l = true) : ∃ i, cF n l = some i := by
  obtain ⟨i0, w0, _, h0, h1⟩ := bad_cycle hb
  obtain ⟨w, hn, hm⟩ := neg_min w0.length w0 rfl ⟨i0, h0, h1⟩
  have hd := min_nodup hn hm
  obtain ⟨i, hw, hs⟩ := hn
  have hmem := isW_mem hw
  have hne : w ≠ [] := by rintro rfl; simp at hs
  -- the length
  have hlen : w.length ≤ n := by
    have := nodup_sub (w.map (·.1)) (List.range n) hd (fun x hx => by
      obtain ⟨c, hc, rfl⟩ := List.mem_map.1 hx
      exact List.mem_range.2 (h.ok c (hmem c hc)).1)
    simpa using this
  have hlen2 : 2 ≤ w.length := by
    match w, hne, hw, hmem with
    | [c], _, hw, hmem =>
      obtain ⟨h1, rfl, h3⟩ := hw
      exact absurd h3.symm (h.ok c h1).2.2
    | c :: d :: w, _, _, _ => simp
  -- the first bound
  obtain ⟨c, hc, hcm⟩ := min_of (fun c => l.idxOf c) w hne
  obtain ⟨A, B, rfl⟩ := List.append_of_mem hc
  obtain ⟨j, ha, hbc⟩ := isW_split hw
  obtain ⟨h2, rfl, h4⟩ := hbc
  have hrot : isW l c.2.1 (B ++ A) c.1 := isW_app h4 ha
  have hci := idx_nth h2
  have hothers : ∀ d ∈ B ++ A, d ∈ l.drop (l.idxOf c + 1) := by
    intro d hdm
    have hdm' : d ∈ A ++ c :: B := by
      rcases List.mem_append.1 hdm with h | h
      · exact List.mem_append_right _ (List.mem_cons_of_mem _ h)
      · exact List.mem_append_left _ h
    have hdi := idx_nth (hmem d hdm')
    have hle := hcm d hdm'
    have hnec : l.idxOf d ≠ l.idxOf c := by
      intro e
      have : d = c := by rw [← hdi.2, ← hci.2, e]
      subst this
      rw [List.map_append, List.map_cons, List.nodup_append] at hd
      obtain ⟨_, d2, d3⟩ := hd
      rw [List.nodup_cons] at d2
      rcases List.mem_append.1 hdm with h | h
      · exact d2.1 (List.mem_map.2 ⟨d, h, rfl⟩)
      · exact d3 d.1 (List.mem_map.2 ⟨d, h, rfl⟩) d.1 (List.mem_cons_self ..) rfl
    have hlt : l.idxOf c < l.idxOf d := by
      have : l.idxOf c ≤ l.idxOf d := hle
      omega
    have := nth_mem_drop (l := l) (s := l.idxOf c) (j := l.idxOf d - (l.idxOf c + 1)) (by omega)
    rw [show ad (l.idxOf c + 1) (l.idxOf d - (l.idxOf c + 1)) = l.idxOf d by unfold ad; omega, hdi.2] at this
    exact this
  have hW := W_walk (B ++ A) (isW_of hrot hothers)
  have hl2 : (B ++ A).length = (A ++ c :: B).length - 1 := by simp; omega
  have hsum : sumW (A ++ c :: B) = c.2.2 + sumW (B ++ A) := by simp only [sumW_app, sumW_cons]; omega
  have hng : ngC l (l.idxOf c) (A ++ c :: B).length = true := by
    unfold ngC wC
    rw [hci.2, ← hl2]
    cases e : W (l.drop (l.idxOf c + 1)) c.1 (B ++ A).length c.2.1 with
    | none => rw [e] at hW; exact absurd hW (by simp [lle])
    | some r =>
      rw [e, lle_some] at hW
      exact decide_eq_true (by omega)
  -- the search
  have hS : (cS l ((A ++ c :: B).length - 2 + 2)).isSome = true := by
    rw [show (A ++ c :: B).length - 2 + 2 = (A ++ c :: B).length by omega]
    unfold cS
    rw [List.find?_isSome]
    exact ⟨l.idxOf c, List.mem_range.2 hci.1, hng⟩
  have : (cF n l).isSome = true := by
    unfold cF
    rw [List.find?_isSome]
    exact ⟨(A ++ c :: B).length - 2, List.mem_range.2 (by omega), hS⟩
  exact Option.isSome_iff_exists.1 this
end Go.Mx
