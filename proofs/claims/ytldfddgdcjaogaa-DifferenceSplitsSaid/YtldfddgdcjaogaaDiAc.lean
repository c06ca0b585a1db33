import Derived.Test.YtldfddgdcjaogaaDiAa
import Derived.Test.YtldfddgdcjaogaaDiY
/-
  Differences: the cycle that is found is simple; a bounded system has a small solution.
-/
namespace Go.Mx
set_option linter.unusedVariables false
set_option linter.unusedSimpArgs false
set_option linter.unusedSectionVars false
open Go

/-! ### walks by their places -/
theorem isW_chain {b : List Bn} : ∀ {w : List Bn} {i j : Nat}, isW b i w j → (∀ k, k + 1 < w.length → (nth w zN k).2.1 = (nth w zN (k + 1)).1) ∧ (w ≠ [] → (nth w zN 0).1 = i ∧ (nth w zN (w.length - 1)).2.1 = j)
  | [], _, _, _ => ⟨fun k hk => by simp at hk, fun h => absurd rfl h⟩
  | [c], i, j, h => by
    refine ⟨fun k hk => by simp at hk, fun _ => ⟨h.2.1, h.2.2⟩⟩
  | c :: d :: w, i, j, h => by
    obtain ⟨h1, h2⟩ := isW_chain h.2.2
    obtain ⟨h3, h4⟩ := h2 (by simp)
    refine ⟨fun k hk => ?_, fun _ => ⟨h.2.1, ?_⟩⟩
    · cases k with
      | zero => exact h3.symm
      | succ k => exact h1 k (by simpa using hk)
    · exact h4
def wk (l : List Bn) (y : List Nat) : List Bn := y.map fun t => nth l zN t
theorem wk_nth {l : List Bn} {y : List Nat} {k : Nat} (h : k < y.length) : nth (wk l y) zN k = nth l zN (nth y 0 k) := by
  unfold wk
  rw [nth_get zN (by simpa using h), nth_get 0 h]
  simp
theorem cSum_take (l : List Bn) (y : List Nat) : ∀ k, k ≤ y.length → cSum l y k = sumW (wk l (y.take k))
  | 0, _ => by simp [cSum, wk]
  | k + 1, hk => by
    have e : y.take (k + 1) = y.take k ++ [nth y 0 k] := by
      rw [List.take_add_one, List.getElem?_eq_getElem (by omega), nth_get 0 (by omega)]; rfl
    rw [cSum, cSum_take l y k (by omega), e]
    unfold wk
    rw [List.map_append, sumW_app]
    simp
/-- A closed walk with a negative sum is a cycle. -/
theorem cyc_walk {l : List Bn} {y : List Nat} (h0 : ¬ y.length = 0) {i : Nat} (hw : isW l i (wk l y) i) (hs : sumW (wk l y) < 0) : cycB l y = true := by
  obtain ⟨h1, h2⟩ := isW_chain hw
  have hlen : (wk l y).length = y.length := by simp [wk]
  obtain ⟨h3, h4⟩ := h2 (by intro e; rw [e] at hlen; simp at hlen; omega)
  unfold cycB
  have hc : (List.range y.length).any (cJ l y) = false := by
    rw [any_range]
    intro k hk
    unfold cJ nxP
    rw [decide_eq_false_iff_not, Decidable.not_not]
    by_cases hk1 : k + 1 < y.length
    · rw [Nat.mod_eq_of_lt hk1, ← wk_nth hk, ← wk_nth hk1]
      exact h1 k (by omega)
    · have e : k + 1 = y.length := by omega
      rw [e, Nat.mod_self, ← wk_nth hk, ← wk_nth (show 0 < y.length by omega), h3]
      rw [show k = (wk l y).length - 1 by omega]
      exact h4
  rw [hc, cSum_take l y y.length (Nat.le_refl _), List.take_length]
  simp [hs]

/-! ### the search, as a walk -/
structure StJ (l : List Bn) (s k : Nat) (q : CS) : Prop where
  cnt : q.1.length = k + 1
  hd : nth q.1 0 0 = s
  walk : isW l (nth l zN s).1 (wk l q.1) q.2.2
  sum : sumW (wk l q.1) = q.2.1
  lo : ∀ t ∈ q.1, t < l.length ∧ s ≤ t
theorem stK_walk {n : Nat} {l : List Bn} (h : VB n l) {s len : Nat} (hs : s < l.length) (hg : ngC l s len = true) : ∀ k, k ≤ len - 1 → StJ l s k (stK l (wC l s) s len k)
  | 0, _ => by
    refine ⟨rfl, rfl, ⟨nth_mem zN hs, rfl, rfl⟩, ?_, ?_⟩
    · show sumW [nth l zN s] = (nth l zN s).2.2
      simp
    · intro t ht
      have : t = s := by simpa [stK] using ht
      subst this
      exact ⟨hs, Nat.le_refl _⟩
  | k + 1, hk => by
    have ih := stK_walk h hs hg k (by omega)
    have hI := stK_ok h hs hg k (by omega)
    show StJ l s (k + 1) (stp l (wC l s) s (len - 2 - k) (stK l (wC l s) s len k))
    generalize stK l (wC l s) s len k = q at *
    obtain ⟨r, h1, h2⟩ := hI.left
    rw [show len - 1 - k = (len - 2 - k) + 1 by omega] at h1
    obtain ⟨j, h3, h4, h5⟩ := pick_some h1 h2
    unfold stp
    rw [h3]
    have ht : ad (s + 1) j < l.length := by unfold ad; omega
    obtain ⟨h8, _⟩ := cnd_iff.1 h5
    have e : wk l (q.1 ++ [ad (s + 1) j]) = wk l q.1 ++ [nth l zN (ad (s + 1) j)] := by simp [wk]
    refine ⟨?_, ?_, ?_, ?_, ?_⟩
    · show (q.1 ++ [_]).length = _
      rw [List.length_append, ih.cnt]; rfl
    · show nth (q.1 ++ [_]) 0 0 = s
      rw [← ih.hd]
      have := ih.cnt
      rw [nth_get 0 (by simp), nth_get 0 (by omega), List.getElem_append_left (by omega)]
    · show isW l _ (wk l (q.1 ++ [ad (s + 1) j])) _
      rw [e]
      exact isW_app ih.walk ⟨nth_mem zN ht, h8, rfl⟩
    · show sumW (wk l (q.1 ++ [ad (s + 1) j])) = q.2.1 + _
      rw [e, sumW_app, ih.sum]; simp
    · intro t ht'
      rcases List.mem_append.1 ht' with ht' | ht'
      · exact ih.lo t ht'
      · have : t = ad (s + 1) j := by simpa using ht'
        subst this
        exact ⟨ht, by unfold ad; omega⟩
theorem cC_walk {n : Nat} {l : List Bn} (h : VB n l) {s len : Nat} (hs : s < l.length) (h2 : 2 ≤ len) (hg : ngC l s len = true) :
    (cC l s len).length = len ∧ nth (cC l s len) 0 0 = s ∧ isW l (nth l zN s).1 (wk l (cC l s len)) (nth l zN s).1 ∧ sumW (wk l (cC l s len)) < 0 ∧ ∀ t ∈ cC l s len, t < l.length ∧ s ≤ t := by
  have hI := stK_ok h hs hg (len - 1) (Nat.le_refl _)
  have hJ := stK_walk h hs hg (len - 1) (Nat.le_refl _)
  unfold cC
  generalize stK l (wC l s) s len (len - 1) = q at *
  obtain ⟨r, h3, h4⟩ := hI.left
  rw [Nat.sub_self] at h3
  unfold wC W at h3
  split at h3
  · rename_i hat
    cases h3
    have hc := hJ.cnt
    refine ⟨by omega, hJ.hd, ?_, by rw [hJ.sum]; omega, hJ.lo⟩
    have := hJ.walk
    rwa [hat] at this
  · cases h3

/-- The shortest closed walk with a negative sum is found at its length. -/
theorem found_at {n : Nat} {l : List Bn} (h : VB n l) {w : List Bn} (hn : Neg l w) (hm : ∀ w2, Neg l w2 → w.length ≤ w2.length) : 2 ≤ w.length ∧ w.length ≤ n ∧ (cS l w.length).isSome = true := by
  have hd := min_nodup hn hm
  obtain ⟨i, hw, hs⟩ := hn
  have hmem := isW_mem hw
  have hne : w ≠ [] := by rintro rfl; simp at hs
  have hlen : w.length ≤ n := by
    have := nodup_sub (w.map (·.1)) (List.range n) hd (fun x hx => by
      obtain ⟨c, hc, rfl⟩ := List.mem_map.1 hx
      exact List.mem_range.2 (h.ok c (hmem c hc)).1)
    simpa using this
  have hlen2 : 2 ≤ w.length := by
    match w, hne, hw, hmem with
    | [c], _, hw, hmem =>
      obtain ⟨h1, rfl, h3⟩ := hw
      exact absurd h3.symm (h.ok c h1).2.2
    | c :: d :: w, _, _, _ => simp
  refine ⟨hlen2, hlen, ?_⟩
  obtain ⟨c, hc, hcm⟩ := min_of (fun c => l.idxOf c) w hne
  obtain ⟨A, B, rfl⟩ := List.append_of_mem hc
  obtain ⟨j, ha, hbc⟩ := isW_split hw
  obtain ⟨h2, rfl, h4⟩ := hbc
  have hrot : isW l c.2.1 (B ++ A) c.1 := isW_app h4 ha
  have hci := idx_nth h2
  have hothers : ∀ d ∈ B ++ A, d ∈ l.drop (l.idxOf c + 1) := by
    intro d hdm
    have hdm' : d ∈ A ++ c :: B := by
      rcases List.mem_append.1 hdm with h | h
      · exact List.mem_append_right _ (List.mem_cons_of_mem _ h)
      · exact List.mem_append_left _ h
    have hdi := idx_nth (hmem d hdm')
    have hle := hcm d hdm'
    have hnec : l.idxOf d ≠ l.idxOf c := by
      intro e
      have : d = c := by rw [← hdi.2, ← hci.2, e]
      subst this
      rw [List.map_append, List.map_cons, List.nodup_append] at hd
      obtain ⟨_, d2, d3⟩ := hd
      rw [List.nodup_cons] at d2
      rcases List.mem_append.1 hdm with h | h
      · exact d2.1 (List.mem_map.2 ⟨d, h, rfl⟩)
      · exact d3 d.1 (List.mem_map.2 ⟨d, h, rfl⟩) d.1 (List.mem_cons_self ..) rfl
    have hlt : l.idxOf c < l.idxOf d := by
      have : l.idxOf c ≤ l.idxOf d := hle
      omega
    have := nth_mem_drop (l := l) (s := l.idxOf c) (j := l.idxOf d - (l.idxOf c + 1)) (by omega)
    rw [show ad (l.idxOf c + 1) (l.idxOf d - (l.idxOf c + 1)) = l.idxOf d by unfold ad; omega, hdi.2] at this
    exact this
  have hW := W_walk (B ++ A) (isW_of hrot hothers)
  have hl2 : (B ++ A).length = (A ++ c :: B).length - 1 := by simp; omega
  have hsum : sumW (A ++ c :: B) = c.2.2 + sumW (B ++ A) := by simp only [sumW_app, sumW_cons]; omega
  have hng : ngC l (l.idxOf c) (A ++ c :: B).length = true := by
    unfold ngC wC
    rw [hci.2, ← hl2]
    cases e : W (l.drop (l.idxOf c + 1)) c.1 (B ++ A).length c.2.1 with
    | none => rw [e] at hW; exact absurd hW (by simp [lle])
    | some r =>
      rw [e, lle_some] at hW
      exact decide_eq_true (by omega)
  unfold cS
  rw [List.find?_isSome]
  exact ⟨l.idxOf c, List.mem_range.2 hci.1, hng⟩

/-- What the search finds. -/
theorem found_ok {n : Nat} {l : List Bn} (h : VB n l) {i : Nat} (hf : cF n l = some i) : ∃ s, s < l.length ∧ cR l (i + 2) = cC l s (i + 2) ∧ ngC l s (i + 2) = true ∧ i + 2 ≤ n ∧ ((wk l (cC l s (i + 2))).map (·.1)).Nodup := by
  have hf' : (List.range (n - 1)).find? (fun i => (cS l (i + 2)).isSome) = some i := hf
  have hi := List.mem_range.1 (List.mem_of_find?_eq_some hf')
  have hs := List.find?_some hf'
  obtain ⟨s, hs⟩ := Option.isSome_iff_exists.1 hs
  have hs' : (List.range l.length).find? (fun s => ngC l s (i + 2)) = some s := hs
  have h1 := List.mem_range.1 (List.mem_of_find?_eq_some hs')
  have h2 := List.find?_some hs'
  refine ⟨s, h1, by unfold cR; rw [hs]; rfl, h2, by omega, ?_⟩
  obtain ⟨g1, _, g3, g4, _⟩ := cC_walk h h1 (by omega) h2
  refine min_nodup ⟨_, g3, g4⟩ fun w2 hn2 => ?_
  have hl : (wk l (cC l s (i + 2))).length = i + 2 := by simp [wk, g1]
  rw [hl]
  obtain ⟨w3, hn3, hm3⟩ := neg_min w2.length w2 rfl hn2
  obtain ⟨f1, f2, f3⟩ := found_at h hn3 hm3
  have hle := hm3 w2 hn2
  rcases Nat.lt_or_ge w3.length (i + 2) with hlt | hge
  · exfalso
    rw [List.find?_range_eq_some] at hf'
    have := hf'.2.2 (w3.length - 2) (by omega)
    rw [show w3.length - 2 + 2 = w3.length by omega, f3] at this
    simp at this
  · omega
/-! ### bounded systems -/
def addsL (n : Nat) : List Bn := row (n - 1) fun i => (0, i + 1, 1000000)
theorem adds_mem {n : Nat} {c : Bn} : c ∈ addsL n ↔ ∃ j, 1 ≤ j ∧ j < n ∧ c = (0, j, 1000000) := by
  unfold addsL row
  rw [List.mem_map]
  constructor
  · rintro ⟨i, hi, rfl⟩
    have := List.mem_range.1 hi
    exact ⟨i + 1, by omega, by omega, rfl⟩
  · rintro ⟨j, h1, h2, rfl⟩
    exact ⟨j - 1, List.mem_range.2 (by omega), by rw [show j - 1 + 1 = j by omega]⟩
theorem bounded_vb {n : Nat} {l : List Bn} (h : VB n l) (hl : l.length ≤ 60) : VB n (l ++ addsL n) := by
  have hn := h.n16
  refine ⟨?_, ?_, h.n1, h.n16, by simp [addsL]; omega⟩
  · intro c hc
    rcases List.mem_append.1 hc with hc | hc
    · exact h.ok c hc
    · obtain ⟨j, h1, h2, rfl⟩ := adds_mem.1 hc
      refine ⟨by show 0 < n; omega, h2, ?_⟩
      show (0 : Nat) ≠ j
      omega
  · intro c hc
    rcases List.mem_append.1 hc with hc | hc
    · exact h.c c hc
    · obtain ⟨j, h1, h2, rfl⟩ := adds_mem.1 hc
      exact ⟨by show (-1000000 : Int) ≤ 1000000; omega, by show (1000000 : Int) ≤ 1000000; omega⟩
theorem sum_lo {k : Int} : ∀ {w : List Bn}, (∀ d ∈ w, -k ≤ d.2.2) → 0 ≤ k → -k * (w.length : Int) ≤ sumW w
  | [], _, _ => by simp
  | c :: w, h, hk => by
    have ih := sum_lo (w := w) (fun d hd => h d (List.mem_cons_of_mem _ hd)) hk
    have := h c (List.mem_cons_self ..)
    rw [sumW_cons, List.length_cons]
    have e : -k * ((w.length + 1 : Nat) : Int) = -k * (w.length : Int) + -k := by
      rw [Int.natCast_add, Int.mul_add]; simp
    rw [e]; omega
def smallB (l : List Bn) : Prop := ∀ c ∈ l, -60000 ≤ c.2.2 ∧ c.2.2 ≤ 60000
theorem bounded_good {n : Nat} {l : List Bn} (h : VB n l) (hl : l.length ≤ 60) (hs : smallB l) (hb : bad n l = false) : bad n (l ++ addsL n) = false := by
  cases hb' : bad n (l ++ addsL n) with
  | false => rfl
  | true =>
    exfalso
    have h' := bounded_vb h hl
    have hn := h.n16
    obtain ⟨i0, w0, _, g0, g1⟩ := bad_cycle hb'
    obtain ⟨w, hneg, hm⟩ := neg_min w0.length w0 rfl ⟨i0, g0, g1⟩
    have hd := min_nodup hneg hm
    obtain ⟨_, hlen, _⟩ := found_at h' hneg hm
    obtain ⟨i, hw, hsum⟩ := hneg
    have hmem := isW_mem hw
    by_cases hall : ∀ c ∈ w, c ∈ l
    · have hw' := isW_of hw hall
      have hne : w ≠ [] := by rintro rfl; simp at hsum
      have hi : i < n := by
        match w, hne, hw', hall with
        | c :: w, _, hw', _ =>
          obtain ⟨g2, rfl, _⟩ := hw'
          exact (h.ok c g2).1
      have := sol_cycle h.ok (sol_of h.ok hb) hi hw'
      omega
    · obtain ⟨c, hc⟩ := Classical.not_forall.1 hall
      obtain ⟨hcw, hcl⟩ := Classical.not_imp.1 hc
      have hca : c ∈ addsL n := by
        rcases List.mem_append.1 (hmem c hcw) with g | g
        · exact absurd g hcl
        · exact g
      obtain ⟨j, _, _, rfl⟩ := adds_mem.1 hca
      obtain ⟨A, B, rfl⟩ := List.append_of_mem hcw
      rw [List.map_append, List.map_cons, List.nodup_append] at hd
      obtain ⟨_, d2, d3⟩ := hd
      rw [List.nodup_cons] at d2
      have hin : ∀ d, d ∈ A ++ (0, j, 1000000) :: B → d.1 ≠ 0 → d ∈ l := by
        intro d hd' h0
        rcases List.mem_append.1 (hmem d hd') with g | g
        · exact g
        · obtain ⟨j', _, _, rfl⟩ := adds_mem.1 g
          exact absurd rfl h0
      have hA : ∀ d ∈ A, -60000 ≤ d.2.2 := fun d hd' => (hs d (hin d (List.mem_append_left _ hd') fun e => d3 d.1 (List.mem_map.2 ⟨d, hd', rfl⟩) 0 (List.mem_cons_self ..) e)).1
      have hB : ∀ d ∈ B, -60000 ≤ d.2.2 := fun d hd' => (hs d (hin d (List.mem_append_right _ (List.mem_cons_of_mem _ hd')) fun e => d2.1 (List.mem_map.2 ⟨d, hd', e⟩))).1
      have sA := sum_lo hA (by omega)
      have sB := sum_lo hB (by omega)
      rw [sumW_app, sumW_cons] at hsum
      simp at hlen hsum
      omega

/-- A walk without a variable twice that is no longer. -/
theorem short {n : Nat} {b : List Bn} (hb : OkB n b) {g : MM} (hg : Sol n b g) {i j : Nat} : ∀ (m : Nat) (w : List Bn), w.length = m → isW b i w j → ∃ w', isW b i w' j ∧ sumW w' ≤ sumW w ∧ (w'.map (·.1)).Nodup := by
  intro m
  induction m using Nat.strongRecOn with
  | ind m ih =>
    intro w hm hw
    by_cases h : (w.map (·.1)).Nodup
    · exact ⟨w, hw, Int.le_refl _, h⟩
    obtain ⟨A, c1, B, c2, D, rfl, e⟩ := twice (·.1) w h
    obtain ⟨j', ha, hb'⟩ := isW_split hw
    obtain ⟨k, hc, hd⟩ := isW_split (l := c1 :: B) (m := c2 :: D) (by simpa using hb')
    have e1 : c1.1 = j' := hc.2.1
    have e2 : c2.1 = k := hd.2.1
    have e : c1.1 = c2.1 := e
    have ejk : j' = k := by rw [← e1, ← e2, e]
    subst ejk
    have hlt : j' < n := by rw [← e1]; exact (hb c1 hc.1).1
    have h0 := sol_cycle hb hg hlt hc
    obtain ⟨w', q1, q2, q3⟩ := ih (A ++ c2 :: D).length (by rw [← hm]; simp; omega) _ rfl (isW_app ha hd)
    refine ⟨w', q1, ?_, q3⟩
    have s : sumW (A ++ c1 :: (B ++ c2 :: D)) = sumW (c1 :: B) + sumW (A ++ c2 :: D) := by
      simp only [sumW_app, sumW_cons]; omega
    rw [s]; omega
/-- The greatest solution of a bounded system. -/
theorem bounded_sol {n : Nat} {l : List Bn} (h : VB n l) (hl : l.length ≤ 60) (hs : smallB l) (hb : bad n l = false) :
    noneAt n (l ++ addsL n) = false ∧ holdB n l (row n (lzG (fwN (l ++ addsL n) n) 0)) = true := by
  have h' := bounded_vb h hl
  have hb' := bounded_good h hl hs hb
  have hg := sol_of h'.ok hb'
  have hn := h.n16
  have hn1 := h.n1
  have val : ∀ j, j < n → ∃ v, fwN (l ++ addsL n) n 0 j = some v ∧ -1000000000 ≤ v ∧ v ≤ 1000000000 := by
    intro j hj
    have hup : lle (fwN (l ++ addsL n) n 0 j) (some 1000000) := by
      by_cases h0 : j = 0
      · subst h0
        rw [hg.dg 0 hj]
        simp
      · exact hg.le (0, j, 1000000) (List.mem_append_right _ (adds_mem.2 ⟨j, by omega, hj, rfl⟩))
    cases e : fwN (l ++ addsL n) n 0 j with
    | none => rw [e] at hup; exact absurd hup (by simp [lle])
    | some v =>
      rw [e, lle_some] at hup
      refine ⟨v, rfl, ?_, by omega⟩
      obtain ⟨w, h1, rfl⟩ := fwN_walk _ n e
      obtain ⟨w', h2, h3, h4⟩ := short h'.ok hg w.length w rfl h1
      have hm := isW_mem h2
      have hlen : w'.length ≤ n := by
        have := nodup_sub (w'.map (·.1)) (List.range n) h4 (fun x hx => by
          obtain ⟨c, hc, rfl⟩ := List.mem_map.1 hx
          exact List.mem_range.2 (h'.ok c (hm c hc)).1)
        simpa using this
      have := sum_lo (w := w') (k := 60000) (fun d hd => by
        rcases List.mem_append.1 (hm d hd) with g | g
        · exact (hs d g).1
        · obtain ⟨j', _, _, rfl⟩ := adds_mem.1 g
          show (-60000 : Int) ≤ 1000000
          omega) (by omega)
      omega
  constructor
  · unfold noneAt
    rw [any_range]
    intro j hj
    obtain ⟨v, hv, _⟩ := val j hj
    rw [hv]; rfl
  · unfold holdB
    have e1 : ((row n (lzG (fwN (l ++ addsL n) n) 0)).any fun v => !smB v) = false := by
      rw [List.any_eq_false]
      intro x hx
      obtain ⟨j, hj, rfl⟩ := List.mem_map.1 hx
      obtain ⟨v, hv, hv1, hv2⟩ := val j (List.mem_range.1 hj)
      have : lzG (fwN (l ++ addsL n) n) 0 j = v := by unfold lzG; rw [hv]; rfl
      rw [this]
      unfold smB
      simp [hv1, hv2]
    have e2 : l.any (brkB (row n (lzG (fwN (l ++ addsL n) n) 0))) = false := by
      rw [List.any_eq_false]
      intro c hc
      have ho := h.ok c hc
      obtain ⟨a, ha, _⟩ := val c.1 ho.1
      obtain ⟨d, hd, _⟩ := val c.2.1 ho.2.1
      have h1 := hg.cl c.1 ho.1 0 (by omega) c.2.1 ho.2.1
      have h2 := plus_mono (lle_refl (fwN (l ++ addsL n) n 0 c.1)) (hg.le c (List.mem_append_left _ hc))
      have h3 := lle_trans h1 h2
      rw [ha, hd, plus_some, lle_some] at h3
      unfold brkB
      rw [nth_row _ _ _ ho.1, nth_row _ _ _ ho.2.1]
      unfold lzG
      rw [ha, hd, lz_some, lz_some, decide_eq_true_eq]
      omega
    rw [e1, e2]
    simp
end Go.Mx
