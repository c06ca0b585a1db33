import Derived.Test.YtgbikojcpfdbiaaPoI
/-
  Both ways to find the arcs among some vertices agree.
-/
namespace Go.Mx
set_option linter.unusedVariables false
set_option linter.unusedSimpArgs false
set_option linter.unusedSectionVars false
open Go

theorem sorted_ext {α : Type} (r : α → α → Prop) (irr : ∀ x, ¬ r x x) (asym : ∀ x y, r x y → ¬ r y x) : ∀ (l m : List α), l.Pairwise r → m.Pairwise r → (∀ x, x ∈ l ↔ x ∈ m) → l = m
  | [], [], _, _, _ => rfl
  | [], y :: m, _, _, h => by have := (h y).2 (List.mem_cons_self ..); simp at this
  | x :: l, [], _, _, h => by have := (h x).1 (List.mem_cons_self ..); simp at this
  | x :: l, y :: m, hl, hm, h => by
    obtain ⟨hl1, hl2⟩ := List.pairwise_cons.1 hl
    obtain ⟨hm1, hm2⟩ := List.pairwise_cons.1 hm
    have hxy : x = y := by
      by_cases e : x = y
      · exact e
      · exfalso
        have h1 : x ∈ m := by
          rcases List.mem_cons.1 ((h x).1 (List.mem_cons_self ..)) with h' | h'
          · exact absurd h' e
          · exact h'
        have h2 : y ∈ l := by
          rcases List.mem_cons.1 ((h y).2 (List.mem_cons_self ..)) with h' | h'
          · exact absurd h'.symm e
          · exact h'
        exact asym _ _ (hm1 x h1) (hl1 y h2)
    subst hxy
    congr 1
    refine sorted_ext r irr asym l m hl2 hm2 fun z => ⟨fun hz => ?_, fun hz => ?_⟩
    · rcases List.mem_cons.1 ((h z).1 (List.mem_cons_of_mem _ hz)) with rfl | h'
      · exact absurd (hl1 z hz) (irr z)
      · exact h'
    · rcases List.mem_cons.1 ((h z).2 (List.mem_cons_of_mem _ hz)) with rfl | h'
      · exact absurd (hm1 z hz) (irr z)
      · exact h'

/-- One pair stands before another. -/
def lexB (p q : Int × Int) : Prop := p.1 < q.1 ∨ p.1 = q.1 ∧ p.2 < q.2
theorem lexB_irr (x : Int × Int) : ¬ lexB x x := by unfold lexB; omega
theorem lexB_asym (x y : Int × Int) : lexB x y → ¬ lexB y x := by unfold lexB; omega
theorem lexB_trans {x y z : Int × Int} : lexB x y → lexB y z → lexB x z := by unfold lexB; omega

theorem pairwise_of_next {α : Type} (r : α → α → Prop) (tr : ∀ x y z, r x y → r y z → r x z) (l : List α) (d : α) (h : ∀ i, i + 1 < l.length → r (nth l d i) (nth l d (i + 1))) : l.Pairwise r := by
  rw [List.pairwise_iff_getElem]
  intro i j hi hj hij
  obtain ⟨k, rfl⟩ : ∃ k, j = i + 1 + k := ⟨j - (i + 1), by omega⟩
  induction k with
  | zero =>
    have := h i hj
    rwa [nth_get d hi, nth_get d hj] at this
  | succ k ih =>
    have h1 := ih (by omega) (by omega)
    have h2 := h (i + 1 + k) (by omega)
    rw [nth_get d (by omega), nth_get d (by omega)] at h2
    exact tr _ _ _ h1 h2

theorem valid_sorted {n : Int} {a : List (Int × Int)} (h : validB n a = true) : a.Pairwise lexB := by
  refine pairwise_of_next lexB (fun x y z => lexB_trans) a (0, 0) fun i hi => ?_
  have := valid_all h hi
  simp only [okA, Nat.add_sub_cancel, Bool.and_eq_true, Bool.or_eq_true, Bool.not_eq_true'] at this
  have h2 := this.2
  unfold lexB
  generalize nth a (0, 0) (i + 1) = p at *
  generalize nth a (0, 0) i = q at *
  simp at h2
  omega

section
variable {n : Int} {keep : List Int} (hk : ∀ i, i < keep.length → okL keep 0 (n - 1) i = true)
include hk
theorem keep_lt {i j : Nat} (hij : i < j) (hj : j < keep.length) : nth keep 0 i < nth keep 0 j := by
  obtain ⟨d, rfl⟩ : ∃ d, j = i + 1 + d := ⟨j - (i + 1), by omega⟩
  induction d with
  | zero =>
    have := hk (i + 1) hj
    simp [okL] at this
    exact this.2
  | succ d ih =>
    have h1 := ih (by omega) (by omega)
    have := hk (i + 1 + (d + 1)) hj
    simp [okL] at this
    have h2 := this.2
    omega
theorem keep_nn {i : Nat} (hi : i < keep.length) : 0 ≤ nth keep 0 i := by
  have := hk i hi
  simp [okL] at this
  exact this.1.1

theorem plG_at (m : Nat) (hm : m ≤ keep.length) (i : Nat) (hi : i < m) : plG keep m (nth keep 0 i).toNat = (i : Int) := by
  induction m with
  | zero => omega
  | succ m ih =>
    simp only [plG, updF]
    by_cases h : i = m
    · subst h; simp
    · rw [if_neg, ih (by omega) (by omega)]
      have h1 := keep_lt hk (i := i) (j := m) (by omega) (by omega)
      have h2 := keep_nn hk (i := i) (by omega)
      omega
theorem plG_inv (m : Nat) (hm : m ≤ keep.length) (v : Nat) (h : 0 ≤ plG keep m v) : ∃ i, i < m ∧ nth keep 0 i = (v : Int) ∧ plG keep m v = (i : Int) := by
  induction m with
  | zero => simp [plG] at h
  | succ m ih =>
    simp only [plG, updF] at h ⊢
    split at h
    · rename_i hv
      have := keep_nn hk (i := m) (by omega)
      exact ⟨m, by omega, by omega, by rw [if_pos hv]⟩
    · rename_i hv
      obtain ⟨i, h1, h2, h3⟩ := ih (by omega) h
      exact ⟨i, by omega, h2, by rw [if_neg hv]; exact h3⟩

theorem ind_same {a : List (Int × Int)} (hv : validB n a = true) : allR a keep keep.length = indP (plG keep keep.length) (natA a) := by
  obtain ⟨k, hkn, hk2, ha, hp⟩ := valid_nat hv
  have hs := valid_sorted hv
  generalize hna : natA a = na at *
  subst ha
  have hs' : na.Pairwise fun p q => lexB (arcZ p) (arcZ q) := List.pairwise_map.1 hs
  refine sorted_ext lexB lexB_irr lexB_asym _ _ ?_ ?_ ?_
  · unfold allR rowR
    rw [List.pairwise_flatMap]
    refine ⟨fun i _ => ?_, ?_⟩
    · rw [List.pairwise_flatMap]
      refine ⟨fun j _ => ?_, ?_⟩
      · unfold celR
        rw [List.pairwise_map]
        refine List.Pairwise.imp_of_mem ?_ (hs.filter _)
        intro p q hp hq h
        have h1 := (List.mem_filter.1 hp).2
        have h2 := (List.mem_filter.1 hq).2
        simp only [Bool.and_eq_true, beq_iff_eq] at h1 h2
        have : p = q := Prod.ext (by rw [h1.1, h2.1]) (by rw [h1.2, h2.2])
        subst this
        exact absurd h (lexB_irr p)
      · refine List.Pairwise.imp ?_ (List.pairwise_lt_range)
        intro j j' hj x hx y hy
        unfold celR at hx hy
        obtain ⟨_, _, rfl⟩ := List.mem_map.1 hx
        obtain ⟨_, _, rfl⟩ := List.mem_map.1 hy
        unfold lexB; simp; omega
    · refine List.Pairwise.imp ?_ (List.pairwise_lt_range)
      intro i i' hi x hx y hy
      obtain ⟨j, _, hx⟩ := List.mem_flatMap.1 hx
      obtain ⟨j', _, hy⟩ := List.mem_flatMap.1 hy
      unfold celR at hx hy
      obtain ⟨_, _, rfl⟩ := List.mem_map.1 hx
      obtain ⟨_, _, rfl⟩ := List.mem_map.1 hy
      unfold lexB; simp; omega
  · unfold indP
    rw [List.pairwise_filterMap]
    refine List.Pairwise.imp ?_ hs'
    intro p q hpq x hx y hy
    split at hx
    · rename_i h1
      split at hy
      · rename_i h2
        cases hx; cases hy
        obtain ⟨i1, g1, g2, g3⟩ := plG_inv hk _ (Nat.le_refl _) _ h1.1
        obtain ⟨i2, g4, g5, g6⟩ := plG_inv hk _ (Nat.le_refl _) _ h1.2
        obtain ⟨i3, g7, g8, g9⟩ := plG_inv hk _ (Nat.le_refl _) _ h2.1
        obtain ⟨i4, g10, g11, g12⟩ := plG_inv hk _ (Nat.le_refl _) _ h2.2
        unfold lexB arcZ at hpq
        unfold lexB
        simp only [g3, g6, g9, g12] at *
        rcases hpq with h | ⟨h, h'⟩
        · left
          rcases Nat.lt_trichotomy i1 i3 with h3 | h3 | h3
          · omega
          · subst h3; omega
          · have := keep_lt hk h3 g1; omega
        · right
          constructor
          · rcases Nat.lt_trichotomy i1 i3 with h3 | h3 | h3
            · have := keep_lt hk h3 g7; omega
            · omega
            · have := keep_lt hk h3 g1; omega
          · rcases Nat.lt_trichotomy i2 i4 with h3 | h3 | h3
            · omega
            · subst h3; omega
            · have := keep_lt hk h3 g4; omega
      · cases hy
    · cases hx
  · rintro ⟨x, y⟩
    constructor
    · intro h
      obtain ⟨i, hi, h⟩ := List.mem_flatMap.1 h
      obtain ⟨j, hj, h⟩ := List.mem_flatMap.1 h
      unfold celR at h
      obtain ⟨p, hp, he⟩ := List.mem_map.1 h
      obtain ⟨hp1, hp2⟩ := List.mem_filter.1 hp
      simp only [Bool.and_eq_true, beq_iff_eq] at hp2
      obtain ⟨q, hq, rfl⟩ := List.mem_map.1 hp1
      have hi' := List.mem_range.1 hi
      have hj' := List.mem_range.1 hj
      have e1 := plG_at hk _ (Nat.le_refl _) i hi'
      have e2 := plG_at hk _ (Nat.le_refl _) j hj'
      rw [← hp2.1] at e1
      rw [← hp2.2] at e2
      simp only [arcZ, Int.toNat_natCast] at e1 e2
      unfold indP
      rw [List.mem_filterMap]
      refine ⟨q, hq, ?_⟩
      rw [e1, e2, if_pos (by omega)]
      exact congrArg some he
    · intro h
      unfold indP at h
      obtain ⟨p, hp, he⟩ := List.mem_filterMap.1 h
      split at he
      · rename_i hc
        obtain ⟨i, g1, g2, g3⟩ := plG_inv hk _ (Nat.le_refl _) _ hc.1
        obtain ⟨j, g4, g5, g6⟩ := plG_inv hk _ (Nat.le_refl _) _ hc.2
        rw [g3, g6] at he
        refine List.mem_flatMap.2 ⟨i, List.mem_range.2 g1, List.mem_flatMap.2 ⟨j, List.mem_range.2 g4, ?_⟩⟩
        unfold celR
        refine List.mem_map.2 ⟨arcZ p, List.mem_filter.2 ⟨List.mem_map.2 ⟨p, hp, rfl⟩, ?_⟩, by simpa using he⟩
        simp [arcZ, g2, g5]
      · cases he
end

theorem induced_same (n : Int) (a : List (Int × Int)) (keep : List Int) : indD n a keep = indR n a keep := by
  unfold indD indR
  by_cases hv : validB n a = true
  · by_cases hk : (List.range keep.length).any (fun i => !okL keep 0 (n - 1) i) = true
    · rw [hk]; simp
    · have hk' : (List.range keep.length).any (fun i => !okL keep 0 (n - 1) i) = false := by simpa using hk
      rw [ind_same (n := n) (keep := keep) (fun i hi => by simpa using (any_range _ _).1 hk' i hi) hv]
  · have hv' : validB n a = false := by simpa using hv
    rw [hv']; rfl

theorem s32 (k : Nat) (b : Bool) (l : List Int) (lo hi : Int) (hl : l.length ≤ 1000) : S (k + 1) 32 [si b l, .v (.int .i64 lo), .v (.int .i64 hi)] = some (.v (.bool (!(List.range l.length).any (fun i => !okL l lo hi i)))) := by
  rw [S, sem_succ (mf := c32) rfl]; exact f32 _ _ (by decide) b l lo hi hl
theorem s17 (k : Nat) (b c : Bool) (n : Int) (a : List (Int × Int)) (hl : a.length ≤ 1000) (keep : List Int) (hk : keep.length ≤ 1000) : S (k + 2) 17 [.v (.int .i64 n), sa b a, si c keep] = some (indD n a keep) := by
  rw [S, sem_succ (mf := c17) rfl]; exact f17 _ _ (by decide) b c n a hl keep hk (s20 k b n a hl)
theorem s18 (k : Nat) (b c : Bool) (n : Int) (a : List (Int × Int)) (hl : a.length ≤ 1000) (keep : List Int) (hk : keep.length ≤ 1000) : S (k + 3) 18 [.v (.int .i64 n), sa b a, si c keep] = some (indD n a keep) := by
  rw [induced_same, S, sem_succ (mf := c18) rfl]; exact f18 _ _ (by decide) b c n a hl keep hk (s21 k b n a hl) (fun hi => s32 (k + 1) c keep 0 hi hk)

theorem f5 (call : Oracle) (fuel : Nat) (b c : Bool) (n : Int) (a : List (Int × Int)) (keep : List Int)
    (h9 : call 9 [] = some (.v (.bool true))) (h10 : call 10 [sa b a] = some (.v (.bool (decide (a.length ≤ 150)))))
    (h17 : a.length ≤ 150 → keep.length ≤ 60 → call 17 [.v (.int .i64 n), sa b a, si c keep] = some (indD n a keep)) (h18 : a.length ≤ 150 → keep.length ≤ 60 → call 18 [.v (.int .i64 n), sa b a, si c keep] = some (indD n a keep))
    (h19 : ∀ (b : Bool) (l : List (Int × Int)), l.length ≤ 1000 → call 19 [sa b l, sa b l] = some (.v (.bool (l == l)))) :
    callF call fuel c5 [.v (.int .i64 n), sa b a, si c keep] = some (.v (.bool true)) := by
  rw [callF_tab call fuel c5 32 _ (by exact Nat.le_of_ble_eq_true rfl) (by exact Nat.le_of_ble_eq_true rfl)]
  by_cases hl : a.length ≤ 150
  · by_cases hk : keep.length ≤ 60
    · have hk2 : ¬ (60 : Int) < (keep.length : Int) := by omega
      have e17 := h17 hl hk
      have e18 := h18 hl hk
      unfold indD at e17 e18
      split at e17
      · rename_i hc
        rw [if_pos hc] at e18
        have hlen : (indP (plG keep keep.length) (natA a)).length ≤ a.length := by
          have := indP_len (plG keep keep.length) (natA a)
          simpa [natA] using this
        have e19 := h19 (indP (plG keep keep.length) (natA a)).isEmpty (indP (plG keep keep.length) (natA a)) (by omega)
        generalize indP (plG keep keep.length) (natA a) = o at *
        simp [c5, h9, h10, hl, hk2, e17, e18, e19]
      · rename_i hc
        rw [if_neg hc] at e18
        have e19 := h19 true [] (by simp)
        simp [c5, h9, h10, hl, hk2, e17, e18, e19]
    · have hk2 : (60 : Int) < (keep.length : Int) := by omega
      simp [c5, h9, h10, hl, hk2]
  · simp [c5, h9, h10, hl]

theorem law5 (b c : Bool) (n : Int) (a : List (Int × Int)) (keep : List Int) : S 11 5 [.v (.int .i64 n), sa b a, si c keep] = some (.v (.bool true)) := by
  rw [S, sem_succ (mf := c5) rfl]
  exact f5 _ _ b c n a keep s9 (s10 9 b a) (fun h k => s17 8 b c n a (by omega) keep (by omega)) (fun h k => s18 7 b c n a (by omega) keep (by omega)) (fun b l h => s19 9 b b l l h)

theorem rd_intl {d : D} (h : (TD.sl (.int .i64)).rd [d]) : ∃ b l, d = si b l ∧ ∀ x ∈ l, I64 x := by
  obtain ⟨b, kss, h1, _, _, h2⟩ := h
  have : ∀ kss : List (List D), (∀ ks ∈ kss, (TD.int .i64).rd ks) → ∃ l : List Int, kss.flatten = gk (eI .i64) l ∧ l.length = kss.length ∧ ∀ x ∈ l, I64 x := by
    intro kss
    induction kss with
    | nil => intro _; exact ⟨[], rfl, rfl, by simp⟩
    | cons ks kss ih =>
      intro h
      obtain ⟨l, e1, e2, e3⟩ := ih fun k hk => h k (List.mem_cons_of_mem _ hk)
      obtain ⟨x, hx, rfl⟩ := h ks (List.mem_cons_self ..)
      refine ⟨x :: l, by rw [List.flatten_cons, e1]; rfl, by simp [e2], ?_⟩
      intro p hp
      rcases List.mem_cons.1 hp with rfl | hp
      · exact wf_i64 hx
      · exact e3 p hp
  obtain ⟨l, e1, e2, e3⟩ := this kss h2
  refine ⟨b, l, ?_, e3⟩
  rw [e1, ← e2] at h1
  exact (List.cons.inj h1).1

end Go.Mx
