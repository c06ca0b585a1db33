import Derived.Test.YtgbikojcpfdbiaaPoG
/-
  Plain laws of posets: an order exists exactly if nothing reaches itself; both ways to find levels agree.
-/
namespace Go.Mx
set_option linter.unusedVariables false
set_option linter.unusedSimpArgs false
set_option linter.unusedSectionVars false
open Go

theorem warr_bit (g : Nat → Nat) (k i j : Nat) : (warr g (k + 1) i).testBit j = ((warr g k i).testBit j || (warr g k i).testBit k && (warr g k k).testBit j) := stp_bit (warr g k) k i j

theorem warr_mono (g : Nat → Nat) (k i j : Nat) (h : (g i).testBit j = true) : (warr g k i).testBit j = true := by
  induction k with
  | zero => exact h
  | succ k ih => rw [warr_bit, ih]; rfl

theorem warr_trans (g : Nat → Nat) (k v i j : Nat) (hv : v < k) (h1 : (warr g k i).testBit v = true) (h2 : (warr g k v).testBit j = true) : (warr g k i).testBit j = true := by
  induction k generalizing v i j with
  | zero => omega
  | succ k ih =>
    rw [warr_bit] at h1 h2 ⊢
    simp only [Bool.or_eq_true, Bool.and_eq_true] at *
    by_cases hk : v = k
    · subst hk
      have a1 : (warr g v i).testBit v = true := by rcases h1 with h | ⟨h, _⟩ <;> exact h
      have a2 : (warr g v v).testBit j = true := by rcases h2 with h | ⟨_, h⟩ <;> exact h
      exact Or.inr ⟨a1, a2⟩
    · have hv' : v < k := by omega
      rcases h1 with h1 | ⟨h1, h3⟩ <;> rcases h2 with h2 | ⟨h2, h4⟩
      · exact Or.inl (ih v i j hv' h1 h2)
      · exact Or.inr ⟨ih v i k hv' h1 h2, h4⟩
      · exact Or.inr ⟨h1, ih v k j hv' h3 h2⟩
      · exact Or.inr ⟨h1, h4⟩

/-- What holds of arcs and goes on along paths holds of what is reached. -/
theorem warr_ind (g : Nat → Nat) (P : Nat → Nat → Prop) (h0 : ∀ i j, (g i).testBit j = true → P i j) (ht : ∀ i v j, P i v → P v j → P i j) (k i j : Nat) (h : (warr g k i).testBit j = true) : P i j := by
  induction k generalizing i j with
  | zero => exact h0 i j h
  | succ k ih =>
    rw [warr_bit] at h
    simp only [Bool.or_eq_true, Bool.and_eq_true] at h
    rcases h with h | ⟨h1, h2⟩
    · exact ih i j h
    · exact ht i k j (ih i k h1) (ih k j h2)

theorem nodup_sub : ∀ (l m : List Nat), l.Nodup → (∀ x ∈ l, x ∈ m) → l.length ≤ m.length
  | [], m, _, _ => by simp
  | x :: l, m, hn, hs => by
    obtain ⟨hx, hn⟩ := List.nodup_cons.1 hn
    have hm := hs x (List.mem_cons_self ..)
    have := nodup_sub l (m.erase x) hn (fun y hy => by
      have : y ≠ x := fun e => hx (e ▸ hy)
      exact (List.mem_erase_of_ne this).2 (hs y (List.mem_cons_of_mem _ hy)))
    rw [List.length_erase_of_mem hm] at this
    have hp : 0 < m.length := List.length_pos_of_mem hm
    simp only [List.length_cons]
    omega

theorem nodup_range (n : Nat) : (List.range n).Nodup := List.nodup_range

theorem exists_min (r : Nat → Nat → Prop) (hi : ∀ x, ¬ r x x) (ht : ∀ x y z, r x y → r y z → r x z) : ∀ (l : List Nat), l ≠ [] → ∃ m ∈ l, ∀ x ∈ l, ¬ r x m
  | [], h => absurd rfl h
  | [a], _ => ⟨a, List.mem_cons_self .., fun x hx => by simp at hx; subst hx; exact hi _⟩
  | a :: b :: l, _ => by
    obtain ⟨m, hm, hmin⟩ := exists_min r hi ht (b :: l) (by simp)
    by_cases h : r a m
    · refine ⟨a, List.mem_cons_self .., fun x hx hr => ?_⟩
      rcases List.mem_cons.1 hx with rfl | hx
      · exact hi _ hr
      · exact hmin x hx (ht _ _ _ hr h)
    · refine ⟨m, List.mem_cons_of_mem _ hm, fun x hx hr => ?_⟩
      rcases List.mem_cons.1 hx with rfl | hx
      · exact h hr
      · exact hmin x hx hr

/-- Each vertex was free when it was taken. -/
def Good (a : NA) (l : List Nat) : Prop := ∀ pr v po, l = pr ++ v :: po → freeB a pr v = true

theorem good_snoc {a : NA} {l : List Nat} {v : Nat} (h : Good a l) (hv : freeB a l v = true) : Good a (l ++ [v]) := by
  intro pr w po e
  rcases List.eq_nil_or_concat po with rfl | ⟨po', x, rfl⟩
  · have := List.append_inj' e (by simp)
    obtain ⟨rfl, h2⟩ := this
    simp at h2
    subst h2
    exact hv
  · rw [List.concat_eq_append, ← List.cons_append, ← List.append_assoc] at e
    have := List.append_inj' e (by simp)
    exact h pr w po' this.1

theorem free_not {a : NA} {out : List Nat} {v : Nat} (h : freeB a out v = true) : v ∉ out := by
  unfold freeB at h
  simp only [Bool.and_eq_true, Bool.not_eq_true'] at h
  simpa using h.1
theorem free_pred {a : NA} {out : List Nat} {u v : Nat} (h : freeB a out v = true) (hp : (u, v) ∈ a) : u ∈ out := by
  unfold freeB at h
  simp only [Bool.and_eq_true, List.all_eq_true] at h
  have := h.2 _ hp
  simpa using this

theorem good_nodup {a : NA} {l : List Nat} (h : Good a l) : l.Nodup := by
  suffices ∀ n, n ≤ l.length → (l.take n).Nodup by
    have := this l.length (Nat.le_refl _)
    simpa using this
  intro n
  induction n with
  | zero => intro _; simp
  | succ n ih =>
    intro hn
    have hlt : n < l.length := by omega
    rw [List.take_succ_eq_append_getElem hlt, List.nodup_append]
    refine ⟨ih (by omega), by simp, ?_⟩
    intro x hx y hy
    simp at hy
    subst hy
    have := free_not (h (l.take n) (l[n]) (l.drop (n + 1)) (by simp))
    intro e
    exact this (e ▸ hx)

theorem ordL_good {n : Nat} {a : NA} : ∀ (k : Nat) (out l : List Nat), Good a out → ordL n a k out = some l → Good a l
  | 0, out, l, h, e => by simp [ordL] at e; subst e; exact h
  | k + 1, out, l, h, e => by
    simp only [ordL] at e
    split at e
    · rename_i v hv
      exact ordL_good k _ l (good_snoc h (List.find?_some hv)) e
    · cases e

structure IsOrd (n : Nat) (a : NA) (l : List Nat) : Prop where
  good : Good a l
  lt : ∀ v ∈ l, v < n
  len : l.length = n

theorem ordR_is {n : Nat} {a : NA} {l : List Nat} (h : ordR n a [] = some l) : IsOrd n a l := by
  obtain ⟨h1, h2⟩ := ordL_lt _ _ _ (by simp) h
  refine ⟨ordL_good _ [] l (fun pr v po e => ?_) h, h1, by simpa using h2⟩
  have := congrArg List.length e
  simp at this

theorem IsOrd.all {n : Nat} {a : NA} {l : List Nat} (h : IsOrd n a l) {v : Nat} (hv : v < n) : v ∈ l := by
  by_cases hc : v ∈ l
  · exact hc
  · have := nodup_sub (v :: l) (List.range n) (List.nodup_cons.2 ⟨hc, good_nodup h.good⟩) (fun x hx => by
      rcases List.mem_cons.1 hx with rfl | hx
      · exact List.mem_range.2 hv
      · exact List.mem_range.2 (h.lt x hx))
    simp at this
    have := h.len
    omega

theorem Good.before {a : NA} {l : List Nat} (h : Good a l) {u v : Nat} (hp : (u, v) ∈ a) (hv : v ∈ l) : l.idxOf u < l.idxOf v := by
  obtain ⟨pr, po, e, hn⟩ := List.eq_append_cons_of_mem hv
  have hu := free_pred (h pr v po e) hp
  rw [e, List.idxOf_append, if_pos hu, List.idxOf_append, if_neg hn]
  have := List.idxOf_lt_length_iff.2 hu
  simp
  omega

theorem acyclic_of_order {n : Nat} {a : NA} (hv : ∀ p ∈ a, p.1 < n ∧ p.2 < n) {l : List Nat} (h : IsOrd n a l) (i : Nat) : (warr (nextG a) n i).testBit i = false := by
  rw [Bool.eq_false_iff]
  intro hc
  have := warr_ind (nextG a) (fun i j => l.idxOf i < l.idxOf j) (fun i j hb => by
    rw [next_bit] at hb
    have hm : (i, j) ∈ a := by simpa using hb
    exact h.good.before hm (h.all (hv _ hm).2)) (fun i v j h1 h2 => Nat.lt_trans h1 h2) n i i hc
  omega

theorem order_of_acyclic {n : Nat} {a : NA} (hv : ∀ p ∈ a, p.1 < n ∧ p.2 < n) (hac : ∀ i, i < n → (warr (nextG a) n i).testBit i = false) :
    ∀ (k : Nat) (out : List Nat), Good a out → (∀ v ∈ out, v < n) → out.length + k = n → ∃ l, ordL n a k out = some l
  | 0, out, _, _, _ => ⟨out, rfl⟩
  | k + 1, out, hg, ho, hl => by
    simp only [ordL]
    cases hf : (List.range n).find? (freeB a out) with
    | some v =>
      have hvn : v < n := List.mem_range.1 (List.mem_of_find?_eq_some hf)
      exact order_of_acyclic hv hac k (out ++ [v]) (good_snoc hg (List.find?_some hf)) (fun w hw => by
        rcases List.mem_append.1 hw with h' | h'
        · exact ho w h'
        · simp at h'; omega) (by simp; omega)
    | none =>
      exfalso
      rw [List.find?_eq_none] at hf
      have hne : (List.range n).filter (fun v => !out.contains v) ≠ [] := by
        intro he
        have := nodup_sub (List.range n) out (nodup_range n) (fun x hx => by
          by_cases hc : x ∈ out
          · exact hc
          · have : x ∈ (List.range n).filter (fun v => !out.contains v) := List.mem_filter.2 ⟨hx, by simpa using hc⟩
            rw [he] at this; simp at this)
        simp at this
        omega
      obtain ⟨m, hm, hmin⟩ := exists_min (fun x y => x < n ∧ y < n ∧ (warr (nextG a) n x).testBit y = true) (fun x h => by rw [hac x h.1] at h; simp at h)
        (fun x y z h1 h2 => ⟨h1.1, h2.2.1, warr_trans _ _ _ _ _ h1.2.1 h1.2.2 h2.2.2⟩) _ hne
      obtain ⟨hm1, hm2⟩ := List.mem_filter.1 hm
      have hm3 : m ∉ out := by simpa using hm2
      apply hf m hm1
      unfold freeB
      simp only [Bool.and_eq_true, List.all_eq_true]
      refine ⟨by simpa using hm3, fun p hp => ?_⟩
      by_cases h2 : p.2 = m
      · have h1 := hv p hp
        by_cases hc : p.1 ∈ out
        · simp [hc]
        · exfalso
          refine hmin p.1 (List.mem_filter.2 ⟨List.mem_range.2 h1.1, by simpa using hc⟩) ⟨h1.1, by omega, warr_mono _ _ _ _ ?_⟩
          rw [next_bit, ← h2]
          simpa using hp
      · simp [h2]

theorem order_iff {n : Nat} {a : NA} (hv : ∀ p ∈ a, p.1 < n ∧ p.2 < n) : (ordR n a []).isSome = !(List.range n).any (fun i => (warr (nextG a) n i).testBit i) := by
  cases h : ordR n a [] with
  | some l =>
    have : (List.range n).any (fun i => (warr (nextG a) n i).testBit i) = false := (any_range _ _).2 fun i _ => acyclic_of_order hv (ordR_is h) i
    rw [this]; rfl
  | none =>
    cases hc : (List.range n).any (fun i => (warr (nextG a) n i).testBit i)
    · exfalso
      obtain ⟨l, hl⟩ := order_of_acyclic hv ((any_range _ _).1 hc) n [] (fun pr v po e => by
        have := congrArg List.length e
        simp at this) (by simp) (by simp)
      rw [show ordR n a [] = ordL n a n [] from rfl, hl] at h
      cases h
    · rfl

/-! ### levels -/
structure Lev (a : NA) (pr : List Nat) (lv : Nat → Nat) : Prop where
  up : ∀ f t, (f, t) ∈ a → f ∈ pr → lv f + 1 ≤ lv t
  at' : ∀ u, lv u = 0 ∨ ∃ f, f ∈ pr ∧ (f, u) ∈ a ∧ lv u = lv f + 1

theorem relV_eq (a : NA) (lv : Nat → Nat) (v u : Nat) : relV (nextG a) lv v u = if (v, u) ∈ a then max (lv u) (lv v + 1) else lv u := by
  unfold relV
  rw [next_bit]
  by_cases h : (v, u) ∈ a
  · rw [if_pos (by simpa using h), if_pos h]
  · rw [if_neg (by simpa using h), if_neg h]

theorem lev_step {a : NA} (hs : ∀ p ∈ a, p.1 ≠ p.2) {pr : List Nat} {v : Nat} {lv : Nat → Nat} (hg : Good a (pr ++ [v])) (h : Lev a pr lv) : Lev a (pr ++ [v]) (relV (nextG a) lv v) := by
  have hfree : freeB a pr v = true := hg pr v [] rfl
  have hv := free_not hfree
  have hno : ∀ u ∈ pr, (v, u) ∉ a := by
    intro u hu ha
    obtain ⟨p1, p2, e, _⟩ := List.eq_append_cons_of_mem hu
    have := free_pred (hg p1 u (p2 ++ [v]) (by rw [e]; simp)) ha
    exact hv (by rw [e]; simp [this])
  have hsame : ∀ u, (u ∈ pr ∨ u = v) → relV (nextG a) lv v u = lv u := by
    intro u hu
    rw [relV_eq, if_neg]
    intro ha
    rcases hu with hu | rfl
    · exact hno u hu ha
    · exact hs _ ha rfl
  have hge : ∀ u, lv u ≤ relV (nextG a) lv v u := by
    intro u; rw [relV_eq]; split <;> omega
  refine ⟨?_, ?_⟩
  · intro f t ha hf
    rcases List.mem_append.1 hf with hf | hf
    · rw [hsame f (.inl hf)]
      exact Nat.le_trans (h.up f t ha hf) (hge t)
    · simp at hf
      subst hf
      rw [hsame f (.inr rfl), relV_eq, if_pos ha]
      omega
  · intro u
    by_cases ha : (v, u) ∈ a
    · by_cases hle : lv v + 1 ≤ lv u
      · have e : relV (nextG a) lv v u = lv u := by rw [relV_eq, if_pos ha]; omega
        rcases h.at' u with h0 | ⟨f, h1, h2, h3⟩
        · omega
        · exact .inr ⟨f, by simp [h1], h2, by rw [e, hsame f (.inl h1)]; exact h3⟩
      · exact .inr ⟨v, by simp, ha, by rw [hsame v (.inr rfl), relV_eq, if_pos ha]; omega⟩
    · have e : relV (nextG a) lv v u = lv u := by rw [relV_eq, if_neg ha]
      rcases h.at' u with h0 | ⟨f, h1, h2, h3⟩
      · exact .inl (by rw [e]; exact h0)
      · exact .inr ⟨f, by simp [h1], h2, by rw [e, hsame f (.inl h1)]; exact h3⟩

theorem good_take {a : NA} {l : List Nat} (h : Good a l) (n : Nat) : Good a (l.take n) := by
  intro pr v po e
  refine h pr v (po ++ l.drop n) ?_
  rw [← List.cons_append, ← List.append_assoc, ← e, List.take_append_drop]

theorem lev_all {a : NA} (hs : ∀ p ∈ a, p.1 ≠ p.2) {l : List Nat} (h : Good a l) (n : Nat) (hn : n ≤ l.length) : Lev a (l.take n) (levP (nextG a) (l.take n)) := by
  induction n with
  | zero => exact ⟨fun f t _ hf => by simp at hf, fun u => .inl rfl⟩
  | succ n ih =>
    have hlt : n < l.length := by omega
    have e1 := take_succ_nth 0 hlt
    have e2 : levP (nextG a) (l.take (n + 1)) = relV (nextG a) (levP (nextG a) (l.take n)) (nth l 0 n) := foldl_take _ _ 0 hlt
    have hg := good_take h (n + 1)
    rw [e1] at hg ⊢
    rw [← e1, e2, e1]
    exact lev_step hs hg (ih (by omega))

theorem levA_ge (a : NA) (lv : Nat → Nat) (u : Nat) : lv u ≤ levA a lv u := by
  induction a generalizing lv with
  | nil => exact Nat.le_refl _
  | cons p a ih =>
    have : lv u ≤ relA lv p u := by unfold relA updF; split <;> (try subst_vars) <;> omega
    exact Nat.le_trans this (ih _)

theorem levA_arc {a : NA} (lv : Nat → Nat) {f u : Nat} (h : (f, u) ∈ a) : lv f + 1 ≤ levA a lv u := by
  induction a generalizing lv with
  | nil => simp at h
  | cons p a ih =>
    rcases List.mem_cons.1 h with e | h
    · subst e
      have h1 : lv f + 1 ≤ relA lv (f, u) u := by unfold relA updF; simp; omega
      exact Nat.le_trans h1 (levA_ge a _ u)
    · have h1 : lv f ≤ relA lv p f := by unfold relA updF; split <;> (try subst_vars) <;> omega
      have := ih (relA lv p) h
      show lv f + 1 ≤ levA a (relA lv p) u
      omega

theorem lev_eq {n : Nat} {a : NA} (hs : ∀ p ∈ a, p.1 ≠ p.2) (hv : ∀ p ∈ a, p.1 < n ∧ p.2 < n) {l : List Nat} (h : IsOrd n a l) (u : Nat) : levR a n u = levP (nextG a) l u := by
  have hL := lev_all hs h.good l.length (Nat.le_refl _)
  rw [List.take_length] at hL
  have hle : levP (nextG a) l u ≤ n := by rw [← h.len]; exact levP_le _ _ u
  generalize levP (nextG a) l = L at *
  have up : ∀ f t, (f, t) ∈ a → L f + 1 ≤ L t := fun f t ha => hL.up f t ha (h.all (hv _ ha).1)
  have upper : ∀ m u, levR a m u ≤ L u := by
    intro m
    induction m with
    | zero => intro u; exact Nat.zero_le _
    | succ m ih =>
      suffices ∀ (b : NA) (lv : Nat → Nat), (∀ p ∈ b, p ∈ a) → (∀ u, lv u ≤ L u) → ∀ u, levA b lv u ≤ L u from this a _ (fun _ h => h) ih
      intro b
      induction b with
      | nil => intro lv _ h u; exact h u
      | cons p b ihb =>
        intro lv hb hl u
        refine ihb (relA lv p) (fun q hq => hb q (List.mem_cons_of_mem _ hq)) (fun w => ?_) u
        unfold relA updF
        split
        · rename_i hw
          have h1 := up p.1 p.2 (hb p (List.mem_cons_self ..))
          have h2 := hl p.1
          have h3 := hl p.2
          rw [hw]
          omega
        · exact hl w
  have lower : ∀ m u, L u ≤ m → L u ≤ levR a m u := by
    intro m
    induction m with
    | zero => intro u hu; omega
    | succ m ih =>
      intro u hu
      rcases hL.at' u with h0 | ⟨f, _, h2, h3⟩
      · omega
      · have h4 := ih f (by omega)
        have h5 := levA_arc (levR a m) h2
        show L u ≤ levA a (levR a m) u
        omega
  exact Nat.le_antisymm (upper n u) (lower n u hle)

theorem levels_same (n : Int) (a : List (Int × Int)) : levelsD n a = levelsR n a := by
  unfold levelsD levelsR
  by_cases hv : validB n a = true
  · rw [if_pos hv, if_pos hv]
    obtain ⟨k, rfl, hk, ha, hp⟩ := valid_nat hv
    have hp' : ∀ p ∈ natA a, p.1 < k ∧ p.2 < k := fun p h => ⟨(hp p h).1, (hp p h).2.1⟩
    have hs : ∀ p ∈ natA a, p.1 ≠ p.2 := fun p h => (hp p h).2.2
    have hi := order_iff hp'
    have hc : acyB k a = !(List.range k).any (fun i => (warr (nextG (natA a)) k i).testBit i) := by
      unfold acyB rea
      rw [hv]; rfl
    rw [← hc] at hi
    simp only [Int.toNat_natCast]
    cases ho : ordR k (natA a) [] with
    | none =>
      rw [ho] at hi
      rw [← hi]; rfl
    | some l =>
      rw [ho] at hi
      rw [← hi]
      simp only [levD, Option.isSome_some, if_true]
      have : lz k (levP (nextG (natA a)) l) = lz k (levR (natA a) k) := congrArg (gsl (eI .i64) false) (zr_ext fun u _ => (lev_eq hs hp' (ordR_is ho) u).symm)
      rw [this]
  · rw [if_neg hv, if_neg hv]

end Go.Mx
