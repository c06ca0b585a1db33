import Derived.Test.YtgbikojcpfdbiaaDoorMxD
/-
  Mx, part E: a slot is set; a place is left; a value is taken; a value is read.
-/
namespace Go.Mx
set_option linter.unusedVariables false
set_option linter.unusedSimpArgs false
set_option linter.unusedSectionVars false
open Go

theorem kill_get (r : Nat) (p : List Nat) (st : St) (i : Nat) : (kill r p st)[i]? = (st[i]?).map (V.kill r p) := by simp [kill]

@[simp] theorem kill_len (r : Nat) (p : List Nat) (st : St) : (kill r p st).length = st.length := by simp [kill]

@[simp] theorem setv_len (st : St) (d : Nat) (x : V) : (setv st d x).length = st.length := by
  unfold setv; split <;> simp

mutual
theorem under_leaf {E : Env} {ts : List C} {i : Nat} {p : List Nat} {y : Value} (hl : ts[i]? = some (.v y)) :
    ∀ (x : V) (u : Value), VRel E ts x u → x.under i p = false
  | .sc _, _, _ => rfl
  | .own _, _, _ => rfl
  | .ro _, _, _ => rfl
  | .ref j q, u, h => by
    obtain ⟨t0, k, kids, h1, h2, h3⟩ := h
    simp only [V.under, Bool.and_eq_false_iff]
    by_cases hj : j = i
    · subst hj; rw [hl] at h1; cases h1; cases q <;> simp [getAt] at h2
    · left; simpa using hj
  | .sub j q lo es n, u, h => by
    obtain ⟨t0, d, n', kids, c, a, ad, h1, h2, h3⟩ := h
    simp only [V.under, Bool.and_eq_false_iff]
    by_cases hj : j = i
    · subst hj; rw [hl] at h1; cases h1; cases q <;> simp [getAt] at h2
    · left; simpa using hj
  | .ad j q c, u, h => by
    obtain ⟨t0, k, kids, a, h1, h2, h3, h6⟩ := h
    simp only [V.under, Bool.and_eq_false_iff]
    by_cases hj : j = i
    · subst hj; rw [hl] at h1; cases h1; cases q <;> simp [getAt] at h2
    · left; simpa using hj
  | .rad _ _, _, _ => rfl
  | .vn k vs, u, h => by
    obtain ⟨us, h1, h2⟩ := h
    simpa [V.under] using under_leafL hl vs us h1
  | .dead, _, _ => rfl
theorem under_leafL {E : Env} {ts : List C} {i : Nat} {p : List Nat} {y : Value} (hl : ts[i]? = some (.v y)) :
    ∀ (xs : List V) (us : List Value), VRelL E ts xs us → V.underL i p xs = false
  | [], _, _ => rfl
  | x :: xs, us, h => by
    obtain ⟨u, us', h1, h2, h3⟩ := h
    simp only [V.underL, Bool.or_eq_false_iff]
    exact ⟨under_leaf hl x u h2, under_leafL hl xs us' h3⟩
end

mutual
theorem under_none {E : Env} {ts : List C} {i : Nat} {p : List Nat} (hl : ts[i]? = none) :
    ∀ (x : V) (u : Value), VRel E ts x u → x.under i p = false
  | .sc _, _, _ => rfl
  | .own _, _, _ => rfl
  | .ro _, _, _ => rfl
  | .ref j q, u, h => by
    obtain ⟨t0, k, kids, h1, h2, h3⟩ := h
    simp only [V.under, Bool.and_eq_false_iff]
    left
    have : j ≠ i := fun e => by rw [e, hl] at h1; cases h1
    simpa using this
  | .sub j q lo es n, u, h => by
    obtain ⟨t0, d, n', kids, c, a, ad, h1, h2, h3⟩ := h
    simp only [V.under, Bool.and_eq_false_iff]
    left
    have : j ≠ i := fun e => by rw [e, hl] at h1; cases h1
    simpa using this
  | .ad j q c, u, h => by
    obtain ⟨t0, k, kids, a, h1, h2, h3, h6⟩ := h
    simp only [V.under, Bool.and_eq_false_iff]
    left
    have : j ≠ i := fun e => by rw [e, hl] at h1; cases h1
    simpa using this
  | .rad _ _, _, _ => rfl
  | .vn k vs, u, h => by
    obtain ⟨us, h1, h2⟩ := h
    simpa [V.under] using under_noneL hl vs us h1
  | .dead, _, _ => rfl
theorem under_noneL {E : Env} {ts : List C} {i : Nat} {p : List Nat} (hl : ts[i]? = none) :
    ∀ (xs : List V) (us : List Value), VRelL E ts xs us → V.underL i p xs = false
  | [], _, _ => rfl
  | x :: xs, us, h => by
    obtain ⟨u, us', h1, h2, h3⟩ := h
    simp only [V.underL, Bool.or_eq_false_iff]
    exact ⟨under_none hl x u h2, under_noneL hl xs us' h3⟩
end

theorem kill_own (r : Nat) (p : List Nat) (d : D) : (V.own d).kill r p = .own d := rfl

theorem SRel.nonown {E : Env} {ts : List C} {i : Nat} {x : V} {u : Value} (h : SRel E ts i x u) (hx : ∀ d, x ≠ .own d) : VRel E ts x u ∧ ∃ y, ts[i]? = some (.v y) := by
  cases x <;> first | exact h | exact absurd rfl (hx _)

theorem SRel.mk {E : Env} {ts : List C} {i : Nat} {x : V} {u : Value} (h : VRel E ts x u) (hl : ∃ y, ts[i]? = some (.v y)) : SRel E ts i x u := by
  cases x <;> first | exact ⟨h, hl⟩ | exact h.elim

/-- One tree is replaced; whoever borrows from it is killed. -/
theorem mono_set {E : Env} {ts : List C} {dst : Nat} {t : C} {x : V} {u : Value} (h : VRel E ts x u) : VRel E (ts.set dst t) (x.kill dst []) u := by
  refine VRel_kill h fun hu hv => VRel_mono ?_ x u hu hv
  intro i q k kids hq hi
  refine ⟨kids, ?_, rfl⟩
  have hne : i ≠ dst := fun e => by simpa [pre] using hi e
  unfold getAt' at *
  rw [List.getElem?_set_ne (Ne.symm hne)]
  exact hq

theorem kill_id {E : Env} {ts : List C} {i : Nat} {p : List Nat} {x : V} {u : Value} {y : Value} (hl : ts[i]? = some (.v y)) (h : VRel E ts x u) : x.kill i p = x := by
  unfold V.kill; rw [under_leaf hl x u h]; rfl

/-- A slot is set, with the tree that it now owns. -/
theorem Rel.upd {E : Env} {st : St} {ts : List C} {tm : Array Value} {w : World} (h : Rel E st ts tm w) (dst : Nat) (t : C) (x : V) (u : Value)
    (hx : dst < st.length → SRel E (ts.set dst t) dst (x.kill dst []) u)
    (hx' : ∀ y, ts[dst]? = some (.v y) → x.kill dst [] = x)
    (hm : Mem w true t) (hc : ∀ b, cnt b t ≠ 0 → cntL b ts = 0 ∧ cnt b t ≤ 1 ∧ ¬ Old E b ∧ b < w.heap.size) :
    Rel E (setv st dst x) (ts.set dst t) (tm.setIfInBounds dst u) w := by
  have hcnt : ∀ b, cntL b (ts.set dst t) ≤ cntL b ts + cnt b t := by
    intro b
    cases hd : ts[dst]? with
    | none =>
      have hge : ts.length ≤ dst := by rcases Nat.lt_or_ge dst ts.length with h | h; · simp [List.getElem?_eq_getElem h] at hd
                                       · exact h
      rw [List.set_eq_of_length_le hge]; omega
    | some t0 => have := cntL_set b ts dst t0 t hd; omega
  -- the new list of slots, in one form
  have hst : ∀ i : Nat, i ≠ dst → (setv st dst x)[i]? = (st[i]?).map (V.kill dst []) ∨ (setv st dst x)[i]? = st[i]? ∧ ∃ y, ts[dst]? = some (.v y) := by
    intro i hi
    unfold setv
    split
    · left; rw [List.getElem?_set_ne (Ne.symm hi), kill_get]
    · rename_i hno
      rw [List.getElem?_set_ne (Ne.symm hi)]
      rcases Nat.lt_or_ge dst st.length with hlt | hge
      · right
        refine ⟨rfl, ?_⟩
        have hs := h.slot dst st[dst] tm[dst]! (by simp [hlt]) (by have := h.lenM; simp [this, hlt, getElem!_pos])
        exact (hs.nonown (fun d e => hno d (by rw [List.getElem?_eq_getElem hlt, e]))).2
      · -- nothing is there: nobody borrows from it
        left
        cases hsi : st[i]? with
        | none => rfl
        | some y =>
          simp only [Option.map_some, Option.some.injEq]
          -- y is not under dst, for there is no tree
          by_cases hy : ∃ d, y = .own d
          · obtain ⟨d, rfl⟩ := hy; rfl
          · have hlti : i < tm.size := by
              rw [h.lenM]
              rcases Nat.lt_or_ge i st.length with h' | h'
              · exact h'
              · simp [List.getElem?_eq_none h'] at hsi
            have hs := (h.slot i y tm[i] hsi (by simp [hlti])).nonown (fun d e => hy ⟨d, e⟩)
            have hnone : ts[dst]? = none := List.getElem?_eq_none (by rw [h.lenT]; exact hge)
            unfold V.kill
            rw [show y.under dst [] = false from ?_]; rfl
            have hv := hs.1
            clear hs
            -- whoever is under dst names a tree
            have := under_none (p := []) hnone y tm[i] hv
            exact this
  refine ⟨by simp [h.lenT], by simp [h.lenM], ?_, ?_, ?_, ?_, h.keep⟩
  · intro i y v hy hv
    by_cases hi : i = dst
    · subst hi
      rcases Nat.lt_or_ge i st.length with hlt | hge
      · have hv' : v = u := by
          rw [Array.getElem?_setIfInBounds_self_of_lt (by rw [h.lenM]; exact hlt)] at hv
          simpa using hv.symm
        subst hv'
        have hy' : y = x.kill i [] := by
          unfold setv at hy
          split at hy
          · rw [List.getElem?_set_self (by simpa using hlt)] at hy; simpa using hy.symm
          · rename_i hno
            rw [List.getElem?_set_self hlt] at hy
            have hs := h.slot i st[i] tm[i]! (by simp [hlt]) (by have := h.lenM; simp [this, hlt, getElem!_pos])
            obtain ⟨_, z, hz⟩ := hs.nonown (fun d e => hno d (by rw [List.getElem?_eq_getElem hlt, e]))
            rw [hx' z hz]; simpa using hy.symm
        subst hy'
        exact hx hlt
      · have : (setv st i x)[i]? = none := List.getElem?_eq_none (by simpa using hge)
        rw [this] at hy; cases hy
    · rw [Array.getElem?_setIfInBounds_ne (fun e => hi e.symm)] at hv
      have key : ∀ z, st[i]? = some z → SRel E (ts.set dst t) i (z.kill dst []) v := by
        intro z hz
        have hs := h.slot i z v hz hv
        by_cases ho : ∃ d, z = .own d
        · obtain ⟨d, rfl⟩ := ho
          obtain ⟨k, kids, h1, h2, h3⟩ := hs
          exact ⟨k, kids, by rw [List.getElem?_set_ne (fun e => hi e.symm)]; exact h1, h2, h3⟩
        · obtain ⟨h1, y', h2⟩ := hs.nonown (fun d e => ho ⟨d, e⟩)
          exact SRel.mk (mono_set h1) ⟨y', by rw [List.getElem?_set_ne (fun e => hi e.symm)]; exact h2⟩
      rcases hst i hi with he | ⟨he, z, hz⟩
      · rw [he] at hy
        cases hsi : st[i]? with
        | none => simp [hsi] at hy
        | some z =>
          simp only [hsi, Option.map_some, Option.some.injEq] at hy
          subst hy
          exact key z hsi
      · rw [he] at hy
        have := key y hy
        by_cases ho : ∃ d, y = .own d
        · obtain ⟨d, rfl⟩ := ho; exact this
        · obtain ⟨h1, _⟩ := (h.slot i y v hy hv).nonown (fun d e => ho ⟨d, e⟩)
          rwa [kill_id hz h1] at this
  · intro i s hs
    by_cases hi : i = dst
    · subst hi
      rcases Nat.lt_or_ge i ts.length with hlt | hge
      · rw [List.getElem?_set_self hlt] at hs; cases hs; exact hm
      · rw [List.getElem?_eq_none (by simpa using hge)] at hs; cases hs
    · rw [List.getElem?_set_ne (fun e => hi e.symm)] at hs; exact h.mem i s hs
  · intro b
    by_cases hb : cnt b t = 0
    · have := hcnt b; have := h.uniq b; omega
    · obtain ⟨h1, h2, _⟩ := hc b hb; have := hcnt b; omega
  · intro b hb
    by_cases hz : cnt b t = 0
    · exact h.dom b (by have := hcnt b; omega)
    · exact (hc b hz).2.2

end Go.Mx
