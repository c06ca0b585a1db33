import Derived.Test.YtgbikojcpfdbiaaDoorMxE
/-
  Mx, part F: setting a slot; leaving a place; taking; reading.
-/
namespace Go.Mx
set_option linter.unusedVariables false
set_option linter.unusedSimpArgs false
set_option linter.unusedSectionVars false
open Go

theorem lt_of_get {α : Type} {l : List α} {i : Nat} {x : α} (h : l[i]? = some x) : i < l.length := by
  rcases Nat.lt_or_ge i l.length with h' | h'
  · exact h'
  · simp [List.getElem?_eq_none h'] at h

theorem Rel.tm_get {E : Env} {st : St} {ts : List C} {tm : Array Value} {w : World} (h : Rel E st ts tm w) {i : Nat} {x : V} (hx : st[i]? = some x) : tm[i]? = some (tm.getD i undef) := by
  have := lt_of_get hx
  have hl := h.lenM
  simp [Array.getD, show i < tm.size by omega]

theorem Rel.slot' {E : Env} {st : St} {ts : List C} {tm : Array Value} {w : World} (h : Rel E st ts tm w) {i : Nat} {x : V} (hx : st[i]? = some x) : SRel E ts i x (tm.getD i undef) := h.slot i x _ hx (h.tm_get hx)

/-- A slot is set to what owns nothing. -/
theorem Rel.set {E : Env} {st : St} {ts : List C} {tm : Array Value} {w : World} (h : Rel E st ts tm w) (dst : Nat) {x : V} {u : Value} (hx : VRel E ts x u) :
    Rel E (setv st dst x) (ts.set dst (.v undef)) (tm.setIfInBounds dst u) w :=
  h.upd dst (.v undef) x u (fun hlt => SRel.mk (mono_set hx) ⟨undef, List.getElem?_set_self (by rw [h.lenT]; exact hlt)⟩) (fun y hy => kill_id hy hx) trivial (fun b hb => absurd rfl hb)

/-- A slot is set to a tree that it owns from now on. -/
theorem Rel.setOwn {E : Env} {st : St} {ts : List C} {tm : Array Value} {w : World} (h : Rel E st ts tm w) (dst : Nat) {t : C} (hn : ∃ k kids, t = .nd k kids) (hm : Mem w true t)
    (hc : ∀ b, cnt b t ≠ 0 → cntL b ts = 0 ∧ cnt b t ≤ 1 ∧ ¬ Old E b ∧ b < w.heap.size) :
    Rel E (setv st dst (.own (er t))) (ts.set dst t) (tm.setIfInBounds dst (val t)) w :=
  h.upd dst t (.own (er t)) (val t) (fun hlt => by
    obtain ⟨k, kids, rfl⟩ := hn
    exact ⟨k, kids, List.getElem?_set_self (by rw [h.lenT]; exact hlt), rfl, rfl⟩) (fun _ _ => rfl) hm hc

/-- Either: what a tree gives as a slot's content. -/
theorem Rel.setMk {E : Env} {st : St} {ts : List C} {tm : Array Value} {w : World} (h : Rel E st ts tm w) (dst : Nat) {t : C} (hm : Mem w true t)
    (hc : ∀ b, cnt b t ≠ 0 → cntL b ts = 0 ∧ cnt b t ≤ 1 ∧ ¬ Old E b ∧ b < w.heap.size) :
    ∃ ts', Rel E (setv st dst (mkOwn (er t))) ts' (tm.setIfInBounds dst (val t)) w := by
  cases t with
  | v x => exact ⟨_, h.set dst (x := .sc x) (u := x) rfl⟩
  | hole d => exact ⟨_, h.set dst (x := .dead) (u := d.x) trivial⟩
  | nd k kids =>
    have := h.setOwn dst ⟨k, kids, rfl⟩ hm hc
    rw [er] at this
    exact ⟨_, by rw [er]; exact this⟩

/-! ### places -/

theorem rootD_some {st : St} {r : Nat} {d : D} (h : rootD st r = some d) : st[r]? = some (.own d) := by
  unfold rootD at h
  split at h
  · rename_i d' hd; cases h; exact hd
  · cases h

theorem Rel.root {E : Env} {st : St} {ts : List C} {tm : Array Value} {w : World} (h : Rel E st ts tm w) {r : Nat} {d : D} (hr : rootD st r = some d) :
    ∃ k kids, ts[r]? = some (.nd k kids) ∧ er (.nd k kids) = d ∧ val (.nd k kids) = tm.getD r undef :=
  h.slot' (rootD_some hr)

theorem er_eq_nd {t : C} {k : K Bool} {kids : List D} (h : er t = .nd k kids) : ∃ k' kids', t = .nd k' kids' ∧ k'.er = k ∧ erL kids' = kids := by
  cases t with
  | v x => simp [er] at h
  | hole d => simp [er] at h
  | nd k' kids' => simp only [er, T.nd.injEq] at h; exact ⟨k', kids', rfl, h.1, h.2⟩

theorem er_eq_v {t : C} {x : Value} (h : er t = .v x) : t = .v x := by
  cases t with
  | v x => simp only [er, T.v.injEq] at h; rw [h]
  | hole d => simp [er] at h
  | nd k' kids' => simp [er] at h

theorem Rel.place {E : Env} {st : St} {ts : List C} {tm : Array Value} {w : World} (h : Rel E st ts tm w) {r : Nat} {p : List Nat} {d : D} (hp : placeD st r p = some d) :
    ∃ t0 s, ts[r]? = some t0 ∧ getAt t0 p = some s ∧ er s = d ∧ rootD st r = some (er t0) ∧ (∃ k kids, t0 = .nd k kids) := by
  unfold placeD at hp
  cases hr : rootD st r with
  | none => simp [hr] at hp
  | some d0 =>
    simp only [hr] at hp
    obtain ⟨k, kids, h1, h2, h3⟩ := h.root hr
    subst h2
    rw [er_getAt] at hp
    cases hg : getAt (T.nd k kids) p with
    | none => simp [hg] at hp
    | some s =>
      simp only [hg, Option.map_some, Option.some.injEq] at hp
      exact ⟨_, s, h1, hg, hp, rfl, k, kids, rfl⟩

/-- Whatever place still leads to a node led to it before. -/
def Evolve (ts ts' : List C) : Prop :=
  ∀ i q k kids', getAt' ts' i q = some (.nd k kids') → ∃ kids, getAt' ts i q = some (.nd k kids) ∧ val (.nd k kids') = val (.nd k kids)

theorem Evolve.refl (ts : List C) : Evolve ts ts := fun _ _ _ kids' h => ⟨kids', h, rfl⟩

theorem Evolve.trans {a b c : List C} (h : Evolve a b) (k : Evolve b c) : Evolve a c := fun i q kk kids' hq => by
  obtain ⟨k1, h1, h2⟩ := k i q kk kids' hq
  obtain ⟨k2, h3, h4⟩ := h i q kk k1 h1
  exact ⟨k2, h3, by rw [h2, h4]⟩

theorem evolve_leaf (ts : List C) (r : Nat) (x : Value) : Evolve ts (ts.set r (.v x)) := by
  intro i q k kids' h
  unfold getAt' at *
  by_cases hi : r = i
  · subst hi
    rcases Nat.lt_or_ge r ts.length with hlt | hge
    · rw [List.getElem?_set_self hlt] at h
      cases q <;> simp [getAt] at h
    · rw [List.getElem?_eq_none (by simpa using hge)] at h; simp at h
  · rw [List.getElem?_set_ne hi] at h; exact ⟨kids', h, rfl⟩

theorem getAt_setAt_hole {t : C} {p q : List Nat} {d : Dec} {s : C} {k : K Dec} {kids' : List C} (hs : getAt t p = some s) (h : getAt (setAt t p (.hole d)) q = some (.nd k kids')) :
    pre p q = false ∧ ∃ kids, getAt t q = some (.nd k kids) := by
  induction p generalizing t q with
  | nil => rw [setAt_nil] at h; cases q <;> simp [getAt] at h
  | cons i p ih =>
    cases t with
    | v y => simp [getAt] at hs
    | hole d => simp [getAt] at hs
    | nd k0 kids0 =>
      simp only [getAt] at hs
      cases hk : kids0[i]? with
      | none => simp [hk] at hs
      | some t1 =>
        simp only [hk] at hs
        cases q with
        | nil =>
          simp only [setAt, getAt, Option.some.injEq, T.nd.injEq] at h
          exact ⟨rfl, kids0, by simp [getAt, h.1]⟩
        | cons j q =>
          simp only [setAt, hk, getAt] at h
          by_cases hj : i = j
          · subst hj
            rw [List.getElem?_set_self (lt_of_get hk)] at h
            obtain ⟨h1, kids, h2⟩ := ih hs h
            exact ⟨by simpa [pre] using h1, kids, by simp only [getAt, hk]; exact h2⟩
          · rw [List.getElem?_set_ne hj] at h
            exact ⟨by simp [pre, hj], kids', by simp only [getAt]; exact h⟩

theorem evolve_hole {ts : List C} {r : Nat} {t0 : C} {p : List Nat} {s : C} {d : Dec} (hr : ts[r]? = some t0) (hs : getAt t0 p = some s) (hd : d.x = val s) :
    Evolve ts (ts.set r (setAt t0 p (.hole d))) := by
  intro i q k kids' h
  unfold getAt' at *
  by_cases hi : r = i
  · subst hi
    rw [List.getElem?_set_self (lt_of_get hr)] at h
    rw [hr]
    obtain ⟨h1, kids, h2⟩ := getAt_setAt_hole hs h
    obtain ⟨kids'', h3, h4⟩ := getAt_setAt hs h2 h1 (quiet_hole (x := .hole d) hs (by simp [val, hd]))
    have h' : getAt (setAt t0 p (.hole d)) q = some (.nd k kids') := h
    rw [h'] at h3
    cases h3
    exact ⟨kids, h2, h4⟩
  · rw [List.getElem?_set_ne hi] at h; exact ⟨kids', h, rfl⟩

theorem getAt_pre {t : C} {p q : List Nat} {s : C} {k : K Dec} {kids : List C} (hs : getAt t p = some s) (hsn : ∀ (k' : K Dec) (kids' : List C), s ≠ .nd k' kids') (hq : getAt t q = some (.nd k kids)) : pre p q = false := by
  induction p generalizing t q with
  | nil =>
    rw [getAt_nil] at hs
    have hs' : s = t := by simpa using hs.symm
    subst hs'
    cases s with
    | v y => cases q <;> simp [getAt] at hq
    | hole d => cases q <;> simp [getAt] at hq
    | nd k' kids' => exact absurd rfl (hsn k' kids')
  | cons i p ih =>
    cases t with
    | v y => simp [getAt] at hs
    | hole d => simp [getAt] at hs
    | nd k0 kids0 =>
      simp only [getAt] at hs
      cases hk : kids0[i]? with
      | none => simp [hk] at hs
      | some t1 =>
        simp only [hk] at hs
        cases q with
        | nil => rfl
        | cons j q =>
          by_cases hj : i = j
          · subst hj
            simp only [getAt, hk] at hq
            simpa [pre] using ih hs hq
          · simp [pre, hj]

mutual
theorem under_noleaf {E : Env} {ts : List C} {r : Nat} {p : List Nat} {t0 s : C} (hr : ts[r]? = some t0) (hs : getAt t0 p = some s) (hsn : ∀ (k' : K Dec) (kids' : List C), s ≠ .nd k' kids') :
    ∀ (x : V) (u : Value), VRel E ts x u → x.under r p = false
  | .sc _, _, _ => rfl
  | .own _, _, _ => rfl
  | .ro _, _, _ => rfl
  | .ref j q, u, h => by
    obtain ⟨t1, k, kids, h1, h2, h3⟩ := h
    simp only [V.under, Bool.and_eq_false_iff]
    by_cases hj : j = r
    · subst hj; rw [hr] at h1; cases h1; right; exact getAt_pre hs hsn h2
    · left; simpa using hj
  | .sub j q lo es n, u, h => by
    obtain ⟨t1, d, n', kids, c, a, ad, h1, h2, h3⟩ := h
    simp only [V.under, Bool.and_eq_false_iff]
    by_cases hj : j = r
    · subst hj; rw [hr] at h1; cases h1; right; exact getAt_pre hs hsn h2
    · left; simpa using hj
  | .ad j q c, u, h => by
    obtain ⟨t1, k, kids, a, h1, h2, h3, h6⟩ := h
    simp only [V.under, Bool.and_eq_false_iff]
    by_cases hj : j = r
    · subst hj; rw [hr] at h1; cases h1; right; exact getAt_pre hs hsn h2
    · left; simpa using hj
  | .rad _ _, _, _ => rfl
  | .vn k vs, u, h => by
    obtain ⟨us, h1, h2⟩ := h
    simpa [V.under] using under_noleafL hr hs hsn vs us h1
  | .dead, _, _ => rfl
theorem under_noleafL {E : Env} {ts : List C} {r : Nat} {p : List Nat} {t0 s : C} (hr : ts[r]? = some t0) (hs : getAt t0 p = some s) (hsn : ∀ (k' : K Dec) (kids' : List C), s ≠ .nd k' kids') :
    ∀ (xs : List V) (us : List Value), VRelL E ts xs us → V.underL r p xs = false
  | [], _, _ => rfl
  | x :: xs, us, h => by
    obtain ⟨u, us', h1, h2, h3⟩ := h
    simp only [V.underL, Bool.or_eq_false_iff]
    exact ⟨under_noleaf hr hs hsn x u h2, under_noleafL hr hs hsn xs us' h3⟩
end

/-- The tree of one slot is changed at a place; whoever borrows from there on is killed. -/
theorem Rel.change {E : Env} {st : St} {ts : List C} {tm : Array Value} {w w' : World} (h : Rel E st ts tm w) {r : Nat} {k : K Dec} {kids : List C} (hr : ts[r]? = some (.nd k kids))
    {p : List Nat} {s x : C} (hs : getAt (.nd k kids) p = some s) (hne : p ≠ []) (hq : Quiet (.nd k kids) p x) {d0 : D} (hd : st[r]? = some (.own d0)) {st1 : St}
    (hst : st1 = kill r p st ∨ (st1 = st ∧ ∀ (k' : K Dec) (kids' : List C), s ≠ .nd k' kids'))
    (hm : ∀ (i : Nat) t, (ts.set r (setAt (.nd k kids) p x))[i]? = some t → Mem w' true t)
    (hc : ∀ b, cnt b x ≠ 0 → cntL b ts - cnt b s + cnt b x ≤ 1 ∧ ¬ Old E b ∧ b < w'.heap.size) (hsz : w.heap.size ≤ w'.heap.size) (hk : Keep E w') :
    Rel E (st1.set r (.own (setAt d0 p (er x)))) (ts.set r (setAt (.nd k kids) p x)) tm w' := by
  obtain ⟨k1, kids1, h1, h2, h3⟩ := h.slot' hd
  rw [hr] at h1; cases h1
  have hlen : st1.length = st.length := by rcases hst with rfl | ⟨rfl, _⟩ <;> simp
  obtain ⟨i0, p', hp'⟩ : ∃ i0 p', p = i0 :: p' := by cases p with | nil => exact absurd rfl hne | cons a b => exact ⟨a, b, rfl⟩
  have hv : val (setAt (.nd k kids) p x) = val (.nd k kids) := hq [] p _ rfl hne (getAt_nil _)
  have hnd : ∃ kids', setAt (T.nd k kids) p x = .nd k kids' := by subst hp'; simp [setAt]
  obtain ⟨kids', hnd⟩ := hnd
  have hcnt : ∀ b, cntL b (ts.set r (setAt (.nd k kids) p x)) + cnt b s = cntL b ts + cnt b x := by
    intro b
    have e1 := cntL_set b ts r _ (setAt (.nd k kids) p x) hr
    have e2 := cnt_setAt b (.nd k kids) p s x hs
    omega
  refine ⟨by simp [h.lenT, hlen], by simp [h.lenM, hlen], ?_, hm, ?_, ?_, hk⟩
  · intro i y v hy hv'
    by_cases hi : i = r
    · subst hi
      rw [List.getElem?_set_self (by rw [hlen]; exact lt_of_get hd)] at hy
      cases hy
      refine ⟨k, kids', ?_, ?_, ?_⟩
      · rw [List.getElem?_set_self (lt_of_get hr), hnd]
      · rw [← hnd, er_setAt, h2]
      · rw [← hnd, hv, h3]; have := h.tm_get hd; rw [this] at hv'; simpa using hv'
    · rw [List.getElem?_set_ne (fun e => hi e.symm)] at hy
      have hmono : ∀ z, z.under r p = false → VRel E ts z v → VRel E (ts.set r (setAt (.nd k kids) p x)) z v := by
        intro z hz hzv
        refine VRel_mono (r := r) (p := p) ?_ z v hz hzv
        intro i' q k' kids'' hq' hpre
        unfold getAt' at *
        by_cases hi' : r = i'
        · subst hi'
          rw [hr] at hq'
          rw [List.getElem?_set_self (lt_of_get hr)]
          exact getAt_setAt hs hq' (hpre rfl) hq
        · rw [List.getElem?_set_ne hi']; exact ⟨kids'', hq', rfl⟩
      have hleaf : ∀ y', ts[i]? = some (.v y') → (ts.set r (setAt (T.nd k kids) p x))[i]? = some (.v y') := fun y' hy' => by rw [List.getElem?_set_ne (fun e => hi e.symm)]; exact hy'
      rcases hst with rfl | ⟨rfl, hsn⟩
      · rw [kill_get] at hy
        cases hsi : st[i]? with
        | none => simp [hsi] at hy
        | some z =>
          simp only [hsi, Option.map_some, Option.some.injEq] at hy
          subst hy
          have hs' := h.slot i z v hsi hv'
          by_cases ho : ∃ d, z = .own d
          · obtain ⟨d, rfl⟩ := ho
            obtain ⟨k2, kids2, g1, g2, g3⟩ := hs'
            exact ⟨k2, kids2, by rw [List.getElem?_set_ne (fun e => hi e.symm)]; exact g1, g2, g3⟩
          · obtain ⟨g1, y', g2⟩ := hs'.nonown (fun d e => ho ⟨d, e⟩)
            exact SRel.mk (VRel_kill g1 fun hu hz => hmono z hu hz) ⟨y', hleaf y' g2⟩
      · have hs' := h.slot i y v hy hv'
        by_cases ho : ∃ d, y = .own d
        · obtain ⟨d, rfl⟩ := ho
          obtain ⟨k2, kids2, g1, g2, g3⟩ := hs'
          exact ⟨k2, kids2, by rw [List.getElem?_set_ne (fun e => hi e.symm)]; exact g1, g2, g3⟩
        · obtain ⟨g1, y', g2⟩ := hs'.nonown (fun d e => ho ⟨d, e⟩)
          exact SRel.mk (hmono y (under_noleaf hr hs hsn y v g1) g1) ⟨y', hleaf y' g2⟩
  · intro b
    have := hcnt b; have := h.uniq b
    by_cases hb : cnt b x = 0
    · omega
    · have := (hc b hb).1
      have hle : cnt b s ≤ cntL b ts := Nat.le_trans (cnt_getAt b _ p s hs) (cnt_le_cntL b ts r _ hr)
      omega
  · intro b hb
    by_cases hx : cnt b x = 0
    · have := hcnt b
      obtain ⟨g1, g2⟩ := h.dom b (by omega)
      exact ⟨g1, by omega⟩
    · exact (hc b hx).2

end Go.Mx
