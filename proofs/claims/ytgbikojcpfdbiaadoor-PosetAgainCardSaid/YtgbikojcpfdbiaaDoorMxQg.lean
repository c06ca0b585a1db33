import Derived.Test.YtgbikojcpfdbiaaDoorMxQf
/-
  Mx, part Qg: regions whose order is open.
-/
namespace Go.Mx
set_option linter.unusedVariables false
set_option linter.unusedSimpArgs false
set_option linter.unusedSectionVars false
set_option linter.unusedSectionVars false
open Go

/-! ### what comes before -/

theorem fold_bits (g : Nat → Nat) (i : Nat) : ∀ (l : List Nat) (acc : Nat), (l.foldl (fun acc k => acc ||| (2 ^ k ||| g k)) acc).testBit i = true → acc.testBit i = true ∨ ∃ k ∈ l, i = k ∨ (g k).testBit i = true
  | [], acc, h => .inl h
  | k :: l, acc, h => by
    simp only [List.foldl_cons] at h
    rcases fold_bits g i l _ h with h1 | ⟨k', h1, h2⟩
    · rw [Nat.testBit_or, Nat.testBit_or, Bool.or_eq_true, Bool.or_eq_true] at h1
      rcases h1 with h1 | h1 | h1
      · exact .inl h1
      · rw [Nat.testBit_two_pow] at h1
        exact .inr ⟨k, by simp, .inl (by simpa using h1 : k = i).symm⟩
      · exact .inr ⟨k, by simp, .inr h1⟩
    · exact .inr ⟨k', by simp [h1], h2⟩

theorem ancM_len (af : Nat → List Nat) : ∀ n, (ancM af n).length = n
  | 0 => rfl
  | n + 1 => by simp only [ancM, List.length_append, ancM_len af n, List.length_singleton]

theorem ancM_stable (af : Nat → List Nat) {j : Nat} : ∀ {n : Nat}, j < n → (ancM af n).getD j 0 = (ancM af (j + 1)).getD j 0
  | 0, h => by omega
  | n + 1, h => by
    by_cases he : j = n
    · subst he; rfl
    · have hlt : j < n := by omega
      rw [← ancM_stable af hlt]
      simp only [ancM]
      rw [List.getD_eq_getElem?_getD, List.getD_eq_getElem?_getD, List.getElem?_append_left (by rw [ancM_len]; exact hlt)]

theorem ancM_spec (af : Nat → List Nat) {n j i : Nat} (hj : j < n) (haf : ∀ k ∈ af j, k < j) (h : ((ancM af n).getD j 0).testBit i = true) : ∃ k ∈ af j, i = k ∨ ((ancM af n).getD k 0).testBit i = true := by
  rw [ancM_stable af hj] at h
  simp only [ancM] at h
  rw [List.getD_eq_getElem?_getD, List.getElem?_append_right (by rw [ancM_len]; exact Nat.le_refl _), ancM_len, Nat.sub_self] at h
  simp only [List.getElem?_cons_zero, Option.getD_some] at h
  rcases fold_bits _ i _ _ h with h1 | ⟨k, h1, h2⟩
  · simp at h1
  · refine ⟨k, h1, h2.imp id fun h3 => ?_⟩
    have hk := haf k h1
    rw [ancM_stable af (show k < n by omega), ← ancM_stable af hk]
    exact h3

def InL (listed : Array Bool) (i : Nat) : Prop := listed.getD i false = true

theorem anc_in {af : Nat → List Nat} {n : Nat} (haf : ∀ j, j < n → ∀ k ∈ af j, k < j) {A : Nat → Prop} (hcl : ∀ j, A j → ∀ k ∈ af j, A k) : ∀ (j : Nat), j < n → (∀ k ∈ af j, A k) → ∀ i, ((ancM af n).getD j 0).testBit i = true → A i := by
  intro j
  induction j using Nat.strongRecOn with
  | _ j ih =>
    intro hj hall i hb
    obtain ⟨k, hk, h⟩ := ancM_spec af hj (haf j hj) hb
    rcases h with rfl | h
    · exact hall _ hk
    · have hkj := haf j hj k hk
      exact ih k hkj (by omega) (hcl k (hall k hk)) i h

/-! ### the values that are put -/

def pre' (f : List MG) (y : Nat → V) (st : St) : Nat → St
  | 0 => st
  | j + 1 => match dstK f j with
    | some d => (pre' f y st j).set d (y j)
    | none => pre' f y st j

theorem stepsF_vals {call : Oracle} : ∀ (f : List MG) (st st1 : St), stepsF call f st = some st1 → ∃ y : Nat → V, pre' f y st f.length = st1 ∧ ∀ (j : Nat) (m : MG), f[j]? = some m → ∃ d, m.op.dst = some d ∧ free (pre' f y st j) d = true ∧ valG call (pre' f y st j) m = some (y j)
  | [], st, st1, h => by simp only [stepsF, Option.some.injEq] at h; exact ⟨fun _ => .dead, h, fun j m hm => by simp at hm⟩
  | o :: os, st, st1, h => by
    simp only [stepsF] at h
    cases hd : o.op.dst with
    | none => simp [hd] at h
    | some d =>
      simp only [hd] at h
      split at h
      · rename_i hf
        cases hv : valG call st o with
        | none => simp [hv] at h
        | some y0 =>
          simp only [hv] at h
          obtain ⟨y, h1, h2⟩ := stepsF_vals os (st.set d y0) st1 h
          let y' : Nat → V := fun j => match j with | 0 => y0 | j + 1 => y j
          have e : ∀ j, pre' (o :: os) y' st (j + 1) = pre' os y (st.set d y0) j := by
            intro j
            induction j with
            | zero => simp [pre', dstK, hd, y']
            | succ j ih =>
              rw [pre', ih, pre']
              have : dstK (o :: os) (j + 1) = dstK os j := by simp [dstK]
              rw [this]
          refine ⟨y', by rw [List.length_cons, e]; exact h1, ?_⟩
          intro j m hm
          cases j with
          | zero =>
            simp only [List.getElem?_cons_zero, Option.some.injEq] at hm
            subst hm
            exact ⟨d, hd, hf, hv⟩
          | succ j =>
            simp only [List.getElem?_cons_succ] at hm
            rw [e]
            exact h2 j m hm
      · cases h

mutual
theorem within_mono {I J : Nat → Prop} (h : ∀ i, I i → J i) : ∀ (x : V), x.within I → x.within J
  | .ref r _, hx => h r hx
  | .sub r _ _ _ _, hx => h r hx
  | .ad r _ _, hx => h r hx
  | .vn _ vs, hx => withinL_mono h vs hx
  | .sc _, _ => trivial
  | .own _, _ => trivial
  | .ro _, _ => trivial
  | .rad _ _, _ => trivial
  | .dead, _ => trivial
theorem withinL_mono {I J : Nat → Prop} (h : ∀ i, I i → J i) : ∀ (xs : List V), V.withinL I xs → V.withinL J xs
  | [], _ => trivial
  | x :: xs, hx => ⟨within_mono h x hx.1, withinL_mono h xs hx.2⟩
end

section
variable {f : List MG} {y : Nat → V} {st : St}

theorem pre_out {i : Nat} : ∀ (j : Nat), (∀ k, k < j → dstK f k ≠ some i) → (pre' f y st j)[i]? = st[i]?
  | 0, _ => rfl
  | j + 1, h => by
    have ih := pre_out j fun k hk => h k (by omega)
    rw [pre']
    cases hd : dstK f j with
    | none => exact ih
    | some d =>
      have : d ≠ i := fun e => h j (by omega) (by rw [hd, e])
      simp only
      rw [List.getElem?_set_ne this]
      exact ih

theorem pre_in (hdis : ∀ j k, j < f.length → k < f.length → k ≠ j → dstK f k ≠ dstK f j) {k d : Nat} (hd : dstK f k = some d) : ∀ (j : Nat), k < j → j ≤ f.length → (pre' f y st j)[d]? = (st[d]?).map fun _ => y k
  | 0, h, _ => by omega
  | j + 1, h, hl => by
    rw [pre']
    by_cases he : k = j
    · subst he
      rw [hd]
      simp only
      rw [List.getElem?_set_self']
      have := pre_out (f := f) (y := y) (st := st) (i := d) k fun k' hk' => by rw [← hd]; exact hdis k k' (by omega) (by omega) (by omega)
      rw [this]
      rfl
    · have ih := pre_in hdis hd j (by omega) (by omega)
      cases hdj : dstK f j with
      | none => exact ih
      | some d' =>
        have : d' ≠ d := fun e => hdis k j (by omega) (by omega) (by omega) (by rw [hdj, hd, e])
        simp only
        rw [List.getElem?_set_ne this]
        exact ih

/-- Where a value may borrow from: slots that no operation writes, and those of the operations before it. -/
def Src' (f : List MG) (A : Nat → Prop) (j r : Nat) : Prop := (∀ m, m < f.length → dstK f m ≠ some r) ∨ ∃ m, m < j ∧ A m ∧ dstK f m = some r

variable {call : Oracle} {af : Nat → List Nat}
  (hdis : ∀ j k, j < f.length → k < f.length → k ≠ j → dstK f k ≠ dstK f j)
  (hrd : ∀ (j : Nat) (m : MG), f[j]? = some m → ∀ i ∈ m.rds, ∀ k, k < f.length → dstK f k = some i → k < j ∧ k ∈ af j)
  (h0 : ∀ (i : Nat) (x : V), st[i]? = some x → x.within fun r => ∀ m, m < f.length → dstK f m ≠ some r)
  (hval : ∀ (j : Nat) (m : MG), f[j]? = some m → ∃ d, m.op.dst = some d ∧ free (pre' f y st j) d = true ∧ valG call (pre' f y st j) m = some (y j))
include hdis hrd h0 hval

omit hdis h0 hval in
theorem rds_src {A : Nat → Prop} {j : Nat} {m : MG} (hm : f[j]? = some m) (haf : ∀ k ∈ af j, A k) : ∀ i ∈ m.rds, Src' f A j i := by
  intro i hi
  by_cases h : ∃ k, k < f.length ∧ dstK f k = some i
  · obtain ⟨k, h1, h2⟩ := h
    obtain ⟨h3, h4⟩ := hrd j m hm i hi k h1 h2
    exact .inr ⟨k, h3, haf k h4, h2⟩
  · exact .inl fun m hm he => h ⟨m, hm, he⟩

theorem like_pre {A : Nat → Prop} {j : Nat} (hj : j ≤ f.length) (hy : ∀ k, k < j → A k → (y k).within (Src' f A k)) {st' : St} (hs : ∀ i, Src' f A j i → st'[i]? = (pre' f y st j)[i]?) : Like (Src' f A j) (pre' f y st j) st' := by
  refine ⟨hs, ?_⟩
  intro i x hi hx
  rcases hi with ho | ⟨m, h1, h2, h3⟩
  · rw [pre_out j fun k hk => ho k (by omega)] at hx
    exact within_mono (fun r hr => .inl hr) x (h0 i x hx)
  · rw [pre_in hdis h3 j h1 hj] at hx
    simp only [Option.map_eq_some_iff] at hx
    obtain ⟨_, _, rfl⟩ := hx
    exact within_mono (fun r hr => hr.imp id fun ⟨m', q1, q2, q3⟩ => ⟨m', by omega, q2, q3⟩) _ (hy m h1 h2)

theorem y_within {A : Nat → Prop} (hcl : ∀ j, A j → ∀ k ∈ af j, A k) : ∀ (j : Nat), j < f.length → A j → (y j).within (Src' f A j) := by
  intro j
  induction j using Nat.strongRecOn with
  | _ j ih =>
    intro hj ha
    have hm := List.getElem?_eq_getElem hj
    obtain ⟨d, h1, h2, h3⟩ := hval j _ hm
    have L := like_pre hdis hrd h0 hval (A := A) (j := j) (by omega) (fun k hk hak => ih k hk (by omega) hak) (st' := pre' f y st j) (fun _ _ => rfl)
    exact (valG_like L call _ (rds_src hrd hm (hcl j ha))).2 _ h3

/-- What a state says when some of the operations are done. -/
structure Des (f : List MG) (y : Nat → V) (st : St) (A : Nat → Prop) (s : St) : Prop where
  out : ∀ i, (∀ m, m < f.length → A m → dstK f m ≠ some i) → s[i]? = st[i]?
  done : ∀ m d, m < f.length → A m → dstK f m = some d → s[d]? = (st[d]?).map fun _ => y m

theorem val_des {A : Nat → Prop} (hcl : ∀ j, A j → ∀ k ∈ af j, A k) {s : St} (hd : Des f y st A s) {j : Nat} {m : MG} (hm : f[j]? = some m) (hA : ¬ A j) (haf : ∀ k ∈ af j, A k) :
    ∃ d, m.op.dst = some d ∧ free s d = true ∧ valG call s m = some (y j) := by
  have hj := lt_of_get hm
  obtain ⟨d, h1, h2, h3⟩ := hval j m hm
  have hdj : dstK f j = some d := by simp [dstK, hm, h1]
  refine ⟨d, h1, ?_, ?_⟩
  · have e1 : s[d]? = st[d]? := hd.out d fun k hk hak he => by
      by_cases hkj : k = j
      · subst hkj; exact hA hak
      · exact hdis j k hj hk hkj (by rw [he, hdj])
    have e2 : (pre' f y st j)[d]? = st[d]? := pre_out j fun k hk he => hdis j k hj (by omega) (by omega) (by rw [he, hdj])
    unfold free at h2 ⊢
    rw [e1, ← e2]
    exact h2
  · have L := like_pre hdis hrd h0 hval (A := A) (j := j) (by omega) (fun k hk hak => y_within hdis hrd h0 hval hcl k (by omega) hak) (st' := s) (by
      intro i hi
      rcases hi with ho | ⟨k, q1, q2, q3⟩
      · rw [pre_out j fun k hk => ho k (by omega)]
        exact hd.out i fun k hk _ => ho k hk
      · rw [pre_in hdis q3 j q1 (by omega)]
        exact hd.done k i (by omega) q2 q3)
    rw [(valG_like L call m (rds_src hrd hm haf)).1]
    exact h3

omit hrd h0 hval in
theorem des_all {A : Nat → Prop} {s : St} (hd : Des f y st A s) (hall : ∀ k, k < f.length → A k) : s = pre' f y st f.length := by
  apply List.ext_getElem?
  intro i
  by_cases h : ∃ k, k < f.length ∧ dstK f k = some i
  · obtain ⟨k, h1, h2⟩ := h
    rw [hd.done k i h1 (hall k h1) h2, pre_in hdis h2 f.length h1 (Nat.le_refl _)]
  · have hn : ∀ m, m < f.length → dstK f m ≠ some i := fun m hm he => h ⟨m, hm, he⟩
    rw [hd.out i fun m hm _ => hn m hm, pre_out f.length hn]

omit hrd h0 hval in
theorem des_set {A A' : Nat → Prop} {s : St} (hd : Des f y st A s) {j d : Nat} (hj : j < f.length) (hdj : dstK f j = some d) (hA : ¬ A j) (hA' : ∀ k, A' k ↔ A k ∨ k = j) : Des f y st A' (s.set d (y j)) := by
  refine ⟨fun i hi => ?_, fun m d' hm hm' hd' => ?_⟩
  · have hne : d ≠ i := fun e => hi j hj ((hA' j).2 (.inr rfl)) (by rw [hdj, e])
    rw [List.getElem?_set_ne hne]
    exact hd.out i fun m hm hma => hi m hm ((hA' m).2 (.inl hma))
  · by_cases he : m = j
    · subst he
      rw [hdj] at hd'
      cases hd'
      rw [List.getElem?_set_self']
      have : s[d]? = st[d]? := hd.out d fun k hk hak he => by
        by_cases hkj : k = m
        · subst hkj; exact hA hak
        · exact hdis m k hj hk hkj (by rw [he, hdj])
      rw [this]
      rfl
    · have hne : d ≠ d' := fun e => hdis j m hj hm he (by rw [hd', hdj, e])
      rw [List.getElem?_set_ne hne]
      exact hd.done m d' hm (((hA' m).1 hm').resolve_right he) hd'

end

/-! ### the region -/

mutual
theorem within_rel {E : Env} {st : St} {ts : List C} {tm : Array Value} {w : World} (h : Rel E st ts tm w) : ∀ (x : V) (u : Value), VRel E ts x u → x.within fun r => isOwn (st.getD r .dead) = true
  | .ref r p, u, hv => by
    obtain ⟨t0, k, kids, h1, h2, _⟩ := hv
    exact root_own h h1 h2
  | .sub r p _ _ _, u, hv => by
    obtain ⟨t0, d, n', kids, c, a, ad, h1, h2, _⟩ := hv
    exact root_own h h1 h2
  | .ad r p _, u, hv => by
    obtain ⟨t0, k, kids, a, h1, h2, _⟩ := hv
    exact root_own h h1 h2
  | .vn k vs, u, hv => by
    obtain ⟨us, h1, _⟩ := hv
    exact withinL_rel h vs us h1
  | .sc _, _, _ => trivial
  | .own _, _, _ => trivial
  | .ro _, _, _ => trivial
  | .rad _ _, _, _ => trivial
  | .dead, _, _ => trivial
theorem withinL_rel {E : Env} {st : St} {ts : List C} {tm : Array Value} {w : World} (h : Rel E st ts tm w) : ∀ (xs : List V) (us : List Value), VRelL E ts xs us → V.withinL (fun r => isOwn (st.getD r .dead) = true) xs
  | [], _, _ => trivial
  | x :: xs, us, hv => by
    obtain ⟨u, us', _, h1, h2⟩ := hv
    exact ⟨within_rel h x u h1, withinL_rel h xs us' h2⟩
theorem root_own {E : Env} {st : St} {ts : List C} {tm : Array Value} {w : World} (h : Rel E st ts tm w) {r : Nat} {p : List Nat} {t0 : C} {k : K Dec} {kids : List C} (h1 : ts[r]? = some t0) (h2 : getAt t0 p = some (.nd k kids)) :
    isOwn (st.getD r .dead) = true := by
  have hlt : r < st.length := by have := lt_of_get h1; rw [h.lenT] at this; exact this
  have hx := List.getElem?_eq_getElem hlt
  have hs := h.slot' hx
  rw [List.getD_eq_getElem?_getD, hx, Option.getD_some]
  by_cases ho : ∃ d, st[r] = .own d
  · obtain ⟨d, hd⟩ := ho; rw [hd]; rfl
  · obtain ⟨_, z, hz⟩ := hs.nonown fun d hd => ho ⟨d, hd⟩
    rw [h1] at hz
    cases hz
    cases p <;> simp [getAt] at h2
end

theorem countP_lt {p p' : Nat → Bool} {j : Nat} : ∀ {l : List Nat}, j ∈ l → p j = true → p' j = false → (∀ i, p' i = true → p i = true) → l.countP p' < l.countP p
  | [], h, _, _, _ => by simp at h
  | x :: xs, h, hp, hp', himp => by
    rw [List.countP_cons, List.countP_cons]
    have hle : xs.countP p' ≤ xs.countP p := List.countP_mono_left fun i _ hi => himp i hi
    rcases List.mem_cons.1 h with rfl | h
    · rw [hp, hp']; simp; omega
    · have := countP_lt h hp hp' himp
      by_cases hx : p' x = true
      · rw [hx, himp x hx]; omega
      · simp only [hx, Bool.false_eq_true, if_false]
        split <;> omega

section
variable {P : Program} {E : Env} {call : Oracle} (hc : CallsOK P E.g call) {ops : Array Oper} {ms : List MG}

theorem msX_get {s : Nat} {ms : List MG} {j : Nat} {m : MG} (h : (msX s ms)[j]? = some m) : ∃ m0, ms[j]? = some m0 ∧ (m = m0 ∨ m = asMv m0) := by
  unfold msX at h
  have hl : ((ms.take s).map asMv).length = min s ms.length := by simp
  by_cases hj : j < min s ms.length
  · rw [List.getElem?_append_left (by rw [hl]; exact hj), List.getElem?_map, List.getElem?_take, if_pos (by omega)] at h
    cases hm : ms[j]? with
    | none => rw [hm] at h; cases h
    | some m0 =>
      rw [hm] at h
      simp only [Option.map_some, Option.some.injEq] at h
      exact ⟨m0, rfl, .inr h.symm⟩
  · rw [List.getElem?_append_right (by rw [hl]; omega), hl, List.getElem?_drop] at h
    by_cases hs : s ≤ ms.length
    · rw [show s + (j - min s ms.length) = j by omega] at h
      exact ⟨m, h, .inl rfl⟩
    · rw [List.getElem?_eq_none (by omega)] at h
      cases h
theorem compOps_get : ∀ (l : List Oper) (ms : List MG), compOps P ops l = some ms → ms.length = l.length ∧ ∀ (j : Nat) (m : MG), ms[j]? = some m → ∃ o : Oper, l[j]? = some o ∧ compG P ops o = some m
  | [], ms, h => by simp only [compOps, Option.some.injEq] at h; subst h; exact ⟨rfl, fun j m hm => by simp at hm⟩
  | o :: l, ms, h => by
    simp only [compOps] at h
    cases h1 : compG P ops o with
    | none => simp [h1] at h
    | some m =>
      simp only [h1] at h
      cases h2 : compOps P ops l with
      | none => simp [h2] at h
      | some ms' =>
        simp only [h2, Option.some.injEq] at h
        subst h
        obtain ⟨e1, e2⟩ := compOps_get l ms' h2
        refine ⟨by simp [e1], fun j m' hm => ?_⟩
        cases j with
        | zero => simp at hm; subst hm; exact ⟨o, rfl, h1⟩
        | succ j => simp at hm; simpa using e2 j m' hm

variable {Q : Exit → Act → World → Prop} {a0 : Act} {F : Nat → Prop} (hNF : ∀ (j : Nat) (m : MG), ms[j]? = some m → ∀ d, m.op.dst = some d → ¬ F d)

theorem ready_iff {listed : Array Bool} (hsz : listed.size = ops.size) {j : Nat} : j ∈ Region.ready .any ops listed ↔ j < ops.size ∧ ¬ InL listed j ∧ ∀ k ∈ afF ops j, InL listed k := by
  rw [mem_ready]
  constructor
  · rintro ⟨h1, o, ho, h2⟩
    have hj : j < ops.size := (Array.getElem?_eq_some_iff.1 ho).1
    refine ⟨hj, fun h => ?_, fun k hk => ?_⟩
    · unfold InL at h
      have hl : j < listed.size := by omega
      simp [hl] at h h1
      rw [h] at h1; cases h1
    · simp only [afF, ho, aftOf, List.mem_map, List.mem_filter] at hk
      obtain ⟨e, ⟨he1, he2⟩, rfl⟩ := hk
      exact h2 e (by simpa using he1) he2
  · rintro ⟨hj, h1, h2⟩
    have ho := Array.getElem?_eq_getElem hj
    refine ⟨?_, _, ho, fun e he hb => h2 e.on ?_⟩
    · unfold InL at h1
      have hl : j < listed.size := by omega
      simp [hl] at h1 ⊢
      exact h1
    · simp only [afF, ho, aftOf, List.mem_map, List.mem_filter]
      exact ⟨e, ⟨by simpa using he, hb⟩, rfl⟩

theorem sel_get : ∀ (sg : List Nat) (l : List Oper), sel ops sg = some l → l.length = sg.length ∧ ∀ (p : Nat) (i : Nat), sg[p]? = some i → ∃ o : Oper, ops[i]? = some o ∧ l[p]? = some o
  | [], l, h => by simp only [sel, Option.some.injEq] at h; subst h; exact ⟨rfl, fun p i hp => by simp at hp⟩
  | k :: is, l, h => by
    simp only [sel] at h
    cases h1 : ops[k]? with
    | none => simp [h1] at h
    | some o =>
      simp only [h1] at h
      cases h2 : sel ops is with
      | none => simp [h2] at h
      | some os =>
        simp only [h2, Option.some.injEq] at h
        subst h
        obtain ⟨e1, e2⟩ := sel_get is os h2
        refine ⟨by simp [e1], fun p i hp => ?_⟩
        cases p with
        | zero => simp at hp; subst hp; exact ⟨o, h1, rfl⟩
        | succ p => simp at hp; simpa using e2 p i hp

/-- An order of the operations. -/
structure Ord (ops : Array Oper) (sg : List Nat) : Prop where
  len : sg.length = ops.size
  lt : ∀ p, p < ops.size → sg.getD p 0 < ops.size
  inj : ∀ p q, p < ops.size → q < ops.size → sg.getD p 0 = sg.getD q 0 → p = q
  sur : ∀ i, i < ops.size → ∃ p, p < ops.size ∧ sg.getD p 0 = i
  aft : ∀ i, i < ops.size → ∀ k ∈ afF ops i, k < ops.size

/-- The operation at a place is done. -/
def InP (ops : Array Oper) (sg : List Nat) (listed : Array Bool) (p : Nat) : Prop := p < ops.size ∧ InL listed (sg.getD p 0)

theorem mem_afP {sg : List Nat} (h : sg.length = ops.size) {p q : Nat} : q ∈ afP (afF ops) sg p ↔ q < ops.size ∧ sg.getD q 0 ∈ afF ops (sg.getD p 0) := by
  simp [afP, h]

theorem ready_pos {sg : List Nat} (O : Ord ops sg) {listed : Array Bool} (hsz : listed.size = ops.size) {j : Nat} :
    j ∈ Region.ready .any ops listed ↔ ∃ p, p < ops.size ∧ sg.getD p 0 = j ∧ ¬ InP ops sg listed p ∧ ∀ q ∈ afP (afF ops) sg p, InP ops sg listed q := by
  rw [ready_iff hsz]
  constructor
  · rintro ⟨h1, h2, h3⟩
    obtain ⟨p, hp, rfl⟩ := O.sur j h1
    refine ⟨p, hp, rfl, fun h => h2 h.2, fun q hq => ?_⟩
    obtain ⟨q1, q2⟩ := (mem_afP O.len).1 hq
    exact ⟨q1, h3 _ q2⟩
  · rintro ⟨p, hp, rfl, h2, h3⟩
    refine ⟨O.lt p hp, fun h => h2 ⟨hp, h⟩, fun k hk => ?_⟩
    obtain ⟨q, hq, rfl⟩ := O.sur k (O.aft _ (O.lt p hp) k hk)
    exact (h3 q ((mem_afP O.len).2 ⟨hq, hk⟩)).2

theorem inL_set {listed : Array Bool} {j : Nat} (hj : j < listed.size) (k : Nat) : InL (listed.setIfInBounds j true) k ↔ InL listed k ∨ k = j := by
  unfold InL
  by_cases h : j = k
  · subst h; simp [hj]
  · rw [getD_set_ne false h]
    constructor
    · exact .inl
    · rintro (h1 | h1)
      · exact h1
      · exact absurd h1.symm h

theorem inP_set {sg : List Nat} (O : Ord ops sg) {listed : Array Bool} (hsz : listed.size = ops.size) {p : Nat} (hp : p < ops.size) (q : Nat) :
    InP ops sg (listed.setIfInBounds (sg.getD p 0) true) q ↔ InP ops sg listed q ∨ q = p := by
  unfold InP
  have hl := O.lt p hp
  constructor
  · rintro ⟨h1, h2⟩
    rcases (inL_set (by omega) _).1 h2 with h | h
    · exact .inl ⟨h1, h⟩
    · exact .inr (O.inj q p h1 hp h)
  · rintro (⟨h1, h2⟩ | rfl)
    · exact ⟨h1, (inL_set (by omega) _).2 (.inl h2)⟩
    · exact ⟨hp, (inL_set (by omega) _).2 (.inr rfl)⟩

include hc hNF in
theorem tail_ok {sg : List Nat} (O : Ord ops sg) (hlen : ms.length = ops.size) (hget : ∀ (j : Nat) (m : MG), ms[j]? = some m → ∃ o : Oper, ops[sg.getD j 0]? = some o ∧ cG P ops o m) (haf : ∀ j, j < ops.size → ∀ k ∈ afP (afF ops) sg j, k < j) {s : Nat} {mu : Nat} (hmu : mu ≤ s) (htl : ∀ j, j < ops.size → s ≤ j → ∀ i, mu ≤ i → i < j → ((ancM (afP (afF ops) sg) ops.size).getD j 0).testBit i = true) {st2 : St}
    (hq : ∀ a' w' ts', Kp F a0 a' → Rel E st2 ts' a'.tmps w' → Q .normal a' w') : ∀ (r t fuel : Nat) (listed : Array Bool) {st : St} {ts : List C} {a : Act} {w : World}, t + r = ops.size → s ≤ t → r ≤ fuel → listed.size = ops.size → (∀ i, i < ops.size → (InP ops sg listed i ↔ i < t)) →
      Kp F a0 a → Rel E st ts a.tmps w → stepsG call (ms.drop t) st = some st2 → wpAny P .any ops Q fuel listed a w := by
  intro r
  induction r with
  | zero =>
    intro t fuel listed st ts a w htr hst hf hsz hin hdef hr hs
    have hd : ms.drop t = [] := List.drop_eq_nil_of_le (by rw [hlen]; omega)
    rw [hd] at hs
    simp only [stepsG, Option.some.injEq] at hs
    subst hs
    refine wpAny_done ?_ (hq a w ts hdef hr) fuel
    apply List.eq_nil_iff_forall_not_mem.2
    intro j hj
    obtain ⟨p, h1, _, h2, _⟩ := (ready_pos O hsz).1 hj
    exact h2 ((hin p h1).2 (by omega))
  | succ r ih =>
    intro t fuel listed st ts a w htr hst hf hsz hin hdef hr hs
    obtain ⟨fuel, rfl⟩ : ∃ k, fuel = k + 1 := ⟨fuel - 1, by omega⟩
    have htlt : t < ops.size := by omega
    have htm : t < ms.length := by rw [hlen]; exact htlt
    rw [List.drop_eq_getElem_cons htm] at hs
    simp only [stepsG] at hs
    obtain ⟨o, ho', hcg⟩ := hget t _ (List.getElem?_eq_getElem htm)
    cases hs1 : Mx.stepG call st ms[t] with
    | none => simp [hs1] at hs
    | some st1 =>
      simp only [hs1] at hs
      have hmem : sg.getD t 0 ∈ Region.ready .any ops listed := (ready_pos O hsz).2 ⟨t, htlt, rfl, fun h => by have := (hin t htlt).1 h; omega, fun k hk => (hin k (by have := haf t htlt k hk; omega)).2 (haf t htlt k hk)⟩
      refine ⟨fun h => (by rw [h] at hmem; cases hmem), fun j' hj => ?_⟩
      obtain ⟨j, h1, rfl, h2, h3⟩ := (ready_pos O hsz).1 hj
      have hjt : j = t := by
        by_cases he : j = t
        · exact he
        · have hgt : t < j := by
            rcases Nat.lt_or_ge j t with h4 | h4
            · exact absurd ((hin j h1).2 h4) h2
            · omega
          have := anc_in haf (A := InP ops sg listed) (fun i hi k hk => (hin k (by have := haf i hi.1 k hk; have := hi.1; omega)).2 (by have := (hin i hi.1).1 hi; have := haf i hi.1 k hk; omega)) j h1 h3 t (htl j h1 (by omega) t (by omega) hgt)
          have := (hin t htlt).1 this
          omega
      subst hjt
      refine wpOp_ok hr hc ho' hcg hs1 (hNF _ _ (List.getElem?_eq_getElem htm)) fun a' w' ts' hd' hr' => ?_
      refine ih (j + 1) fuel _ (by omega) (by omega) (by omega) (by simpa using hsz) ?_ (hdef.trans hd') hr' hs
      intro i hi
      rw [inP_set O hsz h1]
      have := hin i hi
      constructor
      · rintro (h | h)
        · have := this.1 h; omega
        · omega
      · intro h
        by_cases he : i = j
        · exact .inr he
        · exact .inl (this.2 (by omega))

include hc hNF in
theorem free_ok {sg : List Nat} (O : Ord ops sg) (hlen : ms.length = ops.size) (hget : ∀ (j : Nat) (m : MG), ms[j]? = some m → ∃ o : Oper, ops[sg.getD j 0]? = some o ∧ cG P ops o m) (haf : ∀ j, j < ops.size → ∀ k ∈ afP (afF ops) sg j, k < j) {s : Nat} (hsn : s ≤ ops.size)
    {mu : Nat} (hmu : mu ≤ s) (htl : ∀ j, j < ops.size → s ≤ j → ∀ i, mu ≤ i → i < j → ((ancM (afP (afF ops) sg) ops.size).getD j 0).testBit i = true)
    (hdis : ∀ j k, j < (ms.take s).length → k < (ms.take s).length → k ≠ j → dstK (ms.take s) k ≠ dstK (ms.take s) j)
    (hrd : ∀ (j : Nat) (m : MG), (ms.take s)[j]? = some m → ∀ i ∈ m.rds, ∀ k, k < (ms.take s).length → dstK (ms.take s) k = some i → k < j ∧ k ∈ afP (afF ops) sg j)
    {y : Nat → V} {st0 : St} (h0 : ∀ (i : Nat) (x : V), st0[i]? = some x → x.within fun r => ∀ m, m < (ms.take s).length → dstK (ms.take s) m ≠ some r)
    (hval : ∀ (j : Nat) (m : MG), (ms.take s)[j]? = some m → ∃ d, m.op.dst = some d ∧ free (pre' (ms.take s) y st0 j) d = true ∧ valG call (pre' (ms.take s) y st0 j) m = some (y j))
    {st2 : St} (hs : stepsG call (ms.drop s) (pre' (ms.take s) y st0 (ms.take s).length) = some st2)
    (hq : ∀ a' w' ts', Kp F a0 a' → Rel E st2 ts' a'.tmps w' → Q .normal a' w') : ∀ (c fuel : Nat) (listed : Array Bool) {st : St} {ts : List C} {a : Act} {w : World},
      (List.range s).countP (fun i => !listed.getD (sg.getD i 0) false) = c → c + (ops.size - s) ≤ fuel → listed.size = ops.size → (∀ i, InP ops sg listed i → i < s) → (∀ j, InP ops sg listed j → ∀ k ∈ afP (afF ops) sg j, InP ops sg listed k) → (∀ i, i < mu → InP ops sg listed i) →
      Des (ms.take s) y st0 (InP ops sg listed) st → Kp F a0 a → Rel E st ts a.tmps w → wpAny P .any ops Q fuel listed a w := by
  have hfl : (ms.take s).length = s := by rw [List.length_take, hlen]; omega
  intro c
  induction c using Nat.strongRecOn with
  | _ c ih =>
    intro fuel listed st ts a w hcnt hf hsz hlt hcl hmv hdes hdef hr
    by_cases hall : ∀ i, i < s → InP ops sg listed i
    · have he := des_all hdis hdes (fun k hk => hall k (by omega))
      subst he
      exact tail_ok hc hNF O hlen hget haf hmu htl hq (ops.size - s) s fuel listed (by omega) (Nat.le_refl _) (by omega) hsz (fun i _ => ⟨hlt i, hall i⟩) hdef hr hs
    · -- some free operation is left
      have hex : ∃ j, j < s ∧ ¬ InP ops sg listed j ∧ ∀ k, k < j → InP ops sg listed k := by
        have : ∀ n, n ≤ s → (∀ i, i < n → InP ops sg listed i) ∨ ∃ j, j < s ∧ ¬ InP ops sg listed j ∧ ∀ k, k < j → InP ops sg listed k := by
          intro n
          induction n with
          | zero => intro _; exact .inl fun i hi => by omega
          | succ n ih =>
            intro hn
            rcases ih (by omega) with h | h
            · by_cases hn' : InP ops sg listed n
              · exact .inl fun i hi => by
                  by_cases he : i = n
                  · subst he; exact hn'
                  · exact h i (by omega)
              · exact .inr ⟨n, by omega, hn', h⟩
            · exact .inr h
        exact (this s (Nat.le_refl _)).resolve_left hall
      obtain ⟨j0, hj0, hj1, hj2⟩ := hex
      have hpos : 0 < c := by
        rw [← hcnt]
        apply List.countP_pos_iff.2
        refine ⟨j0, List.mem_range.2 hj0, ?_⟩
        have : ¬ InL listed (sg.getD j0 0) := fun h => hj1 ⟨by omega, h⟩
        unfold InL at this
        simpa using this
      obtain ⟨fuel, rfl⟩ : ∃ k, fuel = k + 1 := ⟨fuel - 1, by omega⟩
      have hmem : sg.getD j0 0 ∈ Region.ready .any ops listed := (ready_pos O hsz).2 ⟨j0, by omega, rfl, hj1, fun k hk => hj2 k (haf j0 (by omega) k hk)⟩
      refine ⟨fun h => (by rw [h] at hmem; cases hmem), fun j' hj => ?_⟩
      obtain ⟨j, h1, rfl, h2, h3⟩ := (ready_pos O hsz).1 hj
      have hjs : j < s := by
        rcases Nat.lt_or_ge j s with h4 | h4
        · exact h4
        · exact absurd (anc_in haf hcl j h1 h3 j0 (htl j h1 h4 j0 (Nat.le_of_not_lt fun h5 => hj1 (hmv j0 h5)) (by omega))) hj1
      have hjm : j < ms.length := by rw [hlen]; exact h1
      have hm : (ms.take s)[j]? = some ms[j] := by rw [List.getElem?_take, if_pos hjs, List.getElem?_eq_getElem hjm]
      obtain ⟨o, ho', hcg⟩ := hget j _ (List.getElem?_eq_getElem hjm)
      obtain ⟨d, hd1, hd2, hd3⟩ := val_des hdis hrd h0 hval hcl hdes hm h2 h3
      have hstep := valG_step hd3 hd1 hd2
      have hdj : dstK (ms.take s) j = some d := by simp only [dstK, hm, Option.bind_some, hd1]
      refine wpOp_ok hr hc ho' hcg hstep (hNF _ _ (List.getElem?_eq_getElem hjm)) fun a' w' ts' hd' hr' => ?_
      have hin := inP_set O hsz h1
      have h2' : ¬ InL listed (sg.getD j 0) := fun h => h2 ⟨h1, h⟩
      have hj3 : InL (listed.setIfInBounds (sg.getD j 0) true) (sg.getD j 0) := ((hin j).2 (.inr rfl)).2
      refine ih _ ?_ fuel (listed.setIfInBounds (sg.getD j 0) true) rfl ?_ (by simpa using hsz) ?_ ?_ (fun i hi => (hin i).2 (.inl (hmv i hi))) (des_set hdis hdes (by omega) hdj h2 hin) (hdef.trans hd') hr'
      · rw [← hcnt]
        refine countP_lt (j := j) (List.mem_range.2 hjs) ?_ ?_ ?_
        · unfold InL at h2'; simpa using h2'
        · unfold InL at hj3
          simp only [hj3, Bool.not_true]
        · intro i hi
          simp only [Bool.not_eq_true'] at hi ⊢
          cases hq' : listed.getD (sg.getD i 0) false with
          | false => rfl
          | true =>
            have := (inL_set (listed := listed) (j := sg.getD j 0) (by have := O.lt j h1; omega) (sg.getD i 0)).2 (.inl hq')
            unfold InL at this
            rw [this] at hi
            cases hi
      · have : (List.range s).countP (fun i => !(listed.setIfInBounds (sg.getD j 0) true).getD (sg.getD i 0) false) < c := by
          rw [← hcnt]
          refine countP_lt (j := j) (List.mem_range.2 hjs) ?_ ?_ ?_
          · unfold InL at h2'; simpa using h2'
          · unfold InL at hj3
            simp only [hj3, Bool.not_true]
          · intro i hi
            simp only [Bool.not_eq_true'] at hi ⊢
            cases hq' : listed.getD (sg.getD i 0) false with
            | false => rfl
            | true =>
              have := (inL_set (listed := listed) (j := sg.getD j 0) (by have := O.lt j h1; omega) (sg.getD i 0)).2 (.inl hq')
              unfold InL at this
              rw [this] at hi
              cases hi
        omega
      · intro i hi
        rcases (hin i).1 hi with h | h
        · exact hlt i h
        · omega
      · intro i hi k hk
        rcases (hin i).1 hi with h | h
        · exact (hin k).2 (.inl (hcl i h k hk))
        · subst h; exact (hin k).2 (.inl (h3 k hk))

omit hc in
/-- What may be done first gives the same value in any world. -/
theorem first_ok {i : Nat} {o : Oper} (ho : ops[i]? = some o) (h : (isMv ops i || isSlc ops i) = true) {m : MG} (hcg : cG P ops o m) {st : St} {ts : List C} {a : Act} {w : World} (hr : Rel E st ts a.tmps w) {y : V} (hv : valG call st m = some y) :
    o.guard = none ∧ ∃ d v, m.op.dst = some d ∧ o.dst = some d ∧ (∀ w', (execOp a.eval o).run P w' = .ok (.value v) w') ∧ VRel E ts y v := by
  obtain ⟨m0, hcg, hm0⟩ := hcg
  rw [Bool.or_eq_true] at h
  rcases h with h | h
  · unfold isMv at h
    rw [ho] at h
    simp only [Bool.and_eq_true, Option.isNone_iff_eq_none] at h
    obtain ⟨⟨j1, j2⟩, _⟩ := h
    obtain ⟨x, hx⟩ : ∃ x, o.op = .move x := by
      cases hop : o.op <;> simp [hop] at j1
      exact ⟨_, rfl⟩
    refine ⟨j2, ?_⟩
    unfold compG compOp at hcg
    rw [hx, j2] at hcg
    simp only at hcg
    generalize hod : o.dst = od at hcg
    cases od with
    | none => simp [hod] at hcg
    | some d' =>
      cases hom : opd (esT P o.type) x with
      | none => simp [hod, hom] at hcg
      | some m1 =>
        simp only [hod, hom, Option.some.injEq] at hcg
        rw [show zfix ops (MOp.mv d' m1) = MOp.mv d' m1 from rfl] at hcg
        have hcg : m = (⟨none, .mv d' m1⟩ : MG) := by
          rcases hm0 with h | h <;> rw [h, ← hcg]
          rfl
        subst hcg
        simp only [valG, wanted, val1] at hv
        split at hv
        · cases hv
        · cases hv
          refine ⟨d', a.eval x, rfl, rfl, fun w' => ?_, ev_ok hr (opd_ok (a := a) hom)⟩
          unfold execOp
          rw [hx]
          rfl
  · unfold isSlc at h
    rw [ho] at h
    simp only [Bool.and_eq_true, Option.isNone_iff_eq_none] at h
    obtain ⟨⟨j1, j2⟩, _⟩ := h
    obtain ⟨t, x, lo, hi, hx⟩ : ∃ t x lo hi, o.op = .slice t x lo hi none := by
      split at j1
      · rename_i hop; exact ⟨_, _, _, _, hop⟩
      · cases j1
    refine ⟨j2, ?_⟩
    have key : ∀ {d es : Nat} {mx : MO} {ml mh : Option MO} {e : TypeId}, o.dst = some d → P.underlying t = some (.slice e) → sizeT P e = some es → opd 0 x = some mx → OptM lo ml → OptM hi mh → m = ⟨none, .sl d es mx ml mh⟩ →
        ∃ v, m.op.dst = some d ∧ (∀ w', (execOp a.eval o).run P w' = .ok (.value v) w') ∧ VRel E ts y v := by
      rintro d es mx ml mh e hd hu hes hxx hml hmh rfl
      simp only [valG, wanted, val1] at hv
      split at hv
      · rename_i l h' hl hh
        obtain ⟨v, h1, h2⟩ := sl_yields hr hx hu hes hxx hml hmh hl hh hv
        exact ⟨v, rfl, h1, h2⟩
      · cases hv
    have keyS : ∀ {d : Nat} {mx : MO} {ml mh : Option MO}, P.underlying t = some .string → opd 0 x = some mx → OptM lo ml → OptM hi mh → m = ⟨none, .ssl d mx ml mh⟩ →
        ∃ v, m.op.dst = some d ∧ (∀ w', (execOp a.eval o).run P w' = .ok (.value v) w') ∧ VRel E ts y v := by
      rintro d mx ml mh hu hxx hml hmh rfl
      simp only [valG, wanted, val1] at hv
      split at hv
      · rename_i s hev
        split at hv
        · rename_i l h' hl hh
          obtain ⟨v, h1, h2⟩ := ssl_yields hr hx hu hxx hml hmh hev hl hh hv
          exact ⟨v, rfl, h1, h2⟩
        · cases hv
      · cases hv
    unfold compG compOp at hcg
    rw [hx, j2] at hcg
    simp only at hcg
    generalize hod : o.dst = od at hcg
    by_cases hstr : isStrT P t = true
    · have hu : P.underlying t = some .string := by
        unfold isStrT at hstr
        split at hstr
        · assumption
        · cases hstr
      cases od with
      | none => simp at hcg
      | some d' =>
        cases hom : opd 0 x with
        | none => simp [hom] at hcg
        | some mx =>
          simp only [hom, hstr, if_true, Option.isSome_none, Bool.false_eq_true, if_false] at hcg
          cases lo with
          | none =>
            cases hi with
            | none =>
              simp only [Option.some.injEq] at hcg
              subst hcg
              obtain ⟨v, k1, k2, k3⟩ := keyS (d := d') hu hom (ml := none) (mh := none) trivial trivial (by rcases hm0 with h | h <;> rw [h] <;> rfl)
              exact ⟨d', v, k1, (by first | exact hod | rfl), k2, k3⟩
            | some h =>
              cases hh : opd 0 h with
              | none => simp [hh] at hcg
              | some h' =>
                simp only [hh, Option.some.injEq] at hcg
                subst hcg
                obtain ⟨v, k1, k2, k3⟩ := keyS (d := d') hu hom (ml := none) (mh := some h') trivial hh (by rcases hm0 with h | h <;> rw [h] <;> rfl)
                exact ⟨d', v, k1, (by first | exact hod | rfl), k2, k3⟩
          | some l =>
            cases hl : opd 0 l with
            | none => cases hi <;> simp [hl] at hcg
            | some l' =>
              cases hi with
              | none =>
                simp only [hl, Option.some.injEq] at hcg
                subst hcg
                obtain ⟨v, k1, k2, k3⟩ := keyS (d := d') hu hom (ml := some l') (mh := none) hl trivial (by rcases hm0 with h | h <;> rw [h] <;> rfl)
                exact ⟨d', v, k1, (by first | exact hod | rfl), k2, k3⟩
              | some h =>
                cases hh : opd 0 h with
                | none => simp [hl, hh] at hcg
                | some h' =>
                  simp only [hl, hh, Option.some.injEq] at hcg
                  subst hcg
                  obtain ⟨v, k1, k2, k3⟩ := keyS (d := d') hu hom (ml := some l') (mh := some h') hl hh (by rcases hm0 with h | h <;> rw [h] <;> rfl)
                  exact ⟨d', v, k1, (by first | exact hod | rfl), k2, k3⟩
    have hstr : isStrT P t = false := by simpa using hstr
    cases od with
    | none => simp [hod] at hcg
    | some d' =>
      cases hom : opd 0 x with
      | none => simp [hod, hom] at hcg
      | some mx =>
        cases hel : elemT P t with
        | none => simp [hod, hom, hel, hstr] at hcg
        | some q =>
          obtain ⟨e, es⟩ := q
          obtain ⟨hu, hes⟩ := elemT_some hel
          simp only [hod, hom, hel, hstr, isZero, Bool.false_eq_true, false_and, if_false, Option.isSome_none] at hcg
          cases lo with
          | none =>
            cases hi with
            | none =>
              simp only [Option.some.injEq] at hcg
              subst hcg
              obtain ⟨v, k1, k2, k3⟩ := key hod hu hes hom (ml := none) (mh := none) trivial trivial (by rcases hm0 with h | h <;> rw [h] <;> rfl)
              exact ⟨d', v, k1, (by first | exact hod | rfl), k2, k3⟩
            | some h =>
              cases hh : opd 0 h with
              | none => simp [hh] at hcg
              | some h' =>
                simp only [hh, Option.some.injEq] at hcg
                subst hcg
                obtain ⟨v, k1, k2, k3⟩ := key hod hu hes hom (ml := none) (mh := some h') trivial hh (by rcases hm0 with h | h <;> rw [h] <;> rfl)
                exact ⟨d', v, k1, (by first | exact hod | rfl), k2, k3⟩
          | some l =>
            cases hl : opd 0 l with
            | none => cases hi <;> simp [hl] at hcg
            | some l' =>
              cases hi with
              | none =>
                simp only [hl, Option.some.injEq] at hcg
                subst hcg
                obtain ⟨v, k1, k2, k3⟩ := key hod hu hes hom (ml := some l') (mh := none) hl trivial (by rcases hm0 with h | h <;> rw [h] <;> rfl)
                exact ⟨d', v, k1, (by first | exact hod | rfl), k2, k3⟩
              | some h =>
                cases hh : opd 0 h with
                | none => simp [hl, hh] at hcg
                | some h' =>
                  simp only [hl, hh, Option.some.injEq] at hcg
                  subst hcg
                  obtain ⟨v, k1, k2, k3⟩ := key hod hu hes hom (ml := some l') (mh := some h') hl hh (by rcases hm0 with h | h <;> rw [h] <;> rfl)
                  exact ⟨d', v, k1, (by first | exact hod | rfl), k2, k3⟩

include hc hNF in
theorem drw_ok0 {sg : List Nat} {os : List Oper} (hsel : sel ops sg = some os) {ms0 : List MG} {s0 : Nat} (hms : compOps P ops os = some ms0) (hX : ms = msX s0 ms0) {mu s : Nat} (hok : okDraw ops sg mu ms = some s) {st st1 st2 : St} {ts : List C} {w : World} (hr : Rel E st ts a0.tmps w) (hs : stepsF call (ms.take s) st = some st1) (ht : stepsG call (ms.drop s) st1 = some st2) {st3 : St} (hfin : ∀ (a' : Act) (w' : World) (ts' : List C), Rel E st2 ts' a'.tmps w' → ∃ ts'', Rel E st3 ts'' a'.tmps w') :
    wpAny P .any ops (fun e a' w' => e = .normal ∧ ∃ ts', Kp F a0 a' ∧ Rel E st3 ts' a'.tmps w') ops.size (Array.replicate ops.size false) a0 { w with drawn := w.drawn + 1 } := by
  obtain ⟨hlen0', hget0'⟩ := compOps_get (P := P) (ops := ops) _ _ hms
  have hget0 : ∀ (j : Nat) (m : MG), ms[j]? = some m → ∃ o : Oper, os[j]? = some o ∧ cG P ops o m := by
    intro j m hm
    rw [hX] at hm
    obtain ⟨m0, e1, e2⟩ := msX_get hm
    obtain ⟨o, f1, f2⟩ := hget0' j m0 e1
    exact ⟨o, f1, m0, f2, e2⟩
  obtain ⟨hl1, hsel'⟩ := sel_get _ _ hsel
  unfold okDraw at hok
  simp only at hok
  split at hok
  · rename_i hcond
    simp only [Option.some.injEq] at hok
    rw [hok] at hcond
    simp only [Bool.and_eq_true, decide_eq_true_eq] at hcond
    obtain ⟨⟨⟨⟨⟨⟨⟨c0, hlen⟩, c1⟩, c2⟩, c3⟩, c4⟩, c5⟩, c6⟩ := hcond
    have O : Ord ops sg := by
      unfold okPerm at c0
      simp only [Bool.and_eq_true, decide_eq_true_eq] at c0
      obtain ⟨⟨⟨⟨p1, p2⟩, p3⟩, p4⟩, p5⟩ := c0
      refine ⟨p1, fun p hp => ?_, fun p q hp hq he => ?_, fun i hi => ?_, fun i hi k hk => ?_⟩
      · have hp' : p < sg.length := by omega
        have := List.all_eq_true.1 p4 _ (List.getElem_mem hp')
        rw [List.getD_eq_getElem?_getD, List.getElem?_eq_getElem hp']
        simpa using this
      · have := List.all_eq_true.1 (List.all_eq_true.1 p3 p (List.mem_range.2 hp)) q (List.mem_range.2 hq)
        simp only [Bool.or_eq_true, beq_iff_eq, bne_iff_ne] at this
        exact this.resolve_right fun h => h he
      · have := List.all_eq_true.1 p2 i (List.mem_range.2 hi)
        simp only [List.contains_iff_mem] at this
        obtain ⟨p, hp, he⟩ := List.getElem_of_mem this
        exact ⟨p, by omega, by rw [List.getD_eq_getElem?_getD, List.getElem?_eq_getElem hp]; exact he⟩
      · have := List.all_eq_true.1 (List.all_eq_true.1 p5 i (List.mem_range.2 hi)) k hk
        simpa using this
    have hget : ∀ (j : Nat) (m : MG), ms[j]? = some m → ∃ o : Oper, ops[sg.getD j 0]? = some o ∧ cG P ops o m := by
      intro j m hm
      obtain ⟨o, h1, h2⟩ := hget0 j m hm
      have hj : j < sg.length := by have := lt_of_get hm; rw [O.len]; omega
      obtain ⟨o', h3, h4⟩ := hsel' j _ (List.getElem?_eq_getElem hj)
      rw [h1] at h4
      cases h4
      refine ⟨o, ?_, h2⟩
      rw [List.getD_eq_getElem?_getD, List.getElem?_eq_getElem hj]
      exact h3
    have haf : ∀ j, j < ops.size → ∀ k ∈ afP (afF ops) sg j, k < j := by
      intro j hj k hk
      have := List.all_eq_true.1 (List.all_eq_true.1 c1 j (List.mem_range.2 hj)) k hk
      simpa using this
    have htl : ∀ j, j < ops.size → s ≤ j → ∀ i, mu ≤ i → i < j → ((ancM (afP (afF ops) sg) ops.size).getD j 0).testBit i = true := by
      intro j hj hsj i hmi hi
      have := List.all_eq_true.1 c3 j (List.mem_range.2 hj)
      simp only [Bool.or_eq_true, decide_eq_true_eq] at this
      rcases this with h | h
      · omega
      · have := List.all_eq_true.1 h i (List.mem_range.2 hi)
        simp only [Bool.or_eq_true, decide_eq_true_eq] at this
        rcases this with h | h
        · omega
        · exact h
    have hF : ∀ (j : Nat) (m : MG), (ms.take s)[j]? = some m → (dstK (ms.take s) j).isSome = true ∧ (∀ k, k < (ms.take s).length → k = j ∨ dstK (ms.take s) k ≠ dstK (ms.take s) j) ∧
        ∀ i ∈ m.rds, ∀ k, k < (ms.take s).length → dstK (ms.take s) k ≠ some i ∨ (k < j ∧ k ∈ afP (afF ops) sg j) := by
      intro j m hm
      have := List.all_eq_true.1 c2 j (List.mem_range.2 (lt_of_get hm))
      simp only [hm, Bool.and_eq_true] at this
      obtain ⟨⟨q1, q2⟩, q3⟩ := this
      refine ⟨q1, fun k hk => ?_, fun i hi k hk => ?_⟩
      · have := List.all_eq_true.1 q2 k (List.mem_range.2 hk)
        simpa using this
      · have := List.all_eq_true.1 (List.all_eq_true.1 q3 i hi) k (List.mem_range.2 hk)
        simpa using this
    have hdis : ∀ j k, j < (ms.take s).length → k < (ms.take s).length → k ≠ j → dstK (ms.take s) k ≠ dstK (ms.take s) j := fun j k hj hk hne => ((hF j _ (List.getElem?_eq_getElem hj)).2.1 k hk).resolve_left hne
    have hrd : ∀ j m, (ms.take s)[j]? = some m → ∀ i ∈ m.rds, ∀ k, k < (ms.take s).length → dstK (ms.take s) k = some i → k < j ∧ k ∈ afP (afF ops) sg j := fun j m hm i hi k hk hd => ((hF j m hm).2.2 i hi k hk).resolve_left fun h => h hd
    obtain ⟨y, hy1, hy2⟩ := stepsF_vals _ _ _ hs
    subst hy1
    have hfree : ∀ m, m < (ms.take s).length → ∀ r, dstK (ms.take s) m = some r → isOwn (st.getD r .dead) = false := by
      intro m hm r hd
      obtain ⟨d, e1, e2, e3⟩ := hy2 m _ (List.getElem?_eq_getElem hm)
      have : d = r := by simp only [dstK, List.getElem?_eq_getElem hm, Option.bind_some, e1, Option.some.injEq] at hd; exact hd
      subst this
      have e4 : (pre' (ms.take s) y st m)[d]? = st[d]? := pre_out m fun k hk he => hdis m k hm (by omega) (by omega) (by rw [he, hd])
      unfold free at e2
      rw [e4] at e2
      rw [List.getD_eq_getElem?_getD]
      cases hx : st[d]? with
      | none => rfl
      | some x => simp only [hx] at e2; simpa using e2
    have hout : ∀ (i : Nat) (x : V), st[i]? = some x → x.within fun r => ∀ m, m < (ms.take s).length → dstK (ms.take s) m ≠ some r := by
      intro i x hx
      have hi : i < st.length := lt_of_get hx
      have hs' := hr.slot' hx
      by_cases ho : ∃ d, x = .own d
      · obtain ⟨d, rfl⟩ := ho; trivial
      · have hv := (hs'.nonown fun d hd => ho ⟨d, hd⟩).1
        refine within_mono ?_ x (within_rel hr x _ hv)
        intro r hrr m hm hd
        rw [hfree m hm r hd] at hrr
        cases hrr
    have hfl : (ms.take s).length = s := by rw [List.length_take, hlen]; omega
    -- what is done behind the first p operations of the order
    have hdone : ∀ p, p ≤ ops.size → (doneL ops.size (sg.take p)).size = ops.size ∧ ∀ q, InP ops sg (doneL ops.size (sg.take p)) q ↔ q < p ∧ q < ops.size := by
      intro p
      induction p with
      | zero =>
        intro _
        refine ⟨by simp [doneL], fun q => ⟨fun h => ?_, fun h => by omega⟩⟩
        have h := h.2
        unfold InL at h
        simp only [List.take_zero, doneL, List.foldl_nil] at h
        rw [Array.getD_eq_getD_getElem?, Array.getElem?_replicate] at h
        split at h <;> simp at h
      | succ p ih =>
        intro hp
        obtain ⟨e1, e2⟩ := ih (by omega)
        have hps : p < sg.length := by rw [O.len]; omega
        have e3 : doneL ops.size (sg.take (p + 1)) = (doneL ops.size (sg.take p)).setIfInBounds (sg.getD p 0) true := by
          rw [List.take_add_one, List.getElem?_eq_getElem hps]
          simp only [Option.toList_some, doneL, List.foldl_append, List.foldl_cons, List.foldl_nil]
          rw [List.getD_eq_getElem?_getD, List.getElem?_eq_getElem hps]
          rfl
        rw [e3]
        refine ⟨by simpa using e1, fun q => ?_⟩
        rw [inP_set O e1 (by omega), e2]
        constructor
        · rintro (⟨h1, h2⟩ | rfl)
          · exact ⟨by omega, h2⟩
          · exact ⟨by omega, by omega⟩
        · rintro ⟨h1, h2⟩
          by_cases he : q = p
          · exact .inr he
          · exact .inl ⟨by omega, h2⟩
    -- the moves first
    have main : ∀ (r p : Nat) {ts : List C} {a : Act} {w : World}, p + r = mu → Kp F a0 a → Rel E (pre' (ms.take s) y st p) ts a.tmps w →
        wpAny P .any ops (fun e a' w' => e = .normal ∧ ∃ ts', Kp F a0 a' ∧ Rel E st3 ts' a'.tmps w') (ops.size - p) (doneL ops.size (sg.take p)) a w := by
      intro r
      induction r with
      | zero =>
        intro p ts a w hp hdef hrel
        have hp : p = mu := by omega
        subst hp
        obtain ⟨e1, e2⟩ := hdone p (by omega)
        refine free_ok hc hNF O hlen hget haf c4 c6 htl hdis hrd (y := y) (st0 := st) hout hy2 ht (fun a' w' ts' h1 h2 => (hfin a' w' ts' h2).elim fun t h => ⟨rfl, t, h1, h⟩) _ (ops.size - p) _ rfl ?_ e1 ?_ ?_ ?_ ?_ hdef hrel
        · have : ∀ (l : List Nat) (b : Nat → Bool), (∀ i, i < p → b i = false) → (List.range s).countP b ≤ s - p := by
            intro _ b hb
            obtain ⟨d, hd⟩ : ∃ d, s = p + d := ⟨s - p, by omega⟩
            subst hd
            rw [List.range_add, List.countP_append]
            have z : (List.range p).countP b = 0 := by
              rw [List.countP_eq_zero]
              intro i hi
              rw [hb i (List.mem_range.1 hi)]; simp
            have l2 : ((List.range d).map (p + ·)).countP b ≤ d := Nat.le_trans List.countP_le_length (by simp)
            omega
          have := this [] (fun i => !(doneL ops.size (sg.take p)).getD (sg.getD i 0) false) fun i hi => by
            have := ((e2 i).2 ⟨hi, by omega⟩).2
            unfold InL at this
            simp only [this, Bool.not_true]
          omega
        · intro i hi; have := (e2 i).1 hi; omega
        · intro j hj k hk
          have := (e2 j).1 hj
          have := haf j this.2 k hk
          exact (e2 k).2 ⟨by omega, by omega⟩
        · intro i hi; exact (e2 i).2 ⟨hi, by omega⟩
        · refine ⟨fun i hi => pre_out p fun k hk => hi k (by omega) ((e2 k).2 ⟨hk, by omega⟩), fun m d hm hA hd => ?_⟩
          exact pre_in hdis hd p ((e2 m).1 hA).1 (by omega)
      | succ r ih =>
        intro p ts a w hp hdef hrel
        have hpm : p < mu := by omega
        unfold okMv at c5
        simp only [Bool.and_eq_true, Bool.or_eq_true, beq_iff_eq] at c5
        obtain ⟨k1, k2⟩ := c5
        have k3 := List.all_eq_true.1 k2 p (List.mem_range.2 hpm)
        simp only [Bool.and_eq_true] at k3
        obtain ⟨⟨k4, k5⟩, k6⟩ := k3
        have hpms : p < ms.length := by omega
        have hm : (ms.take s)[p]? = some ms[p] := by rw [List.getElem?_take, if_pos (by omega), List.getElem?_eq_getElem hpms]
        obtain ⟨o, ho, hcg⟩ := hget p _ (List.getElem?_eq_getElem hpms)
        obtain ⟨d, q1, q2, q3⟩ := hy2 p _ hm
        have hdp : dstK (ms.take s) p = some d := by simp only [dstK, hm, Option.bind_some, q1]
        obtain ⟨j2, d1, v, r1, r2, r3, r4⟩ := first_ok ho k4 hcg hrel q3
        have hd1 : d1 = d := by rw [q1] at r1; exact (Option.some.inj r1).symm
        subst hd1
        have hput : (a.put o.dst v).tmps = a.tmps.setIfInBounds d1 v := by rw [r2]; rfl
        have hrel2 := hrel.set d1 r4
        rw [setv_free q2, ← hput] at hrel2
        have e4 : pre' (ms.take s) y st (p + 1) = (pre' (ms.take s) y st p).set d1 (y p) := by rw [pre', hdp]
        rw [← e4] at hrel2
        have hps : p < sg.length := by rw [O.len]; omega
        have e5 : doneL ops.size (sg.take (p + 1)) = (doneL ops.size (sg.take p)).setIfInBounds (sg.getD p 0) true := by
          rw [List.take_add_one, List.getElem?_eq_getElem hps]
          simp only [Option.toList_some, doneL, List.foldl_append, List.foldl_cons, List.foldl_nil]
          rw [List.getD_eq_getElem?_getD, List.getElem?_eq_getElem hps]
          rfl
        have hnext := ih (p + 1) (a := a.put o.dst v) (w := w) (by omega) (hdef.trans (Kp.put (fun d hd => hNF p _ (List.getElem?_eq_getElem hpms) d (by rw [cG_dst hcg]; exact hd)) v)) hrel2
        rw [e5] at hnext
        obtain ⟨fu, hfu⟩ : ∃ fu, ops.size - p = fu + 1 := ⟨ops.size - p - 1, by omega⟩
        rw [show ops.size - (p + 1) = fu by omega] at hnext
        rw [hfu]
        refine wpAny_take ho (k1.resolve_left (by omega)) k5 k6 (fun c a w h => ?_) (v := v) (.inl ⟨by simp [Region.wanted, j2], r3⟩) hnext
        exact absurd h.1 (by simp)
    have hfin := main mu 0 (a := a0) (w := { w with drawn := w.drawn + 1 }) (by omega) (Kp.refl F a0) (hr.grow ⟨rfl, rfl, rfl, Nat.le_refl _, fun _ _ => rfl⟩)
    exact hfin
  · cases hok

omit hc in
theorem gho_ok {E : Env} {tm : Array Value} {w : World} : ∀ (l : List Nat) {st st' : St} {ts : List C}, Rel E st ts tm w → stepsG call (ghoG l) st = some st' → ∃ ts', Rel E st' ts' tm w
  | [], st, st', ts, hr, hs => by
    simp only [ghoG, List.map_nil, stepsG, Option.some.injEq] at hs
    subst hs
    exact ⟨ts, hr⟩
  | d :: l, st, st', ts, hr, hs => by
    simp only [ghoG, List.map_cons, stepsG, Mx.stepG, wanted] at hs
    have key : ∃ st1, assign st d (ev st (.t d)) = some st1 ∧ stepsG call (ghoG l) st1 = some st' := by
      simp only [step] at hs
      split at hs
      · rename_i st1 h1
        split at h1
        · cases h1
        · exact ⟨st1, h1, hs⟩
      · cases hs
    obtain ⟨st1, h1, h2⟩ := key
    have hv : VRel E ts (ev st (.t d)) (tm.getD d undef) := ev_ok hr (m := .t d) rfl
    obtain ⟨ts1, h3⟩ := assign_ok hr hv h1
    rw [setI_same] at h3
    exact gho_ok l h3 h2

theorem stepsG_app {call : Oracle} : ∀ (l m : List MG) (st : St), stepsG call (l ++ m) st = (stepsG call l st).bind (stepsG call m)
  | [], m, st => rfl
  | o :: l, m, st => by
    simp only [List.cons_append, stepsG]
    cases Mx.stepG call st o with
    | none => rfl
    | some st1 => exact stepsG_app l m st1

include hc hNF in
theorem drw_ok {sg : List Nat} {os : List Oper} (hsel : sel ops sg = some os) {ms0 : List MG} {s0 : Nat} (hms : compOps P ops os = some ms0) (hX : ms = msX s0 ms0) {mu s : Nat} (hok : okDraw ops sg mu ms = some s) {g : List Nat} {st st1 st2 : St} {ts : List C} {w : World} (hr : Rel E st ts a0.tmps w) (hs : stepsF call (ms.take s) st = some st1) (ht : stepsG call (ms.drop s ++ ghoG g) st1 = some st2) :
    wpAny P .any ops (fun e a' w' => e = .normal ∧ ∃ ts', Kp F a0 a' ∧ Rel E st2 ts' a'.tmps w') ops.size (Array.replicate ops.size false) a0 { w with drawn := w.drawn + 1 } := by
  rw [stepsG_app] at ht
  cases h1 : stepsG call (ms.drop s) st1 with
  | none => rw [h1] at ht; cases ht
  | some st3 =>
    rw [h1] at ht
    exact drw_ok0 hc hNF hsel hms hX hok hr hs h1 fun a' w' ts' h4 => gho_ok g h4 ht

end
end Go.Mx
