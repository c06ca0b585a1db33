import Derived.Test.YtgligngmbkkkkaaMxQf
/-
  Mx, part Qg: regions whose order is open.
-/
namespace Go.Mx
set_option linter.unusedVariables false
set_option linter.unusedSimpArgs false
set_option linter.unusedSectionVars false
open Go

/-! ### what comes before -/

theorem fold_bits (g : Nat → Nat) (i : Nat) : ∀ (l : List Nat) (acc : Nat), (l.foldl (fun acc k => acc ||| (2 ^ k ||| g k)) acc).testBit i = true → acc.testBit i = true ∨ ∃ k ∈ l, i = k ∨ (g k).testBit i = true
  | [], acc, h => .inl h
  | k :: l, acc, h => by
    simp only [List.foldl_cons] at h
    rcases fold_bits g i l _ h with h1 | ⟨k', h1, h2⟩
    · rw [Nat.testBit_or, Nat.testBit_or, Bool.or_eq_true, Bool.or_eq_true] at h1
      rcases h1 with h1 | h1 | h1
      · exact .inl h1
      · rw [Nat.testBit_two_pow] at h1
        exact .inr ⟨k, by simp, .inl (by simpa using h1 : k = i).symm⟩
      · exact .inr ⟨k, by simp, .inr h1⟩
    · exact .inr ⟨k', by simp [h1], h2⟩

theorem ancM_len (af : Nat → List Nat) : ∀ n, (ancM af n).length = n
  | 0 => rfl
  | n + 1 => by simp only [ancM, List.length_append, ancM_len af n, List.length_singleton]

theorem ancM_stable (af : Nat → List Nat) {j : Nat} : ∀ {n : Nat}, j < n → (ancM af n).getD j 0 = (ancM af (j + 1)).getD j 0
  | 0, h => by omega
  | n + 1, h => by
    by_cases he : j = n
    · subst he; rfl
    · have hlt : j < n := by omega
      rw [← ancM_stable af hlt]
      simp only [ancM]
      rw [List.getD_eq_getElem?_getD, List.getD_eq_getElem?_getD, List.getElem?_append_left (by rw [ancM_len]; exact hlt)]

theorem ancM_spec (af : Nat → List Nat) {n j i : Nat} (hj : j < n) (haf : ∀ k ∈ af j, k < j) (h : ((ancM af n).getD j 0).testBit i = true) : ∃ k ∈ af j, i = k ∨ ((ancM af n).getD k 0).testBit i = true := by
  rw [ancM_stable af hj] at h
  simp only [ancM] at h
  rw [List.getD_eq_getElem?_getD, List.getElem?_append_right (by rw [ancM_len]; exact Nat.le_refl _), ancM_len, Nat.sub_self] at h
  simp only [List.getElem?_cons_zero, Option.getD_some] at h
  rcases fold_bits _ i _ _ h with h1 | ⟨k, h1, h2⟩
  · simp at h1
  · refine ⟨k, h1, h2.imp id fun h3 => ?_⟩
    have hk := haf k h1
    rw [ancM_stable af (show k < n by omega), ← ancM_stable af hk]
    exact h3

def InL (listed : Array Bool) (i : Nat) : Prop := listed.getD i false = true

theorem anc_in {af : Nat → List Nat} {n : Nat} (haf : ∀ j, j < n → ∀ k ∈ af j, k < j) {A : Nat → Prop} (hcl : ∀ j, A j → ∀ k ∈ af j, A k) : ∀ (j : Nat), j < n → (∀ k ∈ af j, A k) → ∀ i, ((ancM af n).getD j 0).testBit i = true → A i := by
  intro j
  induction j using Nat.strongRecOn with
  | _ j ih =>
    intro hj hall i hb
    obtain ⟨k, hk, h⟩ := ancM_spec af hj (haf j hj) hb
    rcases h with rfl | h
    · exact hall _ hk
    · have hkj := haf j hj k hk
      exact ih k hkj (by omega) (hcl k (hall k hk)) i h

/-! ### the values that are put -/

def pre' (f : List MG) (y : Nat → V) (st : St) : Nat → St
  | 0 => st
  | j + 1 => match dstK f j with
    | some d => (pre' f y st j).set d (y j)
    | none => pre' f y st j

theorem stepsF_vals {call : Oracle} : ∀ (f : List MG) (st st1 : St), stepsF call f st = some st1 → ∃ y : Nat → V, pre' f y st f.length = st1 ∧ ∀ (j : Nat) (m : MG), f[j]? = some m → ∃ d, m.op.dst = some d ∧ free (pre' f y st j) d = true ∧ valG call (pre' f y st j) m = some (y j)
  | [], st, st1, h => by simp only [stepsF, Option.some.injEq] at h; exact ⟨fun _ => .dead, h, fun j m hm => by simp at hm⟩
  | o :: os, st, st1, h => by
    simp only [stepsF] at h
    cases hd : o.op.dst with
    | none => simp [hd] at h
    | some d =>
      simp only [hd] at h
      split at h
      · rename_i hf
        cases hv : valG call st o with
        | none => simp [hv] at h
        | some y0 =>
          simp only [hv] at h
          obtain ⟨y, h1, h2⟩ := stepsF_vals os (st.set d y0) st1 h
          let y' : Nat → V := fun j => match j with | 0 => y0 | j + 1 => y j
          have e : ∀ j, pre' (o :: os) y' st (j + 1) = pre' os y (st.set d y0) j := by
            intro j
            induction j with
            | zero => simp [pre', dstK, hd, y']
            | succ j ih =>
              rw [pre', ih, pre']
              have : dstK (o :: os) (j + 1) = dstK os j := by simp [dstK]
              rw [this]
          refine ⟨y', by rw [List.length_cons, e]; exact h1, ?_⟩
          intro j m hm
          cases j with
          | zero =>
            simp only [List.getElem?_cons_zero, Option.some.injEq] at hm
            subst hm
            exact ⟨d, hd, hf, hv⟩
          | succ j =>
            simp only [List.getElem?_cons_succ] at hm
            rw [e]
            exact h2 j m hm
      · cases h

mutual
theorem within_mono {I J : Nat → Prop} (h : ∀ i, I i → J i) : ∀ (x : V), x.within I → x.within J
  | .ref r _, hx => h r hx
  | .sub r _ _ _ _, hx => h r hx
  | .ad r _ _, hx => h r hx
  | .vn _ vs, hx => withinL_mono h vs hx
  | .sc _, _ => trivial
  | .own _, _ => trivial
  | .ro _, _ => trivial
  | .rad _ _, _ => trivial
  | .dead, _ => trivial
theorem withinL_mono {I J : Nat → Prop} (h : ∀ i, I i → J i) : ∀ (xs : List V), V.withinL I xs → V.withinL J xs
  | [], _ => trivial
  | x :: xs, hx => ⟨within_mono h x hx.1, withinL_mono h xs hx.2⟩
end

section
variable {f : List MG} {y : Nat → V} {st : St}

theorem pre_out {i : Nat} : ∀ (j : Nat), (∀ k, k < j → dstK f k ≠ some i) → (pre' f y st j)[i]? = st[i]?
  | 0, _ => rfl
  | j + 1, h => by
    have ih := pre_out j fun k hk => h k (by omega)
    rw [pre']
    cases hd : dstK f j with
    | none => exact ih
    | some d =>
      have : d ≠ i := fun e => h j (by omega) (by rw [hd, e])
      simp only
      rw [List.getElem?_set_ne this]
      exact ih

theorem pre_in (hdis : ∀ j k, j < f.length → k < f.length → k ≠ j → dstK f k ≠ dstK f j) {k d : Nat} (hd : dstK f k = some d) : ∀ (j : Nat), k < j → j ≤ f.length → (pre' f y st j)[d]? = (st[d]?).map fun _ => y k
  | 0, h, _ => by omega
  | j + 1, h, hl => by
    rw [pre']
    by_cases he : k = j
    · subst he
      rw [hd]
      simp only
      rw [List.getElem?_set_self']
      have := pre_out (f := f) (y := y) (st := st) (i := d) k fun k' hk' => by rw [← hd]; exact hdis k k' (by omega) (by omega) (by omega)
      rw [this]
      rfl
    · have ih := pre_in hdis hd j (by omega) (by omega)
      cases hdj : dstK f j with
      | none => exact ih
      | some d' =>
        have : d' ≠ d := fun e => hdis k j (by omega) (by omega) (by omega) (by rw [hdj, hd, e])
        simp only
        rw [List.getElem?_set_ne this]
        exact ih

/-- Where a value may borrow from: slots that no operation writes, and those of the operations before it. -/
def Src' (f : List MG) (A : Nat → Prop) (j r : Nat) : Prop := (∀ m, m < f.length → dstK f m ≠ some r) ∨ ∃ m, m < j ∧ A m ∧ dstK f m = some r

variable {call : Oracle} {af : Nat → List Nat}
  (hdis : ∀ j k, j < f.length → k < f.length → k ≠ j → dstK f k ≠ dstK f j)
  (hrd : ∀ (j : Nat) (m : MG), f[j]? = some m → ∀ i ∈ m.rds, ∀ k, k < f.length → dstK f k = some i → k < j ∧ k ∈ af j)
  (h0 : ∀ (i : Nat) (x : V), st[i]? = some x → x.within fun r => ∀ m, m < f.length → dstK f m ≠ some r)
  (hval : ∀ (j : Nat) (m : MG), f[j]? = some m → ∃ d, m.op.dst = some d ∧ free (pre' f y st j) d = true ∧ valG call (pre' f y st j) m = some (y j))
include hdis hrd h0 hval

omit hdis h0 hval in
theorem rds_src {A : Nat → Prop} {j : Nat} {m : MG} (hm : f[j]? = some m) (haf : ∀ k ∈ af j, A k) : ∀ i ∈ m.rds, Src' f A j i := by
  intro i hi
  by_cases h : ∃ k, k < f.length ∧ dstK f k = some i
  · obtain ⟨k, h1, h2⟩ := h
    obtain ⟨h3, h4⟩ := hrd j m hm i hi k h1 h2
    exact .inr ⟨k, h3, haf k h4, h2⟩
  · exact .inl fun m hm he => h ⟨m, hm, he⟩

theorem like_pre {A : Nat → Prop} {j : Nat} (hj : j ≤ f.length) (hy : ∀ k, k < j → A k → (y k).within (Src' f A k)) {st' : St} (hs : ∀ i, Src' f A j i → st'[i]? = (pre' f y st j)[i]?) : Like (Src' f A j) (pre' f y st j) st' := by
  refine ⟨hs, ?_⟩
  intro i x hi hx
  rcases hi with ho | ⟨m, h1, h2, h3⟩
  · rw [pre_out j fun k hk => ho k (by omega)] at hx
    exact within_mono (fun r hr => .inl hr) x (h0 i x hx)
  · rw [pre_in hdis h3 j h1 hj] at hx
    simp only [Option.map_eq_some_iff] at hx
    obtain ⟨_, _, rfl⟩ := hx
    exact within_mono (fun r hr => hr.imp id fun ⟨m', q1, q2, q3⟩ => ⟨m', by omega, q2, q3⟩) _ (hy m h1 h2)

theorem y_within {A : Nat → Prop} (hcl : ∀ j, A j → ∀ k ∈ af j, A k) : ∀ (j : Nat), j < f.length → A j → (y j).within (Src' f A j) := by
  intro j
  induction j using Nat.strongRecOn with
  | _ j ih =>
    intro hj ha
    have hm := List.getElem?_eq_getElem hj
    obtain ⟨d, h1, h2, h3⟩ := hval j _ hm
    have L := like_pre hdis hrd h0 hval (A := A) (j := j) (by omega) (fun k hk hak => ih k hk (by omega) hak) (st' := pre' f y st j) (fun _ _ => rfl)
    exact (valG_like L call _ (rds_src hrd hm (hcl j ha))).2 _ h3

/-- What a state says when some of the operations are done. -/
structure Des (f : List MG) (y : Nat → V) (st : St) (A : Nat → Prop) (s : St) : Prop where
  out : ∀ i, (∀ m, m < f.length → A m → dstK f m ≠ some i) → s[i]? = st[i]?
  done : ∀ m d, m < f.length → A m → dstK f m = some d → s[d]? = (st[d]?).map fun _ => y m

theorem val_des {A : Nat → Prop} (hcl : ∀ j, A j → ∀ k ∈ af j, A k) {s : St} (hd : Des f y st A s) {j : Nat} {m : MG} (hm : f[j]? = some m) (hA : ¬ A j) (haf : ∀ k ∈ af j, A k) :
    ∃ d, m.op.dst = some d ∧ free s d = true ∧ valG call s m = some (y j) := by
  have hj := lt_of_get hm
  obtain ⟨d, h1, h2, h3⟩ := hval j m hm
  have hdj : dstK f j = some d := by simp [dstK, hm, h1]
  refine ⟨d, h1, ?_, ?_⟩
  · have e1 : s[d]? = st[d]? := hd.out d fun k hk hak he => by
      by_cases hkj : k = j
      · subst hkj; exact hA hak
      · exact hdis j k hj hk hkj (by rw [he, hdj])
    have e2 : (pre' f y st j)[d]? = st[d]? := pre_out j fun k hk he => hdis j k hj (by omega) (by omega) (by rw [he, hdj])
    unfold free at h2 ⊢
    rw [e1, ← e2]
    exact h2
  · have L := like_pre hdis hrd h0 hval (A := A) (j := j) (by omega) (fun k hk hak => y_within hdis hrd h0 hval hcl k (by omega) hak) (st' := s) (by
      intro i hi
      rcases hi with ho | ⟨k, q1, q2, q3⟩
      · rw [pre_out j fun k hk => ho k (by omega)]
        exact hd.out i fun k hk _ => ho k hk
      · rw [pre_in hdis q3 j q1 (by omega)]
        exact hd.done k i (by omega) q2 q3)
    rw [(valG_like L call m (rds_src hrd hm haf)).1]
    exact h3

omit hrd h0 hval in
theorem des_all {A : Nat → Prop} {s : St} (hd : Des f y st A s) (hall : ∀ k, k < f.length → A k) : s = pre' f y st f.length := by
  apply List.ext_getElem?
  intro i
  by_cases h : ∃ k, k < f.length ∧ dstK f k = some i
  · obtain ⟨k, h1, h2⟩ := h
    rw [hd.done k i h1 (hall k h1) h2, pre_in hdis h2 f.length h1 (Nat.le_refl _)]
  · have hn : ∀ m, m < f.length → dstK f m ≠ some i := fun m hm he => h ⟨m, hm, he⟩
    rw [hd.out i fun m hm _ => hn m hm, pre_out f.length hn]

omit hrd h0 hval in
theorem des_set {A A' : Nat → Prop} {s : St} (hd : Des f y st A s) {j d : Nat} (hj : j < f.length) (hdj : dstK f j = some d) (hA : ¬ A j) (hA' : ∀ k, A' k ↔ A k ∨ k = j) : Des f y st A' (s.set d (y j)) := by
  refine ⟨fun i hi => ?_, fun m d' hm hm' hd' => ?_⟩
  · have hne : d ≠ i := fun e => hi j hj ((hA' j).2 (.inr rfl)) (by rw [hdj, e])
    rw [List.getElem?_set_ne hne]
    exact hd.out i fun m hm hma => hi m hm ((hA' m).2 (.inl hma))
  · by_cases he : m = j
    · subst he
      rw [hdj] at hd'
      cases hd'
      rw [List.getElem?_set_self']
      have : s[d]? = st[d]? := hd.out d fun k hk hak he => by
        by_cases hkj : k = m
        · subst hkj; exact hA hak
        · exact hdis m k hj hk hkj (by rw [he, hdj])
      rw [this]
      rfl
    · have hne : d ≠ d' := fun e => hdis j m hj hm he (by rw [hd', hdj, e])
      rw [List.getElem?_set_ne hne]
      exact hd.done m d' hm (((hA' m).1 hm').resolve_right he) hd'

end

/-! ### the region -/

mutual
theorem within_rel {E : Env} {st : St} {ts : List C} {tm : Array Value} {w : World} (h : Rel E st ts tm w) : ∀ (x : V) (u : Value), VRel E ts x u → x.within fun r => isOwn (st.getD r .dead) = true
  | .ref r p, u, hv => by
    obtain ⟨t0, k, kids, h1, h2, _⟩ := hv
    exact root_own h h1 h2
  | .sub r p _ _ _, u, hv => by
    obtain ⟨t0, d, n', kids, c, a, ad, h1, h2, _⟩ := hv
    exact root_own h h1 h2
  | .ad r p _, u, hv => by
    obtain ⟨t0, k, kids, a, h1, h2, _⟩ := hv
    exact root_own h h1 h2
  | .vn k vs, u, hv => by
    obtain ⟨us, h1, _⟩ := hv
    exact withinL_rel h vs us h1
  | .sc _, _, _ => trivial
  | .own _, _, _ => trivial
  | .ro _, _, _ => trivial
  | .rad _ _, _, _ => trivial
  | .dead, _, _ => trivial
theorem withinL_rel {E : Env} {st : St} {ts : List C} {tm : Array Value} {w : World} (h : Rel E st ts tm w) : ∀ (xs : List V) (us : List Value), VRelL E ts xs us → V.withinL (fun r => isOwn (st.getD r .dead) = true) xs
  | [], _, _ => trivial
  | x :: xs, us, hv => by
    obtain ⟨u, us', _, h1, h2⟩ := hv
    exact ⟨within_rel h x u h1, withinL_rel h xs us' h2⟩
theorem root_own {E : Env} {st : St} {ts : List C} {tm : Array Value} {w : World} (h : Rel E st ts tm w) {r : Nat} {p : List Nat} {t0 : C} {k : K Dec} {kids : List C} (h1 : ts[r]? = some t0) (h2 : getAt t0 p = some (.nd k kids)) :
    isOwn (st.getD r .dead) = true := by
  have hlt : r < st.length := by have := lt_of_get h1; rw [h.lenT] at this; exact this
  have hx := List.getElem?_eq_getElem hlt
  have hs := h.slot' hx
  rw [List.getD_eq_getElem?_getD, hx, Option.getD_some]
  by_cases ho : ∃ d, st[r] = .own d
  · obtain ⟨d, hd⟩ := ho; rw [hd]; rfl
  · obtain ⟨_, z, hz⟩ := hs.nonown fun d hd => ho ⟨d, hd⟩
    rw [h1] at hz
    cases hz
    cases p <;> simp [getAt] at h2
end

theorem countP_lt {p p' : Nat → Bool} {j : Nat} : ∀ {l : List Nat}, j ∈ l → p j = true → p' j = false → (∀ i, p' i = true → p i = true) → l.countP p' < l.countP p
  | [], h, _, _, _ => by simp at h
  | x :: xs, h, hp, hp', himp => by
    rw [List.countP_cons, List.countP_cons]
    have hle : xs.countP p' ≤ xs.countP p := List.countP_mono_left fun i _ hi => himp i hi
    rcases List.mem_cons.1 h with rfl | h
    · rw [hp, hp']; simp; omega
    · have := countP_lt h hp hp' himp
      by_cases hx : p' x = true
      · rw [hx, himp x hx]; omega
      · simp only [hx, Bool.false_eq_true, if_false]
        split <;> omega

section
variable {P : Program} {E : Env} {call : Oracle} (hc : CallsOK P call) {ops : Array Oper} {ms : List MG}

theorem compOps_get : ∀ (l : List Oper) (ms : List MG), compOps P ops l = some ms → ms.length = l.length ∧ ∀ (j : Nat) (m : MG), ms[j]? = some m → ∃ o : Oper, l[j]? = some o ∧ compG P ops o = some m
  | [], ms, h => by simp only [compOps, Option.some.injEq] at h; subst h; exact ⟨rfl, fun j m hm => by simp at hm⟩
  | o :: l, ms, h => by
    simp only [compOps] at h
    cases h1 : compG P ops o with
    | none => simp [h1] at h
    | some m =>
      simp only [h1] at h
      cases h2 : compOps P ops l with
      | none => simp [h2] at h
      | some ms' =>
        simp only [h2, Option.some.injEq] at h
        subst h
        obtain ⟨e1, e2⟩ := compOps_get l ms' h2
        refine ⟨by simp [e1], fun j m' hm => ?_⟩
        cases j with
        | zero => simp at hm; subst hm; exact ⟨o, rfl, h1⟩
        | succ j => simp at hm; simpa using e2 j m' hm

variable {Q : Exit → Act → World → Prop} {a0 : Act}

theorem ready_iff {listed : Array Bool} (hsz : listed.size = ops.size) {j : Nat} : j ∈ Region.ready .any ops listed ↔ j < ops.size ∧ ¬ InL listed j ∧ ∀ k ∈ afF ops j, InL listed k := by
  rw [mem_ready]
  constructor
  · rintro ⟨h1, o, ho, h2⟩
    have hj : j < ops.size := (Array.getElem?_eq_some_iff.1 ho).1
    refine ⟨hj, fun h => ?_, fun k hk => ?_⟩
    · unfold InL at h
      have hl : j < listed.size := by omega
      simp [hl] at h h1
      rw [h] at h1; cases h1
    · simp only [afF, ho, aftOf, List.mem_map, List.mem_filter] at hk
      obtain ⟨e, ⟨he1, he2⟩, rfl⟩ := hk
      exact h2 e (by simpa using he1) he2
  · rintro ⟨hj, h1, h2⟩
    have ho := Array.getElem?_eq_getElem hj
    refine ⟨?_, _, ho, fun e he hb => h2 e.on ?_⟩
    · unfold InL at h1
      have hl : j < listed.size := by omega
      simp [hl] at h1 ⊢
      exact h1
    · simp only [afF, ho, aftOf, List.mem_map, List.mem_filter]
      exact ⟨e, ⟨by simpa using he, hb⟩, rfl⟩

theorem inL_set {listed : Array Bool} {j : Nat} (hj : j < listed.size) (k : Nat) : InL (listed.setIfInBounds j true) k ↔ InL listed k ∨ k = j := by
  unfold InL
  by_cases h : j = k
  · subst h; simp [hj]
  · rw [getD_set_ne false h]
    constructor
    · exact .inl
    · rintro (h1 | h1)
      · exact h1
      · exact absurd h1.symm h

include hc in
theorem tail_ok (hms : compOps P ops ops.toList = some ms) (haf : ∀ j, j < ops.size → ∀ k ∈ afF ops j, k < j) {s : Nat} (htl : ∀ j, j < ops.size → s ≤ j → ∀ i, i < j → ((ancM (afF ops) ops.size).getD j 0).testBit i = true) {st2 : St}
    (hq : ∀ a' w' ts', a'.defers = a0.defers → Rel E st2 ts' a'.tmps w' → Q .normal a' w') : ∀ (r t fuel : Nat) (listed : Array Bool) {st : St} {ts : List C} {a : Act} {w : World}, t + r = ops.size → s ≤ t → r ≤ fuel → listed.size = ops.size → (∀ i, InL listed i ↔ i < t) →
      a.defers = a0.defers → Rel E st ts a.tmps w → stepsG call (ms.drop t) st = some st2 → wpAny P .any ops Q fuel listed a w := by
  obtain ⟨hlen, hget⟩ := compOps_get (P := P) (ops := ops) _ _ hms
  intro r
  induction r with
  | zero =>
    intro t fuel listed st ts a w htr hst hf hsz hin hdef hr hs
    have hd : ms.drop t = [] := List.drop_eq_nil_of_le (by rw [hlen]; simp; omega)
    rw [hd] at hs
    simp only [stepsG, Option.some.injEq] at hs
    subst hs
    refine wpAny_done ?_ (hq a w ts hdef hr) fuel
    apply List.eq_nil_iff_forall_not_mem.2
    intro j hj
    obtain ⟨h1, h2, _⟩ := (ready_iff hsz).1 hj
    exact h2 ((hin j).2 (by omega))
  | succ r ih =>
    intro t fuel listed st ts a w htr hst hf hsz hin hdef hr hs
    obtain ⟨fuel, rfl⟩ : ∃ k, fuel = k + 1 := ⟨fuel - 1, by omega⟩
    have htlt : t < ops.size := by omega
    have htm : t < ms.length := by rw [hlen]; simpa using htlt
    rw [List.drop_eq_getElem_cons htm] at hs
    simp only [stepsG] at hs
    obtain ⟨o, ho, hcg⟩ := hget t _ (List.getElem?_eq_getElem htm)
    have ho' : ops[t]? = some o := by rw [← Array.getElem?_toList]; exact ho
    cases hs1 : Mx.stepG call st ms[t] with
    | none => simp [hs1] at hs
    | some st1 =>
      simp only [hs1] at hs
      have hmem : t ∈ Region.ready .any ops listed := (ready_iff hsz).2 ⟨htlt, fun h => by have := (hin t).1 h; omega, fun k hk => (hin k).2 (haf t htlt k hk)⟩
      refine ⟨fun h => (by rw [h] at hmem; cases hmem), fun j hj => ?_⟩
      obtain ⟨h1, h2, h3⟩ := (ready_iff hsz).1 hj
      have hjt : j = t := by
        by_cases he : j = t
        · exact he
        · have hgt : t < j := by
            rcases Nat.lt_or_ge j t with h4 | h4
            · exact absurd ((hin j).2 h4) h2
            · omega
          have := anc_in haf (A := InL listed) (fun i hi k hk => (hin k).2 (by have := (hin i).1 hi; have := haf i (by omega) k hk; omega)) j h1 h3 t (htl j h1 (by omega) t hgt)
          have := (hin t).1 this
          omega
      subst hjt
      refine wpOp_ok hr hc ho' hcg hs1 fun a' w' ts' hd' hr' => ?_
      refine ih (j + 1) fuel _ (by omega) (by omega) (by omega) (by simpa using hsz) ?_ (hd'.trans hdef) hr' hs
      intro i
      rw [inL_set (by omega)]
      have := hin i
      constructor
      · rintro (h | h)
        · have := this.1 h; omega
        · omega
      · intro h
        by_cases he : i = j
        · exact .inr he
        · exact .inl (this.2 (by omega))

include hc in
theorem free_ok (hms : compOps P ops ops.toList = some ms) (haf : ∀ j, j < ops.size → ∀ k ∈ afF ops j, k < j) {s : Nat} (hsn : s ≤ ops.size)
    (htl : ∀ j, j < ops.size → s ≤ j → ∀ i, i < j → ((ancM (afF ops) ops.size).getD j 0).testBit i = true)
    (hdis : ∀ j k, j < (ms.take s).length → k < (ms.take s).length → k ≠ j → dstK (ms.take s) k ≠ dstK (ms.take s) j)
    (hrd : ∀ (j : Nat) (m : MG), (ms.take s)[j]? = some m → ∀ i ∈ m.rds, ∀ k, k < (ms.take s).length → dstK (ms.take s) k = some i → k < j ∧ k ∈ afF ops j)
    {y : Nat → V} {st0 : St} (h0 : ∀ (i : Nat) (x : V), st0[i]? = some x → x.within fun r => ∀ m, m < (ms.take s).length → dstK (ms.take s) m ≠ some r)
    (hval : ∀ (j : Nat) (m : MG), (ms.take s)[j]? = some m → ∃ d, m.op.dst = some d ∧ free (pre' (ms.take s) y st0 j) d = true ∧ valG call (pre' (ms.take s) y st0 j) m = some (y j))
    {st2 : St} (hs : stepsG call (ms.drop s) (pre' (ms.take s) y st0 (ms.take s).length) = some st2)
    (hq : ∀ a' w' ts', a'.defers = a0.defers → Rel E st2 ts' a'.tmps w' → Q .normal a' w') : ∀ (c fuel : Nat) (listed : Array Bool) {st : St} {ts : List C} {a : Act} {w : World},
      (List.range s).countP (fun i => !listed.getD i false) = c → c + (ops.size - s) ≤ fuel → listed.size = ops.size → (∀ i, InL listed i → i < s) → (∀ j, InL listed j → ∀ k ∈ afF ops j, InL listed k) →
      Des (ms.take s) y st0 (InL listed) st → a.defers = a0.defers → Rel E st ts a.tmps w → wpAny P .any ops Q fuel listed a w := by
  obtain ⟨hlen, hget⟩ := compOps_get (P := P) (ops := ops) _ _ hms
  have hfl : (ms.take s).length = s := by rw [List.length_take, hlen]; simp; omega
  intro c
  induction c using Nat.strongRecOn with
  | _ c ih =>
    intro fuel listed st ts a w hcnt hf hsz hlt hcl hdes hdef hr
    by_cases hall : ∀ i, i < s → InL listed i
    · have he := des_all hdis hdes (fun k hk => hall k (by omega))
      subst he
      exact tail_ok hc hms haf htl hq (ops.size - s) s fuel listed (by omega) (Nat.le_refl _) (by omega) hsz (fun i => ⟨hlt i, hall i⟩) hdef hr hs
    · -- some free operation is left
      have hex : ∃ j, j < s ∧ ¬ InL listed j ∧ ∀ k, k < j → InL listed k := by
        have : ∀ n, n ≤ s → (∀ i, i < n → InL listed i) ∨ ∃ j, j < s ∧ ¬ InL listed j ∧ ∀ k, k < j → InL listed k := by
          intro n
          induction n with
          | zero => intro _; exact .inl fun i hi => by omega
          | succ n ih =>
            intro hn
            rcases ih (by omega) with h | h
            · by_cases hn' : InL listed n
              · exact .inl fun i hi => by
                  by_cases he : i = n
                  · subst he; exact hn'
                  · exact h i (by omega)
              · exact .inr ⟨n, by omega, hn', h⟩
            · exact .inr h
        exact (this s (Nat.le_refl _)).resolve_left hall
      obtain ⟨j0, hj0, hj1, hj2⟩ := hex
      have hpos : 0 < c := by
        rw [← hcnt]
        apply List.countP_pos_iff.2
        refine ⟨j0, List.mem_range.2 hj0, ?_⟩
        unfold InL at hj1
        simpa using hj1
      obtain ⟨fuel, rfl⟩ : ∃ k, fuel = k + 1 := ⟨fuel - 1, by omega⟩
      have hmem : j0 ∈ Region.ready .any ops listed := (ready_iff hsz).2 ⟨by omega, hj1, fun k hk => hj2 k (haf j0 (by omega) k hk)⟩
      refine ⟨fun h => (by rw [h] at hmem; cases hmem), fun j hj => ?_⟩
      obtain ⟨h1, h2, h3⟩ := (ready_iff hsz).1 hj
      have hjs : j < s := by
        rcases Nat.lt_or_ge j s with h4 | h4
        · exact h4
        · exact absurd (anc_in haf hcl j h1 h3 j0 (htl j h1 h4 j0 (by omega))) hj1
      have hjm : j < ms.length := by rw [hlen]; simpa using h1
      have hm : (ms.take s)[j]? = some ms[j] := by rw [List.getElem?_take, if_pos hjs, List.getElem?_eq_getElem hjm]
      obtain ⟨o, ho, hcg⟩ := hget j _ (List.getElem?_eq_getElem hjm)
      have ho' : ops[j]? = some o := by rw [← Array.getElem?_toList]; exact ho
      obtain ⟨d, hd1, hd2, hd3⟩ := val_des hdis hrd h0 hval hcl hdes hm h2 h3
      have hstep := valG_step hd3 hd1 hd2
      have hdj : dstK (ms.take s) j = some d := by simp only [dstK, hm, Option.bind_some, hd1]
      refine wpOp_ok hr hc ho' hcg hstep fun a' w' ts' hd' hr' => ?_
      have hin := inL_set (listed := listed) (j := j) (by omega)
      refine ih _ ?_ fuel (listed.setIfInBounds j true) rfl ?_ (by simpa using hsz) ?_ ?_ (des_set hdis hdes (by omega) hdj h2 hin) (hd'.trans hdef) hr'
      · rw [← hcnt]
        refine countP_lt (j := j) (List.mem_range.2 hjs) ?_ ?_ ?_
        · unfold InL at h2; simpa using h2
        · have := (hin j).2 (.inr rfl)
          unfold InL at this
          simp only [this, Bool.not_true]
        · intro i hi
          simp only [Bool.not_eq_true'] at hi ⊢
          cases hq' : listed.getD i false with
          | false => rfl
          | true =>
            have := (hin i).2 (.inl hq')
            unfold InL at this
            rw [this] at hi
            cases hi
      · have : (List.range s).countP (fun i => !(listed.setIfInBounds j true).getD i false) < c := by
          rw [← hcnt]
          refine countP_lt (j := j) (List.mem_range.2 hjs) ?_ ?_ ?_
          · unfold InL at h2; simpa using h2
          · have := (hin j).2 (.inr rfl)
            unfold InL at this
            simp only [this, Bool.not_true]
          · intro i hi
            simp only [Bool.not_eq_true'] at hi ⊢
            cases hq' : listed.getD i false with
            | false => rfl
            | true =>
              have := (hin i).2 (.inl hq')
              unfold InL at this
              rw [this] at hi
              cases hi
        omega
      · intro i hi
        rcases (hin i).1 hi with h | h
        · exact hlt i h
        · omega
      · intro i hi k hk
        rcases (hin i).1 hi with h | h
        · exact (hin k).2 (.inl (hcl i h k hk))
        · subst h; exact (hin k).2 (.inl (h3 k hk))

include hc in
theorem drw_ok (hms : compOps P ops ops.toList = some ms) {s : Nat} (hok : okDraw ops ms = some s) {st st1 st2 : St} {ts : List C} {w : World} (hr : Rel E st ts a0.tmps w) (hs : stepsF call (ms.take s) st = some st1) (ht : stepsG call (ms.drop s) st1 = some st2)
    (hq : ∀ a' w' ts', a'.defers = a0.defers → Rel E st2 ts' a'.tmps w' → Q .normal a' w') : wpAny P .any ops Q ops.size (Array.replicate ops.size false) a0 { w with drawn := w.drawn + 1 } := by
  obtain ⟨hlen, hget⟩ := compOps_get (P := P) (ops := ops) _ _ hms
  have hn : ms.length = ops.size := by rw [hlen]; simp
  unfold okDraw at hok
  simp only at hok
  split at hok
  · rename_i hcond
    simp only [Option.some.injEq] at hok
    rw [hok, hn] at hcond
    simp only [Bool.and_eq_true, decide_eq_true_eq] at hcond
    obtain ⟨⟨⟨c1, c2⟩, c3⟩, c4⟩ := hcond
    have haf : ∀ j, j < ops.size → ∀ k ∈ afF ops j, k < j := by
      intro j hj k hk
      have := List.all_eq_true.1 (List.all_eq_true.1 c1 j (List.mem_range.2 hj)) k hk
      simpa using this
    have htl : ∀ j, j < ops.size → s ≤ j → ∀ i, i < j → ((ancM (afF ops) ops.size).getD j 0).testBit i = true := by
      intro j hj hsj i hi
      have := List.all_eq_true.1 c3 j (List.mem_range.2 hj)
      simp only [Bool.or_eq_true, decide_eq_true_eq] at this
      rcases this with h | h
      · omega
      · exact List.all_eq_true.1 h i (List.mem_range.2 hi)
    have hF : ∀ (j : Nat) (m : MG), (ms.take s)[j]? = some m → (dstK (ms.take s) j).isSome = true ∧ (∀ k, k < (ms.take s).length → k = j ∨ dstK (ms.take s) k ≠ dstK (ms.take s) j) ∧
        ∀ i ∈ m.rds, ∀ k, k < (ms.take s).length → dstK (ms.take s) k ≠ some i ∨ (k < j ∧ k ∈ afF ops j) := by
      intro j m hm
      have := List.all_eq_true.1 c2 j (List.mem_range.2 (lt_of_get hm))
      simp only [hm, Bool.and_eq_true] at this
      obtain ⟨⟨q1, q2⟩, q3⟩ := this
      refine ⟨q1, fun k hk => ?_, fun i hi k hk => ?_⟩
      · have := List.all_eq_true.1 q2 k (List.mem_range.2 hk)
        simpa using this
      · have := List.all_eq_true.1 (List.all_eq_true.1 q3 i hi) k (List.mem_range.2 hk)
        simpa using this
    have hdis : ∀ j k, j < (ms.take s).length → k < (ms.take s).length → k ≠ j → dstK (ms.take s) k ≠ dstK (ms.take s) j := fun j k hj hk hne => ((hF j _ (List.getElem?_eq_getElem hj)).2.1 k hk).resolve_left hne
    have hrd : ∀ j m, (ms.take s)[j]? = some m → ∀ i ∈ m.rds, ∀ k, k < (ms.take s).length → dstK (ms.take s) k = some i → k < j ∧ k ∈ afF ops j := fun j m hm i hi k hk hd => ((hF j m hm).2.2 i hi k hk).resolve_left fun h => h hd
    obtain ⟨y, hy1, hy2⟩ := stepsF_vals _ _ _ hs
    subst hy1
    have hfree : ∀ m, m < (ms.take s).length → ∀ r, dstK (ms.take s) m = some r → isOwn (st.getD r .dead) = false := by
      intro m hm r hd
      obtain ⟨d, e1, e2, e3⟩ := hy2 m _ (List.getElem?_eq_getElem hm)
      have : d = r := by simp only [dstK, List.getElem?_eq_getElem hm, Option.bind_some, e1, Option.some.injEq] at hd; exact hd
      subst this
      have e4 : (pre' (ms.take s) y st m)[d]? = st[d]? := pre_out m fun k hk he => hdis m k hm (by omega) (by omega) (by rw [he, hd])
      unfold free at e2
      rw [e4] at e2
      rw [List.getD_eq_getElem?_getD]
      cases hx : st[d]? with
      | none => rfl
      | some x => simp only [hx] at e2; simpa using e2
    refine free_ok hc hms haf c4 htl hdis hrd (y := y) (st0 := st) ?_ hy2 ht hq _ ops.size _ rfl ?_ (by simp) ?_ ?_ ?_ rfl (st := st) (ts := ts) ?_
    · intro i x hx
      have hi : i < st.length := lt_of_get hx
      have hs' := hr.slot' hx
      by_cases ho : ∃ d, x = .own d
      · obtain ⟨d, rfl⟩ := ho; trivial
      · have hv := (hs'.nonown fun d hd => ho ⟨d, hd⟩).1
        refine within_mono ?_ x (within_rel hr x _ hv)
        intro r hrr m hm hd
        rw [hfree m hm r hd] at hrr
        cases hrr
    · have : (List.range s).countP (fun i => !(Array.replicate ops.size false).getD i false) ≤ s := Nat.le_trans List.countP_le_length (by simp)
      omega
    · intro i hi
      unfold InL at hi
      rw [Array.getD_eq_getD_getElem?, Array.getElem?_replicate] at hi
      split at hi <;> simp at hi
    · intro i hi
      unfold InL at hi
      rw [Array.getD_eq_getD_getElem?, Array.getElem?_replicate] at hi
      split at hi <;> simp at hi
    · refine ⟨fun i _ => rfl, fun m d _ hm _ => ?_⟩
      unfold InL at hm
      rw [Array.getD_eq_getD_getElem?, Array.getElem?_replicate] at hm
      split at hm <;> simp at hm
    · exact hr.grow ⟨rfl, rfl, rfl, Nat.le_refl _, fun _ _ => rfl⟩
  · cases hok

end
end Go.Mx
