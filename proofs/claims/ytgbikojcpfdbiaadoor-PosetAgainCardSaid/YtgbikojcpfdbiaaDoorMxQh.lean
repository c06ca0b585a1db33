import Derived.Test.YtgbikojcpfdbiaaDoorMxQg
/-
  Mx, part Qh: regions in which some operations change more than their own slot, and others may come later.
-/
namespace Go.Mx
set_option linter.unusedVariables false
set_option linter.unusedSimpArgs false
set_option linter.unusedSectionVars false
set_option linter.unusedSectionVars false
open Go

/-! ### two states that are one but for slots that are not set yet -/
mutual
theorem within_roots : ∀ (x : V), x.within (· ∈ rootsV x)
  | .sc _ => trivial
  | .own _ => trivial
  | .ro _ => trivial
  | .ref r _ => by simp [V.within, rootsV]
  | .sub r _ _ _ _ => by simp [V.within, rootsV]
  | .ad r _ _ => by simp [V.within, rootsV]
  | .rad _ _ => trivial
  | .vn _ vs => by simp only [V.within, rootsV]; exact within_rootsL vs
  | .dead => trivial
theorem within_rootsL : ∀ (xs : List V), V.withinL (· ∈ rootsL xs) xs
  | [] => trivial
  | x :: xs => ⟨within_mono (fun r hr => by simp [rootsL, hr]) x (within_roots x), withinL_mono (fun r hr => by simp [rootsL, hr]) xs (within_rootsL xs)⟩
end
mutual
theorem roots_in {I : Nat → Prop} : ∀ (x : V), x.within I → ∀ r ∈ rootsV x, I r
  | .sc _, _, r, hr => by simp [rootsV] at hr
  | .own _, _, r, hr => by simp [rootsV] at hr
  | .ro _, _, r, hr => by simp [rootsV] at hr
  | .ref _ _, h, r, hr => by simp only [rootsV, List.mem_singleton] at hr; subst hr; exact h
  | .sub _ _ _ _ _, h, r, hr => by simp only [rootsV, List.mem_singleton] at hr; subst hr; exact h
  | .ad _ _ _, h, r, hr => by simp only [rootsV, List.mem_singleton] at hr; subst hr; exact h
  | .rad _ _, _, r, hr => by simp [rootsV] at hr
  | .vn _ vs, h, r, hr => roots_inL vs h r (by simpa [rootsV] using hr)
  | .dead, _, r, hr => by simp [rootsV] at hr
theorem roots_inL {I : Nat → Prop} : ∀ (xs : List V), V.withinL I xs → ∀ r ∈ rootsL xs, I r
  | [], _, r, hr => by simp [rootsL] at hr
  | x :: xs, h, r, hr => by
    simp only [rootsL, List.mem_append] at hr
    rcases hr with hr | hr
    · exact roots_in x h.1 r hr
    · exact roots_inL xs h.2 r hr
end

structure Sim (U : Nat → Prop) (c s : St) : Prop where
  like : Like (fun i => ¬ U i) c s
  free : ∀ i d, U i → s[i]? ≠ some (.own d)
  len : s.length = c.length

section
variable {U : Nat → Prop} {c s : St}

theorem kill_within {I : Nat → Prop} (r : Nat) (p : List Nat) {x : V} (h : x.within I) : (V.kill r p x).within I := by
  unfold V.kill
  split
  · trivial
  · exact h

theorem Sim.kill (h : Sim U c s) (r : Nat) (p : List Nat) : Sim U (Mx.kill r p c) (Mx.kill r p s) := by
  refine ⟨⟨fun i hi => ?_, fun i x hi hx => ?_⟩, fun i d hi hx => ?_, by simpa using h.len⟩
  · rw [kill_get, kill_get, h.like.same i hi]
  · rw [kill_get, Option.map_eq_some_iff] at hx
    obtain ⟨y, hy, rfl⟩ := hx
    exact kill_within r p (h.like.clos i y hi hy)
  · rw [kill_get, Option.map_eq_some_iff] at hx
    obtain ⟨y, hy, he⟩ := hx
    unfold V.kill at he
    split at he
    · cases he
    · subst he; exact h.free i d hi hy

theorem Sim.set (h : Sim U c s) {r : Nat} (hr : ¬ U r) {x : V} (hx : x.within fun i => ¬ U i) : Sim U (c.set r x) (s.set r x) := by
  refine ⟨⟨fun i hi => ?_, fun i y hi hy => ?_⟩, fun i d hi hy => ?_, by simpa using h.len⟩
  · by_cases e : r = i
    · subst e
      rw [List.getElem?_set_self', List.getElem?_set_self', h.like.same r hi]
    · rw [List.getElem?_set_ne e, List.getElem?_set_ne e, h.like.same i hi]
  · by_cases e : r = i
    · subst e
      rw [List.getElem?_set_self'] at hy
      cases hc : c[r]? with
      | none => simp [hc] at hy
      | some z => simp [hc] at hy; subst hy; exact hx
    · rw [List.getElem?_set_ne e] at hy
      exact h.like.clos i y hi hy
  · have e : r ≠ i := fun e => hr (e ▸ hi)
    rw [List.getElem?_set_ne e] at hy
    exact h.free i d hi hy

theorem Sim.setv (h : Sim U c s) {r : Nat} (hr : ¬ U r) {x : V} (hx : x.within fun i => ¬ U i) : Sim U (Mx.setv c r x) (Mx.setv s r x) := by
  unfold Mx.setv
  rw [h.like.same r hr]
  split
  · exact (h.kill r []).set hr (kill_within r [] hx)
  · exact h.set hr hx

theorem Sim.put (h : Sim U c s) {dst : Option Nat} (hr : ∀ d, dst = some d → ¬ U d) {x : V} (hx : x.within fun i => ¬ U i) : Sim U (Mx.put c dst x) (Mx.put s dst x) := by
  cases dst with
  | none => exact h
  | some d => exact h.setv (hr d rfl) hx

theorem Sim.leave (h : Sim U c s) {r : Nat} (hr : ¬ U r) (d0 : D) (p : List Nat) : Sim U (Mx.leave c r d0 p) (Mx.leave s r d0 p) := by
  cases p with
  | nil => exact (h.kill r []).set hr trivial
  | cons i p => exact (h.kill r (i :: p)).set hr trivial

mutual
theorem take_sim : ∀ (x : V) {c s c1 : St} {d : D}, Sim U c s → x.within (fun i => ¬ U i) → take c x = some (d, c1) → ∃ s1, take s x = some (d, s1) ∧ Sim U c1 s1
  | .sc x, c, s, c1, d, h, hw, ht => by
    simp only [take, Option.some.injEq, Prod.mk.injEq] at ht
    obtain ⟨rfl, rfl⟩ := ht
    exact ⟨s, by simp [take], h⟩
  | .own _, c, s, c1, d, h, hw, ht => by simp [take] at ht
  | .ro dd, c, s, c1, d, h, hw, ht => by
    simp only [take] at ht ⊢
    split at ht
    · split at ht
      · rename_i hc
        cases ht
        exact ⟨s, by rw [if_pos hc], h⟩
      · cases ht
    · split at ht
      · rename_i hc
        cases ht
        exact ⟨s, by rw [if_pos hc], h⟩
      · cases ht
  | .ref r p, c, s, c1, d, h, hw, ht => by
    have hr : ¬ U r := hw
    simp only [take] at ht ⊢
    rw [root_like h.like hr]
    split at ht
    · rename_i d0 h0
      try simp only [h0]
      split at ht
      · rename_i kids h1
        try simp only [h1]
        split at ht
        · rename_i hc
          cases ht
          exact ⟨s, by rw [if_pos hc], h⟩
        · rename_i hc
          cases ht
          exact ⟨_, by rw [if_neg hc], h.leave hr d0 p⟩
      · rename_i k kids hk h1
        cases ht
        refine ⟨_, ?_, h.leave hr d0 p⟩
        try simp only [h1]
      · cases ht
    · cases ht
  | .sub r p lo es n, c, s, c1, d, h, hw, ht => by
    have hr : ¬ U r := hw
    simp only [take] at ht ⊢
    rw [root_like h.like hr]
    split at ht
    · rename_i d0 h0
      try simp only [h0]
      split at ht
      · rename_i d1 h1
        try simp only [h1]
        split at ht
        · rename_i d2 h2
          try simp only [h2]
          cases ht
          exact ⟨_, rfl, h.leave hr d0 p⟩
        · cases ht
      · cases ht
    · cases ht
  | .ad _ _ _, c, s, c1, d, h, hw, ht => by simp [take] at ht
  | .rad _ _, c, s, c1, d, h, hw, ht => by simp [take] at ht
  | .vn k vs, c, s, c1, d, h, hw, ht => by
    simp only [take] at ht ⊢
    split at ht
    · rename_i hk
      rw [if_pos hk]
      split at ht
      · rename_i d1 h1
        cases ht
        exact ⟨s, by simp only [h1], h⟩
      · cases ht
    · rename_i hk
      rw [if_neg hk]
      split at ht
      · rename_i ds c2 h1
        cases ht
        obtain ⟨s1, h2, h3⟩ := takeL_sim vs h hw h1
        exact ⟨s1, by simp only [h2], h3⟩
      · cases ht
  | .dead, c, s, c1, d, h, hw, ht => by simp [take] at ht
theorem takeL_sim : ∀ (xs : List V) {c s c1 : St} {ds : List D}, Sim U c s → V.withinL (fun i => ¬ U i) xs → takeL c xs = some (ds, c1) → ∃ s1, takeL s xs = some (ds, s1) ∧ Sim U c1 s1
  | [], c, s, c1, ds, h, hw, ht => by
    simp only [takeL, Option.some.injEq, Prod.mk.injEq] at ht
    obtain ⟨rfl, rfl⟩ := ht
    exact ⟨s, by simp [takeL], h⟩
  | x :: xs, c, s, c1, ds, h, hw, ht => by
    simp only [takeL] at ht ⊢
    split at ht
    · rename_i d c2 h1
      obtain ⟨s1, h2, h3⟩ := take_sim x h hw.1 h1
      try simp only [h2]
      split at ht
      · rename_i ds2 c3 h4
        cases ht
        obtain ⟨s2, h5, h6⟩ := takeL_sim xs h3 hw.2 h4
        exact ⟨s2, by simp only [h5], h6⟩
      · cases ht
    · cases ht
end

theorem takeAll_sim : ∀ (xs : List MO) {c s c1 : St} {ds : List D}, Sim U c s → (∀ m ∈ xs, m.inI fun i => ¬ U i) → takeAll c xs = some (ds, c1) → ∃ s1, takeAll s xs = some (ds, s1) ∧ Sim U c1 s1
  | [], c, s, c1, ds, h, hw, ht => by
    simp only [takeAll, Option.some.injEq, Prod.mk.injEq] at ht
    obtain ⟨rfl, rfl⟩ := ht
    exact ⟨s, rfl, h⟩
  | x :: xs, c, s, c1, ds, h, hw, ht => by
    obtain ⟨e1, e2⟩ := ev_like h.like (hw x (List.mem_cons_self ..))
    simp only [takeAll] at ht ⊢
    rw [e1]
    split at ht
    · rename_i d c2 h1
      obtain ⟨s1, h2, h3⟩ := take_sim _ h e2 h1
      try simp only [h2]
      split at ht
      · rename_i ds2 c3 h4
        cases ht
        obtain ⟨s2, h5, h6⟩ := takeAll_sim xs h3 (fun m hm => hw m (List.mem_cons_of_mem _ hm)) h4
        exact ⟨s2, by simp only [h5], h6⟩
      · cases ht
    · cases ht

theorem append_sim {es : Nat} {x y : MO} {c s c1 : St} {d : D} (h : Sim U c s) (hx : x.inI fun i => ¬ U i) (hy : y.inI fun i => ¬ U i) (ht : append c es x y = some (d, c1)) : ∃ s1, append s es x y = some (d, s1) ∧ Sim U c1 s1 := by
  have hsrc : ∀ q, appSrc c es y = some q → ∃ s1, appSrc s es y = some (q.1, q.2.1, s1) ∧ Sim U q.2.2 s1 := by
    rintro ⟨n0, k0, c0⟩ hq
    obtain ⟨e1, e2⟩ := ev_like h.like hy
    unfold appSrc at hq ⊢
    rw [e1, rd_like h.like _ e2]
    split at hq
    · rename_i b es' n kids h1
      try simp only [h1]
      split at hq
      · rename_i g1
        rw [if_pos g1]
        split at hq
        · rename_i g2
          rw [if_pos g2]
          split at hq
          · rename_i g3
            rw [if_pos g3]
            cases hq
            exact ⟨s, rfl, h⟩
          · rename_i g3
            rw [if_neg g3]
            split at hq
            · rename_i b2 es2 n' kids' c2 h2
              obtain ⟨s1, h3, h4⟩ := take_sim _ h e2 h2
              try simp only [h3]
              split at hq
              · rename_i g4
                rw [if_pos g4]
                cases hq
                exact ⟨s1, rfl, h4⟩
              · cases hq
            · cases hq
        · cases hq
      · cases hq
    · rename_i st h1
      try simp only [h1]
      split at hq
      · rename_i g1
        rw [if_pos g1]
        cases hq
        exact ⟨s, rfl, h⟩
      · cases hq
    · cases hq
  unfold append at ht ⊢
  split at ht
  · rename_i m ks c2 h1
    obtain ⟨s1, h2, h3⟩ := hsrc _ h1
    try simp only [h2]
    obtain ⟨e1, e2⟩ := ev_like h3.like hx
    rw [e1]
    split at ht
    · rename_i b es' n kids c3 h4
      obtain ⟨s2, h5, h6⟩ := take_sim _ h3 e2 h4
      try simp only [h5]
      split at ht
      · rename_i g1
        rw [if_pos g1]
        cases ht
        exact ⟨s2, rfl, h6⟩
      · cases ht
    · cases ht
  · cases ht

theorem mo_parts {ps : List (Nat × Nat × MO)} (hr : ∀ i ∈ (ps.map (·.2.2)).flatMap MO.slots, ¬ U i) : ∀ m ∈ ps.map (·.2.2), m.inI fun i => ¬ U i :=
  fun m hm i hi => hr i (List.mem_flatMap.2 ⟨m, hm, hi⟩)

theorem step_sim {call : Oracle} {op : MOp} {c s c' : St} (he : earlyOK op = true) (h : Sim U c s) (hr : ∀ i ∈ op.rds, ¬ U i) (hd : ∀ d, op.dst = some d → ¬ U d) (hs : step call c op = some c') : ∃ s', step call s op = some s' ∧ Sim U c' s' := by
  cases op <;> simp only [earlyOK, Bool.false_eq_true] at he
  case app d es x y =>
    have hx : x.inI fun i => ¬ U i := fun i hi => hr i (by simp [MOp.rds, hi])
    have hy : y.inI fun i => ¬ U i := fun i hi => hr i (by simp [MOp.rds, hi])
    simp only [step] at hs ⊢
    split at hs
    · rename_i dd c1 h1
      obtain ⟨s1, h2, h3⟩ := append_sim h hx hy h1
      try simp only [h2]
      cases hs
      exact ⟨_, rfl, h3.setv (hd d rfl) trivial⟩
    · cases hs
  case bs d es n zero parts =>
    simp only [step] at hs ⊢
    split at hs
    · rename_i ds c1 h1
      obtain ⟨s1, h2, h3⟩ := takeAll_sim _ h (mo_parts hr) h1
      try simp only [h2]
      split at hs
      · rename_i cells h4
        try simp only [h4]
        cases hs
        exact ⟨_, rfl, h3.setv (hd d rfl) trivial⟩
      · cases hs
    · cases hs
  case bld d zero parts =>
    simp only [step] at hs ⊢
    split at hs
    · rename_i ds c1 h1
      obtain ⟨s1, h2, h3⟩ := takeAll_sim _ h (mo_parts hr) h1
      try simp only [h2]
      split at hs
      · rename_i cells h4
        try simp only [h4]
        cases hs
        exact ⟨_, rfl, h3.setv (hd d rfl) trivial⟩
      · cases hs
    · cases hs
  case box d x =>
    have hx : x.inI fun i => ¬ U i := fun i hi => hr i hi
    obtain ⟨e1, e2⟩ := ev_like h.like hx
    simp only [step] at hs ⊢
    rw [e1]
    split at hs
    · rename_i dd c1 h1
      obtain ⟨s1, h2, h3⟩ := take_sim _ h e2 h1
      try simp only [h2]
      split at hs
      · rename_i g1
        rw [if_pos g1]
        cases hs
        exact ⟨_, rfl, h3.setv (hd d rfl) trivial⟩
      · cases hs
    · cases hs
  case calI dst f x args =>
    have hx : x.inI fun i => ¬ U i := fun i hi => hr i (by simp [MOp.rds, hi])
    have ha : ∀ m ∈ args, m.inI fun i => ¬ U i := fun m hm i hi => hr i (by simp only [MOp.rds, List.mem_append, List.mem_flatMap]; exact .inr ⟨m, hm, hi⟩)
    obtain ⟨e1, e2⟩ := ev_like h.like hx
    simp only [step] at hs ⊢
    rw [e1]
    split at hs
    · rename_i h1
      try simp only [h1]
      rw [rdAll_like h.like _ ha]
      split at hs
      · rename_i ds h2
        try simp only [h2]
        split at hs
        · rename_i d h3
          try simp only [h3]
          cases hs
          exact ⟨_, rfl, h.put hd (mkOwn_within d)⟩
        · cases hs
      · cases hs
    · rename_i r h1
      rw [h1] at e2
      have hrU : ¬ U r := e2
      try simp only [h1]
      rw [root_like h.like hrU]
      split at hs
      · rename_i b kids h2
        try simp only [h2]
        have hk : Sim U ((Mx.kill r [] c).set r .dead) ((Mx.kill r [] s).set r .dead) := (h.kill r []).set hrU trivial
        rw [rdAll_like hk.like _ ha]
        split at hs
        · rename_i ds h3
          try simp only [h3]
          unfold ioRes at hs ⊢
          split at hs
          · rename_i d b2 kids2 h4
            try simp only [h4]
            cases hs
            exact ⟨_, rfl, (hk.set (x := .own (.nd (.bx b2) kids2)) hrU trivial).put hd (mkOwn_within d)⟩
          · cases hs
        · cases hs
      · cases hs
    · cases hs
end

/-! ### the chain's states -/
theorem stepsX_vals {call : Oracle} : ∀ (g : List (MG × List (Nat × List Nat))) (st st2 : St), stepsX call g st = some st2 → ∃ c : Nat → St, c 0 = st ∧ c g.length = st2 ∧ ∀ (k : Nat) (o : MG) (l : List (Nat × List Nat)), g[k]? = some (o, l) → Mx.stepG call (c k) o = some (c (k + 1)) ∧ lateOK (c k) (c (k + 1)) l
  | [], st, st2, h => by
    simp only [stepsX, Option.some.injEq] at h
    exact ⟨fun _ => st, rfl, h, fun k o l hk => by simp at hk⟩
  | (o, l) :: g, st, st2, h => by
    simp only [stepsX] at h
    split at h
    · rename_i st1 h1
      split at h
      · rename_i hl
        obtain ⟨c, e1, e2, e3⟩ := stepsX_vals g st1 st2 h
        refine ⟨fun k => match k with | 0 => st | k + 1 => c k, rfl, e2, fun k o' l' hk => ?_⟩
        cases k with
        | zero =>
          simp only [List.getElem?_cons_zero, Option.some.injEq, Prod.mk.injEq] at hk
          obtain ⟨rfl, rfl⟩ := hk
          show Mx.stepG call st o = some (c 0) ∧ lateOK st (c 0) l
          rw [e1]
          exact ⟨h1, hl⟩
        | succ k => exact e3 k o' l' (by simpa using hk)
      · cases h
    · cases h

/-! ### the region -/
section
variable {P : Program} {E : Env} {call : Oracle} (hc : CallsOK P E.g call) {ops : Array Oper} {ms : List MG}
variable {Q : Exit → Act → World → Prop} {a0 : Act} {F : Nat → Prop} (hNF : ∀ (j : Nat) (m : MG), ms[j]? = some m → ∀ d, m.op.dst = some d → ¬ F d)

/-- The slots that are not set yet. -/
def Uof (ops : Array Oper) (sg : List Nat) (listed : Array Bool) (f : List MG) (i : Nat) : Prop := ∃ q, q < f.length ∧ ¬ InP ops sg listed q ∧ dstK f q = some i

include hc hNF in
theorem mix_ok {sg : List Nat} (O : Ord ops sg) (hlen : ms.length = ops.size) (hget : ∀ (j : Nat) (m : MG), ms[j]? = some m → ∃ o : Oper, ops[sg.getD j 0]? = some o ∧ cG P ops o m) (haf : ∀ j, j < ops.size → ∀ k ∈ afP (afF ops) sg j, k < j) {s : Nat} (hsn : s ≤ ops.size)
    {mu : Nat} (hmu : mu ≤ s) (htl : ∀ j, j < ops.size → s ≤ j → ∀ i, s ≤ i → i < j → ((ancM (afP (afF ops) sg) ops.size).getD j 0).testBit i = true)
    (hea : ∀ j, j < ops.size → s ≤ j → okEarly (ancM (afP (afF ops) sg) ops.size) mu s ms j = true)
    (hdis : ∀ j k, j < (ms.take s).length → k < (ms.take s).length → k ≠ j → dstK (ms.take s) k ≠ dstK (ms.take s) j)
    (hrd : ∀ (j : Nat) (m : MG), (ms.take s)[j]? = some m → ∀ i ∈ m.rds, ∀ k, k < (ms.take s).length → dstK (ms.take s) k = some i → k < j ∧ k ∈ afP (afF ops) sg j)
    {y : Nat → V} {st0 : St} (h0 : ∀ (i : Nat) (x : V), st0[i]? = some x → x.within fun r => ∀ m, m < (ms.take s).length → dstK (ms.take s) m ≠ some r)
    (hval : ∀ (j : Nat) (m : MG), (ms.take s)[j]? = some m → ∃ d, m.op.dst = some d ∧ free (pre' (ms.take s) y st0 j) d = true ∧ valG call (pre' (ms.take s) y st0 j) m = some (y j))
    {c : Nat → St} (hc0 : c 0 = pre' (ms.take s) y st0 (ms.take s).length)
    (hch : ∀ k, s + k < ops.size → ∀ m, ms[s + k]? = some m → Mx.stepG call (c k) m = some (c (k + 1)) ∧ lateOK (c k) (c (k + 1)) (lateOf (ancM (afP (afF ops) sg) ops.size) mu s ms (s + k)))
    (hq : ∀ a' w' ts', Kp F a0 a' → Rel E (c (ops.size - s)) ts' a'.tmps w' → Q .normal a' w') : ∀ (r fuel : Nat) (listed : Array Bool) (k : Nat) {st : St} {ts : List C} {a : Act} {w : World},
      (List.range ops.size).countP (fun i => !listed.getD (sg.getD i 0) false) = r → r ≤ fuel → listed.size = ops.size → k ≤ ops.size - s → (∀ i, s ≤ i → i < ops.size → (InP ops sg listed i ↔ i < s + k)) → (∀ j, InP ops sg listed j → ∀ k ∈ afP (afF ops) sg j, InP ops sg listed k) → (∀ i, i < mu → InP ops sg listed i) →
      Sim (Uof ops sg listed (ms.take s)) (c k) st → Kp F a0 a → Rel E st ts a.tmps w → wpAny P .any ops Q fuel listed a w := by
  have hfl : (ms.take s).length = s := by rw [List.length_take, hlen]; omega
  intro r
  induction r using Nat.strongRecOn with
  | _ r ih =>
    intro fuel listed k st ts a w hcnt hf hsz hk hchn hcl hmv hsim hdef hr
    by_cases hall : ∀ i, i < ops.size → InP ops sg listed i
    · -- all is done
      have hkn : k = ops.size - s := by
        rcases Nat.lt_or_ge k (ops.size - s) with h | h
        · have := (hchn (s + k) (by omega) (by omega)).1 (hall (s + k) (by omega))
          omega
        · omega
      have hst : st = c k := by
        apply List.ext_getElem?
        intro i
        refine hsim.like.same i ?_
        rintro ⟨q, h1, h2, _⟩
        exact h2 (hall q (by omega))
      subst hst
      subst hkn
      refine wpAny_done ?_ (hq a w ts hdef hr) fuel
      apply List.eq_nil_iff_forall_not_mem.2
      intro j hj
      obtain ⟨p, h1, _, h2, _⟩ := (ready_pos O hsz).1 hj
      exact h2 (hall p h1)
    · have hex : ∃ j, j < ops.size ∧ ¬ InP ops sg listed j ∧ ∀ k, k < j → InP ops sg listed k := by
        have : ∀ n, n ≤ ops.size → (∀ i, i < n → InP ops sg listed i) ∨ ∃ j, j < ops.size ∧ ¬ InP ops sg listed j ∧ ∀ k, k < j → InP ops sg listed k := by
          intro n
          induction n with
          | zero => intro _; exact .inl fun i hi => by omega
          | succ n ih =>
            intro hn
            rcases ih (by omega) with h | h
            · by_cases hn' : InP ops sg listed n
              · exact .inl fun i hi => by
                  by_cases he : i = n
                  · subst he; exact hn'
                  · exact h i (by omega)
              · exact .inr ⟨n, by omega, hn', h⟩
            · exact .inr h
        exact (this ops.size (Nat.le_refl _)).resolve_left hall
      obtain ⟨j0, hj0, hj1, hj2⟩ := hex
      have hpos : 0 < r := by
        rw [← hcnt]
        apply List.countP_pos_iff.2
        refine ⟨j0, List.mem_range.2 hj0, ?_⟩
        have : ¬ InL listed (sg.getD j0 0) := fun h => hj1 ⟨by omega, h⟩
        unfold InL at this
        simpa using this
      obtain ⟨fuel, rfl⟩ : ∃ k, fuel = k + 1 := ⟨fuel - 1, by omega⟩
      have hmem : sg.getD j0 0 ∈ Region.ready .any ops listed := (ready_pos O hsz).2 ⟨j0, by omega, rfl, hj1, fun k hk => hj2 k (haf j0 (by omega) k hk)⟩
      refine ⟨fun h => (by rw [h] at hmem; cases hmem), fun j' hj => ?_⟩
      obtain ⟨j, h1, rfl, h2, h3⟩ := (ready_pos O hsz).1 hj
      have hjm : j < ms.length := by rw [hlen]; exact h1
      obtain ⟨o, ho', hcg⟩ := hget j _ (List.getElem?_eq_getElem hjm)
      have hin := inP_set O hsz h1
      have h2' : ¬ InL listed (sg.getD j 0) := fun h => h2 ⟨h1, h⟩
      have hj3 : InL (listed.setIfInBounds (sg.getD j 0) true) (sg.getD j 0) := ((hin j).2 (.inr rfl)).2
      have hcntlt : (List.range ops.size).countP (fun i => !(listed.setIfInBounds (sg.getD j 0) true).getD (sg.getD i 0) false) < r := by
        rw [← hcnt]
        refine countP_lt (j := j) (List.mem_range.2 h1) ?_ ?_ ?_
        · unfold InL at h2'; simpa using h2'
        · unfold InL at hj3
          simp only [hj3, Bool.not_true]
        · intro i hi
          simp only [Bool.not_eq_true'] at hi ⊢
          cases hq' : listed.getD (sg.getD i 0) false with
          | false => rfl
          | true =>
            have := (inL_set (listed := listed) (j := sg.getD j 0) (by have := O.lt j h1; omega) (sg.getD i 0)).2 (.inl hq')
            unfold InL at this
            rw [this] at hi
            cases hi
      have hcl' : ∀ i, InP ops sg (listed.setIfInBounds (sg.getD j 0) true) i → ∀ k ∈ afP (afF ops) sg i, InP ops sg (listed.setIfInBounds (sg.getD j 0) true) k := by
        intro i hi k hk
        rcases (hin i).1 hi with h | h
        · exact (hin k).2 (.inl (hcl i h k hk))
        · subst h; exact (hin k).2 (.inl (h3 k hk))
      have hmv' : ∀ i, i < mu → InP ops sg (listed.setIfInBounds (sg.getD j 0) true) i := fun i hi => (hin i).2 (.inl (hmv i hi))
      have hanc := anc_in haf hcl
      rcases Nat.lt_or_ge j s with hjs | hjs
      · -- an operation that changes its own slot
        have hm : (ms.take s)[j]? = some ms[j] := by rw [List.getElem?_take, if_pos hjs, List.getElem?_eq_getElem hjm]
        have hjmu : mu ≤ j := Nat.le_of_not_lt fun h => h2 (hmv j h)
        -- the state without what changes more
        have hpl : (c 0).length = st0.length := by
          rw [hc0]
          have : ∀ n, (pre' (ms.take s) y st0 n).length = st0.length := by
            intro n
            induction n with
            | zero => rfl
            | succ n ih => rw [pre']; split <;> simp [ih]
          exact this _
        obtain ⟨sh, hs1, hs2⟩ : ∃ sh : St, (∀ i, Uof ops sg listed (ms.take s) i → sh[i]? = st0[i]?) ∧ ∀ i, ¬ Uof ops sg listed (ms.take s) i → sh[i]? = (c 0)[i]? := by
          classical
          refine ⟨(List.range st0.length).map fun i => if Uof ops sg listed (ms.take s) i then st0.getD i .dead else (c 0).getD i .dead, fun i hi => ?_, fun i hi => ?_⟩
          · by_cases hlt : i < st0.length
            · simp [hlt, hi]
            · rw [List.getElem?_eq_none (by simpa using hlt), List.getElem?_eq_none (by omega)]
          · by_cases hlt : i < st0.length
            · have : i < (c 0).length := by omega
              simp [hlt, hi, this]
            · rw [List.getElem?_eq_none (by simpa using hlt), List.getElem?_eq_none (by omega)]
        have hUd : ∀ q d, q < (ms.take s).length → InP ops sg listed q → dstK (ms.take s) q = some d → ¬ Uof ops sg listed (ms.take s) d := by
          rintro q d hq hA hd ⟨q', e1, e2, e3⟩
          by_cases he : q' = q
          · subst he; exact e2 hA
          · exact hdis q q' hq e1 he (by rw [e3, hd])
        have hdes : Des (ms.take s) y st0 (InP ops sg listed) sh := by
          refine ⟨fun i hi => ?_, fun q d hq hA hd => ?_⟩
          · by_cases hU : Uof ops sg listed (ms.take s) i
            · exact hs1 i hU
            · rw [hs2 i hU, hc0]
              refine pre_out _ fun q hq hd => ?_
              by_cases hA : InP ops sg listed q
              · exact hi q hq hA hd
              · exact hU ⟨q, hq, hA, hd⟩
          · rw [hs2 d (hUd q d hq hA hd), hc0]
            exact pre_in hdis hd _ hq (Nat.le_refl _)
        obtain ⟨d, hd1, _, hd3⟩ := val_des hdis hrd h0 hval hcl hdes hm h2 h3
        have hdj : dstK (ms.take s) j = some d := by simp only [dstK, hm, Option.bind_some, hd1]
        have hUj : Uof ops sg listed (ms.take s) d := ⟨j, by omega, h2, hdj⟩
        -- the chain has left alone what this operation is about
        have hlate : ∀ k', k' ≤ k → (c k')[d]? = (c 0)[d]? ∧ ∀ i ∈ ms[j].rds, (c k')[i]? = (c 0)[i]? ∧ ∀ x, (c 0)[i]? = some x → ∀ r ∈ rootsV x, (c k')[r]? = (c 0)[r]? := by
          intro k'
          induction k' with
          | zero => intro _; exact ⟨rfl, fun i _ => ⟨rfl, fun _ _ _ _ => rfl⟩⟩
          | succ k' ihk =>
            intro hk'
            obtain ⟨g1, g2⟩ := ihk (by omega)
            have hp : s + k' < ops.size := by omega
            have hpm : s + k' < ms.length := by omega
            obtain ⟨_, hl⟩ := hch k' hp _ (List.getElem?_eq_getElem hpm)
            have hpin : InP ops sg listed (s + k') := (hchn (s + k') (by omega) hp).2 (by omega)
            have hnb : ((ancM (afP (afF ops) sg) ops.size).getD (s + k') 0).testBit j = false := by
              cases hb : ((ancM (afP (afF ops) sg) ops.size).getD (s + k') 0).testBit j with
              | false => rfl
              | true => exact absurd (hanc (s + k') hp (hcl _ hpin) j hb) h2
            have hmemL : (d, ms[j].rds) ∈ lateOf (ancM (afP (afF ops) sg) ops.size) mu s ms (s + k') := by
              unfold lateOf
              refine List.mem_filterMap.2 ⟨j, List.mem_filter.2 ⟨List.mem_range.2 hjs, by rw [hnb]; simp [hjmu]⟩, ?_⟩
              rw [List.getElem?_eq_getElem hjm]
              simp only [hd1, Option.map_some]
            obtain ⟨q1, q2⟩ := hl _ hmemL
            refine ⟨q1.trans g1, fun i hi => ?_⟩
            obtain ⟨q3, q4⟩ := q2 i hi
            obtain ⟨g3, g4⟩ := g2 i hi
            exact ⟨q3.trans g3, fun x hx r hr => (q4 x (g3.trans hx) r hr).trans (g4 x hx r hr)⟩
        obtain ⟨hk1, hk2⟩ := hlate k (Nat.le_refl _)
        have hrU : ∀ i ∈ ms[j].rds, ¬ Uof ops sg listed (ms.take s) i := by
          rintro i hi ⟨q, e1, e2, e3⟩
          exact e2 (h3 q (hrd j _ hm i hi q e1 e3).2)
        have hroot : ∀ i ∈ ms[j].rds, ∀ x, (c 0)[i]? = some x → ∀ r ∈ rootsV x, ∃ dd, st[r]? = some (.own dd) := by
          intro i hi x hx r hrr
          have hsi : st[i]? = some x := by rw [hsim.like.same i (hrU i hi), (hk2 i hi).1, hx]
          have hs' := hr.slot' hsi
          by_cases ho : ∃ d, x = .own d
          · obtain ⟨d, rfl⟩ := ho; simp [rootsV] at hrr
          · have hv := (hs'.nonown fun d hd => ho ⟨d, hd⟩).1
            have := roots_in x (within_rel hr x _ hv) r hrr
            cases hsr : st[r]? with
            | none => rw [List.getD_eq_getElem?_getD, hsr] at this; simp [isOwn] at this
            | some v =>
              rw [List.getD_eq_getElem?_getD, hsr] at this
              cases v <;> simp [isOwn] at this
              exact ⟨_, rfl⟩
        have hL : Like (fun i => i ∈ ms[j].rds ∨ ∃ i' ∈ ms[j].rds, ∃ x, (c 0)[i']? = some x ∧ i ∈ rootsV x) sh st := by
          refine ⟨fun i hi => ?_, fun i x hi hx => ?_⟩
          · rcases hi with hi | ⟨i', hi', x, hx, hrr⟩
            · rw [hsim.like.same i (hrU i hi), (hk2 i hi).1, hs2 i (hrU i hi)]
            · obtain ⟨dd, hdd⟩ := hroot i' hi' x hx i hrr
              have hnU : ¬ Uof ops sg listed (ms.take s) i := fun hU => hsim.free i dd hU hdd
              rw [hsim.like.same i hnU, (hk2 i' hi').2 x hx i hrr, hs2 i hnU]
          · rcases hi with hi | ⟨i', hi', x', hx', hrr⟩
            · rw [hs2 i (hrU i hi)] at hx
              exact within_mono (fun r hr => .inr ⟨i, hi, x, hx, hr⟩) x (within_roots x)
            · obtain ⟨dd, hdd⟩ := hroot i' hi' x' hx' i hrr
              have hnU : ¬ Uof ops sg listed (ms.take s) i := fun hU => hsim.free i dd hU hdd
              rw [hs2 i hnU, ← (hk2 i' hi').2 x' hx' i hrr, ← hsim.like.same i hnU, hdd] at hx
              cases hx
              trivial
        have hvst : valG call st ms[j] = some (y j) := by
          rw [(valG_like hL call ms[j] (fun i hi => .inl hi)).1]
          exact hd3
        have hfree : free st d = true := by
          unfold free
          cases hsd : st[d]? with
          | none => rfl
          | some x =>
            cases x with
            | own dd => exact absurd hsd (hsim.free d dd hUj)
            | _ => rfl
        have hstep := valG_step hvst hd1 hfree
        refine wpOp_ok hr hc ho' hcg hstep (hNF _ _ (List.getElem?_eq_getElem hjm)) fun a' w' ts' hd' hr' => ?_
        have hU' : ∀ i, Uof ops sg (listed.setIfInBounds (sg.getD j 0) true) (ms.take s) i ↔ Uof ops sg listed (ms.take s) i ∧ i ≠ d := by
          intro i
          constructor
          · rintro ⟨q, e1, e2, e3⟩
            have hqj : q ≠ j := fun e => e2 ((hin q).2 (.inr e))
            refine ⟨⟨q, e1, fun h => e2 ((hin q).2 (.inl h)), e3⟩, ?_⟩
            rintro rfl
            exact hdis j q (by omega) e1 hqj (by rw [e3, hdj])
          · rintro ⟨⟨q, e1, e2, e3⟩, hne⟩
            refine ⟨q, e1, fun h => ?_, e3⟩
            rcases (hin q).1 h with h | h
            · exact e2 h
            · subst h; rw [hdj] at e3; exact hne (Option.some.inj e3).symm
        have hcd : (c k)[d]? = (st0[d]?).map fun _ => y j := by
          rw [hk1, hc0]
          exact pre_in hdis hdj _ (by omega) (Nat.le_refl _)
        have hyw := y_within hdis hrd h0 hval hcl' j (by omega) ((hin j).2 (.inr rfl))
        refine ih _ hcntlt fuel _ k rfl (by omega) (by simpa using hsz) hk ?_ hcl' hmv' ?_ (hdef.trans hd') hr'
        · intro i hi1 hi2
          rw [hin i, hchn i hi1 hi2]
          constructor
          · rintro (h | h)
            · exact h
            · omega
          · exact .inl
        · refine ⟨⟨fun i hi => ?_, fun i x hi hx => ?_⟩, fun i dd hi hx => ?_, by simpa using hsim.len⟩
          · by_cases e : d = i
            · subst e
              rw [List.getElem?_set_self', hcd]
              have hl1 : d < st.length ↔ d < (c k).length := by rw [hsim.len]
              cases hz : st0[d]? with
              | none =>
                rw [hz] at hcd
                have : ¬ d < st.length := fun h => by
                  have := List.getElem?_eq_getElem (hl1.1 h)
                  rw [hcd] at this
                  cases this
                rw [List.getElem?_eq_none (by omega)]
                rfl
              | some z =>
                rw [hz] at hcd
                have : d < st.length := hl1.2 (lt_of_get hcd)
                rw [List.getElem?_eq_getElem this]
                rfl
            · rw [List.getElem?_set_ne e]
              exact hsim.like.same i fun hU => hi ((hU' i).2 ⟨hU, fun h => e h.symm⟩)
          · by_cases e : i = d
            · subst e
              rw [hcd, Option.map_eq_some_iff] at hx
              obtain ⟨_, _, rfl⟩ := hx
              refine within_mono (fun r hr => ?_) _ hyw
              rintro ⟨q, e1, e2, e3⟩
              rcases hr with hr | ⟨m', q1, q2, q3⟩
              · exact hr q e1 e3
              · by_cases he : q = m'
                · subst he; exact e2 q2
                · exact hdis m' q (by omega) e1 he (by rw [e3, q3])
            · refine within_mono (fun r hr h => hr ((hU' r).1 h).1) x (hsim.like.clos i x (fun hU => hi ((hU' i).2 ⟨hU, e⟩)) hx)
          · obtain ⟨hU, hne⟩ := (hU' i).1 hi
            rw [List.getElem?_set_ne (Ne.symm hne)] at hx
            exact hsim.free i dd hU hx
      · -- the next operation of the chain
        have hjk : j = s + k := by
          have h5 : ¬ j < s + k := fun h => h2 ((hchn j hjs h1).2 h)
          rcases Nat.lt_or_ge (s + k) j with h | h
          · have := hanc j h1 h3 (s + k) (htl j h1 hjs (s + k) (by omega) h)
            have := (hchn (s + k) (by omega) (by omega)).1 this
            omega
          · omega
        subst hjk
        obtain ⟨hst1, _⟩ := hch k h1 _ (List.getElem?_eq_getElem hjm)
        have hUs : ∀ i, Uof ops sg (listed.setIfInBounds (sg.getD (s + k) 0) true) (ms.take s) i ↔ Uof ops sg listed (ms.take s) i := by
          intro i
          constructor
          · rintro ⟨q, e1, e2, e3⟩
            exact ⟨q, e1, fun h => e2 ((hin q).2 (.inl h)), e3⟩
          · rintro ⟨q, e1, e2, e3⟩
            refine ⟨q, e1, fun h => ?_, e3⟩
            rcases (hin q).1 h with h | h
            · exact e2 h
            · omega
        have hstep : ∃ st', Mx.stepG call st ms[s + k] = some st' ∧ Sim (Uof ops sg listed (ms.take s)) (c (k + 1)) st' := by
          by_cases hallf : ∀ q, q < s → InP ops sg listed q
          · have hnoU : ∀ i, ¬ Uof ops sg listed (ms.take s) i := fun i ⟨q, e1, e2, _⟩ => e2 (hallf q (by omega))
            have hst : st = c k := List.ext_getElem? fun i => hsim.like.same i (hnoU i)
            rw [hst]
            refine ⟨_, hst1, ⟨fun _ _ => rfl, fun i x _ hx => ?_⟩, fun i d hi => absurd hi (hnoU i), rfl⟩
            exact within_mono (fun r _ => hnoU r) x (within_roots x)
          · obtain ⟨q, hq1, hq2⟩ : ∃ q, q < s ∧ ¬ InP ops sg listed q := by
              apply Classical.byContradiction
              intro h
              exact hallf fun q hq => Classical.byContradiction fun h2 => h ⟨q, hq, h2⟩
            have hqb : ((ancM (afP (afF ops) sg) ops.size).getD (s + k) 0).testBit q = false := by
              cases hb : ((ancM (afP (afF ops) sg) ops.size).getD (s + k) 0).testBit q with
              | false => rfl
              | true => exact absurd (hanc (s + k) h1 h3 q hb) hq2
            have he := hea (s + k) h1 (by omega)
            unfold okEarly at he
            rw [Bool.or_eq_true] at he
            rcases he with he | he
            · have := List.all_eq_true.1 he q (List.mem_range.2 hq1)
              rw [hqb] at this
              simp only [Bool.or_false, decide_eq_true_eq] at this
              exact absurd (hmv q this) hq2
            · rw [List.getElem?_eq_getElem hjm] at he
              simp only [Bool.and_eq_true] at he
              obtain ⟨⟨⟨k1, k2⟩, k3⟩, k4⟩ := he
              have hg : ms[s + k].g = none := by simpa using k2
              have hrU : ∀ i ∈ ms[s + k].op.rds, ¬ Uof ops sg listed (ms.take s) i := by
                rintro i hi ⟨q', e1, e2, e3⟩
                have := List.all_eq_true.1 (List.all_eq_true.1 k3 i hi) q' (List.mem_range.2 (by omega))
                simp only [Bool.or_eq_true, bne_iff_ne, decide_eq_true_eq] at this
                rcases this with (h | h) | h
                · exact h e3
                · exact e2 (hmv q' h)
                · exact e2 (hanc (s + k) h1 h3 q' h)
              have hdU : ∀ d, ms[s + k].op.dst = some d → ¬ Uof ops sg listed (ms.take s) d := by
                rintro d hd ⟨q', e1, e2, e3⟩
                have := List.all_eq_true.1 k4 q' (List.mem_range.2 (by omega))
                rw [hd, e3] at this
                simp at this
              unfold Mx.stepG at hst1 ⊢
              rw [hg] at hst1 ⊢
              simp only [wanted] at hst1 ⊢
              exact step_sim k1 hsim hrU hdU hst1
        obtain ⟨st', hst2, hsim2⟩ := hstep
        refine wpOp_ok hr hc ho' hcg hst2 (hNF _ _ (List.getElem?_eq_getElem hjm)) fun a' w' ts' hd' hr' => ?_
        refine ih _ hcntlt fuel _ (k + 1) rfl (by omega) (by simpa using hsz) (by omega) ?_ hcl' hmv' ?_ (hdef.trans hd') hr'
        · intro i hi1 hi2
          rw [hin i, hchn i hi1 hi2]
          omega
        · have : Uof ops sg (listed.setIfInBounds (sg.getD (s + k) 0) true) (ms.take s) = Uof ops sg listed (ms.take s) := funext fun i => propext (hUs i)
          rw [this]
          exact hsim2

include hc hNF in
theorem drx_ok0 {sg : List Nat} {os : List Oper} (hsel : sel ops sg = some os) {ms0 : List MG} {s0 : Nat} (hms : compOps P ops os = some ms0) (hX : ms = msX s0 ms0) {mu s : Nat} (hok : okDrawX ops sg mu ms s = true) {lt : List (List (Nat × List Nat))} (hlt : lt = (List.range (ops.size - s)).map fun k => lateOf (ancM (afP (afF ops) sg) ops.size) mu s ms (s + k)) {st st1 st2 : St} {ts : List C} {w : World} (hr : Rel E st ts a0.tmps w) (hs : stepsF call (ms.take s) st = some st1) (ht : stepsX call ((ms.drop s).zip lt) st1 = some st2) {st3 : St} (hfin : ∀ (a' : Act) (w' : World) (ts' : List C), Rel E st2 ts' a'.tmps w' → ∃ ts'', Rel E st3 ts'' a'.tmps w') :
    wpAny P .any ops (fun e a' w' => e = .normal ∧ ∃ ts', Kp F a0 a' ∧ Rel E st3 ts' a'.tmps w') ops.size (Array.replicate ops.size false) a0 { w with drawn := w.drawn + 1 } := by
  obtain ⟨hlen0', hget0'⟩ := compOps_get (P := P) (ops := ops) _ _ hms
  have hget0 : ∀ (j : Nat) (m : MG), ms[j]? = some m → ∃ o : Oper, os[j]? = some o ∧ cG P ops o m := by
    intro j m hm
    rw [hX] at hm
    obtain ⟨m0, e1, e2⟩ := msX_get hm
    obtain ⟨o, f1, f2⟩ := hget0' j m0 e1
    exact ⟨o, f1, m0, f2, e2⟩
  obtain ⟨hl1, hsel'⟩ := sel_get _ _ hsel
  have hcond := hok
  unfold okDrawX at hcond
  simp only [Bool.and_eq_true, decide_eq_true_eq] at hcond
  obtain ⟨⟨⟨⟨⟨⟨⟨c0, hlen⟩, c1⟩, c2⟩, c3⟩, c4⟩, c5⟩, c6⟩ := hcond
  show wpAny P .any ops _ _ _ _ _
  by_cases hfalse : False
  · exact hfalse.elim
  · clear hfalse
    have O : Ord ops sg := by
      unfold okPerm at c0
      simp only [Bool.and_eq_true, decide_eq_true_eq] at c0
      obtain ⟨⟨⟨⟨p1, p2⟩, p3⟩, p4⟩, p5⟩ := c0
      refine ⟨p1, fun p hp => ?_, fun p q hp hq he => ?_, fun i hi => ?_, fun i hi k hk => ?_⟩
      · have hp' : p < sg.length := by omega
        have := List.all_eq_true.1 p4 _ (List.getElem_mem hp')
        rw [List.getD_eq_getElem?_getD, List.getElem?_eq_getElem hp']
        simpa using this
      · have := List.all_eq_true.1 (List.all_eq_true.1 p3 p (List.mem_range.2 hp)) q (List.mem_range.2 hq)
        simp only [Bool.or_eq_true, beq_iff_eq, bne_iff_ne] at this
        exact this.resolve_right fun h => h he
      · have := List.all_eq_true.1 p2 i (List.mem_range.2 hi)
        simp only [List.contains_iff_mem] at this
        obtain ⟨p, hp, he⟩ := List.getElem_of_mem this
        exact ⟨p, by omega, by rw [List.getD_eq_getElem?_getD, List.getElem?_eq_getElem hp]; exact he⟩
      · have := List.all_eq_true.1 (List.all_eq_true.1 p5 i (List.mem_range.2 hi)) k hk
        simpa using this
    have hget : ∀ (j : Nat) (m : MG), ms[j]? = some m → ∃ o : Oper, ops[sg.getD j 0]? = some o ∧ cG P ops o m := by
      intro j m hm
      obtain ⟨o, h1, h2⟩ := hget0 j m hm
      have hj : j < sg.length := by have := lt_of_get hm; rw [O.len]; omega
      obtain ⟨o', h3, h4⟩ := hsel' j _ (List.getElem?_eq_getElem hj)
      rw [h1] at h4
      cases h4
      refine ⟨o, ?_, h2⟩
      rw [List.getD_eq_getElem?_getD, List.getElem?_eq_getElem hj]
      exact h3
    have haf : ∀ j, j < ops.size → ∀ k ∈ afP (afF ops) sg j, k < j := by
      intro j hj k hk
      have := List.all_eq_true.1 (List.all_eq_true.1 c1 j (List.mem_range.2 hj)) k hk
      simpa using this
    have c3' : ∀ j, j < ops.size → s ≤ j → (∀ i, s ≤ i → i < j → ((ancM (afP (afF ops) sg) ops.size).getD j 0).testBit i = true) ∧ okEarly (ancM (afP (afF ops) sg) ops.size) mu s ms j = true := by
      intro j hj hsj
      have := List.all_eq_true.1 c3 j (List.mem_range.2 hj)
      simp only [Bool.or_eq_true, decide_eq_true_eq, Bool.and_eq_true] at this
      rcases this with h | ⟨h, h'⟩
      · omega
      · refine ⟨fun i hsi hi => ?_, h'⟩
        have := List.all_eq_true.1 h i (List.mem_range.2 hi)
        simp only [Bool.or_eq_true, decide_eq_true_eq] at this
        rcases this with h | h
        · omega
        · exact h
    have hF : ∀ (j : Nat) (m : MG), (ms.take s)[j]? = some m → (dstK (ms.take s) j).isSome = true ∧ (∀ k, k < (ms.take s).length → k = j ∨ dstK (ms.take s) k ≠ dstK (ms.take s) j) ∧
        ∀ i ∈ m.rds, ∀ k, k < (ms.take s).length → dstK (ms.take s) k ≠ some i ∨ (k < j ∧ k ∈ afP (afF ops) sg j) := by
      intro j m hm
      have := List.all_eq_true.1 c2 j (List.mem_range.2 (lt_of_get hm))
      simp only [hm, Bool.and_eq_true] at this
      obtain ⟨⟨q1, q2⟩, q3⟩ := this
      refine ⟨q1, fun k hk => ?_, fun i hi k hk => ?_⟩
      · have := List.all_eq_true.1 q2 k (List.mem_range.2 hk)
        simpa using this
      · have := List.all_eq_true.1 (List.all_eq_true.1 q3 i hi) k (List.mem_range.2 hk)
        simpa using this
    have hdis : ∀ j k, j < (ms.take s).length → k < (ms.take s).length → k ≠ j → dstK (ms.take s) k ≠ dstK (ms.take s) j := fun j k hj hk hne => ((hF j _ (List.getElem?_eq_getElem hj)).2.1 k hk).resolve_left hne
    have hrd : ∀ j m, (ms.take s)[j]? = some m → ∀ i ∈ m.rds, ∀ k, k < (ms.take s).length → dstK (ms.take s) k = some i → k < j ∧ k ∈ afP (afF ops) sg j := fun j m hm i hi k hk hd => ((hF j m hm).2.2 i hi k hk).resolve_left fun h => h hd
    obtain ⟨y, hy1, hy2⟩ := stepsF_vals _ _ _ hs
    subst hy1
    obtain ⟨c, hc0, hcn, hcs⟩ := stepsX_vals _ _ _ ht
    have hlz : ((ms.drop s).zip lt).length = ops.size - s := by
      rw [List.length_zip, List.length_drop, hlen, hlt]
      simp
    rw [hlz] at hcn
    subst hcn
    have hch : ∀ k, s + k < ops.size → ∀ m, ms[s + k]? = some m → Mx.stepG call (c k) m = some (c (k + 1)) ∧ lateOK (c k) (c (k + 1)) (lateOf (ancM (afP (afF ops) sg) ops.size) mu s ms (s + k)) := by
      intro k hk m hm
      refine hcs k m _ ?_
      rw [List.getElem?_zip_eq_some]
      refine ⟨by rw [List.getElem?_drop]; exact hm, ?_⟩
      rw [hlt, List.getElem?_map, List.getElem?_range (by omega)]
      rfl
    have hfree : ∀ m, m < (ms.take s).length → ∀ r, dstK (ms.take s) m = some r → isOwn (st.getD r .dead) = false := by
      intro m hm r hd
      obtain ⟨d, e1, e2, e3⟩ := hy2 m _ (List.getElem?_eq_getElem hm)
      have : d = r := by simp only [dstK, List.getElem?_eq_getElem hm, Option.bind_some, e1, Option.some.injEq] at hd; exact hd
      subst this
      have e4 : (pre' (ms.take s) y st m)[d]? = st[d]? := pre_out m fun k hk he => hdis m k hm (by omega) (by omega) (by rw [he, hd])
      unfold free at e2
      rw [e4] at e2
      rw [List.getD_eq_getElem?_getD]
      cases hx : st[d]? with
      | none => rfl
      | some x => simp only [hx] at e2; simpa using e2
    have hout : ∀ (i : Nat) (x : V), st[i]? = some x → x.within fun r => ∀ m, m < (ms.take s).length → dstK (ms.take s) m ≠ some r := by
      intro i x hx
      have hi : i < st.length := lt_of_get hx
      have hs' := hr.slot' hx
      by_cases ho : ∃ d, x = .own d
      · obtain ⟨d, rfl⟩ := ho; trivial
      · have hv := (hs'.nonown fun d hd => ho ⟨d, hd⟩).1
        refine within_mono ?_ x (within_rel hr x _ hv)
        intro r hrr m hm hd
        rw [hfree m hm r hd] at hrr
        cases hrr
    have hfl : (ms.take s).length = s := by rw [List.length_take, hlen]; omega
    -- what is done behind the first p operations of the order
    have hdone : ∀ p, p ≤ ops.size → (doneL ops.size (sg.take p)).size = ops.size ∧ ∀ q, InP ops sg (doneL ops.size (sg.take p)) q ↔ q < p ∧ q < ops.size := by
      intro p
      induction p with
      | zero =>
        intro _
        refine ⟨by simp [doneL], fun q => ⟨fun h => ?_, fun h => by omega⟩⟩
        have h := h.2
        unfold InL at h
        simp only [List.take_zero, doneL, List.foldl_nil] at h
        rw [Array.getD_eq_getD_getElem?, Array.getElem?_replicate] at h
        split at h <;> simp at h
      | succ p ih =>
        intro hp
        obtain ⟨e1, e2⟩ := ih (by omega)
        have hps : p < sg.length := by rw [O.len]; omega
        have e3 : doneL ops.size (sg.take (p + 1)) = (doneL ops.size (sg.take p)).setIfInBounds (sg.getD p 0) true := by
          rw [List.take_add_one, List.getElem?_eq_getElem hps]
          simp only [Option.toList_some, doneL, List.foldl_append, List.foldl_cons, List.foldl_nil]
          rw [List.getD_eq_getElem?_getD, List.getElem?_eq_getElem hps]
          rfl
        rw [e3]
        refine ⟨by simpa using e1, fun q => ?_⟩
        rw [inP_set O e1 (by omega), e2]
        constructor
        · rintro (⟨h1, h2⟩ | rfl)
          · exact ⟨by omega, h2⟩
          · exact ⟨by omega, by omega⟩
        · rintro ⟨h1, h2⟩
          by_cases he : q = p
          · exact .inr he
          · exact .inl ⟨by omega, h2⟩
    -- the moves first
    have main : ∀ (r p : Nat) {ts : List C} {a : Act} {w : World}, p + r = mu → Kp F a0 a → Rel E (pre' (ms.take s) y st p) ts a.tmps w →
        wpAny P .any ops (fun e a' w' => e = .normal ∧ ∃ ts', Kp F a0 a' ∧ Rel E st3 ts' a'.tmps w') (ops.size - p) (doneL ops.size (sg.take p)) a w := by
      intro r
      induction r with
      | zero =>
        intro p ts a w hp hdef hrel
        have hp : p = mu := by omega
        subst hp
        obtain ⟨e1, e2⟩ := hdone p (by omega)
        refine mix_ok hc hNF O hlen hget haf c4 c6 (fun j h1 h2 => (c3' j h1 h2).1) (fun j h1 h2 => (c3' j h1 h2).2) hdis hrd (y := y) (st0 := st) hout hy2 hc0 hch (fun a' w' ts' h1 h2 => (hfin a' w' ts' h2).elim fun t h => ⟨rfl, t, h1, h⟩) _ (ops.size - p) _ 0 rfl ?_ e1 (Nat.zero_le _) ?_ ?_ ?_ ?_ hdef hrel
        · have : ∀ (l : List Nat) (b : Nat → Bool), (∀ i, i < p → b i = false) → (List.range ops.size).countP b ≤ ops.size - p := by
            intro _ b hb
            obtain ⟨d, hd⟩ : ∃ d, ops.size = p + d := ⟨ops.size - p, by omega⟩
            rw [hd, List.range_add, List.countP_append]
            have z : (List.range p).countP b = 0 := by
              rw [List.countP_eq_zero]
              intro i hi
              rw [hb i (List.mem_range.1 hi)]; simp
            have l2 : ((List.range d).map (p + ·)).countP b ≤ d := Nat.le_trans List.countP_le_length (by simp)
            omega
          have := this [] (fun i => !(doneL ops.size (sg.take p)).getD (sg.getD i 0) false) fun i hi => by
            have := ((e2 i).2 ⟨hi, by omega⟩).2
            unfold InL at this
            simp only [this, Bool.not_true]
          omega
        · intro i hi1 hi2
          constructor
          · intro h; have := (e2 i).1 h; omega
          · intro h; omega
        · intro j hj k hk
          have := (e2 j).1 hj
          have := haf j this.2 k hk
          exact (e2 k).2 ⟨by omega, by omega⟩
        · intro i hi; exact (e2 i).2 ⟨hi, by omega⟩
        · have hclp : ∀ j, InP ops sg (doneL ops.size (sg.take p)) j → ∀ k ∈ afP (afF ops) sg j, InP ops sg (doneL ops.size (sg.take p)) k := by
            intro j hj k hk
            have := (e2 j).1 hj
            have := haf j this.2 k hk
            exact (e2 k).2 ⟨by omega, by omega⟩
          have hpl : ∀ n, (pre' (ms.take s) y st n).length = st.length := by
            intro n
            induction n with
            | zero => rfl
            | succ n ih => rw [pre']; split <;> simp [ih]
          rw [hc0]
          refine ⟨⟨fun i hi => ?_, fun i x hi hx => ?_⟩, fun i dd hi hx => ?_, by rw [hpl, hpl]⟩
          · by_cases hd : ∃ q, q < (ms.take s).length ∧ dstK (ms.take s) q = some i
            · obtain ⟨q, h1, h2⟩ := hd
              have hq : q < p := by
                rcases Nat.lt_or_ge q p with h | h
                · exact h
                · exact absurd ⟨q, h1, fun h3 => by have := (e2 q).1 h3; omega, h2⟩ hi
              rw [pre_in hdis h2 p hq (by omega), pre_in hdis h2 _ h1 (Nat.le_refl _)]
            · have hno : ∀ q, q < (ms.take s).length → dstK (ms.take s) q ≠ some i := fun q hq he => hd ⟨q, hq, he⟩
              rw [pre_out p fun q hq => hno q (by omega), pre_out _ hno]
          · by_cases hd : ∃ q, q < (ms.take s).length ∧ dstK (ms.take s) q = some i
            · obtain ⟨q, h1, h2⟩ := hd
              have hq : InP ops sg (doneL ops.size (sg.take p)) q := by
                apply Classical.byContradiction
                intro h; exact hi ⟨q, h1, h, h2⟩
              rw [pre_in hdis h2 _ h1 (Nat.le_refl _), Option.map_eq_some_iff] at hx
              obtain ⟨_, _, rfl⟩ := hx
              have hyw := y_within hdis hrd hout hy2 hclp q h1 hq
              refine within_mono (fun r hr => ?_) _ hyw
              rintro ⟨q', g1, g2, g3⟩
              rcases hr with hr | ⟨m', q1, q2, q3⟩
              · exact hr q' g1 g3
              · by_cases he : q' = m'
                · subst he; exact g2 q2
                · exact hdis m' q' (by omega) g1 he (by rw [g3, q3])
            · have hno : ∀ q, q < (ms.take s).length → dstK (ms.take s) q ≠ some i := fun q hq he => hd ⟨q, hq, he⟩
              rw [pre_out _ hno] at hx
              refine within_mono (fun r hr => ?_) x (hout i x hx)
              rintro ⟨q', g1, g2, g3⟩
              exact hr q' g1 g3
          · obtain ⟨q, h1, h2, h3⟩ := hi
            have hq : p ≤ q := Nat.le_of_not_lt fun h => h2 ((e2 q).2 ⟨h, by omega⟩)
            rw [pre_out p fun q' hq' he => hdis q q' h1 (by omega) (by omega) (by rw [he, h3])] at hx
            obtain ⟨d, f1, f2, f3⟩ := hy2 q _ (List.getElem?_eq_getElem h1)
            have hd : d = i := by
              simp only [dstK, List.getElem?_eq_getElem h1, Option.bind_some, f1, Option.some.injEq] at h3
              exact h3
            subst hd
            have e4 : (pre' (ms.take s) y st q)[d]? = st[d]? := pre_out q fun k hk he => hdis q k h1 (by omega) (by omega) (by rw [he, h3])
            unfold free at f2
            rw [e4, hx] at f2
            simp [isOwn] at f2
      | succ r ih =>
        intro p ts a w hp hdef hrel
        have hpm : p < mu := by omega
        unfold okMv at c5
        simp only [Bool.and_eq_true, Bool.or_eq_true, beq_iff_eq] at c5
        obtain ⟨k1, k2⟩ := c5
        have k3 := List.all_eq_true.1 k2 p (List.mem_range.2 hpm)
        simp only [Bool.and_eq_true] at k3
        obtain ⟨⟨k4, k5⟩, k6⟩ := k3
        have hpms : p < ms.length := by omega
        have hm : (ms.take s)[p]? = some ms[p] := by rw [List.getElem?_take, if_pos (by omega), List.getElem?_eq_getElem hpms]
        obtain ⟨o, ho, hcg⟩ := hget p _ (List.getElem?_eq_getElem hpms)
        obtain ⟨d, q1, q2, q3⟩ := hy2 p _ hm
        have hdp : dstK (ms.take s) p = some d := by simp only [dstK, hm, Option.bind_some, q1]
        obtain ⟨j2, d1, v, r1, r2, r3, r4⟩ := first_ok ho k4 hcg hrel q3
        have hd1 : d1 = d := by rw [q1] at r1; exact (Option.some.inj r1).symm
        subst hd1
        have hput : (a.put o.dst v).tmps = a.tmps.setIfInBounds d1 v := by rw [r2]; rfl
        have hrel2 := hrel.set d1 r4
        rw [setv_free q2, ← hput] at hrel2
        have e4 : pre' (ms.take s) y st (p + 1) = (pre' (ms.take s) y st p).set d1 (y p) := by rw [pre', hdp]
        rw [← e4] at hrel2
        have hps : p < sg.length := by rw [O.len]; omega
        have e5 : doneL ops.size (sg.take (p + 1)) = (doneL ops.size (sg.take p)).setIfInBounds (sg.getD p 0) true := by
          rw [List.take_add_one, List.getElem?_eq_getElem hps]
          simp only [Option.toList_some, doneL, List.foldl_append, List.foldl_cons, List.foldl_nil]
          rw [List.getD_eq_getElem?_getD, List.getElem?_eq_getElem hps]
          rfl
        have hnext := ih (p + 1) (a := a.put o.dst v) (w := w) (by omega) (hdef.trans (Kp.put (fun d hd => hNF p _ (List.getElem?_eq_getElem hpms) d (by rw [cG_dst hcg]; exact hd)) v)) hrel2
        rw [e5] at hnext
        obtain ⟨fu, hfu⟩ : ∃ fu, ops.size - p = fu + 1 := ⟨ops.size - p - 1, by omega⟩
        rw [show ops.size - (p + 1) = fu by omega] at hnext
        rw [hfu]
        refine wpAny_take ho (k1.resolve_left (by omega)) k5 k6 (fun c a w h => ?_) (v := v) (.inl ⟨by simp [Region.wanted, j2], r3⟩) hnext
        exact absurd h.1 (by simp)
    have hfin := main mu 0 (a := a0) (w := { w with drawn := w.drawn + 1 }) (by omega) (Kp.refl F a0) (hr.grow ⟨rfl, rfl, rfl, Nat.le_refl _, fun _ _ => rfl⟩)
    exact hfin

include hc hNF in
theorem drx_ok {sg : List Nat} {os : List Oper} (hsel : sel ops sg = some os) {ms0 : List MG} {s0 : Nat} (hms : compOps P ops os = some ms0) (hX : ms = msX s0 ms0) {mu s : Nat} (hok : okDrawX ops sg mu ms s = true) {lt : List (List (Nat × List Nat))} (hlt : lt = (List.range (ops.size - s)).map fun k => lateOf (ancM (afP (afF ops) sg) ops.size) mu s ms (s + k)) {g : List Nat} {st st1 st2 st3 : St} {ts : List C} {w : World} (hr : Rel E st ts a0.tmps w) (hs : stepsF call (ms.take s) st = some st1) (ht : stepsX call ((ms.drop s).zip lt) st1 = some st2) (hg : stepsG call (ghoG g) st2 = some st3) :
    wpAny P .any ops (fun e a' w' => e = .normal ∧ ∃ ts', Kp F a0 a' ∧ Rel E st3 ts' a'.tmps w') ops.size (Array.replicate ops.size false) a0 { w with drawn := w.drawn + 1 } :=
  drx_ok0 hc hNF hsel hms hX hok hlt hr hs ht fun a' w' ts' h4 => gho_ok g h4 hg
end
end Go.Mx
