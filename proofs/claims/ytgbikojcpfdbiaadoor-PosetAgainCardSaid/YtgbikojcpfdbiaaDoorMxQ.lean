import Derived.Test.YtgbikojcpfdbiaaDoorMxP
import Derived.Orders
/-
  Mx, part Q: every operation that is compiled goes as the machine says.
-/
namespace Go.Mx
set_option linter.unusedVariables false
set_option linter.unusedSimpArgs false
set_option linter.unusedSectionVars false
open Go

section
variable {P : Program} {E : Env} {st st' : St} {ts : List C} {a : Act} {w : World}

theorem elemT_some {t e : TypeId} {es : Nat} (h : elemT P t = some (e, es)) : P.underlying t = some (.slice e) ∧ sizeT P e = some es := by
  unfold elemT at h
  split at h
  · rename_i e' hu
    split at h
    · rename_i n hs
      simp only [Option.some.injEq, Prod.mk.injEq] at h
      obtain ⟨rfl, rfl⟩ := h
      exact ⟨hu, hs⟩
    · cases h
  · cases h

theorem compCall_ok (hr : Rel E st ts a.tmps w) {call : Oracle} (hc : CallsOK P E.g call) {o : Oper} {c : Call} (ho : o.op = .call c) {m : MOp} (h : compCall P o.dst c = some m) (hs : step call st m = some st') : Goes P E o a w st' := by
  unfold compCall at h
  split at h
  · rename_i f hcal
    split at h
    · rename_i as has
      split at h
      · rename_i hsz
        split at h
        · split at h
          · rename_i x xs
            cases h
            exact calI_ok hr hc ho hcal has (by simpa using hsz.1) hsz.2 hs
          · cases h
        · cases h
          exact call_ok hr hc ho hcal has (by simpa using hsz.1) hsz.2 hs
      · cases h
    · cases h
  · rename_i t hcal
    split at h
    · rename_i as has
      split at h
      · rename_i hsz
        cases h
        exact calv_ok hr hc ho hcal has (by simpa using hsz) hs
      · cases h
    · cases h
  · rename_i b hcal
    split at h
    · rename_i d x t hd hargs hats
      split at h
      · rename_i x' hx
        split at h
        · rename_i e hu
          cases h
          exact len_ok hr ho hcal hargs hats (str := false) ⟨e, hu⟩ hd hx hs
        · rename_i hu
          cases h
          exact len_ok hr ho hcal hargs hats (str := true) hu hd hx hs
        · cases h
      · cases h
    · rename_i d x y t t' hd hargs hats
      split at h
      · rename_i e es hel
        obtain ⟨hu, hsz⟩ := elemT_some hel
        split at h
        · rename_i x' y' hx hy
          split at h
          · rename_i e' z hu' hz
            split at h
            · rename_i hcond
              cases h
              exact app_ok hr ho hcal hargs hats hu hu' (by intro k hk; cases hk) hsz hcond.2.1 hz hcond.1 hcond.2.2 hd hx hy hs
            · cases h
          · rename_i z hu' hz
            split at h
            · rename_i hcond
              cases h
              exact app_ok hr ho hcal hargs hats hu hu' (by intro k hk; cases hk) hsz hcond.2.1 hz hcond.1 hcond.2.2 hd hx hy hs
            · cases h
          · cases h
        · cases h
      · cases h
    · rename_i d x y hd hargs
      split at h
      · rename_i x' y' hx hy
        cases h
        exact mm_ok hr ho (mx := true) hcal hargs hd hx hy hs
      · cases h
    · rename_i d x y hd hargs
      split at h
      · rename_i x' y' hx hy
        cases h
        exact mm_ok hr ho (mx := false) hcal hargs hd hx hy hs
      · cases h
    · cases h
  · cases h

theorem optM_none : OptM (none : Option Operand) none := trivial

theorem compOp_ok (hr : Rel E st ts a.tmps w) {call : Oracle} (hc : CallsOK P E.g call) {o : Oper} {m : MOp} (h : compOp P o = some m) (hs : step call st m = some st') : Goes P E o a w st' := by
  unfold compOp at h
  split at h
  · rename_i x hop
    split at h
    · rename_i d y hd hy
      cases h
      exact mv_ok hr (by unfold execOp; rw [hop]) hd hy hs
    · cases h
  · rename_i x hop
    split at h
    · rename_i d y hd hy
      cases h
      exact asg_ok hr (by unfold execOp; rw [hop]) hd hy hs
    · cases h
  · rename_i c x y hop
    split at h
    · rename_i d c' a' b' hd hc' ha hb
      cases h
      exact pick_ok hr hop hd hc' ha hb hs
    · cases h
  · rename_i x i hop
    split at h
    · rename_i d y hd hy
      cases h
      exact ext_ok hr hop hd hy hs
    · cases h
  · rename_i t x i hop
    split at h
    · rename_i d x' i' hd hx hi
      split at h
      · rename_i e hu
        split at h
        · rename_i es hes
          cases h
          exact ixs_ok hr hop hu hes hd hx hi hs
        · cases h
      · rename_i n e hu
        split at h
        · rename_i es hes
          cases h
          exact ixa_ok hr hop hu hes hd hx hi hs
        · cases h
      · cases h
    · cases h
  · rename_i t x hop
    split at h
    · rename_i d x' hd hx
      split at h
      · rename_i hag
        split at h
        · rename_i m' hm'
          cases h
          exact ldn_ok hr hop hag hm' hd hx hs
        · cases h
      · rename_i hag
        split at h
        · rename_i ds hu
          cases h
          exact ld1_ok hr hop (by simpa using hag) hu hd hx hs
        · cases h
    · cases h
  · rename_i t x y hop
    split at h
    · rename_i x' y' m' hx hy hm'
      cases h
      exact stn_ok hr hop hm' hx hy hs
    · cases h
  · rename_i op t x y z hop
    split at h
    · rename_i d x' y' hd hx hy
      cases h
      exact bin_ok hr hop hd hx hy hs
    · cases h
  · rename_i op t x hop
    split at h
    · rename_i d x' hd hx
      cases h
      exact un_ok hr hop hd hx hs
    · cases h
  · rename_i c hop
    exact compCall_ok hr hc hop h hs
  · rename_i t n parts hop
    split at h
    · rename_i d e es hd hel
      obtain ⟨hu, hes⟩ := elemT_some hel
      split at h
      · rename_i z ps hz hps
        split at h
        · rename_i hle
          cases h
          exact bs_ok hr hop hu hes hz hps hle hd hs
        · cases h
      · cases h
    · cases h
  · rename_i t parts hop
    split at h
    · rename_i d z hd hz
      split at h
      · rename_i fs hu
        split at h
        · rename_i ps hps
          split at h
          · rename_i hall
            cases h
            exact bld_struct hr hop hz hu hall hps hd hs
          · cases h
        · cases h
      · rename_i e hu
        split at h
        · rename_i es hes
          split at h
          · rename_i ps hps
            cases h
            exact bld_array hr hop hz hu hes hps hd hs
          · cases h
        · cases h
      · cases h
    · cases h
  · rename_i t x hop
    split at h
    · rename_i d x' hd hx
      cases h
      exact box_ok hr hop hd hx hs
    · cases h
  · rename_i t hop
    split at h
    · rename_i d z hd hz
      cases h
      exact alc_ok hr hop hz hd hs
    · cases h
  · rename_i t l c hop
    split at h
    · rename_i d e es hd hel
      obtain ⟨hu, hes⟩ := elemT_some hel
      split at h
      · rename_i l' c' z hl hc' hz
        split at h
        · rename_i hcond
          cases h
          exact mks_ok hr hop hu hes hz hcond.2 hd hl hc' hs
        · cases h
      · cases h
    · cases h
  · rename_i x hop
    split at h
    · rename_i d x' hd hx
      cases h
      exact nc_ok hr hop hd hx hs
    · cases h
  · rename_i t x lo hi mx hop
    split at h
    · rename_i d x' hd hx
      split at h
      · rename_i hstr
        have hu : P.underlying t = some .string := by
          unfold isStrT at hstr
          split at hstr
          · assumption
          · cases hstr
        split at h
        · cases h
        · rename_i hmx
          have hmx : mx = none := by cases mx with
            | none => rfl
            | some _ => simp at hmx
          subst hmx
          split at h
          · cases h
            exact ssl_ok hr hop hu hd hx (ml := none) (mh := none) trivial trivial hs
          · rename_i l
            split at h
            · rename_i l' hl
              cases h
              exact ssl_ok hr hop hu hd hx (ml := some l') (mh := none) hl trivial hs
            · cases h
          · rename_i hh
            split at h
            · rename_i h' hh'
              cases h
              exact ssl_ok hr hop hu hd hx (ml := none) (mh := some h') trivial hh' hs
            · cases h
          · rename_i l hh
            split at h
            · rename_i l' h' hl hh'
              cases h
              exact ssl_ok hr hop hu hd hx (ml := some l') (mh := some h') hl hh' hs
            · cases h
      split at h
      · rename_i e es hel
        obtain ⟨hu, hes⟩ := elemT_some hel
        split at h
        · rename_i hcond
          cases h
          exact sl0_ok hr hop hcond.1 hcond.2.1 hcond.2.2 hu hes hd hx hs
        · split at h
          · cases h
          · rename_i hmx
            have hmx : mx = none := by cases mx with
              | none => rfl
              | some _ => simp at hmx
            subst hmx
            split at h
            · cases h
              exact sl_ok hr hop hu hes hd hx (ml := none) (mh := none) trivial trivial hs
            · rename_i l
              split at h
              · rename_i l' hl
                cases h
                exact sl_ok hr hop hu hes hd hx (ml := some l') (mh := none) hl trivial hs
              · cases h
            · rename_i hh
              split at h
              · rename_i h' hh'
                cases h
                exact sl_ok hr hop hu hes hd hx (ml := none) (mh := some h') trivial hh' hs
              · cases h
            · rename_i l hh
              split at h
              · rename_i l' h' hl hh'
                cases h
                exact sl_ok hr hop hu hes hd hx (ml := some l') (mh := some h') hl hh' hs
              · cases h
      · cases h
    · cases h
  · rename_i t x i hop
    split at h
    · rename_i d x' hd hx
      split at h
      · rename_i fs hu
        split at h
        · rename_i f hf
          split at h
          · rename_i s hfs
            split at h
            · cases h
            · rename_i hs0
              cases h
              exact fa_ok hr hop hu hf hfs hs0 hd hx hs
          · cases h
        · cases h
      · cases h
    · cases h
  · rename_i t x i hop
    split at h
    · rename_i d x' hd hx
      split at h
      · rename_i fs hu
        split at h
        · rename_i f hf
          split at h
          · rename_i hag
            split at h
            · rename_i m' hm'
              cases h
              exact fldn_ok hr hop hu hf hag hm' hd hx hs
            · cases h
          · rename_i hag
            split at h
            · rename_i ds hu'
              cases h
              exact fld1_ok hr hop hu hf (by simpa using hag) hu' hd hx hs
            · cases h
        · cases h
      · cases h
    · cases h
  · rename_i t x i hop
    split at h
    · rename_i d x' i' hd hx hi
      split at h
      · rename_i n e hu
        split at h
        · cases h
        · rename_i hag
          split at h
          · rename_i ds hu' hes
            cases h
            exact ix_ok hr hop hu hes (by simpa using hag) hu' hd hx hi hs
          · cases h
      · cases h
    · cases h
  · rename_i s t x hop
    split at h
    · rename_i d x' hd hx
      split at h
      · rename_i k' k hus hut
        cases h
        exact cvi_ok hr hop hus hut hd hx hs
      · rename_i e hus hut
        split at h
        · rename_i hue
          cases h
          exact cvs_ok hr hop hus hue hut hd hx hs
        · cases h
      · rename_i e hus hut
        split at h
        · rename_i hue
          cases h
          exact cvb_ok hr hop hus hut hue hd hx hs
        · cases h
      · rename_i e0 e hus hut
        split at h
        · rename_i hst
          have hst := eq_of_beq hst
          subst hst
          split at h
          · rename_i hue
            cases h
            exact cvm_ok hr hop hut hue hd hx hs
          · cases h
        · cases h
      · cases h
    · cases h
  · rename_i f first caps hop
    split at h
    · rename_i d cs hd hcs
      split at h
      · rename_i hf
        cases h
        exact mkf_ok hr hop hf hd hcs hs
      · cases h
    · cases h
  · cases h

/-- With its guard. -/
theorem wanted_ok (hr : Rel E st ts a.tmps w) {ops : Array Oper} {o : Oper} {m : MG} (h : compG P ops o = some m) {t : Bool} (hw : wanted st m.g = some t) : Region.wanted o (yielded ops a.tmps) = t ∧ ∃ m0, compOp P o = some m0 ∧ m.op = zfix ops m0 := by
  unfold compG at h
  split at h
  · rename_i mo hmo
    split at h
    · rename_i hg
      cases h
      simp only [wanted, Option.some.injEq] at hw
      subst hw
      exact ⟨by simp [Region.wanted, hg], _, hmo, rfl⟩
    · rename_i j want hg
      split at h
      · rename_i s hs
        cases h
        refine ⟨?_, _, hmo, rfl⟩
        simp only [wanted] at hw
        split at hw
        · rename_i b hb
          have := hr.slot' hb
          have h1 : a.tmps.getD s undef = .bool b := this.1
          have h2 := hr.tm_get hb
          rw [h1] at h2
          simp only [Option.some.injEq] at hw
          subst hw
          simp only [Region.wanted, hg, yielded, hs, Option.bind_some, h2]
          cases b <;> cases want <;> rfl
        · rename_i x hnb hb
          have := hr.slot' hb
          have h1 : a.tmps.getD s undef = x := this.1
          have h2 := hr.tm_get hb
          rw [h1] at h2
          simp only [Option.some.injEq] at hw
          subst hw
          simp only [Region.wanted, hg, yielded, hs, Option.bind_some, h2]
          cases x <;> first | rfl | exact absurd rfl (hnb _)
        · cases hw
      · cases h
  · cases h

theorem compOp_dst {o : Oper} {m : MOp} (h : compOp P o = some m) : m.dst = o.dst := by
  unfold compOp at h
  split at h <;> (try unfold compCall at h) <;> (repeat' split at h) <;> first | (cases h; done) | (cases h; simp_all [MOp.dst]; done)

theorem zfix_dst (ops : Array Oper) (m : MOp) : (zfix ops m).dst = m.dst := by
  unfold zfix
  split
  · split <;> rfl
  · rfl

theorem bs_inv {o : Oper} {d es : Nat} {z : List D} (h : compOp P o = some (.bs d es 0 z [])) :
    ∃ t e parts k, o.op = .buildSlice t 0 parts ∧ P.underlying t = some (.slice e) ∧ sizeT P e = some es ∧ partsOf (fun i => some (i * es, es, k)) parts.toList = some [] ∧ o.dst = some d := by
  unfold compOp at h
  split at h <;> (try unfold compCall at h) <;> (repeat' split at h) <;> first | (cases h; done) | skip
  rename_i t n parts hop _ _ d' e es' hd hel _ _ z' ps hz hps _
  obtain ⟨hu, hes⟩ := elemT_some hel
  simp only [Option.some.injEq, MOp.bs.injEq] at h
  obtain ⟨rfl, rfl, rfl, _, rfl⟩ := h
  exact ⟨t, e, parts, _, hop, hu, hes, hps, hd⟩

theorem compZ_ok (hr : Rel E st ts a.tmps w) {call : Oracle} (hc : CallsOK P E.g call) {ops : Array Oper} {o : Oper} {m : MOp} (h : compOp P o = some m) (hs : step call st (zfix ops m) = some st') : Goes P E o a w st' := by
  unfold zfix at hs
  split at hs
  · split at hs
    · obtain ⟨t, e, parts, k, h1, h2, h3, h4, h5⟩ := bs_inv h
      exact mzc_ok hr h1 h2 h3 h4 h5 hs
    · exact compOp_ok hr hc h hs
  · exact compOp_ok hr hc h hs

theorem asg_inv {o : Oper} {d : Nat} {x : MO} (h : compOp P o = some (.asg d x)) : ∃ x0, o.op = .assign x0 ∧ o.dst = some d ∧ opd (esT P o.type) x0 = some x := by
  unfold compOp at h
  split at h <;> (try unfold compCall at h) <;> (repeat' split at h) <;> first | (cases h; done) | skip
  rename_i x0 hop _ _ d' x' hd hx
  cases h
  exact ⟨x0, hop, hd, hx⟩

theorem ext_inv {o : Oper} {d : Nat} {x : MO} {i : Nat} (h : compOp P o = some (.ext d x i)) : ∃ x0 e1, o.op = .extract x0 i ∧ o.dst = some d ∧ opd e1 x0 = some x := by
  unfold compOp at h
  repeat' split at h
  all_goals first | (cases h; done) | skip
  all_goals try (unfold compCall at h; repeat' split at h)
  all_goals first | (cases h; done) | skip
  all_goals first | (cases h; exact ⟨_, _, by assumption, by assumption, by assumption⟩) | skip
theorem zfix_ext {ops : Array Oper} {m : MOp} {d : Nat} {x : MO} {i : Nat} (h : zfix ops m = .ext d x i) : m = .ext d x i := by
  unfold zfix at h
  split at h
  · split at h
    · cases h
    · exact h
  · exact h
theorem bld_inv {o : Oper} {d : Nat} {z : List D} {ps : List (Nat × Nat × MO)} (h : compOp P o = some (.bld d z ps)) : ∃ t parts place, o.op = .build t parts ∧ zeroOf P t = some z ∧ o.dst = some d ∧ partsOf place parts.toList = some ps ∧
    ∃ place' : Nat → Option (Nat × Nat), (∀ i off sz es, place i = some (off, sz, es) → place' i = some (off, sz)) ∧ ∀ z, (P.info? t).bind (·.zero) = some z → ∀ vs, P.built t vs = Instr.fill place' z.cells vs := by
  unfold compOp at h
  split at h <;> (try unfold compCall at h) <;> (repeat' split at h) <;> first | (cases h; done) | skip
  · rename_i t parts hop _ _ d' z' hd hz _ fs hu _ ps' hps hall
    cases h
    exact ⟨t, parts, _, hop, hz, hd, hps, place_struct hu hall⟩
  · rename_i t parts hop _ _ d' z' hd hz _ n e hu _ es hes _ ps' hps
    cases h
    exact ⟨t, parts, _, hop, hz, hd, hps, place_array hu hes⟩

theorem zfix_bld {ops : Array Oper} {m : MOp} {d : Nat} {z : List D} {ps : List (Nat × Nat × MO)} (h : zfix ops m = .bld d z ps) : m = .bld d z ps := by
  unfold zfix at h
  split at h
  · split at h <;> cases h
  · exact h

/-- What stands for an operation of a region whose order is open. -/
def cG (P : Program) (ops : Array Oper) (o : Oper) (m : MG) : Prop := ∃ m0, compG P ops o = some m0 ∧ (m = m0 ∨ m = asMv m0)

theorem zfix_asg {ops : Array Oper} {m : MOp} {d : Nat} {x : MO} (h : zfix ops m = .asg d x) : m = .asg d x := by
  unfold zfix at h
  split at h
  · split at h <;> cases h
  · exact h

/-- Behind operations that do not write certain slots: these are as they were. -/
structure Kp (F : Nat → Prop) (a a' : Act) : Prop where
  df : a'.defers = a.defers
  kp : ∀ i, F i → a'.tmps.getD i undef = a.tmps.getD i undef
theorem Kp.refl (F : Nat → Prop) (a : Act) : Kp F a a := ⟨rfl, fun _ _ => rfl⟩
theorem Kp.trans {F : Nat → Prop} {a b c : Act} (h : Kp F a b) (k : Kp F b c) : Kp F a c := ⟨k.df.trans h.df, fun i hi => (k.kp i hi).trans (h.kp i hi)⟩
theorem Kp.put {F : Nat → Prop} {a : Act} {dst : Option Nat} (h : ∀ d, dst = some d → ¬ F d) (v : Value) : Kp F a (a.put dst v) := by
  cases dst with
  | none => exact Kp.refl F a
  | some d =>
    refine ⟨rfl, fun i hi => ?_⟩
    have hne : d ≠ i := fun e => h d rfl (e ▸ hi)
    show (a.tmps.setIfInBounds d v).getD i undef = _
    simp [Array.getD_eq_getD_getElem?, Array.getElem?_setIfInBounds_ne hne]

theorem asMv_dst (m : MG) : (asMv m).op.dst = m.op.dst := by
  unfold asMv
  split
  · rename_i d x h; rw [h]; rfl
  · rename_i d x i h; rw [h]; rfl
  · rename_i d z ps h
    split
    · rfl
    · rw [h]; rfl
  · rfl
theorem compG_dst {ops : Array Oper} {o : Oper} {m : MG} (h : compG P ops o = some m) : m.op.dst = o.dst := by
  unfold compG at h
  split at h
  · rename_i m0 h0
    split at h
    · cases h; exact (zfix_dst ops m0).trans (compOp_dst h0)
    · split at h
      · cases h; exact (zfix_dst ops m0).trans (compOp_dst h0)
      · cases h
  · cases h
theorem cG_dst {ops : Array Oper} {o : Oper} {m : MG} (h : cG P ops o m) : m.op.dst = o.dst := by
  obtain ⟨m0, h0, h1⟩ := h
  rcases h1 with rfl | rfl
  · exact compG_dst h0
  · rw [asMv_dst]; exact compG_dst h0

/-- One operation of a region. -/
theorem wpOp_ok0 (hr : Rel E st ts a.tmps w) {call : Oracle} (hc : CallsOK P E.g call) {ops : Array Oper} {i : Nat} {o : Oper} (hi : ops[i]? = some o) {m : MG} (h : compG P ops o = some m) (hs : Mx.stepG call st m = some st')
    {Q : Exit → Act → World → Prop} {K : Act → World → Prop} {F : Nat → Prop} (hF : ∀ d, m.op.dst = some d → ¬ F d) (hk : ∀ a' w' ts', Kp F a a' → Rel E st' ts' a'.tmps w' → K a' w') : wpOp P ops Q i K a w := by
  unfold wpOp
  rw [hi]
  unfold Mx.stepG at hs
  have hput : ∀ v, Kp F a (a.put o.dst v) := Kp.put (compG_dst h ▸ hF)
  split at hs
  · rename_i hw
    obtain ⟨h1, h2⟩ := wanted_ok hr h hw
    simp only [h1, if_true]
    obtain ⟨m0, h2, h3⟩ := h2
    rw [h3] at hs
    exact .inl (compZ_ok hr hc h2 hs _ _ fun v w' ts' hrel => hk _ _ _ (hput v) hrel)
  · rename_i hw
    obtain ⟨h1, h2⟩ := wanted_ok hr h hw
    simp only [h1]
    simp only [Bool.false_eq_true, if_false]
    cases hs
    obtain ⟨m0, h2, h3⟩ := h2
    rw [h3, zfix_dst, compOp_dst h2] at hk
    cases hd : o.dst with
    | none => rw [hd] at hk hput; exact hk _ _ ts (hput undef) hr
    | some d => rw [hd] at hk hput; exact hk _ _ _ (hput undef) (hr.set d (x := .sc undef) (u := undef) rfl)
  · cases hs

/-- One operation of a region, a variable being given what it stands for. -/
theorem wpOp_ok (hr : Rel E st ts a.tmps w) {call : Oracle} (hc : CallsOK P E.g call) {ops : Array Oper} {i : Nat} {o : Oper} (hi : ops[i]? = some o) {m : MG} (h : cG P ops o m) (hs : Mx.stepG call st m = some st')
    {Q : Exit → Act → World → Prop} {K : Act → World → Prop} {F : Nat → Prop} (hF : ∀ d, m.op.dst = some d → ¬ F d) (hk : ∀ a' w' ts', Kp F a a' → Rel E st' ts' a'.tmps w' → K a' w') : wpOp P ops Q i K a w := by
  obtain ⟨m0, h0, h1⟩ := h
  rcases h1 with rfl | rfl
  · exact wpOp_ok0 hr hc hi h0 hs hF hk
  unfold asMv at hs
  split at hs
  · rename_i d x hop
    unfold wpOp
    rw [hi]
    unfold Mx.stepG at hs
    have hput : ∀ v, Kp F a (a.put o.dst v) := Kp.put ((asMv_dst m0 ▸ compG_dst h0 : (asMv m0).op.dst = o.dst) ▸ hF)
    split at hs
    · rename_i hw
      obtain ⟨h1, m1, h2, h3⟩ := wanted_ok hr h0 hw
      simp only [h1, if_true]
      rw [hop] at h3
      have h4 := zfix_asg h3.symm
      rw [h4] at h2
      obtain ⟨x0, e1, e2, e3⟩ := asg_inv h2
      exact .inl (mv_ok hr (by unfold execOp; rw [e1]) e2 e3 hs _ _ fun v w' ts' hrel => hk _ _ _ (hput v) hrel)
    · rename_i hw
      obtain ⟨h1, m1, h2, h3⟩ := wanted_ok hr h0 hw
      simp only [h1]
      simp only [Bool.false_eq_true, if_false]
      cases hs
      rw [hop] at h3
      have h4 := zfix_asg h3.symm
      rw [h4] at h2
      obtain ⟨x0, e1, e2, e3⟩ := asg_inv h2
      rw [e2] at hput ⊢
      exact hk _ _ _ (hput undef) (hr.set d (x := .sc undef) (u := undef) rfl)
    · cases hs
  · rename_i d x i1 hop
    unfold wpOp
    rw [hi]
    unfold Mx.stepG at hs
    have hput : ∀ v, Kp F a (a.put o.dst v) := Kp.put ((asMv_dst m0 ▸ compG_dst h0 : (asMv m0).op.dst = o.dst) ▸ hF)
    split at hs
    · rename_i hw
      obtain ⟨h1, m1, h2, h3⟩ := wanted_ok hr h0 hw
      simp only [h1, if_true]
      rw [hop] at h3
      have h4 := zfix_ext h3.symm
      rw [h4] at h2
      obtain ⟨x0, e1, q1, q2, q3⟩ := ext_inv h2
      exact .inl (exb_ok hr q1 q2 q3 hs _ _ fun v w' ts' hrel => hk _ _ _ (hput v) hrel)
    · rename_i hw
      obtain ⟨h1, m1, h2, h3⟩ := wanted_ok hr h0 hw
      simp only [h1]
      simp only [Bool.false_eq_true, if_false]
      cases hs
      rw [hop] at h3
      have h4 := zfix_ext h3.symm
      rw [h4] at h2
      obtain ⟨x0, e1, q1, q2, q3⟩ := ext_inv h2
      rw [q2] at hput ⊢
      exact hk _ _ _ (hput undef) (hr.set d (x := .sc undef) (u := undef) rfl)
    · cases hs
  · rename_i d z ps hop
    split at hs
    · exact wpOp_ok0 hr hc hi h0 hs (fun d hd => hF d (by rw [asMv_dst]; exact hd)) hk
    unfold wpOp
    rw [hi]
    unfold Mx.stepG at hs
    have hput : ∀ v, Kp F a (a.put o.dst v) := Kp.put ((asMv_dst m0 ▸ compG_dst h0 : (asMv m0).op.dst = o.dst) ▸ hF)
    split at hs
    · rename_i hw
      obtain ⟨h1, m1, h2, h3⟩ := wanted_ok hr h0 hw
      simp only [h1, if_true]
      rw [hop] at h3
      have h4 := zfix_bld h3.symm
      rw [h4] at h2
      obtain ⟨t, parts, place, e1, e2, e3, e4, e5⟩ := bld_inv h2
      exact .inl (bv_ok hr e1 e2 e4 e5 e3 hs _ _ fun v w' ts' hrel => hk _ _ _ (hput v) hrel)
    · rename_i hw
      obtain ⟨h1, m1, h2, h3⟩ := wanted_ok hr h0 hw
      simp only [h1]
      simp only [Bool.false_eq_true, if_false]
      cases hs
      rw [hop] at h3
      have h4 := zfix_bld h3.symm
      rw [h4] at h2
      obtain ⟨t, parts, place, e1, e2, e3, e4, e5⟩ := bld_inv h2
      rw [e3] at hput ⊢
      exact hk _ _ _ (hput undef) (hr.set d (x := .sc undef) (u := undef) rfl)
    · cases hs
  · exact wpOp_ok0 hr hc hi h0 hs (fun d hd => hF d (by rw [asMv_dst]; exact hd)) hk

end
end Go.Mx
