import Derived.Test.YtgbikojcpfdbiaaDoorMxN
/-
  Mx, part O: calls.
-/
namespace Go.Mx
set_option linter.unusedVariables false
set_option linter.unusedSimpArgs false
set_option linter.unusedSectionVars false
open Go

/-- The result tree of a call: all its memory is new. -/
structure FreshT (w w' : World) (t : C) : Prop where
  mem : Mem w' true t
  own : ∀ b, cnt b t ≤ 1 ∧ (cnt b t ≠ 0 → w.heap.size ≤ b ∧ b < w'.heap.size)

structure Enters (P : Program) (f : FuncId) : Prop where
  ex : ∃ fn c, P.funcs[f]? = some fn ∧ (fn.name == "runtime.NumGoroutine") = false ∧ fn.body = some c

/-- Behind a call that changes what its first argument points to: all else is as it was. -/
structure BelowX (t0 : C) (w w' : World) : Prop where
  os : w'.os = w.os
  tape : w'.tape = w.tape
  output : w'.output = w.output
  size : w.heap.size ≤ w'.heap.size
  block : ∀ k, k < w.heap.size → cnt k t0 = 0 → w'.heap[k]? = w.heap[k]?

/-- Its result and what the pointer then points to. -/
structure IOPost (w w' : World) (t0 t t1 : C) : Prop where
  mem : Mem w' true t
  mem1 : Mem w' true t1
  val : val t1 = val t0
  box : ∃ d kids, t1 = .nd (.bx d) kids
  uniq : ∀ b, cnt b t + cnt b t1 ≤ 1
  own : ∀ b, cnt b t + cnt b t1 ≠ 0 → (cnt b t0 ≠ 0 ∨ w.heap.size ≤ b) ∧ b < w'.heap.size

/-- The pointer's tree at the call. -/
structure IOPre (w : World) (t0 : C) (l : List C) : Prop where
  box : ∃ d kids, t0 = .nd (.bx d) kids
  mem : Mem w true t0
  args : MemL w false l
  uniq : ∀ b, cnt b t0 ≤ 1
  low : ∀ b, cnt b t0 ≠ 0 → b < w.heap.size ∧ cntL b l = 0
  lowA : ∀ b, cntL b l ≠ 0 → b < w.heap.size

/-- What an oracle says of a function holds of the program. -/
structure CallsOK (P : Program) (g : Glob) (call : Oracle) : Prop where
  reg : ∀ f ds d, f < ioB → call f ds = some d → Enters P f ∧ ∀ (l : List C) (w : World), g.At w → erL l = ds → MemL w false l → (∀ b, cntL b l ≠ 0 → b < w.heap.size) →
    Calls P f (valL l).toArray w fun e w' => ∃ t, e = .returned (val t) ∧ er t = d ∧ RowKit.Below w.heap.size w w' ∧ FreshT w w' t
  io : ∀ f ds d, f < ioB → call (f + ioB) ds = some d → Enters P f ∧ ∀ (t0 : C) (l : List C) (w : World), g.At w → (∀ b, g.blk b → cnt b t0 = 0) → er t0 :: erL l = ds → IOPre w t0 l →
    Calls P f (val t0 :: valL l).toArray w fun e w' => ∃ t t1, e = .returned (val t) ∧ d = .nd .tu [er t, er t1] ∧ BelowX t0 w w' ∧ IOPost w w' t0 t t1

section
variable {P : Program} {E : Env} {st st' : St} {ts : List C} {a : Act} {w : World}

theorem run_enter {f : FuncId} (h : Enters P f) (args : Array Value) (w : World) : (callFunc f args).run P w = .ok (.enter f args) w := by
  obtain ⟨fn, c, hf, hname, hb⟩ := h.ex
  have h1 : fn.name ≠ "runtime.NumGoroutine" := by simpa using hname
  simp [callFunc, hf, h1, hb]

theorem opds_ok : ∀ (l : List (Operand × Nat)) (ms : List MO), opds l = some ms → MORelL a.tmps ms (l.map fun q => a.eval q.1)
  | [], ms, h => by simp only [opds, Option.some.injEq] at h; subst h; rfl
  | (x, es) :: xs, ms, h => by
    simp only [opds] at h
    cases h1 : opd es x with
    | none => simp [h1] at h
    | some m =>
      simp only [h1] at h
      cases h2 : opds xs with
      | none => simp [h2] at h
      | some ms' =>
        simp only [h2, Option.some.injEq] at h
        subst h
        exact ⟨_, _, rfl, opd_ok h1, opds_ok xs ms' h2⟩

theorem below_grew {w w' : World} (h : RowKit.Below w.heap.size w w') : Grew w w' := ⟨h.os, h.tape, h.output, h.size, h.block⟩

/-- The caller goes on. -/
theorem after_call (hr : Rel E st ts a.tmps w) {dst : Option Tmp} {w' : World} {t : C} (hb : RowKit.Below w.heap.size w w') (hf : FreshT w w' t) :
    ∃ ts', Rel E (put st dst (mkOwn (er t))) ts' (a.put dst (val t)).tmps w' := by
  have hg := hr.grow (below_grew hb)
  cases dst with
  | none => exact ⟨ts, hg⟩
  | some d =>
    refine hg.setMk d hf.mem fun b hne => ?_
    obtain ⟨h1, h2⟩ := hf.own b
    obtain ⟨h3, h4⟩ := h2 hne
    refine ⟨?_, h1, fun ho => ?_, h4⟩
    · by_cases hz : cntL b ts = 0
      · exact hz
      · have := (hr.dom b hz).2; omega
    · have := ho.1; have := hr.keep.low; have := hr.keep.size; omega

theorem zip_fst {α β : Type} : ∀ (l : List α) (m : List β), l.length = m.length → (l.zip m).map (·.1) = l
  | [], [], _ => rfl
  | x :: xs, y :: ys, h => by simp only [List.zip_cons_cons, List.map_cons]; rw [zip_fst xs ys (by simpa using h)]
  | [], _ :: _, h => by simp at h
  | _ :: _, [], h => by simp at h

theorem args_ok {c : Call} {es : List Nat} {ms : List MO} (h : opds (c.args.toList.zip es) = some ms) (hl : c.args.size = es.length) : MORelL a.tmps ms (c.args.toList.map a.eval) := by
  have := opds_ok (a := a) _ _ h
  have e : (c.args.toList.zip es).map (fun q => a.eval q.1) = c.args.toList.map a.eval := by
    rw [← zip_fst c.args.toList es (by simpa using hl), List.map_map]
    rw [zip_fst c.args.toList es (by simpa using hl)]
    rfl
  rw [e] at this
  exact this

theorem call_goes (hr : Rel E st ts a.tmps w) {call : Oracle} (hc : CallsOK P E.g call) {o : Oper} {f : FuncId} {args : Array Value} (hex : execOp a.eval o = callFunc f args)
    {ds : List D} {d : D} {l : List C} (hlt : f < ioB) (hcd : call f ds = some d) (h1 : erL l = ds) (h2 : (valL l).toArray = args) (h3 : MemL w false l) (h4 : ∀ b, cntL b l ≠ 0 → b < w.heap.size) :
    Goes P E o a w (put st o.dst (mkOwn d)) := by
  intro next Q hn
  obtain ⟨hent, hcall⟩ := hc.reg f ds d hlt hcd
  unfold Oper.wp
  rw [hex, run_enter hent, Oper.upon_enter]
  subst h2
  refine Calls.mono (hcall l w hr.keep.at' h1 h3 h4) ?_
  rintro e w' ⟨t, rfl, rfl, hb, hf⟩
  obtain ⟨ts', h⟩ := after_call (dst := o.dst) hr hb hf
  exact hn _ _ ts' h

theorem call_ok (hr : Rel E st ts a.tmps w) {call : Oracle} (hc : CallsOK P E.g call) {o : Oper} {c : Call} (ho : o.op = .call c) {f : FuncId} (hcal : c.callee = .value (.func f))
    {es : List Nat} {ms : List MO} (hms : opds (c.args.toList.zip es) = some ms) (hl : c.args.size = es.length) (hlt : f < ioB) (hs : step call st (.call o.dst f ms) = some st') : Goes P E o a w st' := by
  simp only [step] at hs
  cases hrd : rdAll st ms with
  | none => simp [hrd] at hs
  | some ds =>
    simp only [hrd] at hs
    cases hcd : call f ds with
    | none => simp [hcd] at hs
    | some d =>
      simp only [hcd, Option.some.injEq] at hs
      subst hs
      obtain ⟨l, h1, h2, h3, h4⟩ := rdAll_ok hr ms (args_ok hms hl) hrd
      refine call_goes hr hc ?_ hlt hcd h1 (args := c.args.map a.eval) ?_ h3 h4
      · have ef : a.eval (.func f) = .func (.func f) #[] #[] := rfl
        unfold execOp
        simp [ho, resolve, hcal, Deferred.ofValue, invoke, ef]
      · rw [h2]; apply Array.toList_inj.1; simp

theorem valL_take' (l : List C) (n : Nat) : (valL l).take n = valL (l.take n) := (valL_take l n).symm

theorem calv_ok (hr : Rel E st ts a.tmps w) {call : Oracle} (hc : CallsOK P E.g call) {o : Oper} {c : Call} (ho : o.op = .call c) {t : Tmp} (hcal : c.callee = .value (.tmp t))
    {es : List Nat} {ms : List MO} (hms : opds (c.args.toList.zip es) = some ms) (hl : c.args.size = es.length) (hs : step call st (.calv o.dst (.t t) ms) = some st') : Goes P E o a w st' := by
  simp only [step] at hs
  split at hs
  · rename_i f nf kids hg
    cases hrd : rdAll st ms with
    | none => simp [hrd] at hs
    | some ds =>
      simp only [hrd] at hs
      split at hs
      case isFalse => cases hs
      rename_i hlt
      cases hcd : call f (kids.take nf ++ ds ++ kids.drop nf) with
      | none => rw [hcd] at hs; cases hs
      | some d =>
        rw [hcd] at hs
        simp only [Option.some.injEq] at hs
        subst hs
        obtain ⟨l, h1, h2, h3, h4⟩ := rdAll_ok hr ms (args_ok hms hl) hrd
        have hv := ev_ok hr (m := .t t) (u := a.tmps.getD t undef) rfl
        obtain ⟨tt, g1, g2, g3, g4⟩ := rd_ok hr _ hv hg
        obtain ⟨k', kk, rfl, hk, rfl⟩ := er_eq_nd g1
        have : k' = .fn (.func f) nf := by cases k' <;> simp [K.er] at hk; rw [hk.1, hk.2]
        subst this
        simp only [Mem] at g3
        simp only [cnt, K.own, Nat.zero_add] at g4
        refine call_goes hr hc (l := kk.take nf ++ l ++ kk.drop nf) ?_ hlt hcd ?_ rfl ?_ ?_
        · have ef : a.eval (.tmp t) = a.tmps.getD t undef := rfl
          have e2 : a.tmps.getD t undef = .func (.func f) ((valL kk).take nf).toArray ((valL kk).drop nf).toArray := g2.symm
          unfold execOp
          simp only [ho, resolve, hcal, ef, e2, Deferred.ofValue, pure_bind, invoke]
          congr 1
          rw [valL_append, valL_append, valL_take, valL_drop, h2]
          simp
        · rw [erL_append, erL_append, h1, erL_take, erL_drop]
        · exact MemL_append (MemL_append (MemL_take g3.2 _) h3) (MemL_drop g3.2 _)
        · intro b hb
          rw [cntL_append, cntL_append] at hb
          have := cntL_take_drop b kk nf
          by_cases hz : cntL b l = 0
          · exact g4 b (by omega)
          · exact h4 b hz
  · cases hs


/-! ### calls that change what their first argument points to -/
theorem Rel.growX {tm : Array Value} {t0 : C} (h : Rel E st ts tm w) {w' : World} (g : BelowX t0 w w') (hd : ∀ b, cnt b t0 ≠ 0 → cntL b ts = 0 ∧ ¬ Old E b) : Rel E st ts tm w' := by
  refine ⟨h.lenT, h.lenM, h.slot, ?_, h.uniq, fun b hb => ⟨(h.dom b hb).1, by have := (h.dom b hb).2; have := g.size; omega⟩, ?_⟩
  · intro i t ht
    refine (h.mem i t ht).same fun b hb => ?_
    have hne : cntL b ts ≠ 0 := by have := cnt_le_cntL b ts i t ht; omega
    refine g.block b (h.dom b hne).2 ?_
    by_cases hz : cnt b t0 = 0
    · exact hz
    · exact absurd (hd b hz).1 hne
  · have k := h.keep
    refine ⟨g.os.trans k.os, g.tape.trans k.tape, g.output.trans k.output, Nat.le_trans k.size g.size, fun b hb hw => ?_, k.low⟩
    refine (g.block b (by have := k.size; have := k.low; omega) ?_).trans (k.block b hb hw)
    by_cases hz : cnt b t0 = 0
    · exact hz
    · exact absurd ⟨hb, hw⟩ (hd b hz).2

/-- The caller goes on: the pointer's slot has the tree that is left. -/
theorem after_io (hr : Rel E st ts a.tmps w) {r : Nat} (hdead : st[r]? = some .dead) {t0 : C} (hv : val t0 = a.tmps.getD r undef) (hd : ∀ b, cnt b t0 ≠ 0 → cntL b ts = 0 ∧ ¬ Old E b) {dst : Option Tmp} {w' : World} {t t1 : C} (hb : BelowX t0 w w') (hp : IOPost w w' t0 t t1) :
    ∃ ts', Rel E (put (st.set r (.own (er t1))) dst (mkOwn (er t))) ts' (a.put dst (val t)).tmps w' := by
  have hg := hr.growX hb hd
  obtain ⟨dd, kids, hbx⟩ := hp.box
  have hold : ∀ b, w.heap.size ≤ b → ¬ Old E b := fun b h1 h2 => by have := h2.1; have := hr.keep.low; have := hr.keep.size; omega
  have hz : ∀ b, cnt b t + cnt b t1 ≠ 0 → cntL b ts = 0 ∧ ¬ Old E b ∧ b < w'.heap.size := by
    intro b hne
    obtain ⟨h1, h2⟩ := hp.own b hne
    rcases h1 with h1 | h1
    · exact ⟨(hd b h1).1, (hd b h1).2, h2⟩
    · refine ⟨?_, hold b h1, h2⟩
      by_cases hz : cntL b ts = 0
      · exact hz
      · have := (hr.dom b hz).2; omega
  have h1 := hg.setOwn r (t := t1) ⟨_, _, hbx⟩ hp.mem1 (fun b hne => by
    obtain ⟨k1, k2, k3⟩ := hz b (by omega)
    have := hp.uniq b
    exact ⟨k1, by omega, k2, k3⟩)
  have e1 : setv st r (.own (er t1)) = st.set r (.own (er t1)) := by simp [setv, hdead]
  have e2 : a.tmps.setIfInBounds r (val t1) = a.tmps := by rw [hp.val, hv, setI_same]
  rw [e1, e2] at h1
  cases dst with
  | none => exact ⟨_, h1⟩
  | some d =>
    refine h1.setMk d hp.mem fun b hne => ?_
    obtain ⟨k1, k2, k3⟩ := hz b (by omega)
    have hu := hp.uniq b
    have hs : cntL b (ts.set r t1) = 0 := by
      cases hts : ts[r]? with
      | none =>
        have : ts.set r t1 = ts := List.set_eq_of_length_le (List.getElem?_eq_none_iff.1 hts)
        rw [this]; exact k1
      | some t2 =>
        have := cntL_set b ts r t2 t1 hts
        have := cnt_le_cntL b ts r t2 hts
        omega
    exact ⟨hs, by omega, k2, k3⟩

theorem calI_ok (hr : Rel E st ts a.tmps w) {call : Oracle} (hc : CallsOK P E.g call) {o : Oper} {c : Call} (ho : o.op = .call c) {f : FuncId} (hcal : c.callee = .value (.func f))
    {es : List Nat} {x : MO} {ms : List MO} (hms : opds (c.args.toList.zip es) = some (x :: ms)) (hl : c.args.size = es.length) (hlt : f < ioB) (hs : step call st (.calI o.dst f x ms) = some st') : Goes P E o a w st' := by
  have hex : execOp a.eval o = callFunc f (c.args.map a.eval) := by
    have ef : a.eval (.func f) = .func (.func f) #[] #[] := rfl
    unfold execOp
    simp [ho, resolve, hcal, Deferred.ofValue, invoke, ef]
  obtain ⟨u, us, hau, hmx, hmm⟩ := args_ok (a := a) hms hl
  have hv := ev_ok hr hmx
  simp only [step] at hs
  split at hs
  · rename_i hev
    rw [hev] at hv
    cases hrd : rdAll st ms with
    | none => simp [hrd] at hs
    | some ds =>
      simp only [hrd] at hs
      cases hcd : call f (.v (.pointer none) :: ds) with
      | none => simp [hcd] at hs
      | some d =>
        simp only [hcd, Option.some.injEq] at hs
        subst hs
        obtain ⟨l, h1, h2, h3, h4⟩ := rdAll_ok hr ms hmm hrd
        refine call_goes hr hc hex hlt hcd (l := .v (.pointer none) :: l) (by simp [erL, er, h1]) ?_ ⟨trivial, h3⟩ (fun b hb => h4 b (by simpa [cntL, cnt] using hb))
        apply Array.toList_inj.1
        have : u = .pointer none := hv
        simp [valL, val, h2, hau, this]
  · rename_i r hev
    rw [hev] at hv
    split at hs
    · rename_i b0 kids hroot
      cases hrd : rdAll ((kill r [] st).set r .dead) ms with
      | none => simp [hrd] at hs
      | some ds =>
        simp only [hrd] at hs
        obtain ⟨k0, kids0, hts, her, hval⟩ := hr.root hroot
        obtain ⟨t1', k1, kids1, g1, g2, g3⟩ := hv
        rw [hts] at g1; cases g1
        rw [getAt_nil] at g2; cases g2
        obtain ⟨ts1, hr1, hc1, _, hm0⟩ := leave_ok hr hroot hts (p := []) (getAt_nil _)
        have hlv : leave st r (T.nd (K.bx b0) kids) [] = (kill r [] st).set r .dead := rfl
        rw [hlv] at hr1
        obtain ⟨dd, ks, hbx, _⟩ := er_bx her
        obtain ⟨l, h1, h2, h3, h4⟩ := rdAll_ok' hr1 ms hmm hrd
        have hdj : ∀ b, cnt b (.nd k0 kids0) ≠ 0 → cntL b ts1 = 0 ∧ ¬ Old E b := by
          intro b hne
          have e1 := hc1 b
          have e2 := hr.uniq b
          exact ⟨by omega, (hr.dom b (by omega)).1⟩
        have hpre : IOPre w (.nd k0 kids0) l := by
          refine ⟨⟨_, _, hbx⟩, hm0, h3, fun b => ?_, fun b hne => ⟨?_, ?_⟩, fun b hb => hr1.below (h4 b hb)⟩
          · have e1 := hc1 b
            have e2 := hr.uniq b
            omega
          · have e1 := hc1 b
            exact (hr.dom b (by omega)).2
          · by_cases hz : cntL b l = 0
            · exact hz
            · obtain ⟨k1, k2⟩ := hdj b hne
              rcases h4 b hz with h5 | h5
              · exact absurd h5 k2
              · exact absurd k1 h5
        cases hcd : call (f + ioB) (.nd (.bx b0) kids :: ds) with
        | none => simp [hcd, ioRes] at hs
        | some d =>
          obtain ⟨hent, hcall⟩ := hc.io f _ d hlt hcd
          intro next Q hn
          unfold Oper.wp
          rw [hex, run_enter hent, Oper.upon_enter]
          have eargs : (c.args.map a.eval) = (val (.nd k0 kids0) :: valL l).toArray := by
            apply Array.toList_inj.1
            simp [h2, hau, g3]
          rw [eargs]
          refine Calls.mono (hcall (.nd k0 kids0) l w hr.keep.at' (fun b hb => by
            by_cases hz : cnt b (.nd k0 kids0) = 0
            · exact hz
            · exact absurd (E.gold b hb) (hdj b hz).2) (by rw [her, h1]) hpre) ?_
          rintro e w' ⟨t, t1, rfl, rfl, hb, hp⟩
          obtain ⟨d1, kk1, hbx1⟩ := hp.box
          have hst : st' = put (((kill r [] st).set r .dead).set r (.own (er t1))) o.dst (mkOwn (er t)) := by
            rw [hcd] at hs
            subst hbx1
            simpa [ioRes, er, K.er] using hs.symm
          subst hst
          have hrlt : r < st.length := lt_of_get (rootD_some hroot)
          obtain ⟨ts', h⟩ := after_io (dst := o.dst) hr1 (r := r) (by rw [List.getElem?_set_self (by simpa using hrlt)]) hval hdj hb hp
          exact hn _ _ ts' h
    · cases hs
  · cases hs

/-! ### a pointer that is not nil; parts of strings -/
theorem nc_ok (hr : Rel E st ts a.tmps w) {o : Oper} {x : Operand} (ho : o.op = .nilCheck x) {d e1 : Nat} (hd : o.dst = some d) {mx : MO} (hx : opd e1 x = some mx) {call : Oracle} (hs : step call st (.nc d mx) = some st') : Goes P E o a w st' := by
  simp only [step] at hs
  split at hs
  · rename_i hn
    cases hs
    have hv := ev_ok hr (opd_ok (a := a) hx)
    have h1 := isNil_ok hr hv hn
    simp only [if_true] at h1
    obtain ⟨ad, h2, h3⟩ := h1
    cases ad with
    | none => cases h3
    | some ad =>
      refine goes_value (v := a.eval x) (w' := w) ?_ ?_ (ts' := ts.set d (.v undef))
      · simp [execOp, ho, h2]
      · rw [hd]; exact hr.set d hv
  · cases hs

theorem str_bounds {n : Nat} {lo hi : Option Value} {l h : Option Nat} (hl : (lo = none ∧ l = none) ∨ ∃ k v, lo = some (.int k (v : Nat)) ∧ l = some v)
    (hh : (hi = none ∧ h = none) ∨ ∃ k v, hi = some (.int k (v : Nat)) ∧ h = some v) (hle : l.getD 0 ≤ h.getD n) (hn : h.getD n ≤ n) (w : World) :
    (Instr.sliceBounds false n n lo hi none).run P w = .ok (l.getD 0, h.getD n, n) w := by
  rcases hl with ⟨rfl, rfl⟩ | ⟨k, v, rfl, rfl⟩ <;> rcases hh with ⟨rfl, rfl⟩ | ⟨k', v', rfl, rfl⟩
  · simp [Instr.sliceBounds]
  · simp only [Option.getD_some, Option.getD_none] at *
    simp [Instr.sliceBounds, Instr.sliceBound, asIntOf, show ¬ (n : Nat) < v' by omega, show v' ≤ n by omega]
  · simp only [Option.getD_some, Option.getD_none] at *
    simp [Instr.sliceBounds, Instr.sliceBound, asIntOf, show v ≤ n by omega, show ¬ (n : Nat) < v by omega]
  · simp only [Option.getD_some] at *
    simp [Instr.sliceBounds, Instr.sliceBound, asIntOf, show ¬ (n : Nat) < v' by omega, show v' ≤ n by omega, show v ≤ v' by omega, show ¬ (v' : Nat) < v by omega]

theorem ssl_ok (hr : Rel E st ts a.tmps w) {o : Oper} {t : TypeId} {x : Operand} {lo hi : Option Operand} (ho : o.op = .slice t x lo hi none) (ht : P.underlying t = some .string)
    {d e1 : Nat} (hd : o.dst = some d) {mx : MO} {ml mh : Option MO} (hx : opd e1 x = some mx) (hml : OptM lo ml)
    (hmh : OptM hi mh) {call : Oracle} (hs : step call st (.ssl d mx ml mh) = some st') : Goes P E o a w st' := by
  simp only [step] at hs
  split at hs
  · rename_i s hev
    have hv := ev_sc hr hx hev
    cases hl : optNat st ml with
    | none => simp [hl] at hs
    | some l =>
      cases hh : optNat st mh with
      | none => simp [hl, hh] at hs
      | some h =>
        simp only [hl, hh] at hs
        cases he : strSl s l h with
        | none => simp [he] at hs
        | some y =>
          simp only [he, Option.some.injEq] at hs
          subst hs
          unfold strSl at he
          split at he
          · rename_i hc
            cases he
            have hb := str_bounds (P := P) (optNat_ok hr hml hl) (optNat_ok hr hmh hh) hc.1 hc.2 w
            refine goes_value (v := .string (s.extract (l.getD 0) (h.getD s.size))) (w' := w) ?_ ?_ (ts' := ts.set d (.v undef))
            · simp [execOp, ho, Instr.sliceAt, hv, run_underlying ht, Instr.slice, hb]
            · rw [hd]; exact hr.set d (x := .sc _) rfl
          · cases he
  · cases hs

theorem ssl_yields (hr : Rel E st ts a.tmps w) {o : Oper} {t : TypeId} {x : Operand} {lo hi : Option Operand} (ho : o.op = .slice t x lo hi none) (ht : P.underlying t = some .string)
    {e1 : Nat} {mx : MO} {ml mh : Option MO} (hx : opd e1 x = some mx) (hml : OptM lo ml)
    (hmh : OptM hi mh) {s : ByteArray} (hev : ev st mx = .sc (.string s)) {l h : Option Nat} (hl : optNat st ml = some l) (hh : optNat st mh = some h) {y : V} (he : strSl s l h = some y) : ∃ v, (∀ w', (execOp a.eval o).run P w' = .ok (.value v) w') ∧ VRel E ts y v := by
  have hv := ev_sc hr hx hev
  unfold strSl at he
  split at he
  · rename_i hc
    cases he
    refine ⟨_, fun w' => ?_, rfl⟩
    have hb := str_bounds (P := P) (optNat_ok hr hml hl) (optNat_ok hr hmh hh) hc.1 hc.2 w'
    simp [execOp, ho, Instr.sliceAt, hv, run_underlying ht, Instr.slice, hb]
  · cases he

end
end Go.Mx
