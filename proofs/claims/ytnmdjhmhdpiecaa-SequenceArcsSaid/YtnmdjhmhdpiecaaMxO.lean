import Derived.Test.YtnmdjhmhdpiecaaMxN
/-
  Mx, part O: calls.
-/
namespace Go.Mx
set_option linter.unusedVariables false
set_option linter.unusedSimpArgs false
set_option linter.unusedSectionVars false
open Go

/-- The result tree of a call: all its memory is new. -/
structure FreshT (w w' : World) (t : C) : Prop where
  mem : Mem w' true t
  own : ∀ b, cnt b t ≤ 1 ∧ (cnt b t ≠ 0 → w.heap.size ≤ b ∧ b < w'.heap.size)

structure Enters (P : Program) (f : FuncId) : Prop where
  ex : ∃ fn c, P.funcs[f]? = some fn ∧ (fn.name == "runtime.NumGoroutine") = false ∧ fn.body = some c

/-- What an oracle says of a function holds of the program. -/
def CallsOK (P : Program) (call : Oracle) : Prop :=
  ∀ f ds d, call f ds = some d → Enters P f ∧ ∀ (l : List C) (w : World), erL l = ds → MemL w false l → (∀ b, cntL b l ≠ 0 → b < w.heap.size) →
    Calls P f (valL l).toArray w fun e w' => ∃ t, e = .returned (val t) ∧ er t = d ∧ RowKit.Below w.heap.size w w' ∧ FreshT w w' t

section
variable {P : Program} {E : Env} {st st' : St} {ts : List C} {a : Act} {w : World}

theorem run_enter {f : FuncId} (h : Enters P f) (args : Array Value) (w : World) : (callFunc f args).run P w = .ok (.enter f args) w := by
  obtain ⟨fn, c, hf, hname, hb⟩ := h.ex
  have h1 : fn.name ≠ "runtime.NumGoroutine" := by simpa using hname
  simp [callFunc, hf, h1, hb]

theorem opds_ok : ∀ (l : List (Operand × Nat)) (ms : List MO), opds l = some ms → MORelL a.tmps ms (l.map fun q => a.eval q.1)
  | [], ms, h => by simp only [opds, Option.some.injEq] at h; subst h; rfl
  | (x, es) :: xs, ms, h => by
    simp only [opds] at h
    cases h1 : opd es x with
    | none => simp [h1] at h
    | some m =>
      simp only [h1] at h
      cases h2 : opds xs with
      | none => simp [h2] at h
      | some ms' =>
        simp only [h2, Option.some.injEq] at h
        subst h
        exact ⟨_, _, rfl, opd_ok h1, opds_ok xs ms' h2⟩

theorem below_grew {w w' : World} (h : RowKit.Below w.heap.size w w') : Grew w w' := ⟨h.os, h.tape, h.output, h.size, h.block⟩

/-- The caller goes on. -/
theorem after_call (hr : Rel E st ts a.tmps w) {dst : Option Tmp} {w' : World} {t : C} (hb : RowKit.Below w.heap.size w w') (hf : FreshT w w' t) :
    ∃ ts', Rel E (put st dst (mkOwn (er t))) ts' (a.put dst (val t)).tmps w' := by
  have hg := hr.grow (below_grew hb)
  cases dst with
  | none => exact ⟨ts, hg⟩
  | some d =>
    refine hg.setMk d hf.mem fun b hne => ?_
    obtain ⟨h1, h2⟩ := hf.own b
    obtain ⟨h3, h4⟩ := h2 hne
    refine ⟨?_, h1, fun ho => ?_, h4⟩
    · by_cases hz : cntL b ts = 0
      · exact hz
      · have := (hr.dom b hz).2; omega
    · have := ho.1; have := hr.keep.low; have := hr.keep.size; omega

theorem zip_fst {α β : Type} : ∀ (l : List α) (m : List β), l.length = m.length → (l.zip m).map (·.1) = l
  | [], [], _ => rfl
  | x :: xs, y :: ys, h => by simp only [List.zip_cons_cons, List.map_cons]; rw [zip_fst xs ys (by simpa using h)]
  | [], _ :: _, h => by simp at h
  | _ :: _, [], h => by simp at h

theorem args_ok {c : Call} {es : List Nat} {ms : List MO} (h : opds (c.args.toList.zip es) = some ms) (hl : c.args.size = es.length) : MORelL a.tmps ms (c.args.toList.map a.eval) := by
  have := opds_ok (a := a) _ _ h
  have e : (c.args.toList.zip es).map (fun q => a.eval q.1) = c.args.toList.map a.eval := by
    rw [← zip_fst c.args.toList es (by simpa using hl), List.map_map]
    rw [zip_fst c.args.toList es (by simpa using hl)]
    rfl
  rw [e] at this
  exact this

theorem call_goes (hr : Rel E st ts a.tmps w) {call : Oracle} (hc : CallsOK P call) {o : Oper} {f : FuncId} {args : Array Value} (hex : execOp a.eval o = callFunc f args)
    {ds : List D} {d : D} {l : List C} (hcd : call f ds = some d) (h1 : erL l = ds) (h2 : (valL l).toArray = args) (h3 : MemL w false l) (h4 : ∀ b, cntL b l ≠ 0 → b < w.heap.size) :
    Goes P E o a w (put st o.dst (mkOwn d)) := by
  intro next Q hn
  obtain ⟨hent, hcall⟩ := hc f ds d hcd
  unfold Oper.wp
  rw [hex, run_enter hent, Oper.upon_enter]
  subst h2
  refine Calls.mono (hcall l w h1 h3 h4) ?_
  rintro e w' ⟨t, rfl, rfl, hb, hf⟩
  obtain ⟨ts', h⟩ := after_call (dst := o.dst) hr hb hf
  exact hn _ _ ts' h

theorem call_ok (hr : Rel E st ts a.tmps w) {call : Oracle} (hc : CallsOK P call) {o : Oper} {c : Call} (ho : o.op = .call c) {f : FuncId} (hcal : c.callee = .value (.func f))
    {es : List Nat} {ms : List MO} (hms : opds (c.args.toList.zip es) = some ms) (hl : c.args.size = es.length) (hs : step call st (.call o.dst f ms) = some st') : Goes P E o a w st' := by
  simp only [step] at hs
  cases hrd : rdAll st ms with
  | none => simp [hrd] at hs
  | some ds =>
    simp only [hrd] at hs
    cases hcd : call f ds with
    | none => simp [hcd] at hs
    | some d =>
      simp only [hcd, Option.some.injEq] at hs
      subst hs
      obtain ⟨l, h1, h2, h3, h4⟩ := rdAll_ok hr ms (args_ok hms hl) hrd
      refine call_goes hr hc ?_ hcd h1 (args := c.args.map a.eval) ?_ h3 h4
      · have ef : a.eval (.func f) = .func (.func f) #[] #[] := rfl
        unfold execOp
        simp [ho, resolve, hcal, Deferred.ofValue, invoke, ef]
      · rw [h2]; apply Array.toList_inj.1; simp

theorem valL_take' (l : List C) (n : Nat) : (valL l).take n = valL (l.take n) := (valL_take l n).symm

theorem calv_ok (hr : Rel E st ts a.tmps w) {call : Oracle} (hc : CallsOK P call) {o : Oper} {c : Call} (ho : o.op = .call c) {t : Tmp} (hcal : c.callee = .value (.tmp t))
    {es : List Nat} {ms : List MO} (hms : opds (c.args.toList.zip es) = some ms) (hl : c.args.size = es.length) (hs : step call st (.calv o.dst (.t t) ms) = some st') : Goes P E o a w st' := by
  simp only [step] at hs
  split at hs
  · rename_i f nf kids hg
    cases hrd : rdAll st ms with
    | none => simp [hrd] at hs
    | some ds =>
      simp only [hrd] at hs
      cases hcd : call f (kids.take nf ++ ds ++ kids.drop nf) with
      | none => rw [hcd] at hs; cases hs
      | some d =>
        rw [hcd] at hs
        simp only [Option.some.injEq] at hs
        subst hs
        obtain ⟨l, h1, h2, h3, h4⟩ := rdAll_ok hr ms (args_ok hms hl) hrd
        have hv := ev_ok hr (m := .t t) (u := a.tmps.getD t undef) rfl
        obtain ⟨tt, g1, g2, g3, g4⟩ := rd_ok hr _ hv hg
        obtain ⟨k', kk, rfl, hk, rfl⟩ := er_eq_nd g1
        have : k' = .fn (.func f) nf := by cases k' <;> simp [K.er] at hk; rw [hk.1, hk.2]
        subst this
        simp only [Mem] at g3
        simp only [cnt, K.own, Nat.zero_add] at g4
        refine call_goes hr hc (l := kk.take nf ++ l ++ kk.drop nf) ?_ hcd ?_ rfl ?_ ?_
        · have ef : a.eval (.tmp t) = a.tmps.getD t undef := rfl
          have e2 : a.tmps.getD t undef = .func (.func f) ((valL kk).take nf).toArray ((valL kk).drop nf).toArray := g2.symm
          unfold execOp
          simp only [ho, resolve, hcal, ef, e2, Deferred.ofValue, pure_bind, invoke]
          congr 1
          rw [valL_append, valL_append, valL_take, valL_drop, h2]
          simp
        · rw [erL_append, erL_append, h1, erL_take, erL_drop]
        · exact MemL_append (MemL_append (MemL_take g3.2 _) h3) (MemL_drop g3.2 _)
        · intro b hb
          rw [cntL_append, cntL_append] at hb
          have := cntL_take_drop b kk nf
          by_cases hz : cntL b l = 0
          · exact g4 b (by omega)
          · exact h4 b hz
  · cases hs

end
end Go.Mx
