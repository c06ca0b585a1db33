import Derived.Test.YtgbikojcpfdbiaaDoorMxL
/-
  Mx, part M: literals.
-/
namespace Go.Mx
set_option linter.unusedVariables false
set_option linter.unusedSimpArgs false
set_option linter.unusedSectionVars false
open Go

section
variable {P : Program} {E : Env} {st st' : St} {ts : List C} {a : Act} {w : World}

theorem take_set_succ {α : Type} (l : List α) (i : Nat) (v : α) (h : i < l.length) : (l.set i v).take (i + 1) = l.take i ++ [v] := by
  rw [List.set_eq_take_append_cons_drop, if_pos h, List.take_append]
  have h1 : (l.take i).length = i := by simp; omega
  rw [h1, List.take_of_length_le (by omega), show i + 1 - i = 1 by omega]
  rfl

/-- Values laid over others, one by one. -/
theorem set_cells (off : Nat) : ∀ (l : List Value) (k : Nat) (cells : Array Value), off + k + l.length ≤ cells.size →
    (((l.zipIdx k).foldl (fun cs cj => cs.setIfInBounds (off + cj.2) cj.1) cells).toList) = cells.toList.take (off + k) ++ l ++ cells.toList.drop (off + k + l.length)
  | [], k, cells, _ => by simp
  | v :: l, k, cells, h => by
    simp only [List.length_cons] at h
    simp only [List.zipIdx_cons, List.foldl_cons]
    rw [set_cells off l (k + 1) _ (by simp; omega)]
    simp only [Array.toList_setIfInBounds, List.length_cons]
    have hlt : off + k < cells.toList.length := by simp; omega
    rw [show off + (k + 1) = off + k + 1 by omega, take_set_succ _ _ _ hlt, List.drop_set_of_lt (by omega)]
    simp only [List.append_assoc, List.singleton_append, List.cons_append, List.nil_append]
    rw [show off + k + 1 + l.length = off + k + (l.length + 1) by omega]

theorem layAt_some {α : Type} {cells ds out : List α} {off : Nat} (h : (if off + ds.length ≤ cells.length then some (cells.take off ++ ds ++ cells.drop (off + ds.length)) else none) = some out) :
    off + ds.length ≤ cells.length ∧ out = cells.take off ++ ds ++ cells.drop (off + ds.length) := by
  split at h
  · rename_i hc; cases h; exact ⟨hc, rfl⟩
  · cases h

theorem MemL_append {o : Bool} {l m : List C} (h : MemL w o l) (k : MemL w o m) : MemL w o (l ++ m) := by
  rw [MemL_iff]
  intro t ht
  rcases List.mem_append.1 ht with ht | ht
  · exact MemL_iff.1 h t ht
  · exact MemL_iff.1 k t ht

theorem erL_append (l m : List C) : erL (l ++ m) = erL l ++ erL m := by rw [erL_eq, List.map_append, ← erL_eq, ← erL_eq]
theorem valL_append (l m : List C) : valL (l ++ m) = valL l ++ valL m := by rw [valL_eq, List.map_append, ← valL_eq, ← valL_eq]

theorem lay_ok (place : Nat → Option (Nat × Nat)) : ∀ (l : List (Nat × Nat × Nat × C)) (cells : List C) (out : List D), (∀ q ∈ l, place q.1 = some (q.2.1, q.2.2.1)) →
    lay (erL cells) (l.map fun q => (q.2.1, q.2.2.1, er q.2.2.2)) = some out →
    ∃ outC, erL outC = out ∧ Instr.fill place (valL cells).toArray (l.map fun q => (q.1, val q.2.2.2)) = some (valL outC).toArray ∧ outC.length = cells.length ∧
      (MemL w true cells → MemL w true (l.map (·.2.2.2)) → MemL w true outC) ∧ ∀ b, cntL b outC ≤ cntL b cells + cntL b (l.map (·.2.2.2))
  | [], cells, out, _, h => by
    simp only [List.map_nil, lay, Option.some.injEq] at h
    exact ⟨cells, h, rfl, rfl, fun h _ => h, fun b => by simp [cntL]⟩
  | (i, off, sz, c) :: l, cells, out, hp, h => by
    simp only [List.map_cons, lay] at h
    split at h
    · rename_i hc
      obtain ⟨hsz, hfl⟩ := hc
      cases hl : layAt (erL cells) off (cellsOfD (er c)) with
      | none => simp [hl] at h
      | some cells' =>
        simp only [hl] at h
        obtain ⟨hle, rfl⟩ := layAt_some hl
        rw [← erL_cellsOf] at hle h hsz
        rw [erL_len, erL_len] at hle
        rw [erL_len] at hsz h
        rw [← erL_take, ← erL_drop, ← erL_append, ← erL_append] at h
        obtain ⟨outC, h1, h2, h3, h4, h5⟩ := lay_ok place l _ out (fun q hq => hp q (List.mem_cons_of_mem _ hq)) h
        refine ⟨outC, h1, ?_, ?_, ?_, ?_⟩
        · have hpl := hp (i, off, sz, c) (List.mem_cons_self ..)
          simp only [] at hpl
          have hcv := val_cellsOf hfl
          have hcs : (val c).cells.size = sz := by rw [hcv]; simp [valL_len, hsz]
          simp only [List.map_cons, Instr.fill, hpl]
          rw [if_neg (by simp [hcs, valL_len]; omega)]
          rw [← h2]
          congr 1
          apply Array.ext'
          rw [← Array.foldl_toList, Array.toList_zipIdx, hcv]
          have := set_cells off (valL (cellsOfC c)) 0 (valL cells).toArray (by simp [valL_len]; omega)
          rw [this]
          simp [valL_append, valL_take, valL_drop, valL_len]
        · rw [h3]; simp; omega
        · intro hm hl'
          simp only [List.map_cons, MemL] at hl'
          exact h4 (MemL_append (MemL_append (MemL_take hm _) (Mem_cellsOf hl'.1)) (MemL_drop hm _)) hl'.2
        · intro b
          have := h5 b
          simp only [List.map_cons, cntL]
          rw [cntL_append, cntL_append, cnt_cellsOf] at this
          have e1 := cntL_take_drop b cells off
          have e2 := cntL_take_drop b (cells.drop off) (cellsOfC c).length
          rw [List.drop_drop] at e2
          omega
    · cases h

/-- The operands of a literal. -/
theorem partsOf_ok {place : Nat → Option (Nat × Nat × Nat)} : ∀ (parts : List (Nat × Operand)) (ps : List (Nat × Nat × MO)), partsOf place parts = some ps →
    MORelL a.tmps (ps.map (·.2.2)) (parts.map fun q => a.eval q.2)
  | [], ps, h => by simp only [partsOf, Option.some.injEq] at h; subst h; rfl
  | (i, x) :: parts, ps, h => by
    simp only [partsOf] at h
    cases hp : place i with
    | none => simp [hp] at h
    | some q =>
      obtain ⟨off, sz, es⟩ := q
      simp only [hp] at h
      cases hx : opd es x with
      | none => simp [hx] at h
      | some y =>
        simp only [hx] at h
        cases hr : partsOf place parts with
        | none => simp [hr] at h
        | some ys =>
          simp only [hr, Option.some.injEq] at h
          subst h
          exact ⟨_, _, rfl, opd_ok hx, partsOf_ok parts ys hr⟩

theorem parts_ok {place : Nat → Option (Nat × Nat × Nat)} (f : Operand → Value) : ∀ (parts : List (Nat × Operand)) (ps : List (Nat × Nat × MO)) (cs : List C), partsOf place parts = some ps → valL cs = parts.map (fun q => f q.2) →
    ∃ l : List (Nat × Nat × Nat × C), l.map (fun q => (q.1, val q.2.2.2)) = parts.map (fun q => (q.1, f q.2)) ∧ l.map (fun q => (q.2.1, q.2.2.1, er q.2.2.2)) = (ps.zip (erL cs)).map (fun q => (q.1.1, q.1.2.1, q.2)) ∧
      l.map (·.2.2.2) = cs ∧ ∀ q ∈ l, ∃ es, place q.1 = some (q.2.1, q.2.2.1, es)
  | [], ps, cs, h, hc => by
    simp only [partsOf, Option.some.injEq] at h
    subst h
    cases cs with
    | nil => exact ⟨[], rfl, rfl, rfl, fun q hq => by simp at hq⟩
    | cons _ _ => simp [valL] at hc
  | (i, x) :: parts, ps, cs, h, hc => by
    simp only [partsOf] at h
    cases hp : place i with
    | none => simp [hp] at h
    | some q =>
      obtain ⟨off, sz, es⟩ := q
      simp only [hp] at h
      cases hx : opd es x with
      | none => simp [hx] at h
      | some y =>
        simp only [hx] at h
        cases hr : partsOf place parts with
        | none => simp [hr] at h
        | some ys =>
          simp only [hr, Option.some.injEq] at h
          subst h
          cases cs with
          | nil => simp [valL] at hc
          | cons c cs =>
            simp only [valL, List.map_cons, List.cons.injEq] at hc
            obtain ⟨l, h1, h2, h3, h4⟩ := parts_ok f parts ys cs hr hc.2
            refine ⟨(i, off, sz, c) :: l, by simp [h1, hc.1], by simp [h2, erL], by simp [h3], ?_⟩
            intro q hq
            rcases List.mem_cons.1 hq with rfl | hq
            · exact ⟨es, hp⟩
            · exact h4 q hq

theorem bld_ok (hr : Rel E st ts a.tmps w) {o : Oper} {t : TypeId} {parts : Array (Nat × Operand)} (ho : o.op = .build t parts) {zero : List D} (hz : zeroOf P t = some zero) {place : Nat → Option (Nat × Nat × Nat)} {ps : List (Nat × Nat × MO)}
    (hps : partsOf place parts.toList = some ps)
    (hbuilt : ∀ (place' : Nat → Option (Nat × Nat)), (∀ i off sz es, place i = some (off, sz, es) → place' i = some (off, sz)) →
      ∃ f, P.built t = f ∧ True)
    (hb : ∃ place' : Nat → Option (Nat × Nat), (∀ i off sz es, place i = some (off, sz, es) → place' i = some (off, sz)) ∧ ∀ z, (P.info? t).bind (·.zero) = some z → ∀ vs, P.built t vs = Instr.fill place' z.cells vs)
    {d : Nat} (hd : o.dst = some d) {call : Oracle} (hs : step call st (.bld d zero ps) = some st') : Goes P E o a w st' := by
  simp only [step] at hs
  cases htk : takeAll st (ps.map (·.2.2)) with
  | none => simp [htk] at hs
  | some q =>
    obtain ⟨ds, st1⟩ := q
    simp only [htk] at hs
    cases hl : lay zero ((ps.zip ds).map fun q => (q.1.1, q.1.2.1, q.2)) with
    | none => simp [hl] at hs
    | some cells =>
      simp only [hl, Option.some.injEq] at hs
      subst hs
      obtain ⟨cs, ts1, h1, h2, h3, h4, h5, h6⟩ := takeAll_ok _ (partsOf_ok (a := a) _ _ hps) hr htk
      subst h1
      obtain ⟨l, l1, l2, l3, l4⟩ := parts_ok a.eval _ _ cs hps h2
      obtain ⟨place', p1, p2⟩ := hb
      obtain ⟨ti, z, z1, z2, ⟨zc, z3, z4, z5, z6⟩, z7⟩ := zeroOf_ok hz
      rw [← l2, ← z3] at hl
      obtain ⟨outC, o1, o2, o3, o4, o5⟩ := lay_ok (w := w) place' l zc cells (fun q hq => by obtain ⟨es, he⟩ := l4 q hq; exact p1 _ _ _ _ he) hl
      have hfill := p2 z (by simp [z1, z2]) (parts.map fun (i, x) => (i, a.eval x)).toList
      have hrun := run_build (P := P) w t (parts.map fun (i, x) => (i, a.eval x)) (valL outC).toArray (by
        rw [hfill, ← o2, z4, l1]
        simp)
      have hset := h4.setOwn d (t := .nd .ag outC) ⟨_, _, rfl⟩ ⟨trivial, o4 (z5 w true) (by rw [l3]; exact h3)⟩ (fun b hb => by
        refine moved (t := .nd .ag outC) hr (fun b => ?_) b hb
        have := o5 b
        rw [z6, l3] at this
        have := h6 b
        simp only [cnt, K.own]
        omega)
      refine goes_value (v := .agg (valL outC).toArray) (w' := w) ?_ ?_ (ts' := ts1.set d (.nd .ag outC))
      · simp only [execOp, ho]
        rw [Sem.run_bind, hrun]
        rfl
      · rw [hd]
        have e1 : er (.nd .ag outC) = T.nd .ag cells := by rw [er, o1]; rfl
        rw [e1] at hset
        exact hset

theorem fields_mapM : ∀ (fs : List Field), fs.all (fun f => (sizeT P f.type).isSome) = true → ∃ places : List (Nat × Nat), fs.mapM (fun f => (P.info? f.type).map fun i => (f.offset, i.size)) = some places ∧
    ∀ (i : Nat) (f : Field) (s : Nat), fs[i]? = some f → sizeT P f.type = some s → places[i]? = some (f.offset, s)
  | [], _ => ⟨[], rfl, fun i f s h => by simp at h⟩
  | f :: fs, h => by
    simp only [List.all_cons, Bool.and_eq_true] at h
    obtain ⟨places, h1, h2⟩ := fields_mapM fs h.2
    obtain ⟨s, hs⟩ := Option.isSome_iff_exists.1 h.1
    have hs' := hs
    unfold sizeT at hs'
    cases hi : P.info? f.type with
    | none => simp [hi] at hs'
    | some i0 =>
      simp [hi] at hs'
      refine ⟨(f.offset, i0.size) :: places, by simp [h1, hi], ?_⟩
      intro i f' s' hf hs2
      cases i with
      | zero =>
        simp at hf; subst hf
        rw [hs] at hs2; cases hs2
        simp [hs']
      | succ i => simp at hf; simpa using h2 i f' s' hf hs2

theorem place_struct {t : TypeId} {fs : Array Field} (ht : P.underlying t = some (.struct fs)) (hall : fs.toList.all (fun f => (sizeT P f.type).isSome) = true) :
    ∃ place' : Nat → Option (Nat × Nat), (∀ i off sz es, fieldPl P fs i = some (off, sz, es) → place' i = some (off, sz)) ∧ ∀ z, (P.info? t).bind (·.zero) = some z → ∀ vs, P.built t vs = Instr.fill place' z.cells vs := by
  obtain ⟨places, h1, h2⟩ := fields_mapM (P := P) fs.toList hall
  refine ⟨fun i => places[i]?, ?_, ?_⟩
  · intro i off sz es hp
    unfold fieldPl at hp
    cases hf : fs[i]? with
    | none => simp [hf] at hp
    | some f =>
      simp only [hf] at hp
      cases hsz : sizeT P f.type with
      | none => simp [hsz] at hp
      | some s =>
        simp only [hsz, Option.some.injEq, Prod.mk.injEq] at hp
        obtain ⟨rfl, rfl, rfl⟩ := hp
        exact h2 i f s (by simpa using hf) hsz
  · intro z hzz vs
    unfold Program.built
    cases hi : P.info? t with
    | none => simp [hi] at hzz
    | some it =>
      simp [hi] at hzz
      simp [ht, hzz, h1]

theorem place_array {t e : TypeId} {n : Nat} (ht : P.underlying t = some (.array n e)) {es k : Nat} (hes : sizeT P e = some es) :
    ∃ place' : Nat → Option (Nat × Nat), (∀ i off sz k', (fun i => some (i * es, es, k)) i = some (off, sz, k') → place' i = some (off, sz)) ∧ ∀ z, (P.info? t).bind (·.zero) = some z → ∀ vs, P.built t vs = Instr.fill place' z.cells vs := by
  refine ⟨fun i => some (i * es, es), fun i off sz k hp => by simp only [Option.some.injEq, Prod.mk.injEq] at hp ⊢; exact ⟨hp.1, hp.2.1⟩, ?_⟩
  intro z hzz vs
  unfold Program.built
  cases hi : P.info? t with
  | none => simp [hi] at hzz
  | some it =>
    simp [hi] at hzz
    unfold sizeT at hes
    cases hie : P.info? e with
    | none => simp [hie] at hes
    | some ie =>
      simp [hie] at hes
      simp [ht, hzz, hie, hes]

theorem bld_struct (hr : Rel E st ts a.tmps w) {o : Oper} {t : TypeId} {parts : Array (Nat × Operand)} (ho : o.op = .build t parts) {zero : List D} (hz : zeroOf P t = some zero) {fs : Array Field} (ht : P.underlying t = some (.struct fs))
    (hall : fs.toList.all (fun f => (sizeT P f.type).isSome) = true) {ps : List (Nat × Nat × MO)} (hps : partsOf (fieldPl P fs) parts.toList = some ps)
    {d : Nat} (hd : o.dst = some d) {call : Oracle} (hs : step call st (.bld d zero ps) = some st') : Goes P E o a w st' :=
  bld_ok hr ho hz hps (fun _ _ => ⟨_, rfl, trivial⟩) (place_struct ht hall) hd hs

theorem bld_array (hr : Rel E st ts a.tmps w) {o : Oper} {t e : TypeId} {parts : Array (Nat × Operand)} (ho : o.op = .build t parts) {zero : List D} (hz : zeroOf P t = some zero) {n : Nat} (ht : P.underlying t = some (.array n e))
    {es k : Nat} (hes : sizeT P e = some es) {ps : List (Nat × Nat × MO)} (hps : partsOf (fun i => some (i * es, es, k)) parts.toList = some ps)
    {d : Nat} (hd : o.dst = some d) {call : Oracle} (hs : step call st (.bld d zero ps) = some st') : Goes P E o a w st' :=
  bld_ok hr ho hz hps (fun _ _ => ⟨_, rfl, trivial⟩) (place_array ht hes) hd hs

/-! ### a literal that is not built yet -/
theorem Kon.zv {d : D} {u : Value} (h : Kon d u) : VRel E ts (mkRo d) u := Kon.ro h

theorem zV_ok {zs : List D} {us : List Value} (h : KonL zs us) : VRelL E ts (zV zs) us := by
  obtain ⟨l, rfl, rfl, h3, h4⟩ := h
  induction l with
  | nil => rfl
  | cons c l ih =>
    refine ⟨val c, valL l, rfl, Kon.ro ⟨c, rfl, rfl, fun w o => (h3 w o).1, fun b => by have := h4 b; simp only [cntL] at this; omega⟩, ih (fun w o => (h3 w o).2) fun b => by have := h4 b; simp only [cntL] at this; omega⟩

theorem VRelL_len : ∀ {xs : List V} {us : List Value}, VRelL E ts xs us → xs.length = us.length
  | [], us, h => by simp only [VRelL] at h; subst h; rfl
  | x :: xs, us, h => by obtain ⟨u, us', rfl, _, h2⟩ := h; simp [VRelL_len h2]

theorem VRelL_set : ∀ {xs : List V} {us : List Value} (i : Nat) {x : V} {u : Value}, VRelL E ts xs us → VRel E ts x u → VRelL E ts (xs.set i x) (us.set i u)
  | [], us, i, x, u, h, _ => by simp only [VRelL] at h; subst h; rfl
  | y :: xs, us, 0, x, u, h, hx => by obtain ⟨u0, us', rfl, _, h2⟩ := h; exact ⟨u, us', rfl, hx, h2⟩
  | y :: xs, us, i + 1, x, u, h, hx => by obtain ⟨u0, us', rfl, h1, h2⟩ := h; exact ⟨u0, us'.set i u, rfl, h1, VRelL_set i h2 hx⟩

theorem bvL_ok (hr : Rel E st ts a.tmps w) {place : Nat → Option (Nat × Nat × Nat)} {place' : Nat → Option (Nat × Nat)} (hp : ∀ i off sz es, place i = some (off, sz, es) → place' i = some (off, sz)) :
    ∀ (parts : List (Nat × Operand)) (ps : List (Nat × Nat × MO)) (cells out : List V) (us : List Value), partsOf place parts = some ps → VRelL E ts cells us → bvL st cells ps = some out →
      ∃ us', Instr.fill place' us.toArray (parts.map fun q => (q.1, a.eval q.2)) = some us'.toArray ∧ VRelL E ts out us'
  | [], ps, cells, out, us, h, hv, hb => by
    simp only [partsOf, Option.some.injEq] at h
    subst h
    simp only [bvL, Option.some.injEq] at hb
    subst hb
    exact ⟨us, rfl, hv⟩
  | (i, x) :: parts, ps, cells, out, us, h, hv, hb => by
    simp only [partsOf] at h
    cases hpl : place i with
    | none => simp [hpl] at h
    | some q =>
      obtain ⟨off, sz, es⟩ := q
      simp only [hpl] at h
      cases hx : opd es x with
      | none => simp [hx] at h
      | some y =>
        simp only [hx] at h
        cases hrr : partsOf place parts with
        | none => simp [hrr] at h
        | some ys =>
          simp only [hrr, Option.some.injEq] at h
          subst h
          simp only [bvL] at hb
          split at hb
          · rename_i hc
            obtain ⟨rfl, hlt, hone⟩ := hc
            have hev := ev_ok hr (opd_ok (a := a) hx)
            have hu : (a.eval x).oneCell' = true := by
              unfold oneV at hone
              cases hd : rd st (ev st y) with
              | none => simp [hd] at hone
              | some d =>
                simp only [hd] at hone
                obtain ⟨t, t1, t2, _⟩ := rd_ok hr _ hev hd
                rw [← t2]
                exact flat_one (by rw [t1]; exact hone)
            obtain ⟨us', f1, f2⟩ := bvL_ok hr hp parts ys _ out (us.set off (a.eval x)) hrr (VRelL_set off hv hev) hb
            refine ⟨us', ?_, f2⟩
            have hlen := VRelL_len hv
            simp only [List.map_cons, Instr.fill, hp _ _ _ _ hpl]
            rw [cells_one hu, if_neg (by simp; omega)]
            rw [← f1]
            congr 1
            simp
          · cases hb

theorem bv_ok (hr : Rel E st ts a.tmps w) {o : Oper} {t : TypeId} {parts : Array (Nat × Operand)} (ho : o.op = .build t parts) {zero : List D} (hz : zeroOf P t = some zero) {place : Nat → Option (Nat × Nat × Nat)} {ps : List (Nat × Nat × MO)}
    (hps : partsOf place parts.toList = some ps)
    (hb : ∃ place' : Nat → Option (Nat × Nat), (∀ i off sz es, place i = some (off, sz, es) → place' i = some (off, sz)) ∧ ∀ z, (P.info? t).bind (·.zero) = some z → ∀ vs, P.built t vs = Instr.fill place' z.cells vs)
    {d : Nat} (hd : o.dst = some d) {call : Oracle} (hs : step call st (.bv d zero ps) = some st') : Goes P E o a w st' := by
  simp only [step] at hs
  split at hs
  · rename_i cs hcs
    simp only [Option.some.injEq] at hs
    subst hs
    obtain ⟨place', p1, p2⟩ := hb
    obtain ⟨ti, z, z1, z2, z3, z7⟩ := zeroOf_ok hz
    obtain ⟨us', f1, f2⟩ := bvL_ok hr p1 parts.toList ps (zV zero) cs z.cells.toList hps (zV_ok z3) hcs
    have hfill := p2 z (by simp [z1, z2]) (parts.map fun (i, x) => (i, a.eval x)).toList
    have hrun := run_build (P := P) w t (parts.map fun (i, x) => (i, a.eval x)) us'.toArray (by
      rw [hfill, ← f1]
      simp)
    refine goes_value (v := .agg us'.toArray) (w' := w) ?_ ?_ (ts' := ts.set d (.v undef))
    · simp only [execOp, ho]
      rw [Sem.run_bind, hrun]
      rfl
    · rw [hd]
      exact hr.set d (x := .vn .ag cs) ⟨us', f2, rfl⟩
  · cases hs

theorem bs_ok (hr : Rel E st ts a.tmps w) {o : Oper} {t e : TypeId} {n : Nat} {parts : Array (Nat × Operand)} (ho : o.op = .buildSlice t n parts) (ht : P.underlying t = some (.slice e)) {es k : Nat} (hes : sizeT P e = some es)
    {zero : List D} (hz : zeroOf' P e (n * es) = some zero) {ps : List (Nat × Nat × MO)} (hps : partsOf (fun i => some (i * es, es, k)) parts.toList = some ps) (hsmall : n * es ≤ 2 ^ 16)
    {d : Nat} (hd : o.dst = some d) {call : Oracle} (hs : step call st (.bs d es n zero ps) = some st') : Goes P E o a w st' := by
  simp only [step] at hs
  cases htk : takeAll st (ps.map (·.2.2)) with
  | none => simp [htk] at hs
  | some q =>
    obtain ⟨ds, st1⟩ := q
    simp only [htk] at hs
    cases hl : lay (reps n zero) ((ps.zip ds).map fun q => (q.1.1, q.1.2.1, q.2)) with
    | none => simp [hl] at hs
    | some cells =>
      simp only [hl, Option.some.injEq] at hs
      subst hs
      obtain ⟨cs, ts1, h1, h2, h3, h4, h5, h6⟩ := takeAll_ok _ (partsOf_ok (a := a) _ _ hps) hr htk
      subst h1
      obtain ⟨l, l1, l2, l3, l4⟩ := parts_ok a.eval _ _ cs hps h2
      -- the zeros
      have hzz : ∃ zv : Array Value, KonL (reps n zero) (reps n zv.toList) ∧ (reps n zv.toList).length = n * es ∧ (madeCells zv (n * es)) = (reps n zv.toList).toArray ∧
          ((n * es = 0 ∧ zv = #[]) ∨ (n * es ≠ 0 ∧ ∃ z : Value, zv = z.cells ∧ (zeroValue e).run P w = .ok z w)) := by
        by_cases h0 : n * es = 0
        · refine ⟨#[], ?_, ?_, ?_, .inl ⟨h0, rfl⟩⟩
          · unfold zeroOf' at hz
            rw [if_pos h0] at hz
            cases hz
            have : (reps n ([] : List D)) = [] := by rw [← List.length_eq_zero_iff, reps_len]; simp
            rw [this]
            have : (reps n (#[] : Array Value).toList) = [] := by rw [← List.length_eq_zero_iff, reps_len]; simp
            rw [this]
            exact KonL.nil
          · rw [reps_len]; simp [h0]
          · have : (reps n (#[] : Array Value).toList) = [] := by rw [← List.length_eq_zero_iff, reps_len]; simp
            rw [this, h0]; simp [madeCells, Array.range_zero']
        · unfold zeroOf' at hz
          rw [if_neg h0] at hz
          obtain ⟨i, z, g1, g2, hkon, g7⟩ := zeroOf_ok hz
          have hsz : i.size = es := by simp [sizeT, g1] at hes; exact hes
          have hlen := hkon.len
          rw [g7, hsz] at hlen
          refine ⟨z.cells, hkon.reps n, by rw [reps_len, ← hlen], ?_, .inr ⟨h0, z, rfl, by simp [zeroValue, typeInfo, g1, g2]⟩⟩
          apply Array.ext_getElem?
          intro j
          simp only [madeCells, Array.getElem?_map, Array.getElem?_range, List.getElem?_toArray]
          by_cases hj : j < n * es
          · rw [if_pos hj, reps_get _ _ _ (by rw [← hlen]; exact hj)]
            simp only [Option.map_some]
            have hes0 : 0 < es := by
              rcases Nat.eq_zero_or_pos es with h | h
              · rw [h] at h0; simp at h0
              · exact h
            have hjm : j % z.cells.toList.length < z.cells.toList.length := Nat.mod_lt _ (by rw [← hlen]; exact hes0)
            rw [List.getElem?_eq_getElem hjm]
            congr 1
            simp only [Array.length_toList] at hjm ⊢
            rw [getElem!_pos _ _ (by simpa using hjm)]
            simp
          · rw [if_neg hj, List.getElem?_eq_none (by rw [reps_len, ← hlen]; omega)]
            rfl
      obtain ⟨zv, hkon, hlen, hmade, hzrun⟩ := hzz
      obtain ⟨zc, z3, z4, z5, z6⟩ := hkon
      rw [← l2, ← z3] at hl
      obtain ⟨outC, o1, o2, o3, o4, o5⟩ := lay_ok (w := w) (fun i => some (i * es, es)) l zc cells (fun q hq => by obtain ⟨k', he⟩ := l4 q hq; simp only [Option.some.injEq, Prod.mk.injEq] at he ⊢; exact ⟨he.1, he.2.1⟩) hl
      have holen : outC.length = n * es := by rw [o3, ← valL_len, z4, hlen]
      have hfr := hr.fresh h4 (kids := outC) (o4 (z5 w true) (by rw [l3]; exact h3)) (fun b => by have := o5 b; rw [z6, l3] at this; have := h6 b; omega)
        (w' := w.alloc (.cells (valL outC).toArray e)) (arr := (valL outC).toArray) (e := e) (lo := 0) (hi := 0) rfl rfl rfl rfl (.inl rfl)
        (fun i v hv => by simpa using hv) d (k := .sl ⟨some ⟨w.heap.size, 0, none⟩, n, undef⟩ es n) (.inl ⟨n, es, n, rfl, holen, Nat.le_refl _, by simp [valL_len, holen]⟩)
      refine goes_value (v := .slice (some ⟨w.heap.size, 0, none⟩) n n) (w' := w.alloc (.cells (valL outC).toArray e)) ?_ ?_ (ts' := ts1.set d (.nd (.sl ⟨some ⟨w.heap.size, 0, none⟩, n, undef⟩ es n) outC))
      · have hfill : Instr.fill (fun i => some (i * es, es)) (madeCells zv (n * es)) (parts.map fun (i, x) => (i, a.eval x)).toList = some (valL outC).toArray := by
          rw [hmade, ← z4, ← o2, l1]; simp
        simp only [madeCells] at hfill
        rcases hzrun with ⟨h0, rfl⟩ | ⟨h0, z, rfl, hz'⟩
        · simp only [execOp, ho, Instr.buildSlice, Sem.run_bind, run_underlying ht, Result.andThen_ok, run_sizeOf' hes, Sem.run_ite]
          rw [if_neg (by omega), if_pos h0]
          simp only [Sem.run_pure, Result.andThen_ok, hfill]
          simp [newRow]
        · simp only [execOp, ho, Instr.buildSlice, Sem.run_bind, run_underlying ht, Result.andThen_ok, run_sizeOf' hes, Sem.run_ite]
          rw [if_neg (by omega), if_neg h0]
          simp only [Sem.run_pure, Result.andThen_ok, hz', hfill]
          simp [newRow]
      · rw [hd]
        have e1 : er (.nd (.sl ⟨some ⟨w.heap.size, 0, none⟩, n, undef⟩ es n) outC) = T.nd (.sl false es n) cells := by rw [er, o1]; rfl
        rw [e1] at hfr
        exact hfr

/-- An empty literal: a slice without room. -/
theorem mzc_ok (hr : Rel E st ts a.tmps w) {o : Oper} {t e : TypeId} {parts : Array (Nat × Operand)} (ho : o.op = .buildSlice t 0 parts) (ht : P.underlying t = some (.slice e)) {es k : Nat} (hes : sizeT P e = some es)
    (hps : partsOf (fun i => some (i * es, es, k)) parts.toList = some []) {d : Nat} (hd : o.dst = some d) {call : Oracle} (hs : step call st (.mz d es) = some st') : Goes P E o a w st' := by
  simp only [step, Option.some.injEq] at hs
  subst hs
  have hp : parts = #[] := by
    cases hl : parts.toList with
    | nil => exact Array.toList_eq_nil_iff.1 hl
    | cons q l =>
      rw [hl] at hps
      obtain ⟨i, x⟩ := q
      simp only [partsOf] at hps
      repeat' split at hps
      all_goals first | (cases hps; done) | simp at hps
  subst hp
  have g : Grew w (w.alloc (.cells #[] e)) := Grew.push rfl rfl rfl rfl
  refine goes_value (v := .slice (some ⟨w.heap.size, 0, none⟩) 0 0) (w' := w.alloc (.cells #[] e)) ?_ ?_ (ts' := ts.set d (.v undef))
  · simp only [execOp, ho, Instr.buildSlice, Sem.run_bind, run_underlying ht, Result.andThen_ok, run_sizeOf' hes, Sem.run_ite]
    rw [if_neg (by omega), if_pos (by omega)]
    simp [newRow, Instr.fill, Array.range_zero']
  · rw [hd]
    exact (hr.grow g).set d (x := .vn (.sl false es 0) []) ⟨[], rfl, rfl, _, rfl⟩

end
end Go.Mx
