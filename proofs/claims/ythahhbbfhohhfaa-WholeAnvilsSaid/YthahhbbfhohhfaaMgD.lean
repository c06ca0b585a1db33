import Derived.Test.YthahhbbfhohhfaaMgC
import Derived.Laws.Slices
import Derived.Laws.Tables
/-
  Mx,part H: the operations that leave memory as it is.
-/
namespace Go.Mx
set_option linter.unusedVariables false
set_option linter.unusedSimpArgs false
set_option linter.unusedSectionVars false
open Go
def Goes (P : Program) (E : Env) (o : Oper) (a : Act) (w : World) (st' : St) : Prop :=
  ∀ (next : Act→World→Prop) (Q : Exit→Act→World→Prop),
    (∀ v w' ts',Rel E st' ts' (a.put o.dst v).tmps w'→next (a.put o.dst v) w')→o.wp P a w next Q
section
variable {P : Program} {E : Env} {st st' : St} {ts : List C} {a : Act} {w : World}
theorem goes_value {o : Oper} {v : Value} {w' : World} (hrun : (execOp a.eval o).run P w = .ok (.value v) w') {ts' : List C} (h : Rel E st' ts' (a.put o.dst v).tmps w') : Goes P E o a w st':=by
  intro next Q hn
  unfold Oper.wp
  rw [hrun]
  exact hn v w' ts' h
theorem goes_skip {o : Oper} {w' : World} (hrun : (execOp a.eval o).run P w = .ok .skip w') {ts' : List C} (h : Rel E st' ts' (a.put o.dst undef).tmps w') : Goes P E o a w st':=by
  intro next Q hn
  unfold Oper.wp
  rw [hrun]
  exact hn undef w' ts' h
theorem scConst_kon {v : Value} : Kon (.v v) v:=⟨.v v,rfl,rfl,fun _ _ => trivial,fun _ => rfl⟩
theorem kon_agg (l : List Value) : Kon (.nd .ag (l.map .v)) (.agg l.toArray):=by
  refine ⟨.nd .ag (l.map .v),?_,?_,?_,?_⟩
  · simp [er,K.er,erL_eq]
  · simp only [val,K.val,valL_eq,List.map_map]
    congr 1
    rw [show (List.map (val ∘ T.v) l) = l from ?_]
    induction l with
    | nil => rfl
    | cons x xs ih => simp [ih,val]
  · intro w o
    refine ⟨trivial,MemL_iff.2 fun t ht => ?_⟩
    obtain ⟨x,_,rfl⟩:=List.mem_map.1 ht
    trivial
  · intro b
    simp only [cnt,K.own,Nat.zero_add]
    induction l with
    | nil => rfl
    | cons x xs ih => simp [cntL,cnt,ih]
theorem constD_ok {es : Nat} {v : Value} {d : D} (h : constD es v = some d) : Kon d v:=by
  unfold constD at h
  split at h
  · cases h
    exact ⟨.nd (.sl ⟨none,0,undef⟩ es 0) [],rfl,rfl,fun w o => ⟨⟨by simp [valL],by simp,fun _ => rfl,fun a ha => by cases ha⟩,trivial⟩,fun b => by simp [cnt,K.own,cntL]⟩
  · split at h
    · cases h; exact kon_agg _
    · cases h
  · split at h
    · cases h; exact scConst_kon
    · cases h
theorem opd_ok {es : Nat} {x : Operand} {m : MO} (h : opd es x = some m) : MORel a.tmps m (a.eval x):=by
  cases x with
  | tmp t => simp only [opd,Option.some.injEq] at h; subst h; rfl
  | const v =>
    simp only [opd] at h
    cases hc : constD es v with
    | none => simp [hc] at h
    | some d => simp only [hc,Option.some.injEq] at h; subst h; exact constD_ok hc
  | global g => simp [opd] at h
  | func f =>
    simp only [opd,Option.some.injEq] at h; subst h
    exact ⟨.nd (.fn (.func f) 0) [],rfl,rfl,fun _ _ => ⟨trivial,trivial⟩,fun b => rfl⟩
theorem ev_sc (hr : Rel E st ts a.tmps w) {es : Nat} {x : Operand} {m : MO} (h : opd es x = some m) {y : Value} (he : ev st m = .sc y) : a.eval x = y:=by
  have:=ev_ok hr (opd_ok (a:=a) h)
  rw [he] at this
  exact this
theorem asNat_some {v : V} {n : Nat} (h : asNat v = some n) : ∃ k,v = .sc (.int k n):=by
  unfold asNat at h
  split at h
  · rename_i k i
    split at h
    · rename_i hi
      simp only [Option.some.injEq] at h
      exact ⟨k,by rw [← h,Int.toNat_of_nonneg hi]⟩
    · cases h
  · cases h
theorem ev_nat (hr : Rel E st ts a.tmps w) {es : Nat} {x : Operand} {m : MO} (h : opd es x = some m) {n : Nat} (he : asNat (ev st m) = some n) : ∃ k,a.eval x = .int k n:=by
  obtain ⟨k,hk⟩:=asNat_some he
  exact ⟨k,ev_sc hr h hk⟩
theorem moved {tm : Array Value} (h : Rel E st ts tm w) {ts1 : List C} {t : C} (hc : ∀ b,cntL b ts1 + cnt b t ≤ cntL b ts) : ∀ b,cnt b t ≠ 0→cntL b ts1 = 0∧cnt b t ≤ 1∧¬ Old E b∧b < w.heap.size:=by
  intro b hb
  have h1:=hc b
  have h2:=h.uniq b
  obtain ⟨h3,h4⟩:=h.dom b (by omega)
  exact ⟨by omega,by omega,h3,h4⟩
theorem run_sizeOf' {t : TypeId} {n : Nat} (h : sizeT P t = some n) (w : World) : (sizeOf t).run P w = .ok n w:=by
  unfold sizeT at h
  cases hi : P.info? t with
  | none => simp [hi] at h
  | some i => simp [hi] at h; simp [sizeOf,typeInfo,hi,h]
theorem mv_ok (hr : Rel E st ts a.tmps w) {o : Oper} {x : Operand} (ho : execOp a.eval o = pure (.value (a.eval x))) {d es : Nat} (hd : o.dst = some d) {m : MO} (hm : opd es x = some m)
    {call : Oracle} (hs : step call st (.mv d m) = some st') : Goes P E o a w st':=by
  have hv:=ev_ok hr (opd_ok (a:=a) hm)
  have key : st' = setv st d (ev st m):=by
    simp only [step] at hs
    split at hs
    · cases hs
    · cases hs; rfl
  subst key
  refine goes_value (v:=a.eval x) (w':=w) (by rw [ho]; rfl) ?_ (ts':=ts.set d (.v undef))
  rw [hd]
  exact hr.set d hv
theorem setI_same {tm : Array Value} {r : Nat} : tm.setIfInBounds r (tm.getD r undef) = tm:=by
  apply Array.ext_getElem?
  intro i
  by_cases hi : r = i
  · subst hi
    rcases Nat.lt_or_ge r tm.size with h | h
    · rw [Array.getElem?_setIfInBounds_self_of_lt h]; simp [Array.getD,h]
    · simp [Array.getElem?_eq_none h,h]
  · rw [Array.getElem?_setIfInBounds_ne hi]
theorem assign_ok {tm : Array Value} (hr : Rel E st ts tm w) {d : Nat} {x : V} {u : Value} (hv : VRel E ts x u) (hs : assign st d x = some st') : ∃ ts',Rel E st' ts' (tm.setIfInBounds d u) w:=by
  have plain : st' = setv st d x→∃ ts',Rel E st' ts' (tm.setIfInBounds d u) w:=by
    rintro rfl; exact ⟨_,hr.set d hv⟩
  unfold assign at hs
  split at hs
  · rename_i r
    split at hs
    · rename_i hrd
      subst hrd
      cases hs
      obtain ⟨t0,k,kids,h1,h2,h3⟩:=hv
      rw [getAt_nil] at h2; cases h2
      refine ⟨ts,?_⟩
      have : u = tm.getD r undef:=by
        have hlt : r < st.length:=by have:=lt_of_get h1; rw [hr.lenT] at this; exact this
        have hsl:=hr.slot' (List.getElem?_eq_getElem hlt)
        by_cases ho : ∃ dd,st[r] = .own dd
        · obtain ⟨dd,hdd⟩:=ho
          rw [hdd] at hsl
          obtain ⟨k',kids',g1,g2,g3⟩:=hsl
          rw [h1] at g1; cases g1
          rw [← h3,g3]
        · obtain ⟨_,y,hy⟩:=hsl.nonown (fun dd e => ho ⟨dd,e⟩)
          rw [h1] at hy; cases hy
      rw [this,setI_same]
      exact hr
    · rename_i hne
      cases hd : rootD st r with
      | none => simp [hd] at hs
      | some dd =>
        simp only [hd] at hs
        split at hs
        · rename_i hlt
          cases hs
          obtain ⟨k,kids,g1,g2,g3⟩:=hr.root hd
          obtain ⟨ts1,h1,h2,h3,h4⟩:=leave_ok hr hd g1 (getAt_nil _)
          have e1 : leave st r dd [] = setv st r .dead:=by simp [setv,rootD_some hd,leave,V.kill,V.under]
          rw [e1] at h1
          have hmv:=moved hr (fun b => Nat.le_of_eq (h2 b))
          have h5:=h1.setOwn d ⟨k,kids,rfl⟩ h4 hmv
          rw [g2] at h5
          have hu : u = tm.getD r undef:=by
            obtain ⟨t0,k',kids',f1,f2,f3⟩:=hv
            rw [g1] at f1; cases f1
            rw [getAt_nil] at f2; cases f2
            rw [← f3,g3]
          have hd' : d < ts1.length:=by rw [h1.lenT]; simpa using hlt
          have h6:=h5.set r (x:=.ref d []) (u:=tm.getD r undef) ⟨_,k,kids,List.getElem?_set_self hd',getAt_nil _,g3⟩
          refine ⟨(ts1.set d (.nd k kids)).set r (.v undef),?_⟩
          have e2 : (tm.setIfInBounds d (val (.nd k kids))).setIfInBounds r (tm.getD r undef) = tm.setIfInBounds d u:=by
            rw [g3,← hu]
            apply Array.ext_getElem?
            intro i
            by_cases hi : r = i
            · subst hi
              rw [Array.getElem?_setIfInBounds_ne (fun e => hne e.symm)]
              have hltr : r < tm.size:=by have:=lt_of_get (rootD_some hd); have:=hr.lenM; omega
              rw [Array.getElem?_setIfInBounds_self_of_lt (by simpa using hltr),hu]
              simp [Array.getD,hltr]
            · rw [Array.getElem?_setIfInBounds_ne hi]
          rw [e2] at h6
          exact h6
        · cases hs
  · rename_i r i p
    split at hs
    · rename_i hrd
      cases ht : take st (.ref r (i :: p)) with
      | none => simp [ht] at hs
      | some q =>
        obtain ⟨dd,st1⟩:=q
        simp only [ht,Option.some.injEq] at hs
        subst hs
        obtain ⟨t,ts1,h1,h2,h3,h4,h5,h6⟩:=take_ok _ hv (Evolve.refl _) hr ht
        have:=h4.setMk d h3 (moved hr h6)
        rw [h1,h2] at this
        exact this
    · cases hs; exact plain rfl
  · rename_i r lo es n
    split at hs
    · rename_i hrd
      cases ht : take st (.sub r [] lo es n) with
      | none => simp [ht] at hs
      | some q =>
        obtain ⟨dd,st1⟩:=q
        simp only [ht,Option.some.injEq] at hs
        subst hs
        obtain ⟨t,ts1,h1,h2,h3,h4,h5,h6⟩:=take_ok _ hv (Evolve.refl _) hr ht
        have:=h4.setMk d h3 (moved hr h6)
        rw [h1,h2] at this
        exact this
    · cases hs; exact plain rfl
  · rename_i es
    have ht : take st (.ro (.nd (.sl true es 0) [])) = some (.nd (.sl true es 0) [],st):=rfl
    obtain ⟨t,ts1,h1,h2,h3,h4,h5,h6⟩:=take_ok _ hv (Evolve.refl _) hr ht
    have:=h4.setMk d h3 (moved hr h6)
    rw [h1,h2] at this
    cases hs
    exact this
  · cases hs; exact plain rfl
theorem asg_ok (hr : Rel E st ts a.tmps w) {o : Oper} {x : Operand} (ho : execOp a.eval o = pure (.value (a.eval x))) {d es : Nat} (hd : o.dst = some d) {m : MO} (hm : opd es x = some m)
    {call : Oracle} (hs : step call st (.asg d m) = some st') : Goes P E o a w st':=by
  have hv:=ev_ok hr (opd_ok (a:=a) hm)
  have key : assign st d (ev st m) = some st':=by
    simp only [step] at hs
    split at hs
    · cases hs
    · exact hs
  obtain ⟨ts',h⟩:=assign_ok hr hv key
  refine goes_value (v:=a.eval x) (w':=w) (by rw [ho]; rfl) ?_ (ts':=ts')
  rw [hd]
  exact h
theorem pick_ok (hr : Rel E st ts a.tmps w) {o : Oper} {c x y : Operand} (ho : o.op = .pick c x y) {d e1 e2 e3 : Nat} (hd : o.dst = some d) {mc mx my : MO} (hc : opd e1 c = some mc) (hx : opd e2 x = some mx) (hy : opd e3 y = some my)
    {call : Oracle} (hs : step call st (.pick d mc mx my) = some st') : Goes P E o a w st':=by
  simp only [step] at hs
  split at hs
  · rename_i t hev
    have hcv:=ev_sc hr hc hev
    have hvx:=ev_ok hr (opd_ok (a:=a) hx)
    have hvy:=ev_ok hr (opd_ok (a:=a) hy)
    have key : st' = setv st d (ev st (if t then mx else my)):=by
      split at hs
      · cases hs
      · cases hs; rfl
    subst key
    refine goes_value (v:=if t then a.eval x else a.eval y) (w':=w) (by simp [execOp,ho,hcv,asBool]) ?_ (ts':=ts.set d (.v undef))
    rw [hd]
    refine hr.set d ?_
    cases t
    · exact hvy
    · exact hvx
  · cases hs
theorem equalIn_bool {t : TypeId} (hu : P.underlying t = some .bool) (x y : Bool) (n : Nat) (w : World) : (Op.equalIn (n + 1) t (.bool x) (.bool y)).run P w = .ok (x == y) w:=by
  unfold Op.equalIn
  simp [run_underlying hu]
theorem equal_bool {t : TypeId} (hu : P.underlying t = some .bool) (x y : Bool) (w : World) : (Op.equal t (.bool x) (.bool y)).run P w = .ok (x == y) w:=equalIn_bool hu x y 9999 w
theorem binOp_bool_eql (t : TypeId) (x y : Bool) : binOp .eql t (.bool x) (.bool y) = (do pure (.bool (← Op.equal t (.bool x) (.bool y))) : Sem Value):=rfl
theorem binOp_bool_neq (t : TypeId) (x y : Bool) : binOp .neq t (.bool x) (.bool y) = (do pure (.bool (!(← Op.equal t (.bool x) (.bool y)))) : Sem Value):=rfl
theorem bin_num {op : BinOp} {t : TypeId} {x y : Operand} {bt : BT} {u v z : Value} (hb : bin op bt u v = some z) (hbt : bt = .bool→P.underlying t = some .bool) (w : World) :
    (do eqGuard op t x y u v; binOp op t u v : Sem Value).run P w = .ok z w:=by
  unfold bin at hb
  split at hb
  · rename_i k a k' b
    rw [eqGuard_at_int]
    split at hb
    · rename_i hsh
      cases op <;> simp [isShift] at hsh <;> simp only [shiftBin] at hb <;> split at hb <;> cases hb <;> rename_i hneg <;> simp [binOp,Op.shift,hneg]
    · rename_i hsh
      split at hb
      · rename_i hk
        subst hk
        cases op <;> simp [isShift] at hsh <;> simp only [intBin] at hb <;> first
          | (cases hb; simp [binOp,Op.intArith,Op.intBits,Op.intCmp,mask]; done)
          | (split at hb
             · cases hb
             · rename_i hz; cases hb; simp [binOp,Op.intDiv,hz])
          | cases hb
      · cases hb
  · rename_i s s'
    rw [eqGuard_at_string]
    cases op <;> simp only [strBin] at hb <;> first | (cases hb; simp [binOp,Op.stringOp]; done) | cases hb
  · rename_i b b'
    rw [eqGuard_at_bool]
    split at hb
    · rename_i hbo
      have hu:=hbt hbo
      cases op <;> simp only [] at hb <;> first
        | (cases hb; simp [binOp_bool_eql,binOp_bool_neq,equal_bool hu]; done)
        | cases hb
    · cases hb
  · cases hb
theorem un_num {op : UnOp} {u z : Value} (h : un op u = some z) (w : World) : (Op.unary op u).run P w = .ok z w:=by
  unfold un at h
  split at h
  · cases h; simp [Op.unary,Op.intArith]
  · cases h; simp [Op.unary,Op.intBits,mask]
  · cases h; simp [Op.unary]
  · cases h
theorem un_ok (hr : Rel E st ts a.tmps w) {o : Oper} {op : UnOp} {t : TypeId} {x : Operand} (ho : o.op = .unOp op t x) {d es : Nat} (hd : o.dst = some d) {m : MO} (hm : opd es x = some m)
    {call : Oracle} (hs : step call st (.un d op m) = some st') : Goes P E o a w st':=by
  simp only [step] at hs
  split at hs
  · rename_i y hev
    have hv:=ev_sc hr hm hev
    cases hu : un op y with
    | none => simp [hu] at hs
    | some z =>
      simp only [hu,Option.some.injEq] at hs
      subst hs
      refine goes_value (v:=z) (w':=w) (by simp [execOp,ho,hv,un_num hu]) ?_ (ts':=ts.set d (.v undef))
      rw [hd]
      exact hr.set d (x:=.sc z) rfl
  · cases hs
theorem mm_ok (hr : Rel E st ts a.tmps w) {o : Oper} {c : Call} {mx : Bool} {x y : Operand} (ho : o.op = .call c) (hc : c.callee = .builtin (if mx then .max else .min)) (ha : c.args.toList = [x,y])
    {d e1 e2 : Nat} (hd : o.dst = some d) {m1 m2 : MO} (h1 : opd e1 x = some m1) (h2 : opd e2 y = some m2)
    {call : Oracle} (hs : step call st (.mm d mx m1 m2) = some st') : Goes P E o a w st':=by
  simp only [step] at hs
  split at hs
  · rename_i k i k' j hx hy
    have hvx:=ev_sc hr h1 hx
    have hvy:=ev_sc hr h2 hy
    cases hs
    have ha' : c.args = #[x,y]:=by rw [← Array.toArray_toList (xs:=c.args),ha]
    refine goes_value (v:=.int k (if mx then (if j > i then j else i) else (if j < i then j else i))) (w':=w) ?_ ?_ (ts':=ts.set d (.v undef))
    · cases mx
      · simp [execOp,ho,resolve,hc,invoke,builtin,ha',Builtin.min_,hvx,hvy,Builtin.min2]
      · simp [execOp,ho,resolve,hc,invoke,builtin,ha',Builtin.max_,hvx,hvy,Builtin.max2]
    · rw [hd]
      exact hr.set d (x:=.sc _) rfl
  · cases hs
theorem cvi_ok (hr : Rel E st ts a.tmps w) {o : Oper} {s t : TypeId} {x : Operand} (ho : o.op = .convert s t x) {k : IntKind} {k' : IntKind} (hus : P.underlying s = some (.int k')) (hut : P.underlying t = some (.int k))
    {d es : Nat} (hd : o.dst = some d) {m : MO} (hm : opd es x = some m) {call : Oracle} (hs : step call st (.cvi d k m) = some st') : Goes P E o a w st':=by
  simp only [step] at hs
  split at hs
  · rename_i k0 n hev
    have hv:=ev_sc hr hm hev
    cases hs
    refine goes_value (v:=.int k (k.wrap n)) (w':=w) (by simp [execOp,ho,hv,convert,run_underlying hus,run_underlying hut,Conv.intToInt]) ?_ (ts':=ts.set d (.v undef))
    rw [hd]
    exact hr.set d (x:=.sc _) rfl
  · cases hs
end
end Go.Mx
