import Derived.Test.YthahhbbfhohhfaaMgH
/-
  Mx,part R: control,functions.
-/
namespace Go.Mx
set_option linter.unusedVariables false
set_option linter.unusedSimpArgs false
set_option linter.unusedSectionVars false
open Go
section
variable {P : Program} {E : Env} {st st' : St} {ts : List C} {a : Act} {w : World}
def exOf : Ex→Exit
  | .norm => .normal
  | .ex id => .exit id
  | .ret => .ret
theorem drop1_ok {tm : Array Value} (hr : Rel E st ts tm w) (i : Nat) : ∃ ts',Rel E (drop1 st i) ts' tm w:=by
  unfold drop1
  split
  · rename_i d hd
    have hrd : rootD st i = some d:=by simp [rootD,hd]
    obtain ⟨k,kids,g1,g2,g3⟩:=hr.root hrd
    obtain ⟨ts1,h1,_⟩:=leave_ok hr hrd g1 (getAt_nil _)
    exact ⟨ts1,h1⟩
  · rename_i hno
    have:=hr.set i (x:=.dead) (u:=tm.getD i undef) trivial
    rw [setI_same] at this
    have e : setv st i .dead = st.set i .dead:=by
      unfold setv
      split
      · rename_i d hd; exact absurd hd (hno d)
      · rfl
    rw [e] at this
    exact ⟨_,this⟩
theorem drop1s_ok {tm : Array Value} (l : List Nat) (hr : Rel E st ts tm w) : ∃ ts',Rel E (l.foldl drop1 st) ts' tm w:=by
  induction l generalizing st ts with
  | nil => exact ⟨ts,hr⟩
  | cons i l ih =>
    obtain ⟨ts1,h1⟩:=drop1_ok hr i
    exact ih h1
theorem msk_len : ∀ (m : List Bool) (st : St),(msk m st).length = st.length
  | [],st => by cases st <;> rfl
  | _ :: _,[] => rfl
  | b :: m,x :: s => by simp [msk,msk_len m s]
theorem msk_get : ∀ (m : List Bool) (st : St) (i : Nat) (x' : V),ownDrop m st = false→(msk m st)[i]? = some x'→∃ x,st[i]? = some x∧(x' = x ∨ x' = .dead∧∀ d,x ≠ .own d)
  | [],st,i,x',_,h => by
    have : msk [] st = st:=by cases st <;> rfl
    rw [this] at h; exact ⟨x',h,.inl rfl⟩
  | _ :: _,[],i,x',_,h => by simp [msk] at h
  | b :: m,x :: s,0,x',ho,h => by
    simp only [msk,List.getElem?_cons_zero,Option.some.injEq] at h
    simp only [ownDrop,Bool.or_eq_false_iff] at ho
    refine ⟨x,rfl,?_⟩
    cases b with
    | true => left; simpa using h.symm
    | false =>
      right
      refine ⟨by simpa using h.symm,fun d hd => ?_⟩
      subst hd
      simp [isOwn] at ho
  | b :: m,x :: s,i + 1,x',ho,h => by
    simp only [msk,List.getElem?_cons_succ] at h ⊢
    simp only [ownDrop,Bool.or_eq_false_iff] at ho
    exact msk_get m s i x' ho.2 h
theorem msk_ok {tm : Array Value} (m : List Bool) (hr : Rel E st ts tm w) (ho : ownDrop m st = false) : Rel E (msk m st) ts tm w:=by
  refine ⟨by rw [hr.lenT,msk_len],by rw [hr.lenM,msk_len],?_,hr.mem,hr.uniq,hr.dom,hr.keep⟩
  intro i x' u hx hu
  obtain ⟨x,hx1,hx2⟩:=msk_get m st i x' ho hx
  have hs:=hr.slot i x u hx1 hu
  rcases hx2 with rfl | ⟨rfl,hno⟩
  · exact hs
  · exact SRel.mk trivial (hs.nonown hno).2
theorem drops_ok {tm : Array Value} (m : List Bool) (hr : Rel E st ts tm w) : ∃ ts',Rel E (drops st m) ts' tm w:=by
  unfold drops
  split
  · obtain ⟨ts1,h1⟩:=drop1s_ok (ownOuts 0 m st) hr
    simp only
    split
    · exact ⟨ts1,h1⟩
    · rename_i ho
      exact ⟨ts1,msk_ok m h1 (by simpa using ho)⟩
  · rename_i ho
    exact ⟨ts,msk_ok m hr (by simpa using ho)⟩
theorem wp_loopN {c : Code} {Q : Exit→Act→World→Prop} (R : Nat→Act→World→Prop) {n : Nat} (h0 : R n a w)
    (round : ∀ n a w,R n a w→c.wp P (Exit.then (fun a' w' => ∃ m,m < n∧R m a' w') Q) a w) : (Code.loop c).wp P Q a w:=by
  have least : ∀ (n : Nat) (a : Act) (w : World),R n a w→∃ m,R m a w∧∀ k,R k a w→m ≤ k:=by
    intro n
    induction n using Nat.strongRecOn with
    | _ n ih =>
      intro a w h
      by_cases hk : ∃ k,k < n∧R k a w
      · obtain ⟨k,hk1,hk2⟩:=hk
        exact ih k hk1 a w hk2
      · exact ⟨n,h,fun k hk2 => Nat.le_of_not_lt fun hlt => hk ⟨k,hlt,hk2⟩⟩
  classical
  let μ : Act→World→Nat:=fun a w => if h : ∃ m,R m a w∧∀ k,R k a w→m ≤ k then Classical.choose h else 0
  have hμ : ∀ n a w,R n a w→R (μ a w) a w∧μ a w ≤ n:=by
    intro n a w h
    have he:=least n a w h
    have e : μ a w = Classical.choose he:=by simp only [μ,dif_pos he]
    have:=Classical.choose_spec he
    rw [e]
    exact ⟨this.1,this.2 n h⟩
  refine wp_loop (fun a w => ∃ n,R n a w) μ ⟨n,h0⟩ ?_
  rintro a w ⟨n,h⟩
  obtain ⟨h1,_⟩:=hμ n a w h
  refine wp_mono (round _ a w h1) ?_
  intro e a' w' he
  cases e with
  | normal =>
    obtain ⟨m,h2,h3⟩:=he
    exact ⟨⟨m,h3⟩,Nat.lt_of_le_of_lt (hμ m a' w' h3).2 h2⟩
  | _ => exact he
theorem wpOps_list {call : Oracle} (hc : CallsOK P E.g call) {ops : Array Oper} {Q : Exit→Act→World→Prop} {F : Nat→Prop} : ∀ (l : List Oper) (k : Nat) (ms : List MG) {st : St} {ts : List C} {a : Act} {w : World},(∀ i,F i→offG i ms = true)→ops.toList.drop k = l→compOps P ops l = some ms→Rel E st ts a.tmps w→stepsG call ms st = some st' →
    (∀ a' w' ts',Kp F a a'→Rel E st' ts' a'.tmps w'→Q .normal a' w')→wpOps P ops Q (List.range' k l.length) a w
  | [],k,ms,st,ts,a,w,hoff,hl,hms,hr,hs,hq => by
    simp only [compOps,Option.some.injEq] at hms
    subst hms
    simp only [stepsG,Option.some.injEq] at hs
    subst hs
    exact hq a w ts (Kp.refl F a) hr
  | o :: l,k,ms,st,ts,a,w,hoff,hl,hms,hr,hs,hq => by
    simp only [compOps] at hms
    cases hm : compG P ops o with
    | none => simp [hm] at hms
    | some m =>
      simp only [hm] at hms
      cases hms' : compOps P ops l with
      | none => simp [hms'] at hms
      | some ms' =>
        simp only [hms',Option.some.injEq] at hms
        subst hms
        simp only [stepsG] at hs
        cases hs1 : Mx.stepG call st m with
        | none => simp [hs1] at hs
        | some st1 =>
          simp only [hs1] at hs
          have hk : ops[k]? = some o:=by
            rw [← Array.getElem?_toList]
            have:=congrArg (fun l => l[0]?) hl
            simpa [List.getElem?_drop] using this
          have hd : ops.toList.drop (k + 1) = l:=by
            have:=congrArg List.tail hl
            simpa [List.tail_drop] using this
          rw [List.length_cons,List.range'_succ,wpOps_cons]
          refine wpOp_ok0 hr hc hk hm hs1 (F:=F) (fun d hd hFd => by have:=hoff d hFd; simp [offG,hd] at this) fun a' w' ts' hdef hr' => ?_
          exact wpOps_list hc l (k + 1) ms' (fun i hi => by have:=hoff i hi; simp only [offG,List.all_cons,Bool.and_eq_true] at this; exact this.2) hd hms' hr' hs fun a2 w2 ts2 h2 hr2 => hq a2 w2 ts2 (hdef.trans h2) hr2
theorem drawX_inv {ops : Array Oper} {mv : List Nat} {ms : List MG} {s : Nat} {g : List Nat} {lt : List (List (Nat × List Nat))} (h : drawX P ops mv = some (ms,s,g,lt)) :
    ∃ sg os ms0,sel ops sg = some os∧compOps P ops os = some ms0∧ms = msX s ms0∧okDrawX ops sg mv.length ms s = true∧lt = (List.range (ops.size - s)).map (fun k => lateOf (ancM (afP (afF ops) sg) ops.size) mv.length s ms (s + k))∧ms.length = ops.size∧lt.length = ops.size - s:=by
  unfold drawX at h
  split at h
  case h_2 => cases h
  simp only at h
  split at h
  case h_2 => cases h
  rename_i os hsel
  split at h
  case h_2 => cases h
  rename_i ms1 hms
  split at h
  case isFalse => cases h
  rename_i hok
  simp only [Option.some.injEq,Prod.mk.injEq] at h
  obtain ⟨rfl,rfl,rfl,rfl⟩:=h
  refine ⟨_,os,ms1,hsel,hms,rfl,hok,rfl,?_,by simp⟩
  unfold okDrawX at hok
  simp only [Bool.and_eq_true,decide_eq_true_eq] at hok
  exact hok.1.1.1.1.1.1.2
theorem run_ok {call : Oracle} (hc : CallsOK P E.g call) {fuel : Nat} {F : Nat→Prop} : ∀ (c : Code) (h h' : List (List Bool)) (mc : MC) {Q : Exit→Act→World→Prop} {st st' : St} {ts : List C} {a : Act} {w : World} {ex : Ex},(∀ i,F i→offM i mc = true)→compC P h c = some (mc,h')→Rel E st ts a.tmps w →
    run call fuel mc st = some (ex,st')→(∀ a' w' ts',Kp F a a'→Rel E st' ts' a'.tmps w'→Q (exOf ex) a' w')→c.wp P Q a w
  | .skip,h,h',mc,Q,st,st',ts,a,w,ex,hoff,hcomp,hr,hrun,hq => by
    simp only [compC,Option.some.injEq,Prod.mk.injEq] at hcomp
    obtain ⟨rfl,rfl⟩:=hcomp
    simp only [run,Option.some.injEq,Prod.mk.injEq] at hrun
    obtain ⟨rfl,rfl⟩:=hrun
    exact wp_skip (hq a w ts (Kp.refl F a) hr)
  | .exit id,h,h',mc,Q,st,st',ts,a,w,ex,hoff,hcomp,hr,hrun,hq => by
    simp only [compC,Option.some.injEq,Prod.mk.injEq] at hcomp
    obtain ⟨rfl,rfl⟩:=hcomp
    generalize h.headD [] = hd0 at *
    simp only [run,Option.some.injEq,Prod.mk.injEq] at hrun
    obtain ⟨rfl,rfl⟩:=hrun
    obtain ⟨ts2,hr2⟩:=drops_ok hd0 hr
    exact wp_exit (hq a w ts2 (Kp.refl F a) hr2)
  | .ret,h,h',mc,Q,st,st',ts,a,w,ex,hoff,hcomp,hr,hrun,hq => by
    simp only [compC,Option.some.injEq,Prod.mk.injEq] at hcomp
    obtain ⟨rfl,rfl⟩:=hcomp
    generalize h.headD [] = hd0 at *
    simp only [run,Option.some.injEq,Prod.mk.injEq] at hrun
    obtain ⟨rfl,rfl⟩:=hrun
    obtain ⟨ts2,hr2⟩:=drops_ok hd0 hr
    exact wp_ret (hq a w ts2 (Kp.refl F a) hr2)
  | .region id ops draw,h,h',mc,Q,st,st',ts,a,w,ex,hoff,hcomp,hr,hrun,hq => by
    simp only [compC] at hcomp
    cases draw with
    | true =>
      simp only [if_true] at hcomp
      split at hcomp
      · rename_i hmix
        have key : ∀ (mv : List Nat) (ms : List MG) (s : Nat) (g : List Nat),drawOf P ops mv = some (ms,s,g)→mc = .drw (ms.take s) (ms.drop s ++ ghoG g)→(Code.region id ops true).wp P Q a w:=by
          rintro mv ms s g hdr rfl
          have hN : ∀ (ms : List MG) (s : Nat) (g : List Nat),(∀ i,F i→offM i (.drw (ms.take s) (ms.drop s ++ ghoG g)) = true)→∀ (j : Nat) (m : MG),ms[j]? = some m→∀ d,m.op.dst = some d→¬ F d:=by
            intro ms s g hoff j m hm d hd hFd
            have:=hoff d hFd
            simp only [offM,offG,List.all_append,Bool.and_eq_true] at this
            have hmem : m ∈ ms.take s ++ ms.drop s:=by rw [List.take_append_drop]; exact List.mem_of_getElem? hm
            rcases List.mem_append.1 hmem with h | h
            · have:=List.all_eq_true.1 this.1 m h; simp [hd] at this
            · have:=List.all_eq_true.1 this.2.1 m h; simp [hd] at this
          unfold drawOf at hdr
          cases hsel : sel ops (topo (afF ops) ops.size ops.size mv.reverse) with
          | none => simp [hsel] at hdr
          | some os =>
            simp only [hsel] at hdr
            cases hms : compOps P ops os with
            | none => simp [hms] at hdr
            | some ms' =>
              simp only [hms] at hdr
              cases hok : okDraw ops (topo (afF ops) ops.size ops.size mv.reverse) mv.length ms' with
              | none => simp [hok] at hdr
              | some s0 =>
                simp only [hok] at hdr
                cases hok2 : okDraw ops (topo (afF ops) ops.size ops.size mv.reverse) mv.length (msX s0 ms') with
                | none => simp [hok2] at hdr
                | some s' =>
                  simp only [hok2] at hdr
                  split at hdr
                  case isFalse => cases hdr
                  simp only [Option.some.injEq,Prod.mk.injEq] at hdr
                  obtain ⟨rfl,rfl,rfl⟩:=hdr
                  simp only [run] at hrun
                  cases h1 : stepsF call ((msX s0 ms').take s') st with
                  | none => simp [h1] at hrun
                  | some st1 =>
                    simp only [h1,Option.map_eq_some_iff,Prod.mk.injEq] at hrun
                    obtain ⟨st2,h2,rfl,rfl⟩:=hrun
                    refine wp_mono (wp_region_any hmix (drw_ok hc (F:=F) (hN _ _ _ hoff) hsel hms rfl hok2 hr h1 h2)) ?_
                    rintro e a' w' ⟨rfl,ts',h3,h4⟩
                    exact hq a' w' ts' h3 h4
        cases hd1 : drawOf P ops [] with
        | some q =>
          obtain ⟨ms,s,g⟩:=q
          simp only [hd1,Option.some.injEq,Prod.mk.injEq] at hcomp
          exact key [] ms s g hd1 hcomp.1.symm
        | none =>
          simp only [hd1] at hcomp
          cases hd2 : drawOf P ops (mvsOf ops) with
          | some q =>
            obtain ⟨ms,s,g⟩:=q
            simp only [hd2,Option.some.injEq,Prod.mk.injEq] at hcomp
            exact key _ ms s g hd2 hcomp.1.symm
          | none =>
            simp only [hd2] at hcomp
            cases hd3 : drawOf P ops (mvsOf2 ops) with
            | some q =>
              obtain ⟨ms,s,g⟩:=q
              simp only [hd3,Option.some.injEq,Prod.mk.injEq] at hcomp
              exact key _ ms s g hd3 hcomp.1.symm
            | none =>
              simp only [hd3] at hcomp
              cases hd4 : drawX P ops (mvsOf ops) with
              | none => simp [hd4] at hcomp
              | some q =>
                obtain ⟨ms,s,g,lt⟩:=q
                simp only [hd4,Option.some.injEq,Prod.mk.injEq] at hcomp
                obtain ⟨rfl,rfl⟩:=hcomp
                obtain ⟨sg,os,ms0,hsel,hms,hX,hok,hlt,hlen,hll⟩:=drawX_inv hd4
                have hfst : ((ms.drop s).zip lt).map (·.1) = ms.drop s:=List.map_fst_zip (by rw [List.length_drop,hll]; omega)
                have hN : ∀ (j : Nat) (m : MG),ms[j]? = some m→∀ d,m.op.dst = some d→¬ F d:=by
                  intro j m hm d hd hFd
                  have:=hoff d hFd
                  simp only [offM,hfst,Bool.and_eq_true] at this
                  have hmem : m ∈ ms.take s ++ ms.drop s:=by rw [List.take_append_drop]; exact List.mem_of_getElem? hm
                  rcases List.mem_append.1 hmem with h | h
                  · have:=List.all_eq_true.1 this.1.1 m h; simp [hd] at this
                  · have:=List.all_eq_true.1 this.1.2 m h; simp [hd] at this
                simp only [run] at hrun
                cases h1 : stepsF call (ms.take s) st with
                | none => simp [h1] at hrun
                | some st1 =>
                  simp only [h1] at hrun
                  cases h2 : stepsX call ((ms.drop s).zip lt) st1 with
                  | none => simp [h2] at hrun
                  | some st2 =>
                    simp only [h2,Option.map_eq_some_iff,Prod.mk.injEq] at hrun
                    obtain ⟨st3,h3,rfl,rfl⟩:=hrun
                    refine wp_mono (wp_region_any hmix (drx_ok hc (F:=F) hN hsel hms hX hok hlt hr h1 h2 h3)) ?_
                    rintro e a' w' ⟨rfl,ts',h3,h4⟩
                    exact hq a' w' ts' h3 h4
      · cases hcomp
    | false =>
      simp only [Bool.false_eq_true,if_false] at hcomp
      cases hms : compOps P ops ops.toList with
      | none => simp [hms] at hcomp
      | some ms =>
        simp only [hms,Option.some.injEq,Prod.mk.injEq] at hcomp
        obtain ⟨rfl,rfl⟩:=hcomp
        simp only [run,Option.map_eq_some_iff,Prod.mk.injEq] at hrun
        obtain ⟨st1,h1,rfl,rfl⟩:=hrun
        refine wp_region ?_
        have:=wpOps_list (Q:=Q) (F:=F) hc ops.toList 0 ms hoff (by simp) hms hr h1 hq
        rw [List.range_eq_range']
        simpa using this
  | .seq x y,h,h',mc,Q,st,st',ts,a,w,ex,hoff,hcomp,hr,hrun,hq => by
    simp only [compC] at hcomp
    cases h1 : compC P h x with
    | none => simp [h1] at hcomp
    | some q1 =>
      obtain ⟨x',hh1⟩:=q1
      simp only [h1] at hcomp
      cases h2 : compC P hh1 y with
      | none => simp [h2] at hcomp
      | some q2 =>
        obtain ⟨y',hh2⟩:=q2
        simp only [h2,Option.some.injEq,Prod.mk.injEq] at hcomp
        obtain ⟨rfl,rfl⟩:=hcomp
        simp only [run] at hrun
        cases hx : run call fuel x' st with
        | none => simp [hx] at hrun
        | some q =>
          obtain ⟨e1,st1⟩:=q
          have hoff' : ∀ i,F i→offM i x' = true∧offM i y' = true:=fun i hi => by have:=hoff i hi; simpa only [offM,Bool.and_eq_true] using this
          refine wp_seq (run_ok hc x h hh1 x' (fun i hi => (hoff' i hi).1) h1 hr hx ?_)
          intro a1 w1 ts1 hd1 hr1
          cases e1 with
          | norm =>
            simp only [hx] at hrun
            exact run_ok hc y hh1 hh2 y' (fun i hi => (hoff' i hi).2) h2 hr1 hrun fun a2 w2 ts2 hd2 hr2 => hq a2 w2 ts2 (hd1.trans hd2) hr2
          | ex id =>
            simp only [hx,Option.some.injEq,Prod.mk.injEq] at hrun
            obtain ⟨rfl,rfl⟩:=hrun
            exact hq a1 w1 ts1 hd1 hr1
          | ret =>
            simp only [hx,Option.some.injEq,Prod.mk.injEq] at hrun
            obtain ⟨rfl,rfl⟩:=hrun
            exact hq a1 w1 ts1 hd1 hr1
  | .cond c x y,h,h',mc,Q,st,st',ts,a,w,ex,hoff,hcomp,hr,hrun,hq => by
    simp only [compC] at hcomp
    cases h0 : opd 0 c with
    | none => simp [h0] at hcomp
    | some c' =>
      cases h1 : compC P h x with
      | none => simp [h0,h1] at hcomp
      | some q1 =>
        obtain ⟨x',hh1⟩:=q1
        simp only [h0,h1] at hcomp
        cases h2 : compC P hh1 y with
        | none => simp [h2] at hcomp
        | some q2 =>
          obtain ⟨y',hh2⟩:=q2
          simp only [h2,Option.some.injEq,Prod.mk.injEq] at hcomp
          obtain ⟨rfl,rfl⟩:=hcomp
          simp only [run] at hrun
          split at hrun
          · rename_i t hev
            have hoff' : ∀ i,F i→offM i x' = true∧offM i y' = true:=fun i hi => by have:=hoff i hi; simpa only [offM,Bool.and_eq_true] using this
            refine wp_cond (t:=t) (ev_sc hr h0 hev) ?_
            cases t with
            | true =>
              simp only [if_true] at hrun
              exact run_ok hc x h hh1 x' (fun i hi => (hoff' i hi).1) h1 hr hrun hq
            | false =>
              simp only [Bool.false_eq_true,if_false] at hrun
              exact run_ok hc y hh1 hh2 y' (fun i hi => (hoff' i hi).2) h2 hr hrun hq
          · cases hrun
  | .block id c,h,h',mc,Q,st,st',ts,a,w,ex,hoff,hcomp,hr,hrun,hq => by
    simp only [compC] at hcomp
    cases h1 : compC P h.tail c with
    | none => simp [h1] at hcomp
    | some q1 =>
      obtain ⟨c',hh1⟩:=q1
      simp only [h1,Option.some.injEq,Prod.mk.injEq] at hcomp
      obtain ⟨rfl,rfl⟩:=hcomp
      generalize h.headD [] = hd0 at *
      simp only [run] at hrun
      cases hx : run call fuel c' st with
      | none => simp [hx] at hrun
      | some q =>
        obtain ⟨e1,st1⟩:=q
        refine wp_block (run_ok hc c h.tail hh1 c' (fun i hi => by have:=hoff i hi; simpa [offM] using this) h1 hr hx ?_)
        intro a1 w1 ts1 hd1 hr1
        cases e1 with
        | norm =>
          simp only [hx,Option.some.injEq,Prod.mk.injEq] at hrun
          obtain ⟨rfl,rfl⟩:=hrun
          obtain ⟨ts2,hr2⟩:=drops_ok hd0 hr1
          exact hq a1 w1 ts2 hd1 hr2
        | ex i =>
          simp only [hx] at hrun
          simp only [exOf,Exit.inBlock]
          by_cases hi : i = id
          · rw [if_pos hi] at hrun
            simp only [Option.some.injEq,Prod.mk.injEq] at hrun
            obtain ⟨rfl,rfl⟩:=hrun
            rw [if_pos hi]
            obtain ⟨ts2,hr2⟩:=drops_ok hd0 hr1
            exact hq a1 w1 ts2 hd1 hr2
          · rw [if_neg hi] at hrun
            simp only [Option.some.injEq,Prod.mk.injEq] at hrun
            obtain ⟨rfl,rfl⟩:=hrun
            rw [if_neg hi]
            exact hq a1 w1 ts1 hd1 hr1
        | ret =>
          simp only [hx,Option.some.injEq,Prod.mk.injEq] at hrun
          obtain ⟨rfl,rfl⟩:=hrun
          exact hq a1 w1 ts1 hd1 hr1
  | .loop c,h,h',mc,Q,st,st',ts,a,w,ex,hoff,hcomp,hr,hrun,hq => by
    simp only [compC] at hcomp
    cases h1 : compC P h.tail c with
    | none => simp [h1] at hcomp
    | some q1 =>
      obtain ⟨c',hh1⟩:=q1
      simp only [h1,Option.some.injEq,Prod.mk.injEq] at hcomp
      obtain ⟨rfl,rfl⟩:=hcomp
      generalize h.headD [] = hd0 at *
      simp only [run] at hrun
      refine wp_loopN (n:=fuel) (fun n a1 w1 => Kp F a a1∧∃ st1 ts1,Rel E st1 ts1 a1.tmps w1∧run.loopN (run call fuel (.seq (.scr hd0) c')) n st1 = some (ex,st')) ⟨Kp.refl F a,st,ts,hr,hrun⟩ ?_
      rintro n a1 w1 ⟨hd1,st1,ts1,hr1,hn⟩
      cases n with
      | zero => simp [run.loopN] at hn
      | succ n =>
        simp only [run.loopN] at hn
        cases hb : run call fuel (.seq (.scr hd0) c') st1 with
        | none => simp [hb] at hn
        | some q =>
          obtain ⟨e2,st2⟩:=q
          have hb' : run call fuel c' (drops st1 hd0) = some (e2,st2):=by simpa [run] using hb
          obtain ⟨ts2,hr2⟩:=drops_ok hd0 hr1
          refine run_ok hc c h.tail hh1 c' (fun i hi => by have:=hoff i hi; simpa [offM] using this) h1 hr2 hb' ?_
          intro a3 w3 ts3 hd3 hr3
          cases e2 with
          | norm =>
            simp only [hb] at hn
            exact ⟨n,Nat.lt_succ_self n,hd1.trans hd3,st2,ts3,hr3,hn⟩
          | ex i =>
            simp only [hb,Option.some.injEq,Prod.mk.injEq] at hn
            obtain ⟨rfl,rfl⟩:=hn
            exact hq a3 w3 ts3 (hd1.trans hd3) hr3
          | ret =>
            simp only [hb,Option.some.injEq,Prod.mk.injEq] at hn
            obtain ⟨rfl,rfl⟩:=hn
            exact hq a3 w3 ts3 (hd1.trans hd3) hr3
  | .rangeFunc ..,_,_,_,_,_,_,_,_,_,_,_,hcomp,_,_,_ => by simp [compC] at hcomp
  | .scope ..,_,_,_,_,_,_,_,_,_,_,_,hcomp,_,_,_ => by simp [compC] at hcomp
  | .label ..,_,_,_,_,_,_,_,_,_,_,_,hcomp,_,_,_ => by simp [compC] at hcomp
  | .goto ..,_,_,_,_,_,_,_,_,_,_,_,hcomp,_,_,_ => by simp [compC] at hcomp
  | .refuse ..,_,_,_,_,_,_,_,_,_,_,_,hcomp,_,_,_ => by simp [compC] at hcomp
theorem resTmps_run (tm : Array Value) (g : ResultVar→Sem Value) (hg : ∀ t,g (.tmp t) = pure (tm.getD t undef)) : ∀ (rs : List ResultVar) (l : List Nat),resTmps rs = some l→(rs.mapM g).run P w = .ok (l.map fun t => tm.getD t undef) w
  | [],l,h => by simp only [resTmps,Option.some.injEq] at h; subst h; rfl
  | .tmp t :: rs,l,h => by
    simp only [resTmps] at h
    split at h
    · cases h1 : resTmps rs with
      | none => simp [h1] at h
      | some l1 =>
        simp only [h1,Option.some.injEq] at h
        subst h
        have:=resTmps_run tm g hg rs l1 h1
        simp only [List.mapM_cons,hg,pure_bind,Sem.run_bind,this,List.map_cons,Result.andThen_ok]
        rfl
    · cases h
  | .cell .. :: rs,l,h => by simp [resTmps] at h
theorem resTmps_lt : ∀ (rs : List ResultVar) (l : List Nat),resTmps rs = some l→∀ t ∈ l,t < resMark
  | [],l,h => by simp only [resTmps,Option.some.injEq] at h; subst h; simp
  | .tmp t :: rs,l,h => by
    simp only [resTmps] at h
    split at h
    · rename_i hlt
      cases h1 : resTmps rs with
      | none => simp [h1] at h
      | some l1 =>
        simp only [h1,Option.some.injEq] at h
        subst h
        intro x hx
        rcases List.mem_cons.1 hx with rfl | hx
        · exact hlt
        · exact resTmps_lt rs l1 h1 x hx
    · cases h
  | .cell .. :: rs,l,h => by simp [resTmps] at h
def fromTree (ts : List C) : C :=
  match ts with
  | [t] => t
  | ts => .nd .tu ts
theorem entry_ok {g : Glob} {l : List C} {w : World} {mf : MF} (hg : g.At w) (hm : MemL w false l) (hl : ∀ b,cntL b l ≠ 0→b < w.heap.size) :
    Rel (.ent g w hg) (enterF mf (erL l)) (List.replicate (enterF mf (erL l)).length (.v undef)) ((valL l).toArray ++ Array.replicate (mf.ntmps - (valL l).toArray.size) undef) w:=by
  have hz : ∀ n b,cntL b (List.replicate n (.v undef : C)) = 0:=by
    intro n b
    induction n with
    | zero => rfl
    | succ n ih => simp [List.replicate_succ,cntL,cnt,ih]
  refine ⟨by simp,by simp [enterF,erL_len,valL_len],?_,?_,fun b => by rw [hz]; omega,fun b hb => absurd (hz _ b) hb,⟨rfl,rfl,rfl,Nat.le_refl _,fun _ _ _ => rfl,Nat.le_refl _⟩⟩
  · intro i x u hx hu
    have hi:=lt_of_get hx
    have hleaf : ∃ y,(List.replicate (enterF mf (erL l)).length (.v undef : C))[i]? = some (.v y):=⟨undef,by rw [List.getElem?_replicate,if_pos hi]⟩
    by_cases hlt : i < l.length
    · obtain ⟨t,ht⟩ : ∃ t,l[i]? = some t:=⟨_,List.getElem?_eq_getElem hlt⟩
      have hu' : u = val t:=by
        rw [Array.getElem?_append_left (by simpa [valL_len] using hlt)] at hu
        rw [List.getElem?_toArray,valL_eq,List.getElem?_map,ht] at hu
        simpa using hu.symm
      have hx' : x = mkRo (er t):=by
        unfold enterF at hx
        rw [List.getElem?_append_left (by simpa [erL_len] using hlt),List.getElem?_map,erL_eq,List.getElem?_map,ht] at hx
        simpa using hx.symm
      subst hu' hx'
      have hmt:=MemL_iff.1 hm t (List.mem_of_getElem? ht)
      have hct : ∀ b,cnt b t ≠ 0→b < w.heap.size:=fun b hb => hl b (by have:=cnt_le_cntL b l i t ht; omega)
      have hro : VRel (.ent g w hg) (List.replicate (enterF mf (erL l)).length (.v undef)) (.ro (er t)) (val t):=⟨t,rfl,rfl,hmt,fun b hb => ⟨hct b hb,fun h => h⟩⟩
      refine SRel.mk ?_ hleaf
      cases t with
      | v y => rfl
      | hole d => exact hro
      | nd k kids => exact hro
    · have hx' : x = .sc undef:=by
        unfold enterF at hx
        rw [List.getElem?_append_right (by simp [erL_len]; omega)] at hx
        rw [List.getElem?_replicate] at hx
        split at hx
        · simpa using hx.symm
        · cases hx
      have hu' : u = undef:=by
        rw [Array.getElem?_append_right (by simp [valL_len]; omega)] at hu
        rw [Array.getElem?_replicate] at hu
        split at hu
        · simpa using hu.symm
        · cases hu
      subst hx' hu'
      exact SRel.mk rfl hleaf
  · intro i t ht
    rw [List.getElem?_replicate] at ht
    split at ht
    · simp only [Option.some.injEq] at ht; subst ht; trivial
    · cases ht
theorem fromTree_cnt (tl : List C) (b : Nat) : cnt b (fromTree tl) = cntL b tl:=by
  cases tl with
  | nil => simp [fromTree,cnt,K.own]
  | cons t tl =>
    cases tl with
    | nil => simp [fromTree,cntL]
    | cons t2 tl => simp [fromTree,cnt,K.own]
theorem resF_ok {fn : Func} {rs : List Nat} (hrs : resSlots P fn.results.toList = some rs) {E : Env} {st : St} {ts : List C} {tm : Array Value} {w : World} (hr : Rel E st ts tm w) {d : D} (h : resF st rs = some d) :
    ∃ t : C,(results fn tm).run P w = .ok (val t) w∧er t = d∧Mem w true t∧∀ b,cnt b t ≤ cntL b ts:=by
  unfold resSlots at hrs
  split at hrs
  · rename_i a ty hres
    split at hrs
    · rename_i hag
      split at hrs
      · rename_i m hm
        simp only [Option.some.injEq] at hrs
        subst hrs
        simp only [resF,resCell,if_true] at h
        cases he : loadN st (ev st (.t a)) m with
        | none => simp [he] at h
        | some y =>
          simp only [he] at h
          obtain ⟨f,g,kids,c,h1,h2⟩:=loadN_leads he
          obtain ⟨ad,ks,g1,g2,g3,_,g4⟩:=leads_ok hr (ev_ok hr (m:=.t a) (u:=tm.getD a undef) rfl) h1
          obtain ⟨h3,h4⟩:=g4 c m y h2
          have hlen : (((valL ks).drop c).take m).length = m:=by simp [valL_len]; omega
          have hl:=run_loadCells_list (P:=P) w (ad.add c) (((valL ks).drop c).take m) (fun j v hj => (g3.drop c).take m j v hj)
          rw [hlen] at hl
          split at h
          · rename_i d0 st2 hta
            simp only [Option.some.injEq] at h
            subst h
            obtain ⟨t,ts2,q1,q2,q3,q4,_,q6⟩:=take_ok _ h4 (Evolve.refl _) hr hta
            refine ⟨t,?_,q1,q3,fun b => ?_⟩
            · unfold results
              have hr1 : fn.results = #[.cell a ty]:=by rw [← Array.toArray_toList (xs:=fn.results),hres]
              rw [hr1,q2]
              rw [Array.getD_eq_getD_getElem?] at g1
              simp [g1,asAddr,loadVar,isAggT_true hag,run_sizeOf' hm,hl]
            · have e1:=q6 b
              omega
          · cases h
      · cases hrs
    · cases hrs
  · have hcell : resCell rs = none:=by
      unfold resCell
      split
      · rename_i a m k
        have:=resTmps_lt _ _ hrs k (by simp)
        rw [if_neg (by omega)]
      · rfl
    simp only [resF,hcell] at h
    have hmo : MORelL tm (rs.map .t) (rs.map fun t => tm.getD t undef):=by
      have : ∀ rs : List Nat,MORelL tm (rs.map .t) (rs.map fun t => tm.getD t undef):=by
        intro rs
        induction rs with
        | nil => rfl
        | cons r rs ih => exact ⟨_,_,rfl,rfl,ih⟩
      exact this rs
    cases hta : takeAll st (rs.map .t) with
    | none => simp [hta] at h
    | some q =>
      obtain ⟨ds,st2⟩:=q
      obtain ⟨tl,ts2,g1,g2,g3,g4,_,g6⟩:=takeAll_ok _ hmo hr hta
      have hrun2 : (results fn tm).run P w = .ok (val (fromTree tl)) w:=by
        unfold results
        rw [Sem.run_bind,← Array.toArray_toList (xs:=fn.results),List.mapM_toArray,Sem.run_map,resTmps_run tm _ (fun t => rfl) _ _ hrs]
        simp only [Result.andThen_ok]
        rw [← g2,valL_eq]
        cases tl with
        | nil => rfl
        | cons t tl =>
          cases tl with
          | nil => rfl
          | cons t2 tl => simp [fromTree,val,K.val,valL_eq]
      have hd2 : er (fromTree tl) = d:=by
        rw [hta] at h
        subst g1
        cases tl with
        | nil => simp only [erL] at h; simpa [fromTree,er,K.er,erL] using h
        | cons t tl =>
          cases tl with
          | nil => simp only [erL] at h; simpa [fromTree] using h
          | cons t2 tl => simp only [erL] at h; simpa [fromTree,er,K.er,erL] using h
      refine ⟨fromTree tl,hrun2,hd2,?_,fun b => ?_⟩
      · cases tl with
        | nil => exact ⟨trivial,g3⟩
        | cons t tl =>
          cases tl with
          | nil => exact g3.1
          | cons t2 tl => exact ⟨trivial,g3⟩
      · rw [fromTree_cnt]
        have:=g6 b
        omega
theorem callF_ok {call : Oracle} {g : Glob} (hc : CallsOK P g call) {fuel : Nat} {f : FuncId} {hints : List (List Bool)} {mf : MF} (hf : compF0 P hints f = some mf) {ds : List D} {d : D} (h : callF call fuel mf ds = some d) :
    Enters P f∧∀ (l : List C) (w : World),g.At w→erL l = ds→MemL w false l→(∀ b,cntL b l ≠ 0→b < w.heap.size) →
    Calls P f (valL l).toArray w fun e w' => ∃ t,e = .returned (val t)∧er t = d∧RowKit.Below w.heap.size w w'∧FreshT w w' t:=by
  unfold compF0 at hf
  split at hf
  · rename_i fn hfn
    split at hf
    · rename_i c hb
      split at hf
      · cases hf
      · rename_i hname
        split at hf
        · rename_i mc hh rs hmc hrs
          simp only [Option.some.injEq] at hf
          subst hf
          have hname' : (fn.name == "runtime.NumGoroutine") = false:=by simpa using hname
          refine ⟨⟨fn,c,hfn,hname',hb⟩,?_⟩
          intro l w hg hl hm hlt
          subst hl
          refine calls_of_wp hfn hb ?_
          have hent:=entry_ok (mf:=⟨mc,fn.ntmps,rs⟩) hg hm hlt
          obtain ⟨ex,st',hrun,hex,hres⟩ : ∃ ex st',run call fuel mc (enterF ⟨mc,fn.ntmps,rs⟩ (erL l)) = some (ex,st')∧(ex = .norm ∨ ex = .ret)∧resF st' rs = some d:=by
            unfold callF at h
            split at h
            · rename_i st1 h1; exact ⟨_,_,h1,.inl rfl,h⟩
            · rename_i st1 h1; exact ⟨_,_,h1,.inr rfl,h⟩
            · cases h
          refine run_ok (F:=fun _ => False) hc c hints hh mc (a:={ tmps:=(valL l).toArray ++ Array.replicate (fn.ntmps - (valL l).toArray.size) undef,defers:=[] }) (fun i hi => hi.elim) hmc hent hrun ?_
          intro a' w' ts' hd hr
          have key : a'.defers = []∧∃ v,(results fn a'.tmps).run P w' = .ok v w'∧∃ t,Ending.returned v = .returned (val t)∧er t = d∧RowKit.Below w.heap.size w w'∧FreshT w w' t:=by
            refine ⟨hd.df,?_⟩
            obtain ⟨t,q1,q2,q3,q4⟩:=resF_ok hrs hr hres
            refine ⟨_,q1,t,rfl,q2,⟨hr.keep.os,hr.keep.tape,hr.keep.output,hr.keep.size,fun k hk => hr.keep.block k hk fun h => h⟩,q3,?_⟩
            intro b
            have h6:=q4 b
            have h7:=hr.uniq b
            refine ⟨by omega,fun hne => ?_⟩
            obtain ⟨h8,h9⟩:=hr.dom b (by omega)
            refine ⟨?_,h9⟩
            rcases Nat.lt_or_ge b w.heap.size with h10 | h10
            · exact absurd ⟨h10,fun h => h⟩ h8
            · exact h10
          rcases hex with rfl | rfl
          · exact key
          · exact key
        · cases hf
    · cases hf
  · cases hf
structure Ext (w w' : World) : Prop where
  os : w'.os = w.os
  tape : w'.tape = w.tape
  output : w'.output = w.output
  size : w.heap.size ≤ w'.heap.size
  block : ∀ k,k < w.heap.size→w'.heap[k]? = w.heap[k]?
theorem Glob.At.ext {g : Glob} {w w' : World} (h : g.At w) (e : Ext w w') : g.At w' :=
  ⟨g.st _ _ (fun b hb => e.block b (h.lt b hb)) h.ok,fun b hb => Nat.lt_of_lt_of_le (h.lt b hb) e.size⟩
def EnV (w : World) (x : V) (u : Value) : Prop:=x = .sc u ∨ x = .dead ∨ ∃ t : C,x = .ro (er t)∧val t = u∧Mem w false t∧∀ b,cnt b t ≠ 0→b < w.heap.size
structure Ent (st : St) (tm : Array Value) (w : World) : Prop where
  len : tm.size = st.length
  slot : ∀ (i : Nat) x u,st[i]? = some x→tm[i]? = some u→EnV w x u
theorem EnV.ext {w w' : World} (e : Ext w w') {x : V} {u : Value} (h : EnV w x u) : EnV w' x u:=by
  rcases h with h | h | ⟨t,h1,h2,h3,h4⟩
  · exact .inl h
  · exact .inr (.inl h)
  · exact .inr (.inr ⟨t,h1,h2,h3.same fun b hb => e.block b (h4 b hb),fun b hb => by have:=h4 b hb; have:=e.size; omega⟩)
theorem Ent.rel {g : Glob} {st : St} {tm : Array Value} {w : World} (hg : g.At w) (h : Ent st tm w) : Rel (.ent g w hg) st (List.replicate st.length (.v undef)) tm w:=by
  have hz : ∀ n b,cntL b (List.replicate n (.v undef : C)) = 0:=by
    intro n b
    induction n with
    | zero => rfl
    | succ n ih => simp [List.replicate_succ,cntL,cnt,ih]
  refine ⟨by simp,h.len,?_,?_,fun b => by rw [hz]; omega,fun b hb => absurd (hz _ b) hb,⟨rfl,rfl,rfl,Nat.le_refl _,fun _ _ _ => rfl,Nat.le_refl _⟩⟩
  · intro i x u hx hu
    have hi:=lt_of_get hx
    have hleaf : ∃ y,(List.replicate st.length (.v undef : C))[i]? = some (.v y):=⟨undef,by rw [List.getElem?_replicate,if_pos hi]⟩
    refine SRel.mk ?_ hleaf
    rcases h.slot i x u hx hu with rfl | rfl | ⟨t,rfl,rfl,h3,h4⟩
    · rfl
    · trivial
    · exact ⟨t,rfl,rfl,h3,fun b hb => ⟨h4 b hb,fun h => h⟩⟩
  · intro i t ht
    rw [List.getElem?_replicate] at ht
    split at ht
    · simp only [Option.some.injEq] at ht; subst ht; trivial
    · cases ht
theorem ent_entry {l : List C} {w : World} {mf : MF} (hm : MemL w false l) (hl : ∀ b,cntL b l ≠ 0→b < w.heap.size) :
    Ent (enterF mf (erL l)) ((valL l).toArray ++ Array.replicate (mf.ntmps - (valL l).toArray.size) undef) w:=by
  have h:=entry_ok (mf:=mf) (Glob.none_at w) hm hl
  refine ⟨h.lenM,fun i x u hx hu => ?_⟩
  by_cases hlt : i < l.length
  · obtain ⟨t,ht⟩ : ∃ t,l[i]? = some t:=⟨_,List.getElem?_eq_getElem hlt⟩
    have hu' : u = val t:=by
      rw [Array.getElem?_append_left (by simpa [valL_len] using hlt)] at hu
      rw [List.getElem?_toArray,valL_eq,List.getElem?_map,ht] at hu
      simpa using hu.symm
    have hx' : x = mkRo (er t):=by
      unfold enterF at hx
      rw [List.getElem?_append_left (by simpa [erL_len] using hlt),List.getElem?_map,erL_eq,List.getElem?_map,ht] at hx
      simpa using hx.symm
    subst hu' hx'
    have hmt:=MemL_iff.1 hm t (List.mem_of_getElem? ht)
    have hct : ∀ b,cnt b t ≠ 0→b < w.heap.size:=fun b hb => hl b (by have:=cnt_le_cntL b l i t ht; omega)
    cases t with
    | v y => exact .inl rfl
    | hole d => exact .inr (.inr ⟨_,rfl,rfl,hmt,hct⟩)
    | nd k kids => exact .inr (.inr ⟨_,rfl,rfl,hmt,hct⟩)
  · have hx' : x = .sc undef:=by
      unfold enterF at hx
      rw [List.getElem?_append_right (by simp [erL_len]; omega)] at hx
      rw [List.getElem?_replicate] at hx
      split at hx
      · simpa using hx.symm
      · cases hx
    have hu' : u = undef:=by
      rw [Array.getElem?_append_right (by simp [valL_len]; omega)] at hu
      rw [Array.getElem?_replicate] at hu
      split at hu
      · simpa using hu.symm
      · cases hu
    subst hx' hu'
    exact .inl rfl
def ArgS (ds : List D) (np : Nat) (tm : Array Value) (w : World) : Prop:=∀ p d,p < np→ds[p]? = some d→∃ t : C,er t = d∧tm.getD p undef = val t∧Mem w false t∧∀ b,cnt b t ≠ 0→b < w.heap.size
theorem boxP_some {np : Nat} {o : Oper} {d p : Nat} (h : boxP P np o = some (d,p)) : (∃ t,o.op = .box t (.tmp p))∧o.dst = some d∧o.guard = none∧p < np∧np ≤ d:=by
  unfold boxP at h
  split at h
  · rename_i t p' d' h1 h2 h3
    split at h
    · rename_i hc
      cases h
      simp only [Bool.and_eq_true,decide_eq_true_eq] at hc
      exact ⟨⟨t,h1⟩,h2,h3,hc.1.2,hc.2⟩
    · cases h
  · cases h
theorem pre_ok {ops : Array Oper} {np : Nat} {ds : List D} {w0 : World} {Q : Exit→Act→World→Prop} : ∀ (os : List Oper) (k : Nat) {st : St} {a : Act} {w : World},ops.toList.drop k = os→Ent st a.tmps w→Ext w0 w→ArgS ds np a.tmps w →
    (∀ a' w',a'.defers = a.defers→Ent (enterB ds (leadB P np os) st) a'.tmps w'→Ext w0 w'→wpOps P ops Q (List.range' (k + (leadB P np os).length) (os.drop (leadB P np os).length).length) a' w')→wpOps P ops Q (List.range' k os.length) a w
  | [],k,st,a,w,hl,he,hx,ha,hq => by
    have:=hq a w rfl he hx
    simpa [leadB] using this
  | o :: os,k,st,a,w,hl,he,hx,ha,hq => by
    cases hb : boxP P np o with
    | none =>
      have:=hq a w rfl (by simp only [leadB,hb]; exact he) hx
      simpa [leadB,hb] using this
    | some q =>
      obtain ⟨d,p⟩:=q
      obtain ⟨⟨t,h1⟩,h2,h3,h4,h5⟩:=boxP_some hb
      have hk : ops[k]? = some o:=by
        rw [← Array.getElem?_toList]
        have:=congrArg (fun l => l[0]?) hl
        simpa [List.getElem?_drop] using this
      have hd : ops.toList.drop (k + 1) = os:=by
        have:=congrArg List.tail hl
        simpa [List.tail_drop] using this
      rw [List.length_cons,List.range'_succ,wpOps_cons]
      unfold wpOp
      rw [hk]
      have hw : Region.wanted o (yielded ops a.tmps) = true:=by simp [Region.wanted,h3]
      simp only [hw,if_true]
      refine .inl ?_
      unfold Oper.wp
      have hrun : (execOp a.eval o).run P w = .ok (.value (.pointer (some ⟨w.heap.size,0,none⟩))) (w.alloc (.cells (a.eval (.tmp p)).cells t)):=by
        simp [execOp,h1,Instr.box,newVar,newRow]
      rw [hrun]
      have hE : Ext w (w.alloc (.cells (a.eval (.tmp p)).cells t)):=by
        refine ⟨rfl,rfl,rfl,?_,fun k hk => ?_⟩
        · show w.heap.size ≤ (w.heap.push _).size
          simp
        · show (w.heap.push _)[k]? = _
          rw [Array.getElem?_push,if_neg (by omega)]
      have hE0 : Ext w0 (w.alloc (.cells (a.eval (.tmp p)).cells t)):=⟨hE.os.trans hx.os,hE.tape.trans hx.tape,hE.output.trans hx.output,Nat.le_trans hx.size hE.size,fun k hk => (hE.block k (Nat.lt_of_lt_of_le hk hx.size)).trans (hx.block k hk)⟩
      have htm : (a.put o.dst (.pointer (some ⟨w.heap.size,0,none⟩))).tmps = a.tmps.setIfInBounds d (.pointer (some ⟨w.heap.size,0,none⟩)):=by rw [h2]; rfl
      have hdf : (a.put o.dst (.pointer (some ⟨w.heap.size,0,none⟩))).defers = a.defers:=by rw [h2]; rfl
      refine pre_ok (ds:=ds) (np:=np) os (k + 1) (st:=st.set d (boxV ds p)) hd ?_ hE0 ?_ ?_
      · refine ⟨by rw [htm]; simp [he.len],fun i x u hxi hu => ?_⟩
        rw [htm] at hu
        by_cases hid : d = i
        · subst hid
          have hlt : d < st.length:=by have:=lt_of_get hxi; simpa using this
          rw [List.getElem?_set_self hlt] at hxi
          rw [Array.getElem?_setIfInBounds_self_of_lt (by rw [he.len]; exact hlt)] at hu
          cases hxi
          cases hu
          unfold boxV
          split
          · rename_i dd hds
            split
            · rename_i hfl
              obtain ⟨t',e1,e2,e3,e4⟩:=ha p _ h4 hds
              subst e1
              refine .inr (.inr ⟨.nd (.bx ⟨some ⟨w.heap.size,0,none⟩,0,undef⟩) (cellsOfC t'),?_,rfl,?_,?_⟩)
              · rw [er,erL_cellsOf]; rfl
              · refine ⟨⟨_,rfl,?_,fun h => by cases h⟩,(Mem_cellsOf e3).same fun b hb => hE.block b (e4 b (by rw [cnt_cellsOf] at hb; exact hb))⟩
                have hv : (a.eval (.tmp p)).cells = (valL (cellsOfC t')).toArray:=by
                  have : a.eval (.tmp p) = val t':=e2
                  rw [this]
                  exact val_cellsOf hfl
                intro i u hiu
                rw [hv]
                have hheap : (w.alloc (.cells (valL (cellsOfC t')).toArray t)).heap[w.heap.size]? = some (.cells (valL (cellsOfC t')).toArray t):=by
                  show (w.heap.push _)[w.heap.size]? = _
                  exact Array.getElem?_push_size
                have hadd : Addr.add ⟨w.heap.size,0,none⟩ i = ⟨w.heap.size,i,none⟩:=by
                  unfold Addr.add
                  split
                  · rename_i h0; subst h0; rfl
                  · simp
                rw [hadd]
                simp only [World.cell?,hheap]
                simpa using hiu
              · intro b hb
                simp only [cnt,K.own] at hb
                rw [cnt_cellsOf] at hb
                have hs : w.heap.size < (w.alloc (.cells (a.eval (.tmp p)).cells t)).heap.size:=by show w.heap.size < (w.heap.push _).size; simp
                by_cases hbw : b = w.heap.size
                · subst hbw; exact hs
                · have : cnt b t' ≠ 0:=by
                    intro h0
                    rw [h0] at hb
                    simp at hb
                    exact hbw hb.symm
                  have:=e4 b this
                  omega
            · exact .inr (.inl rfl)
          · exact .inr (.inl rfl)
        · rw [List.getElem?_set_ne hid] at hxi
          rw [Array.getElem?_setIfInBounds_ne hid] at hu
          exact (he.slot i x u hxi hu).ext hE
      · intro p' d' hp' hd'
        obtain ⟨t',e1,e2,e3,e4⟩:=ha p' d' hp' hd'
        refine ⟨t',e1,?_,e3.same fun b hb => hE.block b (e4 b hb),fun b hb => by have:=e4 b hb; have:=hE.size; omega⟩
        rw [htm,← e2,Array.getD_eq_getD_getElem?,Array.getD_eq_getD_getElem?,Array.getElem?_setIfInBounds_ne (by omega)]
      · intro a' w' hdf' he' hx'
        have:=hq a' w' (hdf'.trans hdf) (by simp only [leadB,hb,enterB]; exact he') hx'
        simp only [leadB,hb,List.length_cons,List.drop_succ_cons] at this
        rw [show k + ((leadB P np os).length + 1) = k + 1 + (leadB P np os).length by omega] at this
        exact this
theorem callB_ok {call : Oracle} {g : Glob} (hc : CallsOK P g call) {fuel : Nat} {f : FuncId} {hints : List (List Bool)} {mf : MF} (hf : compF1 P hints f = some mf) {ds : List D} {d : D} (h : callB call fuel mf ds = some d) :
    Enters P f∧∀ (l : List C) (w : World),g.At w→erL l = ds→MemL w false l→(∀ b,cntL b l ≠ 0→b < w.heap.size) →
    Calls P f (valL l).toArray w fun e w' => ∃ t,e = .returned (val t)∧er t = d∧RowKit.Below w.heap.size w w'∧FreshT w w' t:=by
  unfold compF1 at hf
  split at hf
  · rename_i fn hfn
    split at hf
    · rename_i id ops y hb
      split at hf
      · cases hf
      · rename_i hname
        split at hf
        · rename_i mc rs hmc hrs
          split at hf
          · simp only [Option.some.injEq] at hf
            subst hf
            have hname' : (fn.name == "runtime.NumGoroutine") = false:=by simpa using hname
            refine ⟨⟨fn,_,hfn,hname',hb⟩,?_⟩
            intro l w hg hl hm hlt
            subst hl
            refine calls_of_wp hfn hb ?_
            unfold bodyB at hmc
            split at hmc
            · rename_i ms y' hh hms hy
              split at hmc
              · rename_i hlead
                rw [beq_iff_eq] at hlead
                simp only [Option.some.injEq] at hmc
                subst hmc
                have hdrop : (encB (leadB P fn.params.size ops.toList) ++ ms).drop (leadB P fn.params.size ops.toList).length = ms:=by
                  rw [List.drop_left' (by simp [encB])]
                obtain ⟨ex,st',hrun,hex,hres⟩ : ∃ ex st',run call fuel (.seq (.ops ms) y') (enterB (erL l) (leadB P fn.params.size ops.toList) (enterF ⟨.seq (.ops (encB (leadB P fn.params.size ops.toList) ++ ms)) y',fn.ntmps,rs⟩ (erL l))) = some (ex,st')∧(ex = .norm ∨ ex = .ret)∧resF st' rs = some d:=by
                  unfold callB at h
                  simp only [hlead,hdrop] at h
                  split at h
                  · rename_i st1 h1; exact ⟨_,_,h1,.inl rfl,h⟩
                  · rename_i st1 h1; exact ⟨_,_,h1,.inr rfl,h⟩
                  · cases h
                have hent:=ent_entry (mf:=⟨.seq (.ops (encB (leadB P fn.params.size ops.toList) ++ ms)) y',fn.ntmps,rs⟩) hm hlt
                have key : ∀ (a' : Act) (w1 w' : World) (ts' : List C),a'.defers = []→(hx : Ext w w1)→Rel (.ent g w1 (hg.ext hx)) st' ts' a'.tmps w' →
                    a'.defers = []∧∃ v,(results fn a'.tmps).run P w' = .ok v w'∧∃ t,Ending.returned v = .returned (val t)∧er t = d∧RowKit.Below w.heap.size w w'∧FreshT w w' t:=by
                  intro a' w1 w' ts' hd hx hr
                  refine ⟨hd,?_⟩
                  obtain ⟨t,q1,q2,q3,q4⟩:=resF_ok hrs hr hres
                  refine ⟨_,q1,t,rfl,q2,⟨hr.keep.os.trans hx.os,hr.keep.tape.trans hx.tape,hr.keep.output.trans hx.output,Nat.le_trans hx.size hr.keep.size,fun k hk => (hr.keep.block k (Nat.lt_of_lt_of_le hk hx.size) fun h => h).trans (hx.block k hk)⟩,q3,?_⟩
                  intro b
                  have h6:=q4 b
                  have h7:=hr.uniq b
                  refine ⟨by omega,fun hne => ?_⟩
                  obtain ⟨h8,h9⟩:=hr.dom b (by omega)
                  refine ⟨?_,h9⟩
                  rcases Nat.lt_or_ge b w1.heap.size with h10 | h10
                  · exact absurd ⟨h10,fun h => h⟩ h8
                  · exact Nat.le_trans hx.size h10
                simp only [run] at hrun
                cases hr1 : stepsG call ms (enterB (erL l) (leadB P fn.params.size ops.toList) (enterF ⟨.seq (.ops (encB (leadB P fn.params.size ops.toList) ++ ms)) y',fn.ntmps,rs⟩ (erL l))) with
                | none => simp [hr1] at hrun
                | some st1 =>
                  simp only [hr1,Option.map_some] at hrun
                  refine wp_seq (wp_region ?_)
                  rw [List.range_eq_range']
                  have hsz : ops.size = ops.toList.length:=by simp
                  rw [hsz]
                  refine pre_ok (w0:=w) (np:=fn.params.size) (ds:=erL l) ops.toList 0 (by simp) hent ⟨rfl,rfl,rfl,Nat.le_refl _,fun _ _ => rfl⟩ ?_ ?_
                  · intro p d' hp hd'
                    obtain ⟨t,ht⟩ : ∃ t,l[p]? = some t:=by
                      rw [erL_eq,List.getElem?_map] at hd'
                      cases hlp : l[p]? with
                      | none => rw [hlp] at hd'; cases hd'
                      | some t => exact ⟨t,rfl⟩
                    rw [erL_eq,List.getElem?_map,ht] at hd'
                    simp only [Option.map_some,Option.some.injEq] at hd'
                    refine ⟨t,hd',?_,MemL_iff.1 hm t (List.mem_of_getElem? ht),fun b hb => hlt b (by have:=cnt_le_cntL b l p t ht; omega)⟩
                    have hpl : p < l.length:=lt_of_get ht
                    show ((valL l).toArray ++ Array.replicate (fn.ntmps - (valL l).toArray.size) undef).getD p undef = val t
                    rw [Array.getD_eq_getD_getElem?,Array.getElem?_append_left (by simpa [valL_len] using hpl),List.getElem?_toArray,valL_eq,List.getElem?_map,ht]
                    rfl
                  · intro a1 w1 hd1 he1 hx1
                    refine wpOps_list (F:=fun _ => False) hc (ops.toList.drop (leadB P fn.params.size ops.toList).length) _ ms (fun i hi => hi.elim) (by simp) hms (he1.rel (hg.ext hx1)) hr1 ?_
                    intro a2 w2 ts2 hd2 hr2
                    show y.wp P _ a2 w2
                    refine run_ok (F:=fun _ => False) hc y hints hh y' (fun i hi => hi.elim) hy hr2 hrun ?_
                    intro a3 w3 ts3 hd3 hr3
                    have:=key a3 w1 w3 ts3 (hd3.df.trans (hd2.df.trans hd1)) hx1 hr3
                    rcases hex with rfl | rfl
                    · exact this
                    · exact this
              · cases hmc
            · cases hmc
          · cases hf
        · cases hf
    · cases hf
  · cases hf
theorem callM_ok {call : Oracle} {g : Glob} (hc : CallsOK P g call) {fuel : Nat} {f : FuncId} {hints : List (List Bool)} {mf : MF} (hf : compF P hints f = some mf) {ds : List D} {d : D} (h : callM call fuel mf ds = some d) :
    Enters P f∧∀ (l : List C) (w : World),g.At w→erL l = ds→MemL w false l→(∀ b,cntL b l ≠ 0→b < w.heap.size) →
    Calls P f (valL l).toArray w fun e w' => ∃ t,e = .returned (val t)∧er t = d∧RowKit.Below w.heap.size w w'∧FreshT w w' t:=by
  unfold compF at hf
  unfold callM at h
  split at hf
  · cases hf
  split at hf
  · have hb : hasB mf.code = true:=by
      unfold compF1 at hf
      repeat' split at hf
      all_goals first | (cases hf; done) | skip
      rename_i hh
      cases hf
      exact hh
    rw [if_pos hb] at h
    exact callB_ok hc hf h
  · split at hf
    · rename_i mf' h0
      split at hf
      · cases hf
      · rename_i hb
        cases hf
        rw [if_neg hb] at h
        exact callF_ok hc h0 h
    · cases hf
def Env.io (g : Glob) (w : World) (t0 : C) (h : g.At w) (hb : ∀ b,g.blk b→cnt b t0 = 0) : Env:=⟨w.heap.size,fun b => cnt b t0 ≠ 0,w,g,fun b hb' => ⟨h.lt b hb',fun h => h (hb b hb')⟩,h.ok⟩
theorem entryI_ok {g : Glob} {t0 : C} {l : List C} {w : World} {mf : MF} (hg : g.At w) (hgb : ∀ b,g.blk b→cnt b t0 = 0) (hp : IOPre w t0 l) :
    Rel (.io g w t0 hg hgb) (enterI mf (er t0) (erL l)) (t0 :: List.replicate (erL l ++ List.replicate (mf.ntmps - ((erL l).length + 1)) (.v undef : D)).length (.v undef)) ((val t0 :: valL l).toArray ++ Array.replicate (mf.ntmps - (val t0 :: valL l).toArray.size) undef) w:=by
  have hz : ∀ n b,cntL b (List.replicate n (.v undef : C)) = 0:=by
    intro n b
    induction n with
    | zero => rfl
    | succ n ih => simp [List.replicate_succ,cntL,cnt,ih]
  obtain ⟨d0,k0,rfl⟩:=hp.box
  refine ⟨by simp [enterI],by simp [enterI,erL_len,valL_len]; omega,?_,?_,fun b => ?_,fun b hb => ?_,⟨rfl,rfl,rfl,Nat.le_refl _,fun _ _ _ => rfl,Nat.le_refl _⟩⟩
  · intro i x u hx hu
    cases i with
    | zero =>
      simp only [enterI,List.getElem?_cons_zero,Option.some.injEq] at hx
      subst hx
      have : u = val (.nd (.bx d0) k0):=by
        rw [Array.getElem?_append_left (by simp)] at hu
        simpa using hu.symm
      subst this
      exact ⟨_,_,rfl,rfl,rfl⟩
    | succ i =>
      have hi : i < (erL l ++ List.replicate (mf.ntmps - ((erL l).length + 1)) (.v undef : D)).length:=by
        have:=lt_of_get hx
        simp [enterI] at this ⊢
        omega
      have hleaf : ∃ y,(T.nd (.bx d0) k0 :: List.replicate (erL l ++ List.replicate (mf.ntmps - ((erL l).length + 1)) (.v undef : D)).length (.v undef : C))[i + 1]? = some (.v y):=⟨undef,by rw [List.getElem?_cons_succ,List.getElem?_replicate,if_pos hi]⟩
      simp only [enterI,List.getElem?_cons_succ] at hx
      by_cases hlt : i < l.length
      · obtain ⟨t,ht⟩ : ∃ t,l[i]? = some t:=⟨_,List.getElem?_eq_getElem hlt⟩
        have hu' : u = val t:=by
          rw [Array.getElem?_append_left (by simpa [valL_len] using hlt)] at hu
          rw [List.getElem?_toArray,List.getElem?_cons_succ,valL_eq,List.getElem?_map,ht] at hu
          simpa using hu.symm
        have hx' : x = mkRo (er t):=by
          rw [List.getElem?_append_left (by simpa [erL_len] using hlt),List.getElem?_map,erL_eq,List.getElem?_map,ht] at hx
          simpa using hx.symm
        subst hu' hx'
        have hmt:=MemL_iff.1 hp.args t (List.mem_of_getElem? ht)
        have hro : VRel (.io g w (.nd (.bx d0) k0) hg hgb) (.nd (.bx d0) k0 :: List.replicate (erL l ++ List.replicate (mf.ntmps - ((erL l).length + 1)) (.v undef : D)).length (.v undef)) (.ro (er t)) (val t):=by
          refine ⟨t,rfl,rfl,hmt,fun b hb => ?_⟩
          have hb' : cntL b l ≠ 0:=by have:=cnt_le_cntL b l i t ht; omega
          exact ⟨hp.lowA b hb',fun hw => hb' (hp.low b hw).2⟩
        refine SRel.mk ?_ hleaf
        cases t with
        | v y => rfl
        | hole d => exact hro
        | nd k kids => exact hro
      · have hx' : x = .sc undef:=by
          rw [List.getElem?_append_right (by simp [erL_len]; omega)] at hx
          rw [List.getElem?_replicate] at hx
          split at hx
          · simpa using hx.symm
          · cases hx
        have hu' : u = undef:=by
          rw [Array.getElem?_append_right (by simp [valL_len]; omega)] at hu
          rw [Array.getElem?_replicate] at hu
          split at hu
          · simpa using hu.symm
          · cases hu
        subst hx' hu'
        exact SRel.mk rfl hleaf
  · intro i t ht
    cases i with
    | zero =>
      simp only [List.getElem?_cons_zero,Option.some.injEq] at ht
      subst ht
      exact hp.mem
    | succ i =>
      rw [List.getElem?_cons_succ,List.getElem?_replicate] at ht
      split at ht
      · simp only [Option.some.injEq] at ht; subst ht; trivial
      · cases ht
  · simp only [cntL,hz]
    exact hp.uniq b
  · simp only [cntL,hz,Nat.add_zero] at hb
    exact ⟨fun ho => ho.2 hb,(hp.low b hb).1⟩
theorem callI_ok {call : Oracle} {g : Glob} (hc : CallsOK P g call) {fuel : Nat} {f : FuncId} {hints : List (List Bool)} {mf : MF} (hf : compF0 P hints f = some mf) {d0 : D} {ds : List D} {d : D} (h : callI call fuel mf d0 ds = some d) :
    Enters P f∧∀ (t0 : C) (l : List C) (w : World),g.At w→(∀ b,g.blk b→cnt b t0 = 0)→er t0 :: erL l = d0 :: ds→IOPre w t0 l →
    Calls P f (val t0 :: valL l).toArray w fun e w' => ∃ t t1,e = .returned (val t)∧d = .nd .tu [er t,er t1]∧BelowX t0 w w'∧IOPost w w' t0 t t1:=by
  unfold compF0 at hf
  split at hf
  · rename_i fn hfn
    split at hf
    · rename_i c hb
      split at hf
      · cases hf
      · rename_i hname
        split at hf
        · rename_i mc hh rs hmc hrs
          simp only [Option.some.injEq] at hf
          subst hf
          have hname' : (fn.name == "runtime.NumGoroutine") = false:=by simpa using hname
          refine ⟨⟨fn,c,hfn,hname',hb⟩,?_⟩
          intro t0 l w hg hgb hl hp
          obtain ⟨hl1,hl2⟩:=List.cons.inj hl
          subst hl1 hl2
          refine calls_of_wp hfn hb ?_
          have hent:=entryI_ok (mf:=⟨mc,fn.ntmps,rs⟩) hg hgb hp
          unfold callI at h
          split at h
          case isFalse => cases h
          rename_i hoffs
          simp only [Bool.and_eq_true] at hoffs
          obtain ⟨ex,st',hrun,hex,hres⟩ : ∃ ex st',run call fuel mc (enterI ⟨mc,fn.ntmps,rs⟩ (er t0) (erL l)) = some (ex,st')∧(ex = .norm ∨ ex = .ret)∧resI st' rs = some d:=by
            split at h
            · rename_i st1 h1; exact ⟨_,_,h1,.inl rfl,h⟩
            · rename_i st1 h1; exact ⟨_,_,h1,.inr rfl,h⟩
            · cases h
          refine run_ok (F:=fun i => i = 0) hc c hints hh mc (a:={ tmps:=(val t0 :: valL l).toArray ++ Array.replicate (fn.ntmps - (val t0 :: valL l).toArray.size) undef,defers:=[] }) (fun i hi => by subst hi; exact hoffs.1) hmc hent hrun ?_
          intro a' w' ts' hd hr
          have key : a'.defers = []∧∃ v,(results fn a'.tmps).run P w' = .ok v w'∧∃ t t1,Ending.returned v = .returned (val t)∧d = .nd .tu [er t,er t1]∧BelowX t0 w w'∧IOPost w w' t0 t t1:=by
            refine ⟨hd.df,?_⟩
            unfold resI at hres
            split at hres
            · cases hres
            rename_i hcell
            have hrs' : resTmps fn.results.toList = some rs:=by
              unfold resSlots at hrs
              split at hrs
              · split at hrs
                · split at hrs
                  · simp only [Option.some.injEq] at hrs
                    subst hrs
                    simp [resCell] at hcell
                  · cases hrs
                · cases hrs
              · exact hrs
            have hmo : MORelL a'.tmps (rs.map .t) (rs.map fun t => a'.tmps.getD t undef):=by
              have : ∀ rs : List Nat,MORelL a'.tmps (rs.map .t) (rs.map fun t => a'.tmps.getD t undef):=by
                intro rs
                induction rs with
                | nil => rfl
                | cons r rs ih => exact ⟨_,_,rfl,rfl,ih⟩
              exact this rs
            cases hta : takeAll st' (rs.map .t) with
            | none => simp [hta] at hres
            | some q =>
              obtain ⟨ds2,st2⟩:=q
              simp only [hta] at hres
              split at hres
              case h_2 => cases hres
              rename_i b kids h0
              simp only [Option.some.injEq] at hres
              subst hres
              obtain ⟨tl,ts2,g1,g2,g3,g4,_,g6⟩:=takeAll_ok _ hmo hr hta
              obtain ⟨k1,kk1,e1,e2,e3⟩:=g4.slot' h0
              have hval : val (.nd k1 kk1) = val t0:=by
                rw [e3,hd.kp 0 rfl,Array.getD_eq_getD_getElem?,Array.getElem?_append_left (by simp)]
                simp
              obtain ⟨dd,ks,hbx,_⟩:=er_bx e2
              have hrun2 : (results fn a'.tmps).run P w' = .ok (val (fromTree tl)) w':=by
                unfold results
                rw [Sem.run_bind,← Array.toArray_toList (xs:=fn.results),List.mapM_toArray,Sem.run_map,resTmps_run a'.tmps _ (fun t => rfl) _ _ hrs']
                simp only [Result.andThen_ok]
                rw [← g2,valL_eq]
                cases tl with
                | nil => rfl
                | cons t tl =>
                  cases tl with
                  | nil => rfl
                  | cons t2 tl => simp [fromTree,val,K.val,valL_eq]
              have hd2 : er (fromTree tl) = fromD ds2:=by
                subst g1
                cases tl with
                | nil => simp [fromTree,er,K.er,erL,fromD]
                | cons t tl =>
                  cases tl with
                  | nil => simp [fromTree,erL,fromD]
                  | cons t2 tl => simp [fromTree,er,K.er,erL,fromD]
              have hc1 : ∀ b,cnt b (.nd k1 kk1) ≤ cntL b ts2:=fun b => cnt_le_cntL b ts2 0 _ e1
              refine ⟨_,hrun2,fromTree tl,.nd k1 kk1,rfl,by rw [hd2,e2],⟨hr.keep.os,hr.keep.tape,hr.keep.output,hr.keep.size,fun k hk hz => hr.keep.block k hk fun h => h hz⟩,?_⟩
              refine ⟨?_,g4.mem 0 _ e1,hval,⟨_,_,hbx⟩,fun b => ?_,fun b hne => ?_⟩
              · cases tl with
                | nil => exact ⟨trivial,g3⟩
                | cons t tl =>
                  cases tl with
                  | nil => exact g3.1
                  | cons t2 tl => exact ⟨trivial,g3⟩
              · have h1:=hc1 b
                have h2:=g6 b
                have h3:=hr.uniq b
                rw [fromTree_cnt]
                omega
              · have h1:=hc1 b
                have h2:=g6 b
                rw [fromTree_cnt] at hne
                obtain ⟨h8,h9⟩:=hr.dom b (by omega)
                refine ⟨?_,h9⟩
                by_cases hz : cnt b t0 = 0
                · right
                  rcases Nat.lt_or_ge b w.heap.size with h10 | h10
                  · exact absurd ⟨h10,fun h => h hz⟩ h8
                  · exact h10
                · exact .inl hz
          rcases hex with rfl | rfl
          · exact key
          · exact key
        · cases hf
    · cases hf
  · cases hf
theorem compF_lt {hints : List (List Bool)} {f : FuncId} {mf : MF} (hf : compF P hints f = some mf) : f < ioB:=by
  unfold compF at hf
  split at hf
  · cases hf
  · rename_i h; exact Nat.lt_of_not_le h
theorem callM_io {call : Oracle} {g : Glob} (hc : CallsOK P g call) {fuel : Nat} {f : FuncId} {hints : List (List Bool)} {mf : MF} (hf : compF P hints f = some mf) {d0 : D} {ds : List D} {d : D} (h : callI call fuel mf d0 ds = some d) :
    Enters P f∧∀ (t0 : C) (l : List C) (w : World),g.At w→(∀ b,g.blk b→cnt b t0 = 0)→er t0 :: erL l = d0 :: ds→IOPre w t0 l →
    Calls P f (val t0 :: valL l).toArray w fun e w' => ∃ t t1,e = .returned (val t)∧d = .nd .tu [er t,er t1]∧BelowX t0 w w'∧IOPost w w' t0 t t1:=by
  unfold compF at hf
  split at hf
  · cases hf
  split at hf
  · have hb : hasB mf.code = true:=by
      unfold compF1 at hf
      repeat' split at hf
      all_goals first | (cases hf; done) | skip
      rename_i hh
      cases hf
      exact hh
    unfold callI at h
    rw [hb] at h
    simp at h
  · split at hf
    · rename_i mf' h0
      split at hf
      · cases hf
      · cases hf
        exact callI_ok hc h0 h
    · cases hf
theorem sem_ok {g : Glob} {tbl : FuncId→Option MF} (ht : ∀ f mf,tbl f = some mf→∃ hints,compF P hints f = some mf) (fuel : Nat) : ∀ n,CallsOK P g (sem tbl fuel n)
  | 0 => ⟨fun f ds d _ h => by simp [sem] at h,fun f ds d _ h => by simp [sem] at h⟩
  | n + 1 => by
    refine ⟨fun f ds d hlt h => ?_,fun f ds d hlt h => ?_⟩
    · simp only [sem] at h
      split at h
      · rename_i mf hmf
        obtain ⟨hints,hc⟩:=ht f mf hmf
        exact callM_ok (sem_ok ht fuel n) hc h
      · rw [if_neg (Nat.not_le_of_lt hlt)] at h
        cases h
    · simp only [sem] at h
      split at h
      · rename_i mf hmf
        obtain ⟨hints,hc⟩:=ht _ mf hmf
        exact absurd (compF_lt hc) (Nat.not_lt_of_le (Nat.le_add_left _ _))
      · rw [if_pos (Nat.le_add_left _ _),Nat.add_sub_cancel] at h
        split at h
        · rename_i mf d0 ds' hmf
          obtain ⟨hints,hc⟩:=ht f mf hmf
          exact callM_io (sem_ok ht fuel n) hc h
        · cases h
end
end Go.Mx
namespace Go.Mx
set_option linter.unusedVariables false
set_option linter.unusedSimpArgs false
set_option linter.unusedSectionVars false
open Go
def fu (f : Nat→V) (i : Nat) (v : V) : Nat→V:=fun j => if j = i then v else f j
def dd : Nat→V:=fun _ => .dead
def un' : Nat→V:=fun _ => .sc undef
def kl (r : Nat) (p : List Nat) (f : Nat→V) : Nat→V:=fun j => V.kill r p (f j)
def tab (n K : Nat) (g f : Nat→V) : St:=(List.range n).map fun i => if i < K then g i else f i
def bits (n : Nat) (ls : List Nat) : List Bool:=(List.range n).map fun i => ls.contains i
def rp (n : Nat) (x : D) : List D:=List.replicate n x
end Go.Mx
namespace Go.Mx
set_option linter.unusedVariables false
set_option linter.unusedSimpArgs false
set_option linter.unusedSectionVars false
open Go
theorem loop_succ (body : St→Option (Ex × St)) (n : Nat) (st : St) : run.loopN body (n + 1) st = match body st with
    | some (.norm,st1) => run.loopN body n st1
    | r => r:=rfl
theorem run_scr (call : Oracle) (fuel : Nat) (m : List Bool) (c : MC) (st : St) : run call fuel (.seq (.scr m) c) st = run call fuel c (drops st m):=rfl
def sl (b : Bool) (l : List Int) : D:=.nd (.sl b 1 l.length) (l.map fun n => .v (.int .i64 n))
theorem sem_succ {tbl : FuncId→Option MF} {fuel n : Nat} {f : FuncId} {ds : List D} {mf : MF} (h : tbl f = some mf) (hb : hasB mf.code = false:=by rfl) : sem tbl fuel (n + 1) f ds = callF (sem tbl fuel n) fuel mf ds:=by
  simp [sem,h,callM,hb]
theorem sem_succB {tbl : FuncId→Option MF} {fuel n : Nat} {f : FuncId} {ds : List D} {mf : MF} (h : tbl f = some mf) (hb : hasB mf.code = true:=by rfl) : sem tbl fuel (n + 1) f ds = callB (sem tbl fuel n) fuel mf ds:=by
  simp [sem,h,callM,hb]
def I64 (n : Int) : Prop:=-9223372036854775808 ≤ n∧n ≤ 9223372036854775807
theorem wrap_eq {n : Int} (h : I64 n) : IntKind.i64.wrap n = n:=by
  rw [IntKind.wrap_i64]
  unfold I64 at h
  omega
end Go.Mx
namespace Go.Mx
set_option linter.unusedVariables false
set_option linter.unusedSimpArgs false
set_option linter.unusedSectionVars false
open Go
def ArgOK (w : World) (u : Value) (d : D) : Prop:=∃ t : C,er t = d∧val t = u∧Mem w false t∧∀ b,cnt b t ≠ 0→b < w.heap.size
def ArgsOK (w : World) (us : List Value) (ds : List D) : Prop:=∃ l : List C,erL l = ds∧valL l = us∧MemL w false l∧∀ b,cntL b l ≠ 0→b < w.heap.size
theorem ArgsOK.nil (w : World) : ArgsOK w [] []:=⟨[],rfl,rfl,trivial,fun b hb => absurd rfl hb⟩
theorem ArgsOK.cons {w : World} {u : Value} {d : D} {us : List Value} {ds : List D} (h : ArgOK w u d) (k : ArgsOK w us ds) : ArgsOK w (u :: us) (d :: ds):=by
  obtain ⟨t,h1,h2,h3,h4⟩:=h
  obtain ⟨l,k1,k2,k3,k4⟩:=k
  refine ⟨t :: l,by simp [erL,h1,k1],by simp [valL,h2,k2],⟨h3,k3⟩,fun b hb => ?_⟩
  simp only [cntL] at hb
  by_cases hz : cnt b t = 0
  · exact k4 b (by omega)
  · exact h4 b hz
theorem ArgOK.sc (w : World) (v : Value) : ArgOK w v (.v v):=⟨.v v,rfl,rfl,trivial,fun b hb => absurd rfl hb⟩
theorem cell_lt {w : World} {a : Addr} {v : Value} (h : w.cell? a = some v) : a.block < w.heap.size:=by
  unfold World.cell? at h
  rcases Nat.lt_or_ge a.block w.heap.size with hl | hl
  · exact hl
  · rw [Array.getElem?_eq_none hl] at h
    simp at h
theorem cntL_v (b : Nat) (l : List Value) : cntL b (l.map T.v : List C) = 0:=by
  induction l with
  | nil => rfl
  | cons x xs ih => simp [cntL,cnt,ih]
theorem MemL_v (w : World) (o : Bool) (l : List Value) : MemL w o (l.map T.v : List C):=by
  induction l with
  | nil => trivial
  | cons x xs ih => exact ⟨trivial,ih⟩
theorem resI_nd {st : St} {rs : List Nat} {v : Value} (h : resI st rs = some (.v v)) : False:=by
  unfold resI at h
  split at h
  · cases h
  · split at h
    · split at h
      · cases h
      · cases h
    · cases h
theorem sem_lt {P : Program} {tbl : FuncId→Option MF} (ht : ∀ f mf,tbl f = some mf→∃ hints,compF P hints f = some mf) {fuel n : Nat} {f : FuncId} {ds : List D} {v : Value} (h : sem tbl fuel n f ds = some (.v v)) : f < ioB:=by
  cases n with
  | zero => simp [sem] at h
  | succ n =>
    simp only [sem] at h
    split at h
    · rename_i mf hmf
      obtain ⟨hints,hc⟩:=ht f mf hmf
      exact compF_lt hc
    · split at h
      · split at h
        · unfold callI at h
          split at h
          · split at h
            · exact (resI_nd h).elim
            · exact (resI_nd h).elim
            · cases h
          · cases h
        · cases h
      · cases h
theorem calls_sem {P : Program} {tbl : FuncId→Option MF} (ht : ∀ f mf,tbl f = some mf→∃ hints,compF P hints f = some mf) {fuel n : Nat} {f : FuncId} {ds : List D} {v : Value} (h : sem tbl fuel n f ds = some (.v v))
    {w : World} {us : List Value} (ha : ArgsOK w us ds) : Calls P f us.toArray w fun e w' => e = .returned v∧RowKit.Below w.heap.size w w':=by
  obtain ⟨l,h1,h2,h3,h4⟩:=ha
  have:=((sem_ok (g:=Glob.none) ht fuel n).reg f ds (.v v) (sem_lt ht h) h).2 l w (Glob.none_at w) h1 h3 h4
  rw [h2] at this
  refine Calls.mono this ?_
  rintro e w' ⟨t,rfl,he,hb,_⟩
  cases er_eq_v he
  exact ⟨rfl,hb⟩
def BaseOK (P : Program) (g : Glob) (base : Oracle) : Prop:=∀ f ds d,f < ioB→base f ds = some d→Enters P f∧∀ (l : List C) (w : World),g.At w→erL l = ds→MemL w false l→(∀ b,cntL b l ≠ 0→b < w.heap.size) →
    Calls P f (valL l).toArray w fun e w' => ∃ t,e = .returned (val t)∧er t = d∧RowKit.Below w.heap.size w w'∧FreshT w w' t
noncomputable def semB (base : Oracle) (tbl : FuncId→Option MF) (fuel : Nat) : Nat→Oracle
  | 0 => fun _ _ => none
  | n + 1 => fun f ds => match tbl f with
    | some mf => callM (semB base tbl fuel n) fuel mf ds
    | none => if ioB ≤ f then match tbl (f - ioB),ds with
        | some mf,d0 :: ds' => callI (semB base tbl fuel n) fuel mf d0 ds'
        | _,_ => none
      else base f ds
theorem semB_ok {P : Program} {g : Glob} {base : Oracle} (hb : BaseOK P g base) {tbl : FuncId→Option MF} (ht : ∀ f mf,tbl f = some mf→∃ hints,compF P hints f = some mf) (fuel : Nat) : ∀ n,CallsOK P g (semB base tbl fuel n)
  | 0 => ⟨fun f ds d _ h => by simp [semB] at h,fun f ds d _ h => by simp [semB] at h⟩
  | n + 1 => by
    refine ⟨fun f ds d hlt h => ?_,fun f ds d hlt h => ?_⟩
    · simp only [semB] at h
      split at h
      · rename_i mf hmf
        obtain ⟨hints,hc⟩:=ht f mf hmf
        exact callM_ok (semB_ok hb ht fuel n) hc h
      · rw [if_neg (Nat.not_le_of_lt hlt)] at h
        exact hb f ds d hlt h
    · simp only [semB] at h
      split at h
      · rename_i mf hmf
        obtain ⟨hints,hc⟩:=ht _ mf hmf
        exact absurd (compF_lt hc) (Nat.not_lt_of_le (Nat.le_add_left _ _))
      · rw [if_pos (Nat.le_add_left _ _),Nat.add_sub_cancel] at h
        split at h
        · rename_i mf d0 ds' hmf
          obtain ⟨hints,hc⟩:=ht f mf hmf
          exact callM_io (semB_ok hb ht fuel n) hc h
        · cases h
theorem semB_succ {base : Oracle} {tbl : FuncId→Option MF} {fuel n : Nat} {f : FuncId} {ds : List D} {mf : MF} (h : tbl f = some mf) (hb : hasB mf.code = false:=by rfl) : semB base tbl fuel (n + 1) f ds = callF (semB base tbl fuel n) fuel mf ds:=by
  simp [semB,h,callM,hb]
theorem semB_succB {base : Oracle} {tbl : FuncId→Option MF} {fuel n : Nat} {f : FuncId} {ds : List D} {mf : MF} (h : tbl f = some mf) (hb : hasB mf.code = true:=by rfl) : semB base tbl fuel (n + 1) f ds = callB (semB base tbl fuel n) fuel mf ds:=by
  simp [semB,h,callM,hb]
theorem semB_base {base : Oracle} {tbl : FuncId→Option MF} {fuel n : Nat} {f : FuncId} {ds : List D} (h : tbl f = none) (hlt : f < ioB) : semB base tbl fuel (n + 1) f ds = base f ds:=by
  simp only [semB]
  rw [h]
  simp only [if_neg (Nat.not_le_of_lt hlt)]
theorem calls_semB {P : Program} {g : Glob} {base : Oracle} (hbase : BaseOK P g base) {tbl : FuncId→Option MF} (ht : ∀ f mf,tbl f = some mf→∃ hints,compF P hints f = some mf) {fuel n : Nat} {f : FuncId} (hlt : f < ioB) {ds : List D} {v : Value} (h : semB base tbl fuel n f ds = some (.v v))
    {w : World} (hg : g.At w) {us : List Value} (ha : ArgsOK w us ds) : Calls P f us.toArray w fun e w' => e = .returned v∧RowKit.Below w.heap.size w w':=by
  obtain ⟨l,h1,h2,h3,h4⟩:=ha
  have:=((semB_ok hbase ht fuel n).reg f ds (.v v) hlt h).2 l w hg h1 h3 h4
  rw [h2] at this
  refine Calls.mono this ?_
  rintro e w' ⟨t,rfl,he,hb,_⟩
  cases er_eq_v he
  exact ⟨rfl,hb⟩
theorem wf_i64 {n : Int} (h : (Lit.int .i64 n).wf = true) : I64 n:=by
  have h1 : IntKind.i64.min ≤ n∧n ≤ IntKind.i64.max:=by simpa [Lit.wf] using h
  have e1 : IntKind.i64.min = -9223372036854775808:=by decide
  have e2 : IntKind.i64.max = 9223372036854775807:=by decide
  rw [e1,e2] at h1
  exact h1
end Go.Mx
