import Derived.Test.YthahhbbfhohhfaaMgD
import Derived.Laws.StructEq
/-
  Mx,part I: the operations that read memory.
-/
namespace Go.Mx
set_option linter.unusedVariables false
set_option linter.unusedSimpArgs false
set_option linter.unusedSectionVars false
open Go
section
variable {P : Program} {E : Env} {st st' : St} {ts : List C} {a : Act} {w : World}
theorem elemAt_ok {tm : Array Value} (hr : Rel E st ts tm w) {es n : Nat} {x y : V} {u : Value} (hv : VRel E ts x u) (h : elemAt st es x n = some y) :
    ∃ ad len cap,u = .slice (some ad) len cap∧n < len∧VRel E ts y (.pointer (some (ad.add (n * es)))):=by
  unfold elemAt at h
  split at h
  · rename_i r p
    split at h
    · rename_i b es0 n0 kids hp
      split at h
      · rename_i hc
        cases h
        obtain ⟨t0,s,h1,h2,h3,_⟩:=hr.place hp
        obtain ⟨t1,k,kids1,f1,f2,f3⟩:=hv
        rw [h1] at f1; cases f1
        rw [h2] at f2; cases f2
        obtain ⟨k',kids',he,hk,hks⟩:=er_eq_nd h3
        cases he
        cases k with
        | sl d es1 n1 =>
          simp only [K.er,K.sl.injEq] at hk
          obtain ⟨_,rfl,rfl⟩:=hk
          have hm:=Mem_getAt (hr.mem r _ h1) h2
          obtain ⟨⟨g1,g2,g3,g4⟩,_⟩:=hm
          cases hda : d.a with
          | none => have:=g3 hda; omega
          | some ad =>
            refine ⟨ad,n1,d.cap,by rw [← f3]; simp [val,K.val,hda],hc.1,t0,.sl d es1 n1,kids1,ad,h1,h2,hda,rfl⟩
        | _ => simp [K.er] at hk
      · cases h
    · cases h
  · rename_i r p lo es' n0
    split at h
    · rename_i b es0 n1 kids hp
      split at h
      · rename_i hc
        cases h
        obtain ⟨t1,d,n2,kids2,c,aa,ad,f1,f2,f3,f4,f5,f6',f6⟩:=hv
        have hc0 : c ≠ 0:=by omega
        refine ⟨ad,n0,c,f6,hc.1,t1,.sl d es' n2,kids2,aa,f1,f2,f5,?_⟩
        rw [f6' hc0,Addr.add_add']
      · cases h
    · cases h
  · rename_i b es0 n0 kids
    split at h
    · rename_i hc
      cases h
      obtain ⟨t,h1,h2,h3,h4⟩:=hv
      obtain ⟨k',kids',rfl,hk,hks⟩:=er_eq_nd h1
      cases k' with
      | sl d es1 n1 =>
        simp only [K.er,K.sl.injEq] at hk
        obtain ⟨_,rfl,rfl⟩:=hk
        obtain ⟨⟨g1,g2,g3,g4⟩,g5⟩:=h3
        cases hda : d.a with
        | none => have:=g3 hda; omega
        | some ad =>
          have hcap : d.cap ≠ 0:=by omega
          refine ⟨ad,n1,d.cap,by rw [← h2]; simp [val,K.val,hda],hc.1,kids',ad,hks,(g4 ad hda).1,g5,fun b hb => h4 b (by simp only [cnt]; omega),fun _ => h4 ad.block (by simp [cnt,K.own,hda,hcap]),rfl⟩
      | _ => simp [K.er] at hk
    · cases h
  · cases h
theorem ixs_ok (hr : Rel E st ts a.tmps w) {o : Oper} {t e : TypeId} {x i : Operand} (ho : o.op = .indexAddr t x i) (ht : P.underlying t = some (.slice e)) {es : Nat} (hes : sizeT P e = some es)
    {d e1 e2 : Nat} (hd : o.dst = some d) {mx mi : MO} (hx : opd e1 x = some mx) (hi : opd e2 i = some mi) {call : Oracle} (hs : step call st (.ixs d es mx mi) = some st') : Goes P E o a w st':=by
  simp only [step] at hs
  cases hn : asNat (ev st mi) with
  | none => simp [hn] at hs
  | some n =>
    simp only [hn] at hs
    obtain ⟨k,hk⟩:=ev_nat hr hi hn
    cases he : elemAt st es (ev st mx) n with
    | none => simp [he] at hs
    | some y =>
      simp only [he,Option.some.injEq] at hs
      subst hs
      obtain ⟨ad,len,cap,h1,h2,h3⟩:=elemAt_ok hr (ev_ok hr (opd_ok (a:=a) hx)) he
      refine goes_value (v:=.pointer (some (ad.add (n * es)))) (w':=w) ?_ ?_ (ts':=ts.set d (.v undef))
      · have hlt : (n : Int) < len:=by omega
        simp [execOp,ho,Instr.indexAt,hk,h1,asIntOf,run_underlying ht,run_sizeOf' hes,hlt,show ¬ len ≤ n by omega]
      · rw [hd]; exact hr.set d h3
theorem addAt_ok {tm : Array Value} (hr : Rel E st ts tm w) {off : Nat} {x y : V} {u : Value} (hv : VRel E ts x u) (h : addAt st x off = some y) :
    ∃ ad,u = .pointer (some ad)∧VRel E ts y (.pointer (some (ad.add off))):=by
  unfold addAt at h
  split at h
  · rename_i r p c
    cases h
    obtain ⟨t0,k,kids,ad,h1,h2,h3,h4⟩:=hv
    exact ⟨ad.add c,h4,t0,k,kids,ad,h1,h2,h3,by rw [Addr.add_add']⟩
  · rename_i kids c
    cases h
    obtain ⟨ks,ad,h1,h2,h3,h4,h5,h6⟩:=hv
    exact ⟨ad.add c,h6,ks,ad,h1,h2,h3,h4,h5,by rw [Addr.add_add']⟩
  · rename_i r p
    split at h
    · rename_i b kids hp
      cases h
      obtain ⟨t0,s,h1,h2,h3,_⟩:=hr.place hp
      obtain ⟨t1,k,kids1,f1,f2,f3⟩:=hv
      rw [h1] at f1; cases f1
      rw [h2] at f2; cases f2
      obtain ⟨k',kids',he,hk,hks⟩:=er_eq_nd h3
      cases he
      cases k with
      | bx d =>
        have hm:=Mem_getAt (hr.mem r _ h1) h2
        obtain ⟨⟨ad,hda,g1,g2⟩,_⟩:=hm
        exact ⟨ad,by rw [← f3]; simp [val,K.val,hda],t0,.bx d,kids1,ad,h1,h2,hda,rfl⟩
      | _ => simp [K.er] at hk
    · cases h
  · rename_i b kids
    cases h
    obtain ⟨t,h1,h2,h3,h4⟩:=hv
    obtain ⟨k',kids',rfl,hk,hks⟩:=er_eq_nd h1
    cases k' with
    | bx d =>
      obtain ⟨⟨ad,hda,g1,g2⟩,g3⟩:=h3
      exact ⟨ad,by rw [← h2]; simp [val,K.val,hda],kids',ad,hks,g1,g3,fun b hb => h4 b (by simp only [cnt]; omega),fun _ => h4 ad.block (by simp [cnt,K.own,hda]),rfl⟩
    | _ => simp [K.er] at hk
  · cases h
theorem ixa_ok (hr : Rel E st ts a.tmps w) {o : Oper} {t e : TypeId} {x i : Operand} (ho : o.op = .indexAddr t x i) {len : Nat} (ht : P.underlying t = some (.array len e)) {es : Nat} (hes : sizeT P e = some es)
    {d e1 e2 : Nat} (hd : o.dst = some d) {mx mi : MO} (hx : opd e1 x = some mx) (hi : opd e2 i = some mi) {call : Oracle} (hs : step call st (.ixa d es len mx mi) = some st') : Goes P E o a w st':=by
  simp only [step] at hs
  cases hn : asNat (ev st mi) with
  | none => simp [hn] at hs
  | some n =>
    simp only [hn] at hs
    obtain ⟨k,hk⟩:=ev_nat hr hi hn
    split at hs
    · rename_i hlt0
      cases he : addAt st (ev st mx) (n * es) with
      | none => simp [he] at hs
      | some y =>
        simp only [he,Option.some.injEq] at hs
        subst hs
        obtain ⟨ad,h1,h2⟩:=addAt_ok hr (ev_ok hr (opd_ok (a:=a) hx)) he
        refine goes_value (v:=.pointer (some (ad.add (n * es)))) (w':=w) ?_ ?_ (ts':=ts.set d (.v undef))
        · have hlt : (n : Int) < len:=by omega
          simp [execOp,ho,Instr.indexAt,hk,h1,asIntOf,run_underlying ht,run_sizeOf' hes,hlt,Instr.sureAddr,show ¬ len ≤ n by omega]
        · rw [hd]; exact hr.set d h2
    · cases hs
theorem fa_ok (hr : Rel E st ts a.tmps w) {o : Oper} {t : TypeId} {x : Operand} {i : Nat} (ho : o.op = .fieldAddr t x i) {fs : Array Field} (ht : P.underlying t = some (.struct fs)) {f : Field} (hf : fs[i]? = some f) {s : Nat} (hfs : sizeT P f.type = some s) (hs0 : s ≠ 0)
    {d e1 : Nat} (hd : o.dst = some d) {mx : MO} (hx : opd e1 x = some mx) {call : Oracle} (hs : step call st (.fa d f.offset mx) = some st') : Goes P E o a w st':=by
  simp only [step] at hs
  cases he : addAt st (ev st mx) f.offset with
  | none => simp [he] at hs
  | some y =>
    simp only [he,Option.some.injEq] at hs
    subst hs
    obtain ⟨ad,h1,h2⟩:=addAt_ok hr (ev_ok hr (opd_ok (a:=a) hx)) he
    refine goes_value (v:=.pointer (some (ad.add f.offset))) (w':=w) ?_ ?_ (ts':=ts.set d (.v undef))
    · simp [execOp,ho,Instr.fieldAt,h1,run_underlying ht,hf,Instr.sureAddr,fieldPlace,run_sizeOf' hfs,hs0]
    · rw [hd]; exact hr.set d h2
theorem erL_get {l : List C} {i : Nat} : (erL l)[i]? = (l[i]?).map er:=by rw [erL_eq,List.getElem?_map]
theorem valL_get {l : List C} {i : Nat} : (valL l)[i]? = (l[i]?).map val:=by rw [valL_eq,List.getElem?_map]
theorem cellV_ok {r : Nat} {p : List Nat} {t0 : C} {k : K Dec} {ks : List C} (h1 : ts[r]? = some t0) (h2 : getAt t0 p = some (.nd k ks)) {c : Nat} {y : V} (h : cellV r p (erL ks) c = some y) :
    ∃ t,ks[c]? = some t∧VRel E ts y (val t):=by
  unfold cellV at h
  rw [erL_get] at h
  cases hk : ks[c]? with
  | none => simp [hk] at h
  | some t =>
    refine ⟨t,rfl,?_⟩
    simp only [hk,Option.map_some] at h
    cases t with
    | v x => simp only [er,Option.some.injEq] at h; subst h; rfl
    | hole d => simp [er] at h
    | nd k' kids' =>
      simp only [er,Option.some.injEq] at h; subst h
      refine ⟨t0,k',kids',h1,?_,rfl⟩
      rw [getAt_append,h2]
      simp [getAt,hk]
theorem cellR_ok {ks : List C} (hm : MemL E.w0 false ks) (ho : ∀ b,cntL b ks ≠ 0→Old E b) {c : Nat} {y : V} (h : cellR (erL ks) c = some y) :
    ∃ t,ks[c]? = some t∧VRel E ts y (val t):=by
  unfold cellR at h
  rw [erL_get] at h
  cases hk : ks[c]? with
  | none => simp [hk] at h
  | some t =>
    refine ⟨t,rfl,?_⟩
    simp only [hk,Option.map_some] at h
    cases t with
    | v x => simp only [er,Option.some.injEq] at h; subst h; rfl
    | hole d => simp [er] at h
    | nd k' kids' =>
      simp only [er,Option.some.injEq] at h; subst h
      refine ⟨.nd k' kids',by rw [er],rfl,MemL_iff.1 hm _ (List.mem_of_getElem? hk),fun b hb => ho b ?_⟩
      have:=cnt_le_cntL b ks c _ hk
      omega
theorem kidsOf_some {d : D} {kids : List D} (h : kidsOf d = some kids) : (∃ b es n,d = .nd (.sl b es n) kids) ∨ ∃ b,d = .nd (.bx b) kids:=by
  unfold kidsOf at h
  split at h
  · cases h; exact .inl ⟨_,_,_,rfl⟩
  · cases h; exact .inr ⟨_,rfl⟩
  · cases h
theorem boxKids_some {d : D} {kids : List D} (h : boxKids d = some kids) : ∃ b,d = .nd (.bx b) kids:=by
  unfold boxKids at h
  split at h
  · cases h; exact ⟨_,rfl⟩
  · cases h
theorem cells_of {k : K Dec} {ks : List C} {o : Bool} (hm : Mem w o (.nd k ks)) {ad : Addr} (ha : addrOf (.nd k ks) = some ad) : Cells w ad (valL ks):=by
  cases k with
  | sl d es n => exact (hm.1.2.2.2 ad ha).1
  | bx d =>
    obtain ⟨a',h1,h2,_⟩:=hm.1
    simp only [addrOf] at ha
    rw [h1] at ha; cases ha
    exact h2
  | ag => simp [addrOf] at ha
  | tu => simp [addrOf] at ha
  | fn f nf => simp [addrOf] at ha
inductive Leads (st : St) : V→(Nat→Option V)→(Nat→Nat→Option V)→List D→Nat→Prop where
  | ad {r p c d kids} : placeD st r p = some d→kidsOf d = some kids→Leads st (.ad r p c) (cellV r p kids) (aggV r p kids) kids c
  | ref {r p d kids} : placeD st r p = some d→boxKids d = some kids→Leads st (.ref r p) (cellV r p kids) (aggV r p kids) kids 0
  | rad {kids c} : Leads st (.rad kids c) (cellR kids) (aggR kids) kids c
  | ro {b kids} : Leads st (.ro (.nd (.bx b) kids)) (cellR kids) (aggR kids) kids 0
theorem load1_leads {x y : V} (h : load1 st x = some y) : ∃ f g kids c,Leads st x f g kids c∧f c = some y:=by
  unfold load1 at h
  split at h
  · rename_i r p c
    split at h
    · rename_i d hp
      split at h
      · rename_i kids hk; exact ⟨_,_,_,_,.ad hp hk,h⟩
      · cases h
    · cases h
  · rename_i r p
    split at h
    · rename_i d hp
      split at h
      · rename_i kids hk; exact ⟨_,_,_,_,.ref hp hk,h⟩
      · cases h
    · cases h
  · exact ⟨_,_,_,_,.rad,h⟩
  · exact ⟨_,_,_,_,.ro,h⟩
  · cases h
theorem loadN_leads {x y : V} {m : Nat} (h : loadN st x m = some y) : ∃ f g kids c,Leads st x f g kids c∧g c m = some y:=by
  unfold loadN at h
  split at h
  · rename_i r p c
    split at h
    · rename_i d hp
      split at h
      · rename_i kids hk; exact ⟨_,_,_,_,.ad hp hk,h⟩
      · cases h
    · cases h
  · rename_i r p
    split at h
    · rename_i d hp
      split at h
      · rename_i kids hk; exact ⟨_,_,_,_,.ref hp hk,h⟩
      · cases h
    · cases h
  · exact ⟨_,_,_,_,.rad,h⟩
  · exact ⟨_,_,_,_,.ro,h⟩
  · cases h
theorem allSc {ks : List C} (h : (erL ks).all isSc = true) : ∃ l : List Value,ks = l.map .v:=by
  induction ks with
  | nil => exact ⟨[],rfl⟩
  | cons t ks ih =>
    simp only [erL,List.all_cons,Bool.and_eq_true] at h
    obtain ⟨l,rfl⟩:=ih h.2
    cases t with
    | v x => exact ⟨x :: l,rfl⟩
    | hole d => simp [er,isSc] at h
    | nd k kids => simp [er,isSc] at h
theorem valL_v (l : List Value) : valL (l.map T.v) = l:=by
  rw [valL_eq,List.map_map]
  induction l with
  | nil => rfl
  | cons x xs ih => simp [ih,val]
theorem erL_v (l : List Value) : erL (l.map T.v) = l.map T.v:=by
  rw [erL_eq,List.map_map]
  induction l with
  | nil => rfl
  | cons x xs ih => simp [ih,er]
theorem seqM_ok {l : List (Option V)} {vs : List V} (h : seqM l = some vs) : l = vs.map some:=by
  induction l generalizing vs with
  | nil => simp only [seqM,Option.some.injEq] at h; subst h; rfl
  | cons x l ih =>
    cases x with
    | none => simp [seqM] at h
    | some y =>
      simp only [seqM] at h
      cases hs : seqM l with
      | none => simp [hs] at h
      | some ys => simp only [hs,Option.some.injEq] at h; subst h; simp [ih hs]
theorem VRelL_of {xs : List V} {us : List Value} (hl : xs.length = us.length) (h : ∀ (i : Nat) x u,xs[i]? = some x→us[i]? = some u→VRel E ts x u) : VRelL E ts xs us:=by
  induction xs generalizing us with
  | nil => cases us with
    | nil => rfl
    | cons _ _ => simp at hl
  | cons x xs ih =>
    cases us with
    | nil => simp at hl
    | cons u us =>
      exact ⟨u,us,rfl,h 0 x u rfl rfl,ih (by simpa using hl) fun i x' u' h1 h2 => h (i + 1) x' u' (by simpa using h1) (by simpa using h2)⟩
theorem leads_ok {tm : Array Value} (hr : Rel E st ts tm w) {x : V} {u : Value} (hv : VRel E ts x u) {f : Nat→Option V} {g : Nat→Nat→Option V} {kids : List D} {c : Nat} (h : Leads st x f g kids c) :
    ∃ (ad : Addr) (ks : List C),u = .pointer (some (ad.add c))∧erL ks = kids∧Cells w ad (valL ks)∧(∀ i y,f i = some y→∃ t,ks[i]? = some t∧VRel E ts y (val t)) ∧
      (∀ i m y,g i m = some y→i + m ≤ ks.length∧VRel E ts y (.agg ((valL ks).drop i |>.take m).toArray)):=by
  have agV : ∀ {r p t0 k ks},ts[r]? = some t0→getAt t0 p = some (.nd k ks)→∀ i m y,aggV r p (erL ks) i m = some y→i + m ≤ ks.length∧VRel E ts y (.agg ((valL ks).drop i |>.take m).toArray):=by
    intro r p t0 k ks h1 h2 i m y hy
    unfold aggV at hy
    split at hy
    · rename_i hlen
      rw [erL_len] at hlen
      refine ⟨hlen,?_⟩
      simp only [] at hy
      split at hy
      · rename_i hsc
        cases hy
        rw [← erL_drop,← erL_take] at hsc ⊢
        obtain ⟨l,hl⟩:=allSc hsc
        have hval : ((valL ks).drop i).take m = l:=by rw [← valL_drop,← valL_take,hl,valL_v]
        rw [hval,hl,erL_v]
        exact Kon.ro (kon_agg l)
      · split at hy
        · rename_i vs hvs
          cases hy
          have he:=seqM_ok hvs
          have hlv : vs.length = m:=by have:=congrArg List.length he; simpa using this.symm
          refine ⟨_,VRelL_of (us:=((valL ks).drop i).take m) ?_ ?_,rfl⟩
          · simp [hlv,valL_len]; omega
          · intro j x' u' hx hu
            have hj : j < m:=by have:=lt_of_get hx; omega
            have hcell : cellV r p (erL ks) (i + j) = some x':=by
              have h3:=congrArg (fun l => l[j]?) he
              simp [hj,hx] at h3
              exact h3
            obtain ⟨t,ht,hvt⟩:=cellV_ok (E:=E) h1 h2 hcell
            rw [List.getElem?_take,if_pos hj,List.getElem?_drop,valL_get,ht] at hu
            simp only [Option.map_some,Option.some.injEq] at hu
            rw [← hu]; exact hvt
        · cases hy
    · cases hy
  have agR : ∀ {ks : List C},MemL E.w0 false ks→(∀ b,cntL b ks ≠ 0→Old E b)→∀ i m y,aggR (erL ks) i m = some y→i + m ≤ ks.length∧VRel E ts y (.agg ((valL ks).drop i |>.take m).toArray):=by
    intro ks hm ho i m y hy
    unfold aggR at hy
    split at hy
    · rename_i hlen
      rw [erL_len] at hlen
      refine ⟨hlen,?_⟩
      cases hy
      refine ⟨.nd .ag ((ks.drop i).take m),by rw [er,erL_take,erL_drop]; rfl,by simp [val,K.val,valL_take,valL_drop],⟨trivial,MemL_take (MemL_drop hm i) m⟩,fun b hb => ho b ?_⟩
      have e1:=cntL_take_drop b (ks.drop i) m
      have e2:=cntL_take_drop b ks i
      simp only [cnt,K.own] at hb
      omega
    · cases hy
  cases h with
  | @ad r p c d kids hp hk =>
    obtain ⟨t0,s,h1,h2,h3,_⟩:=hr.place hp
    obtain ⟨t1,k,kids1,ad,f1,f2,f3,f4⟩:=hv
    rw [h1] at f1; cases f1
    rw [h2] at f2; cases f2
    have hks : erL kids1 = kids:=by
      rcases kidsOf_some hk with ⟨b,es,n,rfl⟩ | ⟨b,rfl⟩ <;> (simp only [er,T.nd.injEq] at h3; exact h3.2)
    subst hks
    exact ⟨ad,kids1,f4,rfl,cells_of (Mem_getAt (hr.mem r _ h1) h2) f3,fun i y hy => cellV_ok h1 h2 hy,agV h1 h2⟩
  | @ref r p d kids hp hk =>
    obtain ⟨t0,s,h1,h2,h3,_⟩:=hr.place hp
    obtain ⟨t1,k,kids1,f1,f2,f3⟩:=hv
    rw [h1] at f1; cases f1
    rw [h2] at f2; cases f2
    obtain ⟨b,rfl⟩:=boxKids_some hk
    obtain ⟨k',kids',he,hk',hks⟩:=er_eq_nd h3
    cases he
    cases k with
    | bx d =>
      have hm:=Mem_getAt (hr.mem r _ h1) h2
      obtain ⟨ad,hda,g1,g2⟩:=hm.1
      refine ⟨ad,kids1,by rw [← f3]; simp [val,K.val,hda,Addr.add],hks,g1,?_,?_⟩
      · subst hks; exact fun i y hy => cellV_ok h1 h2 hy
      · subst hks; exact agV h1 h2
    | _ => simp [K.er] at hk'
  | @rad kids c =>
    obtain ⟨ks,ad,h1,h2,h3,h4,h5,h6⟩:=hv
    refine ⟨ad,ks,h6,h1,?_,?_,?_⟩
    · by_cases hks : kids = []
      · intro i u hu
        have : ks = []:=by
          have:=congrArg List.length h1
          rw [erL_len,hks] at this
          exact List.length_eq_zero_iff.1 this
        subst this
        simp [valL] at hu
      · exact h2.same (hr.keep.block _ (h5 hks).1 (h5 hks).2)
    · subst h1; exact fun i y hy => cellR_ok h3 h4 hy
    · subst h1; exact agR h3 h4
  | @ro b kids =>
    obtain ⟨t,h1,h2,h3,h4⟩:=hv
    obtain ⟨k',kids',rfl,hk,hks⟩:=er_eq_nd h1
    cases k' with
    | bx d =>
      obtain ⟨⟨ad,hda,g1,g2⟩,g3⟩:=h3
      have hold : Old E ad.block:=h4 ad.block (by simp [cnt,K.own,hda])
      have ho : ∀ b,cntL b kids' ≠ 0→Old E b:=fun b hb => h4 b (by simp only [cnt]; omega)
      refine ⟨ad,kids',by rw [← h2]; simp [val,K.val,hda,Addr.add],hks,g1.same (hr.keep.block _ hold.1 hold.2),?_,?_⟩
      · subst hks; exact fun i y hy => cellR_ok g3 ho hy
      · subst hks; exact agR g3 ho
    | _ => simp [K.er] at hk
theorem isAggT_true {t : TypeId} (h : isAggT P t = true) (w : World) : (isAgg t).run P w = .ok true w:=by
  unfold isAggT at h
  split at h
  · rename_i hu; simp [isAgg,run_underlying hu]
  · rename_i hu; simp [isAgg,run_underlying hu]
  · cases h
theorem isAggT_false {t : TypeId} {d : TypeDesc} (h : isAggT P t = false) (hu : P.underlying t = some d) (w : World) : (isAgg t).run P w = .ok false w:=by
  unfold isAggT at h
  rw [hu] at h
  cases d <;> simp at h <;> simp [isAgg,run_underlying hu]
theorem ld1_ok (hr : Rel E st ts a.tmps w) {o : Oper} {t : TypeId} {x : Operand} (ho : o.op = .load t x) (hag : isAggT P t = false) {ds : TypeDesc} (hu : P.underlying t = some ds)
    {d e1 : Nat} (hd : o.dst = some d) {mx : MO} (hx : opd e1 x = some mx) {call : Oracle} (hs : step call st (.ld1 d mx) = some st') : Goes P E o a w st':=by
  simp only [step] at hs
  cases he : load1 st (ev st mx) with
  | none => simp [he] at hs
  | some y =>
    simp only [he,Option.some.injEq] at hs
    subst hs
    obtain ⟨f,g,kids,c,h1,h2⟩:=load1_leads he
    obtain ⟨ad,ks,g1,g2,g3,g4,_⟩:=leads_ok hr (ev_ok hr (opd_ok (a:=a) hx)) h1
    obtain ⟨tt,h3,h4⟩:=g4 c y h2
    have hcell:=g3 c (val tt) (by rw [valL_get,h3]; rfl)
    refine goes_value (v:=val tt) (w':=w) ?_ ?_ (ts':=ts.set d (.v undef))
    · simp [execOp,ho,Instr.loadAt,g1,Instr.sureAddr,loadVar,isAggT_false hag hu,hcell]
    · rw [hd]; exact hr.set d h4
theorem ldn_ok (hr : Rel E st ts a.tmps w) {o : Oper} {t : TypeId} {x : Operand} (ho : o.op = .load t x) (hag : isAggT P t = true) {m : Nat} (hm : sizeT P t = some m)
    {d e1 : Nat} (hd : o.dst = some d) {mx : MO} (hx : opd e1 x = some mx) {call : Oracle} (hs : step call st (.ldn d m mx) = some st') : Goes P E o a w st':=by
  simp only [step] at hs
  cases he : loadN st (ev st mx) m with
  | none => simp [he] at hs
  | some y =>
    simp only [he,Option.some.injEq] at hs
    subst hs
    obtain ⟨f,g,kids,c,h1,h2⟩:=loadN_leads he
    obtain ⟨ad,ks,g1,g2,g3,_,g4⟩:=leads_ok hr (ev_ok hr (opd_ok (a:=a) hx)) h1
    obtain ⟨h3,h4⟩:=g4 c m y h2
    have hlen : (((valL ks).drop c).take m).length = m:=by simp [valL_len]; omega
    have hl:=run_loadCells_list (P:=P) w (ad.add c) (((valL ks).drop c).take m) (fun j v hj => (g3.drop c).take m j v hj)
    rw [hlen] at hl
    refine goes_value (v:=.agg (((valL ks).drop c).take m).toArray) (w':=w) ?_ ?_ (ts':=ts.set d (.v undef))
    · simp [execOp,ho,Instr.loadAt,g1,Instr.sureAddr,loadVar,isAggT_true hag,run_sizeOf' hm,hl]
    · rw [hd]; exact hr.set d h4
end
end Go.Mx
namespace Go.Mx
set_option linter.unusedVariables false
set_option linter.unusedSimpArgs false
set_option linter.unusedSectionVars false
open Go
section
variable {P : Program} {E : Env} {st st' : St} {ts : List C} {a : Act} {w : World}
theorem VRelL_get {xs : List V} {us : List Value} (h : VRelL E ts xs us) {i : Nat} {x : V} (hx : xs[i]? = some x) : ∃ u,us[i]? = some u∧VRel E ts x u:=by
  induction xs generalizing us i with
  | nil => simp at hx
  | cons y ys ih =>
    obtain ⟨u,us',rfl,h1,h2⟩:=h
    cases i with
    | zero => simp at hx; subst hx; exact ⟨u,rfl,h1⟩
    | succ i => simp at hx; obtain ⟨v,h3,h4⟩:=ih h2 hx; exact ⟨v,by simpa using h3,h4⟩
theorem er_ag {t : C} {kids : List D} (h : er t = .nd .ag kids) : ∃ ks,t = .nd .ag ks∧erL ks = kids:=by
  obtain ⟨k,ks,rfl,hk,hks⟩:=er_eq_nd h
  cases k <;> simp [K.er] at hk
  exact ⟨ks,rfl,hks⟩
theorem er_sl {t : C} {b : Bool} {es n : Nat} {kids : List D} (h : er t = .nd (.sl b es n) kids) : ∃ d ks,t = .nd (.sl d es n) ks∧erL ks = kids∧d.a.isNone = b:=by
  obtain ⟨k,ks,rfl,hk,hks⟩:=er_eq_nd h
  cases k <;> simp [K.er] at hk
  obtain ⟨h1,rfl,rfl⟩:=hk
  exact ⟨_,ks,rfl,hks,h1⟩
theorem er_bx {t : C} {b : Bool} {kids : List D} (h : er t = .nd (.bx b) kids) : ∃ d ks,t = .nd (.bx d) ks∧erL ks = kids:=by
  obtain ⟨k,ks,rfl,hk,hks⟩:=er_eq_nd h
  cases k <;> simp [K.er] at hk
  exact ⟨_,ks,rfl,hks⟩
theorem field1_ok {tm : Array Value} (hr : Rel E st ts tm w) {x y : V} {u : Value} (hv : VRel E ts x u) {off : Nat} (h : fieldV st x off none = some y) :
    ∃ cs v,u = .agg cs∧cs[off]? = some v∧VRel E ts y v:=by
  unfold fieldV at h
  simp only [] at h
  split at h
  · rename_i r p
    split at h
    · rename_i kids hp
      obtain ⟨t0,s,h1,h2,h3,_⟩:=hr.place hp
      obtain ⟨t1,k,kids1,f1,f2,f3⟩:=hv
      rw [h1] at f1; cases f1
      rw [h2] at f2; cases f2
      obtain ⟨ks,he,rfl⟩:=er_ag h3
      cases he
      obtain ⟨t,g1,g2⟩:=cellV_ok (E:=E) h1 h2 h
      refine ⟨(valL kids1).toArray,val t,f3.symm,?_,g2⟩
      rw [List.getElem?_toArray,valL_get,g1]; rfl
    · cases h
  · rename_i kids
    obtain ⟨t,h1,h2,h3,h4⟩:=hv
    obtain ⟨ks,rfl,rfl⟩:=er_ag h1
    obtain ⟨t,g1,g2⟩:=cellR_ok (ts:=ts) h3.2 (fun b hb => h4 b (by simpa [cnt,K.own] using hb)) h
    refine ⟨(valL ks).toArray,val t,h2.symm,?_,g2⟩
    rw [List.getElem?_toArray,valL_get,g1]; rfl
  · rename_i vs
    obtain ⟨us,h1,rfl⟩:=hv
    obtain ⟨v,h2,h3⟩:=VRelL_get h1 h
    exact ⟨us.toArray,v,rfl,by rw [List.getElem?_toArray]; exact h2,h3⟩
  · cases h
theorem fieldN_ok {tm : Array Value} (hr : Rel E st ts tm w) {x y : V} {u : Value} (hv : VRel E ts x u) {off m : Nat} (h : fieldV st x off (some m) = some y) :
    ∃ cs : List Value,u = .agg cs.toArray∧off + m ≤ cs.length∧VRel E ts y (.agg ((cs.drop off).take m).toArray):=by
  unfold fieldV at h
  simp only [] at h
  split at h
  · rename_i kids hrd
    split at h
    · rename_i hc
      cases h
      obtain ⟨t,h1,h2,h3,h4⟩:=rd_ok hr x hv hrd
      obtain ⟨ks,rfl,rfl⟩:=er_ag h1
      refine ⟨valL ks,h2.symm,by rw [valL_len,← erL_len]; exact hc.1,?_⟩
      have hsc:=hc.2
      rw [← erL_drop,← erL_take] at hsc ⊢
      obtain ⟨l,hl⟩:=allSc hsc
      rw [← valL_drop,← valL_take,hl,erL_v,valL_v]
      exact Kon.ro (kon_agg l)
    · cases h
  · cases h
theorem fld1_ok (hr : Rel E st ts a.tmps w) {o : Oper} {t : TypeId} {x : Operand} {i : Nat} (ho : o.op = .field t x i) {fs : Array Field} (ht : P.underlying t = some (.struct fs)) {f : Field} (hf : fs[i]? = some f)
    (hag : isAggT P f.type = false) {ds : TypeDesc} (hu : P.underlying f.type = some ds)
    {d e1 : Nat} (hd : o.dst = some d) {mx : MO} (hx : opd e1 x = some mx) {call : Oracle} (hs : step call st (.fld d f.offset none mx) = some st') : Goes P E o a w st':=by
  simp only [step] at hs
  cases he : fieldV st (ev st mx) f.offset none with
  | none => simp [he] at hs
  | some y =>
    simp only [he,Option.some.injEq] at hs
    subst hs
    obtain ⟨cs,v,h1,h2,h3⟩:=field1_ok hr (ev_ok hr (opd_ok (a:=a) hx)) he
    refine goes_value (v:=v) (w':=w) ?_ ?_ (ts':=ts.set d (.v undef))
    · simp [execOp,ho,Instr.field,h1,run_underlying ht,hf,asAgg,Go.part,isAggT_false hag hu,h2]
    · rw [hd]; exact hr.set d h3
theorem fldn_ok (hr : Rel E st ts a.tmps w) {o : Oper} {t : TypeId} {x : Operand} {i : Nat} (ho : o.op = .field t x i) {fs : Array Field} (ht : P.underlying t = some (.struct fs)) {f : Field} (hf : fs[i]? = some f)
    (hag : isAggT P f.type = true) {m : Nat} (hm : sizeT P f.type = some m)
    {d e1 : Nat} (hd : o.dst = some d) {mx : MO} (hx : opd e1 x = some mx) {call : Oracle} (hs : step call st (.fld d f.offset (some m) mx) = some st') : Goes P E o a w st':=by
  simp only [step] at hs
  cases he : fieldV st (ev st mx) f.offset (some m) with
  | none => simp [he] at hs
  | some y =>
    simp only [he,Option.some.injEq] at hs
    subst hs
    obtain ⟨cs,h1,h2,h3⟩:=fieldN_ok hr (ev_ok hr (opd_ok (a:=a) hx)) he
    refine goes_value (v:=.agg ((cs.drop f.offset).take m).toArray) (w':=w) ?_ ?_ (ts':=ts.set d (.v undef))
    · have : cs.toArray.extract f.offset (f.offset + m) = ((cs.drop f.offset).take m).toArray:=by
        simp [List.extract_toArray,List.extract_eq_drop_take']
      simp [execOp,ho,Instr.field,h1,run_underlying ht,hf,asAgg,Go.part,isAggT_true hag,run_sizeOf' hm,List.extract_eq_drop_take']
    · rw [hd]; exact hr.set d h3
theorem ix_ok (hr : Rel E st ts a.tmps w) {o : Oper} {t e : TypeId} {x i : Operand} (ho : o.op = .index t x i) {len : Nat} (ht : P.underlying t = some (.array len e)) (hes : sizeT P e = some 1)
    (hag : isAggT P e = false) {ds : TypeDesc} (hu : P.underlying e = some ds)
    {d e1 e2 : Nat} (hd : o.dst = some d) {mx mi : MO} (hx : opd e1 x = some mx) (hi : opd e2 i = some mi) {call : Oracle} (hs : step call st (.ix d 1 len mx mi) = some st') : Goes P E o a w st':=by
  simp only [step] at hs
  cases hn : asNat (ev st mi) with
  | none => simp [hn] at hs
  | some n =>
    simp only [hn] at hs
    obtain ⟨k,hk⟩:=ev_nat hr hi hn
    split at hs
    · rename_i hlt
      simp only [if_true,Nat.mul_one] at hs
      cases he : fieldV st (ev st mx) n none with
      | none => simp [he] at hs
      | some y =>
        simp only [he,Option.some.injEq] at hs
        subst hs
        obtain ⟨cs,v,h1,h2,h3⟩:=field1_ok hr (ev_ok hr (opd_ok (a:=a) hx)) he
        refine goes_value (v:=v) (w':=w) ?_ ?_ (ts':=ts.set d (.v undef))
        · simp [execOp,ho,Instr.index,h1,hk,asIntOf,run_underlying ht,run_sizeOf' hes,Go.part,isAggT_false hag hu,h2,show ¬ len ≤ n by omega,hlt]
        · rw [hd]; exact hr.set d h3
    · cases hs
theorem len_ok (hr : Rel E st ts a.tmps w) {o : Oper} {c : Call} {x : Operand} {t : TypeId} (ho : o.op = .call c) (hc : c.callee = .builtin .len) (ha : c.args.toList = [x]) (hat : c.argTypes.toList = [t])
    {str : Bool} (ht : if str then P.underlying t = some .string else ∃ e,P.underlying t = some (.slice e)) {d e1 : Nat} (hd : o.dst = some d) {mx : MO} (hx : opd e1 x = some mx)
    {call : Oracle} (hs : step call st (.len d str mx) = some st') : Goes P E o a w st':=by
  simp only [step] at hs
  cases he : lenOf st str (ev st mx) with
  | none => simp [he] at hs
  | some n =>
    simp only [he,Option.some.injEq] at hs
    subst hs
    have hv:=ev_ok hr (opd_ok (a:=a) hx)
    have ha' : c.args = #[x]:=by rw [← Array.toArray_toList (xs:=c.args),ha]
    have hat' : c.argTypes = #[t]:=by rw [← Array.toArray_toList (xs:=c.argTypes),hat]
    refine goes_value (v:=i64 n) (w':=w) ?_ ?_ (ts':=ts.set d (.v undef))
    · cases str with
      | true =>
        simp only [if_true] at ht
        simp only [lenOf,if_true] at he
        split at he
        · rename_i s hev
          cases he
          rw [hev] at hv
          have hv' : a.eval x = .string s:=hv
          simp [execOp,ho,resolve,hc,invoke,builtin,ha',hat',Builtin.len_,run_underlying ht,hv',goInt,i64]
        · cases he
      | false =>
        simp only [Bool.false_eq_true,if_false] at ht
        obtain ⟨e,hte⟩:=ht
        have key : ∃ ad cc,a.eval x = .slice ad n cc:=by
          simp only [lenOf,Bool.false_eq_true,if_false] at he
          split at he
          · rename_i hev
            cases he
            rw [hev] at hv
            obtain ⟨_,_,_,_,_,_,_,_,_,_,_,_,_,h6⟩:=hv
            exact ⟨_,_,h6⟩
          · split at he
            · rename_i b es m kids hrd
              cases he
              obtain ⟨t,h1,h2,_⟩:=rd_ok hr _ hv hrd
              obtain ⟨d,ks,rfl,_⟩:=er_sl h1
              exact ⟨_,_,h2.symm⟩
            · cases he
        obtain ⟨ad,cc,h1⟩:=key
        simp [execOp,ho,resolve,hc,invoke,builtin,ha',hat',Builtin.len_,run_underlying hte,h1,goInt,i64]
    · rw [hd]; exact hr.set d (x:=.sc _) rfl
theorem slice_bounds {n cap : Nat} {lo hi : Option Value} {l h : Option Nat} (hl : (lo = none∧l = none) ∨ ∃ k v,lo = some (.int k (v : Nat))∧l = some v)
    (hh : (hi = none∧h = none) ∨ ∃ k v,hi = some (.int k (v : Nat))∧h = some v) (hle : l.getD 0 ≤ h.getD n) (hn : h.getD n ≤ n) (hcap : n ≤ cap) (w : World) :
    (Instr.sliceBounds true n cap lo hi none).run P w = .ok (l.getD 0,h.getD n,cap) w:=by
  rcases hl with ⟨rfl,rfl⟩ | ⟨k,v,rfl,rfl⟩ <;> rcases hh with ⟨rfl,rfl⟩ | ⟨k',v',rfl,rfl⟩
  · simp [Instr.sliceBounds]
  · simp only [Option.getD_some,Option.getD_none] at *
    simp [Instr.sliceBounds,Instr.sliceBound,asIntOf,show ¬ (cap : Nat) < v' by omega,show v' ≤ cap by omega]
  · simp only [Option.getD_some,Option.getD_none] at *
    simp [Instr.sliceBounds,Instr.sliceBound,asIntOf,show v ≤ n by omega,show ¬ (n : Nat) < v by omega]
  · simp only [Option.getD_some] at *
    simp [Instr.sliceBounds,Instr.sliceBound,asIntOf,show ¬ (cap : Nat) < v' by omega,show v' ≤ cap by omega,show v ≤ v' by omega,show ¬ (v' : Nat) < v by omega]
theorem slice_ok {tm : Array Value} (hr : Rel E st ts tm w) {es : Nat} {x y : V} {u : Value} (hv : VRel E ts x u) {l h : Option Nat} (hs : slice st es x l h = some y) :
    ∃ ad n cap,u = .slice ad n cap∧n ≤ cap∧l.getD 0 ≤ h.getD n∧h.getD n ≤ n ∧
      VRel E ts y (.slice (if cap = l.getD 0 then ad else ad.map (·.add (l.getD 0 * es))) (h.getD n - l.getD 0) (cap - l.getD 0)):=by
  unfold slice at hs
  split at hs
  · rename_i r p
    split at hs
    · rename_i b es' n kids hp
      simp only [] at hs
      split at hs
      · rename_i hc
        obtain ⟨c1,c2,c3,c4⟩:=hc
        obtain ⟨t0,s,h1,h2,h3,_⟩:=hr.place hp
        obtain ⟨t1,k,kids1,f1,f2,f3⟩:=hv
        rw [h1] at f1; cases f1
        rw [h2] at f2; cases f2
        obtain ⟨d,ks,he,hks,hb⟩:=er_sl h3
        cases he
        have hm:=Mem_getAt (hr.mem r _ h1) h2
        obtain ⟨⟨g1,g2,g3,g4⟩,_⟩:=hm
        refine ⟨d.a,n,d.cap,f3.symm,g2,c1,c2,?_⟩
        split at hs
        · rename_i hb'
          cases hs
          have hda : d.a = none:=by subst hb'; simpa using hb
          have:=g3 hda
          have hn0 : n = 0:=by omega
          subst hn0
          have hl0 : l.getD 0 = 0:=by omega
          have hh0 : h.getD 0 = 0:=by omega
          rw [hl0,hh0,this,hda]
          refine ⟨.nd (.sl ⟨none,0,undef⟩ es 0) [],rfl,rfl,⟨⟨by simp [valL],by simp,fun _ => rfl,fun a ha => by cases ha⟩,trivial⟩,fun b hb => by simp [cnt,K.own,cntL] at hb⟩
        · rename_i hb'
          cases hs
          have hda : d.a ≠ none:=by
            intro e
            rw [e] at hb
            simp at hb
            exact hb' hb
          obtain ⟨ad,hda'⟩:=Option.ne_none_iff_exists'.1 hda
          refine ⟨t0,d,n,kids1,d.cap - l.getD 0,ad,if d.cap = l.getD 0 then ad else ad.add (l.getD 0 * es),h1,h2,by omega,?_,hda',?_,?_⟩
          · rcases c3 with rfl | hn0
            · rw [← Nat.add_mul]; exact Nat.mul_le_mul_right _ (by omega)
            · subst hn0
              have hl0 : l.getD 0 = 0:=by omega
              rw [hl0]; simp
          · intro hne
            rw [if_neg (by omega)]
          · rw [hda']; split <;> rfl
      · cases hs
    · cases hs
  · rename_i r p lo0 es' n
    split at hs
    · rename_i es'' n' kids hp
      simp only [] at hs
      split at hs
      · rename_i hc
        obtain ⟨c1,c2,rfl,rfl,c5⟩:=hc
        cases hs
        obtain ⟨t1,d,n2,kids2,c,aa,ad,f1,f2,f3,f4,f5,f6',f6⟩:=hv
        refine ⟨_,n,c,f6,f3,c1,c2,?_⟩
        refine ⟨t1,d,n2,kids2,c - l.getD 0,aa,if c = l.getD 0 then ad else ad.add (l.getD 0 * es''),f1,f2,by omega,?_,f5,?_,?_⟩
        · have : l.getD 0 * es'' + (c - l.getD 0) * es'' = c * es'':=by rw [← Nat.add_mul]; congr 1; omega
          omega
        · intro hne
          rw [if_neg (by omega),f6' (by omega),Addr.add_add']
        · split <;> rfl
      · cases hs
    · cases hs
  · rename_i b es' n kids
    simp only [] at hs
    split at hs
    · rename_i hc
      obtain ⟨c1,c2,c3,c4⟩:=hc
      cases hs
      obtain ⟨t,h1,h2,h3,h4⟩:=hv
      obtain ⟨d,ks,rfl,hks,hb⟩:=er_sl h1
      obtain ⟨⟨g1,g2,g3,g4⟩,g5⟩:=h3
      refine ⟨d.a,n,d.cap,h2.symm,g2,c1,c2,?_⟩
      subst hks
      rw [erL_len] at c4
      refine ⟨.nd (.sl ⟨if d.cap = l.getD 0 then d.a else d.a.map (·.add (l.getD 0 * es)),d.cap - l.getD 0,undef⟩ es (h.getD n - l.getD 0)) ((ks.drop (l.getD 0 * es)).take ((h.getD n - l.getD 0) * es)),?_,?_,?_,?_⟩
      · simp only [er,K.er,erL_take,erL_drop,T.nd.injEq,K.sl.injEq,and_true]
        rw [← hb]; split <;> simp
      · simp [val,K.val]
      · have hlen : l.getD 0 * es + (h.getD n - l.getD 0) * es ≤ ks.length:=by
          rw [← Nat.add_mul,c4]; exact Nat.mul_le_mul_right _ (by omega)
        refine ⟨⟨?_,by simp only []; omega,?_,?_⟩,MemL_take (MemL_drop g5 _) _⟩
        · rw [valL_len,List.length_take,List.length_drop]; omega
        · intro hn
          simp only [] at hn ⊢
          split at hn
          · omega
          · cases hda : d.a with
            | none => have:=g3 hda; omega
            | some ad => simp [hda] at hn
        · intro ad had
          refine ⟨?_,fun hf => by cases hf⟩
          rw [valL_take,valL_drop]
          simp only [] at had
          split at had
          · rename_i hcl
            have h0 : h.getD n - l.getD 0 = 0:=by omega
            rw [h0]
            intro i u hu
            simp at hu
          · cases hda : d.a with
            | none => simp [hda] at had
            | some ad' =>
              simp only [hda,Option.map_some,Option.some.injEq] at had
              subst had
              exact ((g4 ad' hda).1.drop _).take _
      · intro b hb'
        refine h4 b ?_
        rw [← Nat.pos_iff_ne_zero] at hb' ⊢
        have e1:=cntL_take_drop b (ks.drop (l.getD 0 * es)) ((h.getD n - l.getD 0) * es)
        have e2:=cntL_take_drop b ks (l.getD 0 * es)
        simp only [cnt] at hb' ⊢
        have e3 : K.own b (.sl ⟨if d.cap = l.getD 0 then d.a else d.a.map (·.add (l.getD 0 * es)),d.cap - l.getD 0,undef⟩ es (h.getD n - l.getD 0)) ≤ K.own b (.sl d es' n):=by
          simp only [K.own]
          by_cases hcl : d.cap = l.getD 0
          · simp [hcl]
          · have hc0 : d.cap ≠ 0:=by omega
            have hc1 : d.cap - l.getD 0 ≠ 0:=by omega
            simp only [if_neg hcl]
            cases hda : d.a with
            | none => simp
            | some ad => simp [hc0,hc1,Addr.add_block]
        omega
    · cases hs
  · cases hs
def OptM (lo : Option Operand) (ml : Option MO) : Prop :=
  match lo,ml with
  | none,none => True
  | some x,some m => opd 0 x = some m
  | _,_ => False
theorem optNat_ok (hr : Rel E st ts a.tmps w) {lo : Option Operand} {ml : Option MO} (hm : OptM lo ml)
    {l : Option Nat} (h : optNat st ml = some l) : (lo.map a.eval = none∧l = none) ∨ ∃ k v,lo.map a.eval = some (.int k (v : Nat))∧l = some v:=by
  cases lo with
  | none =>
    cases ml with
    | none => simp only [optNat,Option.some.injEq] at h; exact .inl ⟨rfl,h.symm⟩
    | some m => exact hm.elim
  | some x =>
    cases ml with
    | none => exact hm.elim
    | some m =>
      simp only [optNat] at h
      cases hn : asNat (ev st m) with
      | none => simp [hn] at h
      | some n =>
        simp only [hn,Option.some.injEq] at h
        obtain ⟨k,hk⟩:=ev_nat hr hm hn
        exact .inr ⟨k,n,by simp [hk],h.symm⟩
theorem sl_ok (hr : Rel E st ts a.tmps w) {o : Oper} {t e : TypeId} {x : Operand} {lo hi : Option Operand} (ho : o.op = .slice t x lo hi none) (ht : P.underlying t = some (.slice e)) {es : Nat} (hes : sizeT P e = some es)
    {d e1 : Nat} (hd : o.dst = some d) {mx : MO} {ml mh : Option MO} (hx : opd e1 x = some mx) (hml : OptM lo ml)
    (hmh : OptM hi mh) {call : Oracle} (hs : step call st (.sl d es mx ml mh) = some st') : Goes P E o a w st':=by
  simp only [step] at hs
  cases hl : optNat st ml with
  | none => simp [hl] at hs
  | some l =>
    cases hh : optNat st mh with
    | none => simp [hl,hh] at hs
    | some h =>
      simp only [hl,hh] at hs
      cases he : slice st es (ev st mx) l h with
      | none => simp [he] at hs
      | some y =>
        simp only [he,Option.some.injEq] at hs
        subst hs
        obtain ⟨ad,n,cap,h1,h2,h3,h4,h5⟩:=slice_ok hr (ev_ok hr (opd_ok (a:=a) hx)) he
        have hb:=slice_bounds (P:=P) (optNat_ok hr hml hl) (optNat_ok hr hmh hh) h3 h4 h2 w
        refine goes_value (v:=.slice (if cap = l.getD 0 then ad else ad.map (·.add (l.getD 0 * es))) (h.getD n - l.getD 0) (cap - l.getD 0)) (w':=w) ?_ ?_ (ts':=ts.set d (.v undef))
        · simp [execOp,ho,Instr.sliceAt,h1,run_underlying ht,Instr.slice,hb,run_sizeOf' hes]
        · rw [hd]; exact hr.set d h5
theorem sl_yields (hr : Rel E st ts a.tmps w) {o : Oper} {t e : TypeId} {x : Operand} {lo hi : Option Operand} (ho : o.op = .slice t x lo hi none) (ht : P.underlying t = some (.slice e)) {es : Nat} (hes : sizeT P e = some es)
    {e1 : Nat} {mx : MO} {ml mh : Option MO} (hx : opd e1 x = some mx) (hml : OptM lo ml)
    (hmh : OptM hi mh) {l h : Option Nat} (hl : optNat st ml = some l) (hh : optNat st mh = some h) {y : V} (he : slice st es (ev st mx) l h = some y) : ∃ v,(∀ w',(execOp a.eval o).run P w' = .ok (.value v) w')∧VRel E ts y v:=by
  obtain ⟨ad,n,cap,h1,h2,h3,h4,h5⟩:=slice_ok hr (ev_ok hr (opd_ok (a:=a) hx)) he
  refine ⟨_,fun w' => ?_,h5⟩
  have hb:=slice_bounds (P:=P) (optNat_ok hr hml hl) (optNat_ok hr hmh hh) h3 h4 h2 w'
  simp [execOp,ho,Instr.sliceAt,h1,run_underlying ht,Instr.slice,hb,run_sizeOf' hes]
theorem zero_of {x : Operand} (h : isZero (some x) = true) : ∃ k,a.eval x = .int k 0:=by
  unfold isZero at h
  split at h
  · rename_i k heq; cases heq; exact ⟨_,rfl⟩
  · cases h
theorem sl0_ok (hr : Rel E st ts a.tmps w) {o : Oper} {t e : TypeId} {x : Operand} {lo hi mx' : Option Operand} (ho : o.op = .slice t x lo hi mx') (h1 : isZero mx' = true) (h2 : isZero hi = true) (h3 : lo.isNone = true ∨ isZero lo = true)
    (ht : P.underlying t = some (.slice e)) {es : Nat} (hes : sizeT P e = some es)
    {d e1 : Nat} (hd : o.dst = some d) {mx : MO} (hx : opd e1 x = some mx) {call : Oracle} (hs : step call st (.sl0 d es mx) = some st') : Goes P E o a w st':=by
  simp only [step] at hs
  split at hs
  · rename_i b es' n kids hrd
    cases hs
    obtain ⟨tt,g1,g2,g3,_⟩:=rd_ok hr _ (ev_ok hr (opd_ok (a:=a) hx)) hrd
    obtain ⟨dd,ks,rfl,_,hb⟩:=er_sl g1
    have hu : a.eval x = .slice dd.a n dd.cap:=g2.symm
    cases mx' with
    | none => simp [isZero] at h1
    | some m =>
      cases hi with
      | none => simp [isZero] at h2
      | some hv =>
        obtain ⟨k1,z1⟩:=zero_of (a:=a) h1
        obtain ⟨k2,z2⟩:=zero_of (a:=a) h2
        refine goes_value (v:=.slice dd.a 0 0) (w':=w) ?_ ?_ (ts':=ts.set d (.nd (.sl ⟨dd.a,0,undef⟩ es 0) []))
        · cases lo with
          | none => simp [execOp,ho,Instr.sliceAt,hu,run_underlying ht,Instr.slice,Instr.sliceBounds,Instr.sliceBound,asIntOf,z1,z2,run_sizeOf' hes]
          | some l =>
            obtain ⟨k3,z3⟩:=zero_of (a:=a) (h3.resolve_left (by simp))
            simp [execOp,ho,Instr.sliceAt,hu,run_underlying ht,Instr.slice,Instr.sliceBounds,Instr.sliceBound,asIntOf,z1,z2,z3,run_sizeOf' hes]
        · rw [hd]
          have:=hr.setOwn d (t:=.nd (.sl ⟨dd.a,0,undef⟩ es 0) []) ⟨_,_,rfl⟩ ⟨⟨by simp [valL],by simp,fun _ => rfl,fun ad _ => ⟨fun i u hu => by simp [valL] at hu,fun _ hc => absurd rfl hc⟩⟩,trivial⟩
            (fun b hb => by simp [cnt,K.own,cntL] at hb)
          have e1 : er (.nd (.sl ⟨dd.a,0,undef⟩ es 0) []) = T.nd (.sl b es 0) []:=by simp [er,K.er,erL,hb]
          rw [e1] at this
          exact this
  · cases hs
theorem ext_ok (hr : Rel E st ts a.tmps w) {o : Oper} {x : Operand} {i : Nat} (ho : o.op = .extract x i)
    {d e1 : Nat} (hd : o.dst = some d) {mx : MO} (hx : opd e1 x = some mx) {call : Oracle} (hs : step call st (.ext d mx i) = some st') : Goes P E o a w st':=by
  have hv:=ev_ok hr (opd_ok (a:=a) hx)
  simp only [step] at hs
  cases hp : part st (ev st mx) i with
  | none => simp [hp] at hs
  | some q =>
    obtain ⟨y,st1⟩:=q
    simp only [hp,Option.some.injEq] at hs
    subst hs
    unfold part at hp
    split at hp
    · rename_i r p hev
      rw [hev] at hv
      cases hrd : rootD st r with
      | none => simp [hrd] at hp
      | some d0 =>
        simp only [hrd] at hp
        obtain ⟨k0,kids0,q1,q2,q3⟩:=hr.root hrd
        obtain ⟨t1,k,kids1,f1,f2,f3⟩:=hv
        rw [q1] at f1; cases f1
        subst q2
        rw [er_getAt,f2] at hp
        simp only [Option.map_some] at hp
        cases k with
        | tu =>
          simp only [er,K.er] at hp
          rw [erL_get] at hp
          cases hk : kids1[i]? with
          | none => simp [hk] at hp
          | some tt =>
            have hval : a.eval x = .tuple (valL kids1).toArray:=f3.symm
            have hget : (valL kids1).toArray[i]? = some (val tt):=by rw [List.getElem?_toArray,valL_get,hk]; rfl
            have hrun : (execOp a.eval o).run P w = .ok (.value (val tt)) w:=by simp [execOp,ho,Instr.extract,hval,valL_get,hk]
            simp only [hk,Option.map_some] at hp
            cases tt with
            | v z =>
              simp only [er,Option.some.injEq,Prod.mk.injEq] at hp
              obtain ⟨rfl,rfl⟩:=hp
              refine goes_value hrun (ts':=ts.set d (.v undef)) ?_
              rw [hd]
              exact hr.set d (x:=.sc z) rfl
            | hole z => simp [er] at hp
            | nd kk ks =>
              simp only [er,Option.some.injEq,Prod.mk.injEq] at hp
              obtain ⟨rfl,rfl⟩:=hp
              have hg : getAt (T.nd k0 kids0) (p ++ [i]) = some (.nd kk ks):=by rw [getAt_append,f2]; simp [getAt,hk]
              obtain ⟨ts1,h1,h2,h3,h4⟩:=leave_ok hr hrd q1 hg
              have h5:=h1.setOwn d ⟨kk,ks,rfl⟩ h4 (moved hr fun b => Nat.le_of_eq (h2 b))
              refine goes_value hrun (ts':=ts1.set d (.nd kk ks)) ?_
              rw [hd]
              exact h5
        | sl _ _ _ => simp [er,K.er] at hp
        | bx _ => simp [er,K.er] at hp
        | ag => simp [er,K.er] at hp
        | fn _ _ => simp [er,K.er] at hp
    · cases hp
theorem exb_ok (hr : Rel E st ts a.tmps w) {o : Oper} {x : Operand} {i : Nat} (ho : o.op = .extract x i)
    {d e1 : Nat} (hd : o.dst = some d) {mx : MO} (hx : opd e1 x = some mx) {call : Oracle} (hs : step call st (.exb d mx i) = some st') : Goes P E o a w st':=by
  have hv:=ev_ok hr (opd_ok (a:=a) hx)
  simp only [step] at hs
  cases hp : exV st (ev st mx) i with
  | none => simp [hp] at hs
  | some y =>
    simp only [hp,Option.some.injEq] at hs
    subst hs
    unfold exV at hp
    split at hp
    · rename_i r p hev
      rw [hev] at hv
      split at hp
      · rename_i kids hpl
        obtain ⟨t0,s,h1,h2,h3,_⟩:=hr.place hpl
        obtain ⟨t1,k,kids1,f1,f2,f3⟩:=hv
        rw [h1] at f1; cases f1
        rw [h2] at f2; cases f2
        cases k with
        | tu =>
          simp only [er,K.er,T.nd.injEq,true_and] at h3
          subst h3
          rw [erL_get] at hp
          cases hk : kids1[i]? with
          | none => simp [hk] at hp
          | some tt =>
            have hval : a.eval x = .tuple (valL kids1).toArray:=f3.symm
            have hrun : (execOp a.eval o).run P w = .ok (.value (val tt)) w:=by simp [execOp,ho,Instr.extract,hval,valL_get,hk]
            simp only [hk,Option.map_some] at hp
            refine goes_value hrun (ts':=ts.set d (.v undef)) ?_
            rw [hd]
            cases tt with
            | v z =>
              simp only [er,Option.some.injEq] at hp
              subst hp
              exact hr.set d (x:=.sc z) rfl
            | hole z => simp [er] at hp
            | nd kk ks =>
              simp only [er,Option.some.injEq] at hp
              subst hp
              have hg : getAt t0 (p ++ [i]) = some (.nd kk ks):=by rw [getAt_append,h2]; simp [getAt,hk]
              exact hr.set d (x:=.ref r (p ++ [i])) ⟨t0,kk,ks,h1,hg,rfl⟩
        | sl _ _ _ => simp [er,K.er] at h3
        | bx _ => simp [er,K.er] at h3
        | ag => simp [er,K.er] at h3
        | fn _ _ => simp [er,K.er] at h3
      · cases hp
    · cases hp
end
end Go.Mx
