import Derived.Test.YthahhbbfhohhfaaMgE
import Derived.Laws.BytesArg
/-
  Mx,part K: comparisons; bytes to a string; function values; calls.
-/
namespace Go.Mx
set_option linter.unusedVariables false
set_option linter.unusedSimpArgs false
set_option linter.unusedSectionVars false
open Go
section
variable {P : Program} {E : Env} {st st' : St} {ts : List C} {a : Act} {w : World}
theorem isNil_ok {tm : Array Value} (hr : Rel E st ts tm w) {ptr : Bool} {x : V} {u : Value} (hv : VRel E ts x u) {b : Bool} (h : isNil st ptr x = some b) :
    if ptr then ∃ ad : Option Addr,u = .pointer ad∧ad.isNone = b else ∃ (ad : Option Addr) (n c : Nat),u = .slice ad n c∧ad.isNone = b:=by
  unfold isNil at h
  split at h
  · rename_i bb es n kids hrd
    split at h
    · cases h
    · rename_i hp
      cases h
      obtain ⟨t,h1,h2,_⟩:=rd_ok hr x hv hrd
      obtain ⟨d,ks,rfl,_,hb⟩:=er_sl h1
      simp only [hp,Bool.false_eq_true,if_false]
      exact ⟨d.a,n,d.cap,h2.symm,hb⟩
  · rename_i bb kids hrd
    split at h
    · rename_i hp
      cases h
      obtain ⟨t,h1,h2,h3,_⟩:=rd_ok hr x hv hrd
      obtain ⟨d,ks,rfl,_⟩:=er_bx h1
      simp only [hp,if_true]
      obtain ⟨ad,had,_⟩:=h3.1
      exact ⟨d.a,h2.symm,by rw [had]; rfl⟩
    · cases h
  · rename_i hrd
    split at h
    · rename_i hp
      cases h
      obtain ⟨t,h1,h2,_⟩:=rd_ok hr x hv hrd
      have:=er_eq_v h1
      subst this
      simp only [hp,if_true]
      exact ⟨none,h2.symm,rfl⟩
    · cases h
  · cases h
theorem equalIn_slice {t e : TypeId} (hu : P.underlying t = some (.slice e)) {a1 a2 : Option Addr} {n1 c1 n2 c2 : Nat} (h : a1.isNone = true ∨ a2.isNone = true) (k : Nat) (w : World) :
    (Op.equalIn (k + 1) t (.slice a1 n1 c1) (.slice a2 n2 c2)).run P w = .ok (a1.isNone && a2.isNone) w:=by
  unfold Op.equalIn
  cases a1 <;> cases a2 <;> simp at h <;> simp [run_underlying hu]
theorem equalIn_pointer {t e : TypeId} (hu : P.underlying t = some (.pointer e)) {a1 a2 : Option Addr} (h : a1.isNone = true ∨ a2.isNone = true) (k : Nat) (w : World) :
    (Op.equalIn (k + 1) t (.pointer a1) (.pointer a2)).run P w = .ok (a1.isNone && a2.isNone) w:=by
  unfold Op.equalIn
  cases a1 <;> cases a2 <;> simp at h <;> simp [run_underlying hu]
theorem run_nilT {ptr : Bool} {t : TypeId} {u v : Value} {x y : Bool} (hu : if ptr then ∃ e,P.underlying t = some (.pointer e) else ∃ e,P.underlying t = some (.slice e))
    (h1 : if ptr then ∃ ad : Option Addr,u = .pointer ad∧ad.isNone = x else ∃ (ad : Option Addr) (n c : Nat),u = .slice ad n c∧ad.isNone = x)
    (h2 : if ptr then ∃ ad : Option Addr,v = .pointer ad∧ad.isNone = y else ∃ (ad : Option Addr) (n c : Nat),v = .slice ad n c∧ad.isNone = y) (hor : (x || y) = true) (w : World) :
    (Op.equal t u v).run P w = .ok (x && y) w∧(∀ op X Y,eqGuard op t X Y u v = pure ())∧(binOp .eql t u v = (do pure (.bool (← Op.equal t u v)) : Sem Value)) ∧
      (binOp .neq t u v = (do pure (.bool (!(← Op.equal t u v))) : Sem Value)):=by
  cases ptr with
  | true =>
    simp only [if_true] at hu h1 h2
    obtain ⟨e,hu⟩:=hu
    obtain ⟨a1,rfl,rfl⟩:=h1
    obtain ⟨a2,rfl,rfl⟩:=h2
    exact ⟨equalIn_pointer hu (by simpa using hor) 9999 w,fun op X Y => eqGuard_at_pointer ..,rfl,rfl⟩
  | false =>
    simp only [Bool.false_eq_true,if_false] at hu h1 h2
    obtain ⟨e,hu⟩:=hu
    obtain ⟨a1,n1,c1,rfl,rfl⟩:=h1
    obtain ⟨a2,n2,c2,rfl,rfl⟩:=h2
    exact ⟨equalIn_slice hu (by simpa using hor) 9999 w,fun op X Y => eqGuard_at_slice ..,rfl,rfl⟩
theorem eqSc_ok {k : Nat} {x y : D} {t : Bool} (h : eqSc k x y = some t) {ft : TypeId} (hk : kindOf P ft = some k) :
    ∃ u v,x = .v u∧y = .v v∧isAggT P ft = false∧(∃ ds,P.underlying ft = some ds)∧∀ d w,(Op.equalIn (d + 1) ft u v).run P w = .ok t w:=by
  unfold kindOf at hk
  unfold eqSc at h
  split at h
  · rename_i k1 n1 k2 n2
    split at h
    · rename_i hc
      obtain ⟨rfl,rfl⟩:=hc
      cases h
      split at hk
      · rename_i kk hu
        exact ⟨_,_,rfl,rfl,by simp [isAggT,hu],⟨_,hu⟩,fun d w => run_equalIn_int w d ft k1 kk n1 n2 hu⟩
      all_goals simp at hk
    · cases h
  · rename_i b1 b2
    split at h
    · rename_i hc
      subst hc
      cases h
      split at hk
      · simp at hk
      · rename_i hu
        exact ⟨_,_,rfl,rfl,by simp [isAggT,hu],⟨_,hu⟩,fun d w => run_equalIn_bool' w d ft b1 b2 hu⟩
      all_goals simp at hk
    · cases h
  · rename_i s1 s2
    split at h
    · rename_i hc
      subst hc
      cases h
      split at hk
      · simp at hk
      · simp at hk
      · rename_i hu
        exact ⟨_,_,rfl,rfl,by simp [isAggT,hu],⟨_,hu⟩,fun d w => run_equalIn_string w d ft s1 s2 hu⟩
      · simp at hk
    · cases h
  · cases h
theorem eqFields_ok {d : Nat} {xs ys : Array Value} : ∀ (fs : List Field) (i : Nat) (ks : List Nat) (as bs : List C) (t : Bool),kindsFrom P i fs = some ks→eqAll ks (erL as) (erL bs) = some t →
    (∀ (j : Nat) v,(valL as)[j]? = some v→xs[i + j]? = some v)→(∀ (j : Nat) v,(valL bs)[j]? = some v→ys[i + j]? = some v)→∀ w,(Op.eqFields (d + 1) xs ys fs).run P w = .ok t w
  | [],i,ks,as,bs,t,hk,he,_,_,w => by
    simp only [kindsFrom,Option.some.injEq] at hk
    subst hk
    cases as <;> cases bs <;> simp [erL,eqAll] at he
    subst he
    rfl
  | f :: fs,i,ks,as,bs,t,hk,he,hx,hy,w => by
    simp only [kindsFrom] at hk
    split at hk
    · rename_i hf
      obtain ⟨hoff,hname⟩:=hf
      cases hkf : kindOf P f.type with
      | none => simp [hkf] at hk
      | some k =>
        simp only [hkf] at hk
        cases hks : kindsFrom P (i + 1) fs with
        | none => simp [hks] at hk
        | some ks' =>
          simp only [hks,Option.some.injEq] at hk
          subst hk
          cases as with
          | nil => cases bs <;> simp [erL,eqAll] at he
          | cons a0 as =>
            cases bs with
            | nil => simp [erL,eqAll] at he
            | cons b0 bs =>
              simp only [erL,eqAll] at he
              cases h1 : eqSc k (er a0) (er b0) with
              | none => simp [h1] at he
              | some r =>
                simp only [h1] at he
                cases h2 : eqAll ks' (erL as) (erL bs) with
                | none => simp [h2] at he
                | some r' =>
                  simp only [h2,Option.some.injEq] at he
                  subst he
                  obtain ⟨u,v,e1,e2,hag,⟨ds,hu⟩,hrun⟩:=eqSc_ok (P:=P) h1 hkf
                  have:=er_eq_v e1; subst this
                  have:=er_eq_v e2; subst this
                  have hxi:=hx 0 u rfl
                  have hyi:=hy 0 v rfl
                  rw [Nat.add_zero] at hxi hyi
                  have ih:=eqFields_ok (d:=d) (xs:=xs) (ys:=ys) fs (i + 1) ks' as bs r' hks h2 (fun j v' hj => by rw [show i + 1 + j = i + (j + 1) by omega]; exact hx (j + 1) v' (by simpa [valL] using hj))
                    (fun j v' hj => by rw [show i + 1 + j = i + (j + 1) by omega]; exact hy (j + 1) v' (by simpa [valL] using hj)) w
                  simp only [Op.eqFields,if_pos hname,hoff,Sem.run_bind,Go.part,isAggT_false hag hu,Result.andThen_ok,hxi,hyi,Bool.false_eq_true,if_false,Sem.run_pure,hrun]
                  cases r
                  · simp
                  · simpa using ih
    · cases hk
theorem run_agT {t : TypeId} {ks : List Nat} (hp : plainStruct P t = some ks) {as bs : List C} {r : Bool} (he : eqAll ks (erL as) (erL bs) = some r) (w : World) :
    (Op.equal t (.agg (valL as).toArray) (.agg (valL bs).toArray)).run P w = .ok r w∧∀ op X Y (w : World),(eqGuard op t X Y (.agg (valL as).toArray) (.agg (valL bs).toArray)).run P w = .ok () w:=by
  unfold plainStruct at hp
  split at hp
  · rename_i fs hu
    split at hp
    · rename_i hc
      obtain ⟨hst,hgd⟩:=hc
      have hfs : P.fieldsOf t = fs:=by simp [Program.fieldsOf,hu]
      refine ⟨?_,?_⟩
      · have h1:=run_equalIn_struct (P:=P) w 9999 t (valL as).toArray (valL bs).toArray (by rw [hfs]; exact hu) hst
        have h2:=eqFields_ok (P:=P) (d:=9998) (xs:=(valL as).toArray) (ys:=(valL bs).toArray) fs.toList 0 ks as bs r hp he (fun j v hj => by rw [Nat.zero_add,List.getElem?_toArray]; exact hj)
          (fun j v hj => by rw [Nat.zero_add,List.getElem?_toArray]; exact hj) w
        rw [hfs] at h1
        exact h1.trans h2
      · intro op X Y w
        unfold eqGuard
        cases op <;> simp [hgd]
    · cases hp
  · cases hp
theorem bin_ok (hr : Rel E st ts a.tmps w) {o : Oper} {op : BinOp} {t : TypeId} {x y : Operand} {z} (ho : o.op = .binOp op t x y z)
    {d e1 e2 : Nat} (hd : o.dst = some d) {mx my : MO} (hx : opd e1 x = some mx) (hy : opd e2 y = some my) {call : Oracle} (hs : step call st (.bin d op (btOf P op t) mx my) = some st') : Goes P E o a w st':=by
  have hvx:=ev_ok hr (opd_ok (a:=a) hx)
  have hvy:=ev_ok hr (opd_ok (a:=a) hy)
  have num : ∀ bt,btOf P op t = bt→(∀ ptr,bt ≠ .nilT ptr)→(∀ ks,bt ≠ .ag ks)→Goes P E o a w st':=by
    intro bt hbt hn1 hn2
    rw [hbt] at hs
    have key : ∃ u v c,ev st mx = .sc u∧ev st my = .sc v∧bin op bt u v = some c∧setv st d (.sc c) = st':=by
      cases bt with
      | nilT ptr => exact absurd rfl (hn1 ptr)
      | ag ks => exact absurd rfl (hn2 ks)
      | num | bool | no =>
        simp only [step] at hs
        split at hs
        · rename_i u v hu hv
          split at hs
          · rename_i c hb; exact ⟨u,v,c,hu,hv,hb,by simpa using hs⟩
          · cases hs
        · cases hs
    obtain ⟨u,v,c,hu,hv,hb,rfl⟩:=key
    rw [hu] at hvx
    rw [hv] at hvy
    have hvx' : a.eval x = u:=hvx
    have hvy' : a.eval y = v:=hvy
    have hbool : bt = .bool→P.underlying t = some .bool:=by
      rintro rfl
      unfold btOf at hbt
      split at hbt
      all_goals first
        | (split at hbt <;> first | assumption | (simp at hbt; done) | (split at hbt <;> simp at hbt))
        | simp at hbt
    refine goes_value (v:=c) (w':=w) ?_ ?_ (ts':=ts.set d (.v undef))
    · have:=bin_num (P:=P) (x:=x) (y:=y) hb hbool w
      simp only [execOp,ho,hvx',hvy']
      rw [Sem.run_bind,this]
      rfl
    · rw [hd]; exact hr.set d (x:=.sc c) rfl
  cases hbt : btOf P op t with
  | num => exact num _ hbt (by simp) (by simp)
  | bool => exact num _ hbt (by simp) (by simp)
  | no => exact num _ hbt (by simp) (by simp)
  | nilT ptr =>
    rw [hbt] at hs
    simp only [step] at hs
    have hu : if ptr then ∃ e,P.underlying t = some (.pointer e) else ∃ e,P.underlying t = some (.slice e):=by
      unfold btOf at hbt
      split at hbt
      all_goals first
        | (split at hbt <;> first | (cases hbt; simp; exact ⟨_,by assumption⟩) | (simp at hbt; done) | (split at hbt <;> simp at hbt))
        | simp at hbt
    cases h1 : isNil st ptr (ev st mx) with
    | none => simp [h1] at hs
    | some p =>
      cases h2 : isNil st ptr (ev st my) with
      | none => simp [h1,h2] at hs
      | some q =>
        simp only [h1,h2] at hs
        split at hs
        · rename_i hor
          obtain ⟨g1,g2,g3,g4⟩:=run_nilT (P:=P) hu (isNil_ok hr hvx h1) (isNil_ok hr hvy h2) hor w
          cases op <;> simp only [] at hs <;> first
            | cases hs; done
            | (cases hs
               refine goes_value (v:=.bool (p && q)) (w':=w) (by simp [execOp,ho,g2,g3,g1]) ?_ (ts':=ts.set d (.v undef))
               rw [hd]; exact hr.set d (x:=.sc _) rfl)
            | (cases hs
               refine goes_value (v:=.bool (!(p && q))) (w':=w) (by simp [execOp,ho,g2,g4,g1]) ?_ (ts':=ts.set d (.v undef))
               rw [hd]; exact hr.set d (x:=.sc _) rfl)
        · cases hs
  | ag ks =>
    rw [hbt] at hs
    simp only [step] at hs
    have hp : plainStruct P t = some ks:=by
      unfold btOf at hbt
      split at hbt
      all_goals first
        | (split at hbt <;> first | (simp at hbt; done) | (split at hbt <;> first | (cases hbt; assumption) | (simp at hbt; done)))
        | simp at hbt
    split at hs
    · rename_i as bs ha hb
      cases he : eqAll ks as bs with
      | none => simp [he] at hs
      | some r =>
        simp only [he] at hs
        obtain ⟨t1,h1,h2,_⟩:=rd_ok hr _ hvx ha
        obtain ⟨ks1,rfl,rfl⟩:=er_ag h1
        obtain ⟨t2,h3,h4,_⟩:=rd_ok hr _ hvy hb
        obtain ⟨ks2,rfl,rfl⟩:=er_ag h3
        obtain ⟨g1,g2⟩:=run_agT hp he w
        have hu : a.eval x = .agg (valL ks1).toArray:=h2.symm
        have hv : a.eval y = .agg (valL ks2).toArray:=h4.symm
        have b1 : ∀ A B,binOp .eql t (.agg A) (.agg B) = (do pure (.bool (← Op.equal t (.agg A) (.agg B))) : Sem Value):=fun _ _ => rfl
        have b2 : ∀ A B,binOp .neq t (.agg A) (.agg B) = (do pure (.bool (!(← Op.equal t (.agg A) (.agg B)))) : Sem Value):=fun _ _ => rfl
        cases op <;> simp only [] at hs <;> first
          | cases hs; done
          | (cases hs
             refine goes_value (v:=.bool r) (w':=w) (by simp [execOp,ho,hu,hv,b1,g1,g2]) ?_ (ts':=ts.set d (.v undef))
             rw [hd]; exact hr.set d (x:=.sc _) rfl)
          | (cases hs
             refine goes_value (v:=.bool (!r)) (w':=w) (by simp [execOp,ho,hu,hv,b2,g1,g2]) ?_ (ts':=ts.set d (.v undef))
             rw [hd]; exact hr.set d (x:=.sc _) rfl)
    · cases hs
theorem mkf_ok (hr : Rel E st ts a.tmps w) {o : Oper} {f : FuncId} {first caps : Array Operand} (ho : o.op = .makeFunc (.func f) first caps) (hf : first.size = 0)
    {d : Nat} (hd : o.dst = some d) {cs : List MO} (hc : opds (caps.toList.map fun x => (x,0)) = some cs) {call : Oracle} (hs : step call st (.mkf d f cs) = some st') : Goes P E o a w st':=by
  simp only [step,Option.some.injEq] at hs
  subst hs
  have hf' : first = #[]:=Array.eq_empty_of_size_eq_zero hf
  have hv : ∀ (l : List Operand) (cs : List MO),opds (l.map fun x => (x,0)) = some cs→VRelL E ts (cs.map (ev st)) (l.map a.eval):=by
    intro l
    induction l with
    | nil => intro cs h; simp only [List.map_nil,opds,Option.some.injEq] at h; subst h; rfl
    | cons x xs ih =>
      intro cs h
      simp only [List.map_cons,opds] at h
      cases h1 : opd 0 x with
      | none => simp [h1] at h
      | some m =>
        simp only [h1] at h
        cases h2 : opds (xs.map fun x => (x,0)) with
        | none => simp [h2] at h
        | some ms =>
          simp only [h2,Option.some.injEq] at h
          subst h
          exact ⟨_,_,rfl,ev_ok hr (opd_ok (a:=a) h1),ih ms h2⟩
  refine goes_value (v:=.func (.func f) #[] (caps.toList.map a.eval).toArray) (w':=w) ?_ ?_ (ts':=ts.set d (.v undef))
  · have e1 : caps.map a.eval = (caps.toList.map a.eval).toArray:=Array.ext' (by simp)
    simp only [execOp,ho,Instr.makeFunc,hf',e1,Sem.run_bind,Sem.run_pure,Result.andThen_ok]
    simp
  · rw [hd]
    exact hr.set d (x:=.vn (.fn (.func f) 0) (cs.map (ev st))) ⟨_,hv _ _ hc,by simp [KV,kv]⟩
theorem forIn_bytes (k : IntKind) : ∀ (l : List D) (bs : List UInt8),bytesOf l = some bs→∃ ns : List Int,l = ns.map (fun n => .v (.int .u8 n))∧bs = ns.map fun n => UInt8.ofNat n.toNat
  | [],bs,h => by simp only [bytesOf,Option.some.injEq] at h; subst h; exact ⟨[],rfl,rfl⟩
  | d :: ds,bs,h => by
    unfold bytesOf at h
    split at h
    · rename_i heq; simp at heq
    · rename_i n ds' heq
      simp only [List.cons.injEq] at heq
      obtain ⟨rfl,rfl⟩:=heq
      cases hb : bytesOf ds with
      | none => simp [hb] at h
      | some bs' =>
        simp only [hb,Option.some.injEq] at h
        subst h
        obtain ⟨ns,h1,h2⟩:=forIn_bytes k ds bs' hb
        exact ⟨n :: ns,by simp [h1],by simp [h2]⟩
    · cases h
theorem erL_bytes {ks : List C} {ns : List Int} (h : erL ks = ns.map fun n => T.v (.int .u8 n)) : ks = ns.map fun n => T.v (.int .u8 n):=by
  induction ks generalizing ns with
  | nil => cases ns <;> simp [erL] at h; rfl
  | cons t ks ih =>
    cases ns with
    | nil => simp [erL] at h
    | cons n ns =>
      simp only [erL,List.map_cons,List.cons.injEq] at h
      rw [er_eq_v h.1,ih h.2,List.map_cons]
theorem cvs_ok (hr : Rel E st ts a.tmps w) {o : Oper} {s t e : TypeId} {x : Operand} (ho : o.op = .convert s t x) (hus : P.underlying s = some (.slice e)) (hue : P.underlying e = some (.int .u8)) (hut : P.underlying t = some .string)
    {d es : Nat} (hd : o.dst = some d) {m : MO} (hm : opd es x = some m) {call : Oracle} (hs : step call st (.cvs d m) = some st') : Goes P E o a w st':=by
  have hv:=ev_ok hr (opd_ok (a:=a) hm)
  simp only [step] at hs
  split at hs
  · rename_i b es' n kids hrd
    split at hs
    · rename_i hc
      cases hb : bytesOf kids with
      | none => simp [hb] at hs
      | some bs =>
        simp only [hb,Option.some.injEq] at hs
        subst hs
        obtain ⟨tt,h1,h2,h3,_⟩:=rd_ok hr _ hv hrd
        obtain ⟨dd,ks,rfl,rfl,_⟩:=er_sl h1
        obtain ⟨ns,e1,rfl⟩:=forIn_bytes .u8 _ _ hb
        have e2:=erL_bytes e1
        subst e2
        have hu : a.eval x = .slice dd.a n dd.cap:=h2.symm
        have hval : valL (ns.map fun n => T.v (.int .u8 n)) = ns.map (Value.int .u8):=by
          rw [← valL_v (ns.map (Value.int .u8)),List.map_map]; rfl
        have hlen : ns.length = n:=by have:=hc.2; rw [erL_len] at this; simpa using this
        refine goes_value (v:=.string ⟨(ns.map fun n => UInt8.ofNat n.toNat).toArray⟩) (w':=w) ?_ ?_ (ts':=ts.set d (.v undef))
        · cases hda : dd.a with
          | none =>
            have hn0 : n = 0:=by have:=h3.1.2.2.1 hda; have:=h3.1.2.1; omega
            have : ns = []:=List.length_eq_zero_iff.1 (by omega)
            subst this
            rw [hda] at hu
            simp [execOp,ho,hu,run_convert_bytes_nil w s e hus hue _ _ t hut]
            rfl
          | some ad =>
            have hcells:=(h3.1.2.2.2 ad hda).1
            rw [hval] at hcells
            have hl:=run_loadCells_list (P:=P) w ad (ns.map (Value.int .u8)) (fun j v hj => hcells j v hj)
            rw [List.length_map,hlen] at hl
            rw [hda] at hu
            simp only [execOp,ho,hu]
            rw [Sem.run_bind,run_convert_bytes_string w s t e _ _ _ hus hue hut,run_bytesToString w _ _ _ ns hl,foldl_push_bytes]
            simp [ByteArray.empty,ByteArray.emptyWithCapacity]
            rfl
        · rw [hd]; exact hr.set d (x:=.sc _) rfl
    · cases hs
  · cases hs
end
end Go.Mx
