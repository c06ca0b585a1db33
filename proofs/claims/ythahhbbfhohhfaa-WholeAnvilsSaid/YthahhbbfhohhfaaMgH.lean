import Derived.Test.YthahhbbfhohhfaaMgG
import Derived.Laws.AppendOwn
import Derived.Orders
/-
  Mx,part N: stores,appends,bytes of a string.
-/
namespace Go.Mx
set_option linter.unusedVariables false
set_option linter.unusedSimpArgs false
set_option linter.unusedSectionVars false
open Go
section
variable {P : Program} {E : Env} {st st' : St} {ts : List C} {a : Act} {w : World}
theorem add_plain {ad : Addr} (h : ad.spot = none) (k : Nat) : ad.add k = ⟨ad.block,ad.off + k,none⟩:=by
  obtain ⟨b,o,s⟩:=ad
  simp only at h
  subst h
  exact Addr.add_lit b o k
theorem setCell_heap {w : World} {b : Nat} {arr : Array Value} {e : TypeId} {fr : Nat × Nat} (h : w.heap[b]? = some (.cells arr e fr)) (off : Nat) (v : Value) :
    (w.setCell ⟨b,off,none⟩ v).heap[b]? = some (.cells (arr.setIfInBounds off v) e fr):=by
  have hlt : b < w.heap.size:=(Array.getElem?_eq_some_iff.1 h).1
  have hv:=(Array.getElem?_eq_some_iff.1 h).2
  simp only [World.setCell]
  rw [Array.getElem?_eq_getElem (by simpa using hlt),Array.getElem_modify]
  simp [hv]
theorem setCell_heap_ne {w : World} {a : Addr} {v : Value} {k : Nat} (h : k ≠ a.block) : (w.setCell a v).heap[k]? = w.heap[k]?:=by
  simp only [World.setCell,Array.getElem?_modify]
  rw [if_neg (fun e => h e.symm)]
theorem Row.setCell {w : World} {b m : Nat} (h : Row w b m) (off : Nat) (v : Value) : Row (w.setCell ⟨b,off,none⟩ v) b m:=by
  obtain ⟨arr,e,lo,hi,h1,h2,h3⟩:=h
  exact ⟨_,e,lo,hi,setCell_heap h1 off v,by simpa using h2,h3⟩
theorem Row.cell {w : World} {b m : Nat} (h : Row w b m) {off : Nat} (ho : off < m) : ∃ u,w.cell? ⟨b,off,none⟩ = some u:=by
  obtain ⟨arr,e,lo,hi,h1,h2,h3⟩:=h
  exact ⟨arr[off]'(by omega),by simp [World.cell?,h1,show off < arr.size by omega]⟩
theorem Row.unfrozen {w : World} {b m : Nat} (h : Row w b m) {off : Nat} (ho : off < m) : w.frozen? ⟨b,off,none⟩ = false:=by
  obtain ⟨arr,e,lo,hi,h1,h2,h3⟩:=h
  have : ¬ (lo ≤ off∧off < hi):=by omega
  simp only [World.frozen?,h1]
  simp only [Bool.and_eq_false_iff,decide_eq_false_iff_not]
  by_cases hl : lo ≤ off
  · right; omega
  · left; omega
theorem run_store1 {w : World} {b m : Nat} (h : Row w b m) {off : Nat} (ho : off < m) {v : Value} (hv : v.oneCell' = true) : (Go.store ⟨b,off,none⟩ v).run P w = .ok () (w.setCell ⟨b,off,none⟩ v):=by
  obtain ⟨u,hu⟩:=h.cell ho
  rw [run_store P w _ v .plain hv,hu]
  simp [h.unfrozen ho]
theorem setAt_append {t : C} {p q : List Nat} {s x : C} (h : getAt t p = some s) : setAt t (p ++ q) x = setAt t p (setAt s q x):=by
  induction p generalizing t with
  | nil => rw [getAt_nil] at h; cases h; rw [setAt_nil]; rfl
  | cons i p ih =>
    cases t with
    | v y => simp [getAt] at h
    | hole d => simp [getAt] at h
    | nd k kids =>
      simp only [getAt] at h
      cases hk : kids[i]? with
      | none => simp [hk] at h
      | some t1 =>
        simp only [hk] at h
        simp only [List.cons_append,setAt,hk,ih h]
theorem getAt_setAt_self {t : C} {p : List Nat} {s x : C} (h : getAt t p = some s) : getAt (setAt t p x) p = some x:=by
  induction p generalizing t with
  | nil => rw [setAt_nil,getAt_nil]
  | cons i p ih =>
    cases t with
    | v y => simp [getAt] at h
    | hole d => simp [getAt] at h
    | nd k kids =>
      simp only [getAt] at h
      cases hk : kids[i]? with
      | none => simp [hk] at h
      | some t1 =>
        simp only [hk] at h
        simp only [setAt,hk,getAt]
        rw [List.getElem?_set_self (lt_of_get hk)]
        exact ih h
theorem setAt_one {k : K Dec} {kids : List C} {c : Nat} {old x : C} (h : kids[c]? = some old) : setAt (.nd k kids) [c] x = .nd k (kids.set c x):=by
  simp only [setAt,h,setAt_nil]
theorem cnt_two {b : Nat} {kids : List C} {i j : Nat} {s t : C} (hi : kids[i]? = some s) (hj : kids[j]? = some t) (hne : i ≠ j) : cnt b s + cnt b t ≤ cntL b kids:=by
  have e1:=cntL_set b kids i s (.v undef) hi
  have e2:=cnt_le_cntL b (kids.set i (.v undef)) j t (by rw [List.getElem?_set_ne hne]; exact hj)
  simp only [cnt] at e1
  omega
theorem Mem_put {w w' : World} {b : Nat} {k : K Dec} {kids kids' : List C} (hb : k.own b = 1) (hh : ∀ b',b' ≠ b→w'.heap[b']? = w.heap[b']?) (hnew : Mem w' true (.nd k kids')) (hv : val (.nd k kids') = val (.nd k kids)) :
    ∀ {t : C} {p : List Nat},Mem w true t→getAt t p = some (.nd k kids)→cnt b t ≤ 1→Mem w' true (setAt t p (.nd k kids')):=by
  intro t p
  induction p generalizing t with
  | nil => intro _ _ _; rw [setAt_nil]; exact hnew
  | cons i p ih =>
    intro hm hg hc
    cases t with
    | v y => simp [getAt] at hg
    | hole d => simp [getAt] at hg
    | nd k0 kids0 =>
      simp only [getAt] at hg
      cases hk : kids0[i]? with
      | none => simp [hk] at hg
      | some t1 =>
        simp only [hk] at hg
        have hc1 : 1 ≤ cnt b t1:=by have:=cnt_getAt b t1 p _ hg; simp only [cnt] at this; omega
        simp only [cnt] at hc
        have hc2:=cnt_le_cntL b kids0 i t1 hk
        simp only [Mem,MemL_iff] at hm
        simp only [setAt,hk,Mem,MemL_iff]
        have hsame : valL (kids0.set i (setAt t1 p (.nd k kids'))) = valL kids0:=by
          rw [valL_eq,valL_eq,List.map_set,val_setAt_same hg hv]
          apply List.ext_getElem?
          intro j
          rw [List.getElem?_set]
          split
          · rename_i hj; subst hj
            split
            · simp [hk]
            · rename_i hlt; simp at hlt; simp [List.getElem?_eq_none hlt]
          · rfl
        refine ⟨?_,?_⟩
        · rw [hsame]
          exact K.ok_same hm.1 (fun b' hb' => hh b' (by rintro rfl; omega)) (K.ok_empty hm.1)
        · intro t' ht'
          obtain ⟨j,hj⟩:=List.getElem?_of_mem ht'
          by_cases hij : i = j
          · subst hij
            rw [List.getElem?_set_self (lt_of_get hk)] at hj
            cases hj
            exact ih (hm.2 t1 (List.mem_of_getElem? hk)) hg (by omega)
          · rw [List.getElem?_set_ne hij] at hj
            have:=cnt_two (b:=b) hk hj hij
            exact (hm.2 t' (List.mem_of_getElem? hj)).same fun b' hb' => hh b' (by rintro rfl; omega)
theorem node_row {k : K Dec} {kids : List C} (hm : Mem w true (.nd k kids)) {ad : Addr} (ha : addrOf (.nd k kids) = some ad) {c : Nat} {old : C} (hk : kids[c]? = some old) :
    ad.spot = none∧memK k = true∧k.own ad.block = 1∧∃ m,c < m∧Row w ad.block (ad.off + m)∧kids.length ≤ m:=by
  have hc:=lt_of_get hk
  cases k with
  | sl d es n =>
    simp only [addrOf] at ha
    obtain ⟨⟨h1,h2,h3,h4⟩,_⟩:=hm
    rw [valL_len] at h1
    have hcap : d.cap ≠ 0:=by
      intro h0
      have : n = 0:=by omega
      subst this
      simp at h1
      rw [h1] at hc; simp at hc
    obtain ⟨g1,g2⟩:=h4 ad ha
    obtain ⟨g3,g4⟩:=g2 rfl hcap
    have hle : n * es ≤ d.cap * es:=Nat.mul_le_mul_right _ h2
    exact ⟨g3,rfl,by simp [K.own,hcap,ha],d.cap * es,by omega,g4,by omega⟩
  | bx d =>
    simp only [addrOf] at ha
    obtain ⟨⟨ad',h1,h2,h3⟩,_⟩:=hm
    rw [ha] at h1; cases h1
    obtain ⟨g3,g4⟩:=h3 rfl
    rw [valL_len] at g4
    exact ⟨g3,rfl,by simp [K.own,ha],kids.length,hc,g4,Nat.le_refl _⟩
  | ag => simp [addrOf] at ha
  | tu => simp [addrOf] at ha
  | fn f nf => simp [addrOf] at ha
theorem cell_put {k : K Dec} {kids : List C} (hm : Mem w true (.nd k kids)) {ad : Addr} (ha : addrOf (.nd k kids) = some ad) {c : Nat} {old x : C} (hk : kids[c]? = some old)
    (hx : Mem w true x) (hcx : cnt ad.block x = 0) (hck : cntL ad.block kids = 0) : Mem (w.setCell (ad.add c) (val x)) true (.nd k (kids.set c x)):=by
  obtain ⟨hsp,_,hown,m,hcm,hrow,hlen⟩:=node_row hm ha hk
  rw [add_plain hsp]
  have hne : ∀ b',b' ≠ ad.block→(w.setCell ⟨ad.block,ad.off + c,none⟩ (val x)).heap[b']? = w.heap[b']?:=fun b' h => setCell_heap_ne h
  have hcells : ∀ {vs : List Value},vs = valL kids→Cells w ad vs→Cells (w.setCell ⟨ad.block,ad.off + c,none⟩ (val x)) ad (valL (kids.set c x)):=by
    rintro vs rfl hc i u hu
    rw [add_plain hsp]
    rw [valL_eq,List.map_set] at hu
    by_cases hi : c = i
    · subst hi
      rw [List.getElem?_set_self (by rw [List.length_map]; exact lt_of_get hk)] at hu
      cases hu
      have:=hc c (val old) (by rw [valL_get,hk]; rfl)
      rw [add_plain hsp] at this
      exact World.cell?_setCell_same w _ _ this
    · rw [List.getElem?_set_ne hi,← valL_eq] at hu
      have:=hc i u hu
      rw [add_plain hsp] at this
      rw [World.cell?_setCell_other w _ _ _ (by simp; omega)]
      exact this
  have hkids : MemL (w.setCell ⟨ad.block,ad.off + c,none⟩ (val x)) true (kids.set c x):=by
    rw [MemL_iff]
    intro t ht
    rcases List.mem_or_eq_of_mem_set ht with h | rfl
    · refine (MemL_iff.1 hm.2 t h).same fun b' hb' => hne b' ?_
      rintro rfl
      obtain ⟨j,hj⟩:=List.getElem?_of_mem h
      have:=cnt_le_cntL ad.block kids j t hj
      omega
    · exact hx.same fun b' hb' => hne b' (by rintro rfl; exact hb' hcx)
  refine ⟨?_,hkids⟩
  cases k with
  | sl d es n =>
    simp only [addrOf] at ha
    obtain ⟨⟨h1,h2,h3,h4⟩,_⟩:=hm
    refine ⟨by rw [valL_len] at h1 ⊢; simpa using h1,h2,h3,?_⟩
    intro ad' had'
    rw [ha] at had'; cases had'
    obtain ⟨g1,g2⟩:=h4 ad ha
    exact ⟨hcells rfl g1,fun ho hc => ⟨(g2 ho hc).1,(g2 ho hc).2.setCell _ _⟩⟩
  | bx d =>
    simp only [addrOf] at ha
    obtain ⟨⟨ad',h1,h2,h3⟩,_⟩:=hm
    rw [ha] at h1; cases h1
    refine ⟨ad,ha,hcells rfl h2,fun ho => ⟨(h3 ho).1,?_⟩⟩
    have:=(h3 ho).2.setCell (ad.off + c) (val x)
    rw [valL_len] at this ⊢
    simpa using this
  | ag => simp [addrOf] at ha
  | tu => simp [addrOf] at ha
  | fn f nf => simp [addrOf] at ha
theorem keep_setCell (h : Keep E w) {ad : Addr} {v : Value} (ho : ¬ Old E ad.block) : Keep E (w.setCell ad v) :=
  ⟨h.os,h.tape,h.output,by simpa using h.size,fun k hk hw => by rw [setCell_heap_ne (by rintro rfl; exact ho ⟨hk,hw⟩)]; exact h.block k hk hw,h.low⟩
theorem putCells_ok {tm : Array Value} {r : Nat} {p : List Nat} {ad : Addr} {c0 : Nat} : ∀ (l : List C) (i : Nat) {st st' : St} {ts : List C} {w : World} {t0 : C} {k : K Dec} {kids : List C},Rel E st ts tm w→MemL w true l →
    (∀ b,cntL b ts + cntL b l ≤ 1)→(∀ b,cntL b l ≠ 0→¬ Old E b∧b < w.heap.size)→ts[r]? = some t0→getAt t0 p = some (.nd k kids)→addrOf (.nd k kids) = some ad→(erL l).all flatOk = true →
    putCells r p st (c0 + i) (erL l) = some st'→∃ ts' w',(storeCells (ad.add c0) (valL l) i).run P w = .ok () w'∧Rel E st' ts' tm w'
  | [],i,st,st',ts,w,t0,k,kids,hr,hm,hc,hd,ht,hg,ha,hf,hs => by
    simp only [erL,putCells,Option.some.injEq] at hs
    subst hs
    exact ⟨ts,w,rfl,hr⟩
  | x :: l,i,st,st',ts,w,t0,k,kids,hr,hm,hc,hd,ht,hg,ha,hf,hs => by
    simp only [erL,putCells] at hs
    cases hroot : rootD st r with
    | none => simp [hroot] at hs
    | some d0 =>
      simp only [hroot] at hs
      obtain ⟨k0,kids0,q1,q2,q3⟩:=hr.root hroot
      rw [ht] at q1; cases q1
      subst q2
      rw [er_getAt,hg] at hs
      simp only [Option.map_some,er,erL_get] at hs
      cases hk : kids[c0 + i]? with
      | none => simp [hk] at hs
      | some old =>
        simp only [hk,Option.map_some] at hs
        have hmn:=Mem_getAt (hr.mem r _ ht) hg
        obtain ⟨hsp,hmk,hown,m,hcm,hrow,hlen⟩:=node_row hmn ha hk
        have hcnode:=cnt_getAt ad.block _ p _ hg
        have hcts:=cnt_le_cntL ad.block ts r _ ht
        have hu:=hr.uniq ad.block
        have hcb:=hc ad.block
        have hcn : cnt ad.block (T.nd k kids) = k.own ad.block + cntL ad.block kids:=rfl
        simp only [cntL] at hcb
        have hk0 : cntL ad.block kids = 0:=by omega
        have hx0 : cnt ad.block x = 0:=by omega
        have hold : ¬ Old E ad.block:=(hr.dom ad.block (by omega)).1
        simp only [MemL] at hm
        simp only [erL,List.all_cons,Bool.and_eq_true] at hf
        have hone:=flat_one hf.1
        have hnew:=cell_put hmn ha hk hm.1 hx0 hk0
        have hset : setAt (T.nd k0 kids0) (p ++ [c0 + i]) x = setAt (T.nd k0 kids0) p (.nd k (kids.set (c0 + i) x)):=by rw [setAt_append hg,setAt_one hk]
        have hvsame : val (.nd k (kids.set (c0 + i) x)) = val (.nd k kids):=by rw [← setAt_one hk]; exact val_setAt_mem hmk
        have hsame : ∀ b',b' ≠ ad.block→(w.setCell (ad.add (c0 + i)) (val x)).heap[b']? = w.heap[b']?:=fun b' h => setCell_heap_ne (by rw [Addr.add_block]; exact h)
        have hch:=hr.change (w':=w.setCell (ad.add (c0 + i)) (val x)) ht (p:=p ++ [c0 + i]) (s:=old) (x:=x) (by rw [getAt_append,hg]; simp [getAt,hk]) (by simp) (quiet_cell hg hmk) (rootD_some hroot)
          (st1:=if isSc (er old) then st else kill r (p ++ [c0 + i]) st) (by
            split
            · rename_i hsc
              right
              refine ⟨rfl,?_⟩
              intro k' kids' e
              rw [e] at hsc
              simp [er,isSc] at hsc
            · left; rfl)
          (by
            intro j t hj
            by_cases hjr : r = j
            · subst hjr
              rw [List.getElem?_set_self (lt_of_get ht)] at hj
              cases hj
              rw [hset]
              exact Mem_put hown hsame hnew hvsame (hr.mem r _ ht) hg (by omega)
            · rw [List.getElem?_set_ne hjr] at hj
              have:=cnt_two (b:=ad.block) ht hj hjr
              refine (hr.mem j t hj).same fun b' hb' => hsame b' ?_
              rintro rfl
              omega)
          (by
            intro b hb
            have h1:=hc b
            simp only [cntL] at h1
            obtain ⟨h2,h3⟩:=hd b (by simp only [cntL]; omega)
            exact ⟨by omega,h2,by simpa using h3⟩)
          (by simp) (keep_setCell hr.keep (by rw [Addr.add_block]; exact hold))
        have herset : setAt (er (T.nd k0 kids0)) (p ++ [c0 + i]) (er x) = er (setAt (T.nd k0 kids0) (p ++ [c0 + i]) x):=(er_setAt _ _ _).symm
        have hnewcnt : ∀ b,cntL b (ts.set r (setAt (T.nd k0 kids0) (p ++ [c0 + i]) x)) ≤ cntL b ts + cnt b x:=by
          intro b
          have e1:=cntL_set b ts r _ (setAt (T.nd k0 kids0) (p ++ [c0 + i]) x) ht
          have e2:=cnt_setAt b (T.nd k0 kids0) (p ++ [c0 + i]) old x (by rw [getAt_append,hg]; simp [getAt,hk])
          omega
        have hs' : putCells r p ((if isSc (er old) then st else kill r (p ++ [c0 + i]) st).set r (.own (setAt (er (T.nd k0 kids0)) (p ++ [c0 + i]) (er x)))) (c0 + (i + 1)) (erL l) = some st':=by
          simpa [er,Nat.add_assoc] using hs
        obtain ⟨ts',w',h1,h2⟩:=putCells_ok l (i + 1) (w:=w.setCell (ad.add (c0 + i)) (val x)) hch
          (hm.2.same fun b' hb' => hsame b' (by rintro rfl; omega))
          (fun b => by have:=hnewcnt b; have:=hc b; simp only [cntL] at this; omega)
          (fun b hb => by obtain ⟨g1,g2⟩:=hd b (by simp only [cntL]; omega); exact ⟨g1,by simpa using g2⟩)
          (List.getElem?_set_self (lt_of_get ht)) (p:=p) (k:=k) (kids:=kids.set (c0 + i) x) (by rw [hset]; exact getAt_setAt_self hg)
          (by cases k <;> exact ha) hf.2 hs'
        refine ⟨ts',w',?_,h2⟩
        have e:=run_store1 (P:=P) hrow (off:=ad.off + (c0 + i)) (by omega) hone
        rw [← add_plain hsp] at e
        simp only [valL,storeCells]
        rw [Sem.run_bind,Addr.add_add',e]
        exact h1
theorem target_ok {tm : Array Value} (hr : Rel E st ts tm w) {x : V} {u : Value} (hv : VRel E ts x u) {r : Nat} {p : List Nat} {c : Nat} (h : target st x = some (r,p,c)) :
    ∃ t0 k kids ad,ts[r]? = some t0∧getAt t0 p = some (.nd k kids)∧addrOf (.nd k kids) = some ad∧u = .pointer (some (ad.add c)):=by
  unfold target at h
  split at h
  · rename_i r' p' c'
    split at h
    · rename_i d hp
      split at h
      · cases h
        obtain ⟨t0,k,kids,ad,h1,h2,h3,h4⟩:=hv
        exact ⟨t0,k,kids,ad,h1,h2,h3,h4⟩
      · cases h
    · cases h
  · rename_i r' p'
    split at h
    · rename_i d hp
      split at h
      · rename_i kids hk
        cases h
        obtain ⟨b,rfl⟩:=boxKids_some hk
        obtain ⟨t0,s,h1,h2,h3,_⟩:=hr.place hp
        obtain ⟨t1,k,kids1,f1,f2,f3⟩:=hv
        rw [h1] at f1; cases f1
        rw [h2] at f2; cases f2
        obtain ⟨d,ks,he,_⟩:=er_bx h3
        cases he
        have hm:=Mem_getAt (hr.mem _ _ h1) h2
        obtain ⟨⟨ad,hda,_,_⟩,_⟩:=hm
        exact ⟨t0,.bx d,kids1,ad,h1,h2,hda,by rw [← f3]; simp [val,K.val,hda,Addr.add]⟩
      · cases h
    · cases h
  · cases h
theorem stn_ok (hr : Rel E st ts a.tmps w) {o : Oper} {t : TypeId} {x y : Operand} (ho : o.op = .store t x y) {m : Nat} (hm : sizeT P t = some m) {e1 e2 : Nat} {mx my : MO} (hx : opd e1 x = some mx) (hy : opd e2 y = some my)
    {call : Oracle} (hs : step call st (.stn o.dst m mx my) = some st') : Goes P E o a w st':=by
  simp only [step] at hs
  cases hst : store st mx my m with
  | none => simp [hst] at hs
  | some st2 =>
    simp only [hst,Option.some.injEq] at hs
    unfold store at hst
    cases htk : take st (ev st my) with
    | none => simp [htk] at hst
    | some q =>
      obtain ⟨d,st1⟩:=q
      simp only [htk] at hst
      cases htg : target st1 (ev st1 mx) with
      | none => simp [htg] at hst
      | some q2 =>
        obtain ⟨r,p,c⟩:=q2
        simp only [htg] at hst
        split at hst
        · rename_i hc
          obtain ⟨hlen,hfl⟩:=hc
          obtain ⟨tt,ts1,h1,h2,h3,h4,h5,h6⟩:=take_ok _ (ev_ok hr (opd_ok (a:=a) hy)) (Evolve.refl _) hr htk
          subst h1
          obtain ⟨t0,k,kids,ad,g1,g2,g3,g4⟩:=target_ok h4 (ev_ok h4 (opd_ok (a:=a) hx)) htg
          have hcv:=val_cellsOf hfl
          rw [h2] at hcv
          rw [← erL_cellsOf] at hst hfl hlen
          rw [erL_len] at hlen
          obtain ⟨ts',w',k1,k2⟩:=putCells_ok (P:=P) (cellsOfC tt) 0 h4 (Mem_cellsOf h3) (fun b => by rw [cnt_cellsOf]; have:=h6 b; have:=hr.uniq b; omega)
            (fun b hb => by rw [cnt_cellsOf] at hb; have:=moved hr h6 b hb; exact this.2.2) g1 g2 g3 hfl hst
          have hrun : (execOp a.eval o).run P w = .ok .skip w':=by
            simp only [execOp,ho,Instr.storeAt,g4,Instr.sureAddr,storeVar,Sem.run_bind,Sem.run_pure,Result.andThen_ok,run_sizeOf' hm,hcv,Sem.run_ite]
            rw [if_neg (by simp [valL_len,hlen])]
            simp only [k1,Result.andThen_ok]
          cases hd : o.dst with
          | none =>
            rw [hd] at hs
            simp only [put] at hs
            subst hs
            exact goes_skip hrun (ts':=ts') (by rw [hd]; exact k2)
          | some d =>
            rw [hd] at hs
            simp only [put] at hs
            subst hs
            exact goes_skip hrun (ts':=ts'.set d (.v undef)) (by rw [hd]; exact k2.set d (x:=.sc undef) rfl)
        · cases hst
end
end Go.Mx
namespace Go.Mx
set_option linter.unusedVariables false
set_option linter.unusedSimpArgs false
set_option linter.unusedSectionVars false
open Go
structure FreshT (w w' : World) (t : C) : Prop where
  mem : Mem w' true t
  own : ∀ b,cnt b t ≤ 1∧(cnt b t ≠ 0→w.heap.size ≤ b∧b < w'.heap.size)
structure Enters (P : Program) (f : FuncId) : Prop where
  ex : ∃ fn c,P.funcs[f]? = some fn∧(fn.name == "runtime.NumGoroutine") = false∧fn.body = some c
structure BelowX (t0 : C) (w w' : World) : Prop where
  os : w'.os = w.os
  tape : w'.tape = w.tape
  output : w'.output = w.output
  size : w.heap.size ≤ w'.heap.size
  block : ∀ k,k < w.heap.size→cnt k t0 = 0→w'.heap[k]? = w.heap[k]?
structure IOPost (w w' : World) (t0 t t1 : C) : Prop where
  mem : Mem w' true t
  mem1 : Mem w' true t1
  val : val t1 = val t0
  box : ∃ d kids,t1 = .nd (.bx d) kids
  uniq : ∀ b,cnt b t + cnt b t1 ≤ 1
  own : ∀ b,cnt b t + cnt b t1 ≠ 0→(cnt b t0 ≠ 0 ∨ w.heap.size ≤ b)∧b < w'.heap.size
structure IOPre (w : World) (t0 : C) (l : List C) : Prop where
  box : ∃ d kids,t0 = .nd (.bx d) kids
  mem : Mem w true t0
  args : MemL w false l
  uniq : ∀ b,cnt b t0 ≤ 1
  low : ∀ b,cnt b t0 ≠ 0→b < w.heap.size∧cntL b l = 0
  lowA : ∀ b,cntL b l ≠ 0→b < w.heap.size
structure CallsOK (P : Program) (g : Glob) (call : Oracle) : Prop where
  reg : ∀ f ds d,f < ioB→call f ds = some d→Enters P f∧∀ (l : List C) (w : World),g.At w→erL l = ds→MemL w false l→(∀ b,cntL b l ≠ 0→b < w.heap.size) →
    Calls P f (valL l).toArray w fun e w' => ∃ t,e = .returned (val t)∧er t = d∧RowKit.Below w.heap.size w w'∧FreshT w w' t
  io : ∀ f ds d,f < ioB→call (f + ioB) ds = some d→Enters P f∧∀ (t0 : C) (l : List C) (w : World),g.At w→(∀ b,g.blk b→cnt b t0 = 0)→er t0 :: erL l = ds→IOPre w t0 l →
    Calls P f (val t0 :: valL l).toArray w fun e w' => ∃ t t1,e = .returned (val t)∧d = .nd .tu [er t,er t1]∧BelowX t0 w w'∧IOPost w w' t0 t t1
section
variable {P : Program} {E : Env} {st st' : St} {ts : List C} {a : Act} {w : World}
theorem run_enter {f : FuncId} (h : Enters P f) (args : Array Value) (w : World) : (callFunc f args).run P w = .ok (.enter f args) w:=by
  obtain ⟨fn,c,hf,hname,hb⟩:=h.ex
  have h1 : fn.name ≠ "runtime.NumGoroutine":=by simpa using hname
  simp [callFunc,hf,h1,hb]
theorem opds_ok : ∀ (l : List (Operand × Nat)) (ms : List MO),opds l = some ms→MORelL a.tmps ms (l.map fun q => a.eval q.1)
  | [],ms,h => by simp only [opds,Option.some.injEq] at h; subst h; rfl
  | (x,es) :: xs,ms,h => by
    simp only [opds] at h
    cases h1 : opd es x with
    | none => simp [h1] at h
    | some m =>
      simp only [h1] at h
      cases h2 : opds xs with
      | none => simp [h2] at h
      | some ms' =>
        simp only [h2,Option.some.injEq] at h
        subst h
        exact ⟨_,_,rfl,opd_ok h1,opds_ok xs ms' h2⟩
theorem below_grew {w w' : World} (h : RowKit.Below w.heap.size w w') : Grew w w':=⟨h.os,h.tape,h.output,h.size,h.block⟩
theorem after_call (hr : Rel E st ts a.tmps w) {dst : Option Tmp} {w' : World} {t : C} (hb : RowKit.Below w.heap.size w w') (hf : FreshT w w' t) :
    ∃ ts',Rel E (put st dst (mkOwn (er t))) ts' (a.put dst (val t)).tmps w':=by
  have hg:=hr.grow (below_grew hb)
  cases dst with
  | none => exact ⟨ts,hg⟩
  | some d =>
    refine hg.setMk d hf.mem fun b hne => ?_
    obtain ⟨h1,h2⟩:=hf.own b
    obtain ⟨h3,h4⟩:=h2 hne
    refine ⟨?_,h1,fun ho => ?_,h4⟩
    · by_cases hz : cntL b ts = 0
      · exact hz
      · have:=(hr.dom b hz).2; omega
    · have:=ho.1; have:=hr.keep.low; have:=hr.keep.size; omega
theorem zip_fst {α β : Type} : ∀ (l : List α) (m : List β),l.length = m.length→(l.zip m).map (·.1) = l
  | [],[],_ => rfl
  | x :: xs,y :: ys,h => by simp only [List.zip_cons_cons,List.map_cons]; rw [zip_fst xs ys (by simpa using h)]
  | [],_ :: _,h => by simp at h
  | _ :: _,[],h => by simp at h
theorem args_ok {c : Call} {es : List Nat} {ms : List MO} (h : opds (c.args.toList.zip es) = some ms) (hl : c.args.size = es.length) : MORelL a.tmps ms (c.args.toList.map a.eval):=by
  have:=opds_ok (a:=a) _ _ h
  have e : (c.args.toList.zip es).map (fun q => a.eval q.1) = c.args.toList.map a.eval:=by
    rw [← zip_fst c.args.toList es (by simpa using hl),List.map_map]
    rw [zip_fst c.args.toList es (by simpa using hl)]
    rfl
  rw [e] at this
  exact this
theorem call_goes (hr : Rel E st ts a.tmps w) {call : Oracle} (hc : CallsOK P E.g call) {o : Oper} {f : FuncId} {args : Array Value} (hex : execOp a.eval o = callFunc f args)
    {ds : List D} {d : D} {l : List C} (hlt : f < ioB) (hcd : call f ds = some d) (h1 : erL l = ds) (h2 : (valL l).toArray = args) (h3 : MemL w false l) (h4 : ∀ b,cntL b l ≠ 0→b < w.heap.size) :
    Goes P E o a w (put st o.dst (mkOwn d)):=by
  intro next Q hn
  obtain ⟨hent,hcall⟩:=hc.reg f ds d hlt hcd
  unfold Oper.wp
  rw [hex,run_enter hent,Oper.upon_enter]
  subst h2
  refine Calls.mono (hcall l w hr.keep.at' h1 h3 h4) ?_
  rintro e w' ⟨t,rfl,rfl,hb,hf⟩
  obtain ⟨ts',h⟩:=after_call (dst:=o.dst) hr hb hf
  exact hn _ _ ts' h
theorem call_ok (hr : Rel E st ts a.tmps w) {call : Oracle} (hc : CallsOK P E.g call) {o : Oper} {c : Call} (ho : o.op = .call c) {f : FuncId} (hcal : c.callee = .value (.func f))
    {es : List Nat} {ms : List MO} (hms : opds (c.args.toList.zip es) = some ms) (hl : c.args.size = es.length) (hlt : f < ioB) (hs : step call st (.call o.dst f ms) = some st') : Goes P E o a w st':=by
  simp only [step] at hs
  cases hrd : rdAll st ms with
  | none => simp [hrd] at hs
  | some ds =>
    simp only [hrd] at hs
    cases hcd : call f ds with
    | none => simp [hcd] at hs
    | some d =>
      simp only [hcd,Option.some.injEq] at hs
      subst hs
      obtain ⟨l,h1,h2,h3,h4⟩:=rdAll_ok hr ms (args_ok hms hl) hrd
      refine call_goes hr hc ?_ hlt hcd h1 (args:=c.args.map a.eval) ?_ h3 h4
      · have ef : a.eval (.func f) = .func (.func f) #[] #[]:=rfl
        unfold execOp
        simp [ho,resolve,hcal,Deferred.ofValue,invoke,ef]
      · rw [h2]; apply Array.toList_inj.1; simp
theorem calv_ok (hr : Rel E st ts a.tmps w) {call : Oracle} (hc : CallsOK P E.g call) {o : Oper} {c : Call} (ho : o.op = .call c) {t : Tmp} (hcal : c.callee = .value (.tmp t))
    {es : List Nat} {ms : List MO} (hms : opds (c.args.toList.zip es) = some ms) (hl : c.args.size = es.length) (hs : step call st (.calv o.dst (.t t) ms) = some st') : Goes P E o a w st':=by
  simp only [step] at hs
  split at hs
  · rename_i f nf kids hg
    cases hrd : rdAll st ms with
    | none => simp [hrd] at hs
    | some ds =>
      simp only [hrd] at hs
      split at hs
      case isFalse => cases hs
      rename_i hlt
      cases hcd : call f (kids.take nf ++ ds ++ kids.drop nf) with
      | none => rw [hcd] at hs; cases hs
      | some d =>
        rw [hcd] at hs
        simp only [Option.some.injEq] at hs
        subst hs
        obtain ⟨l,h1,h2,h3,h4⟩:=rdAll_ok hr ms (args_ok hms hl) hrd
        have hv:=ev_ok hr (m:=.t t) (u:=a.tmps.getD t undef) rfl
        obtain ⟨tt,g1,g2,g3,g4⟩:=rd_ok hr _ hv hg
        obtain ⟨k',kk,rfl,hk,rfl⟩:=er_eq_nd g1
        have : k' = .fn (.func f) nf:=by cases k' <;> simp [K.er] at hk; rw [hk.1,hk.2]
        subst this
        simp only [Mem] at g3
        simp only [cnt,K.own,Nat.zero_add] at g4
        refine call_goes hr hc (l:=kk.take nf ++ l ++ kk.drop nf) ?_ hlt hcd ?_ rfl ?_ ?_
        · have ef : a.eval (.tmp t) = a.tmps.getD t undef:=rfl
          have e2 : a.tmps.getD t undef = .func (.func f) ((valL kk).take nf).toArray ((valL kk).drop nf).toArray:=g2.symm
          unfold execOp
          simp only [ho,resolve,hcal,ef,e2,Deferred.ofValue,pure_bind,invoke]
          congr 1
          rw [valL_append,valL_append,valL_take,valL_drop,h2]
          simp
        · rw [erL_append,erL_append,h1,erL_take,erL_drop]
        · exact MemL_append (MemL_append (MemL_take g3.2 _) h3) (MemL_drop g3.2 _)
        · intro b hb
          rw [cntL_append,cntL_append] at hb
          have:=cntL_take_drop b kk nf
          by_cases hz : cntL b l = 0
          · exact g4 b (by omega)
          · exact h4 b hz
  · cases hs
theorem Rel.growX {tm : Array Value} {t0 : C} (h : Rel E st ts tm w) {w' : World} (g : BelowX t0 w w') (hd : ∀ b,cnt b t0 ≠ 0→cntL b ts = 0∧¬ Old E b) : Rel E st ts tm w':=by
  refine ⟨h.lenT,h.lenM,h.slot,?_,h.uniq,fun b hb => ⟨(h.dom b hb).1,by have:=(h.dom b hb).2; have:=g.size; omega⟩,?_⟩
  · intro i t ht
    refine (h.mem i t ht).same fun b hb => ?_
    have hne : cntL b ts ≠ 0:=by have:=cnt_le_cntL b ts i t ht; omega
    refine g.block b (h.dom b hne).2 ?_
    by_cases hz : cnt b t0 = 0
    · exact hz
    · exact absurd (hd b hz).1 hne
  · have k:=h.keep
    refine ⟨g.os.trans k.os,g.tape.trans k.tape,g.output.trans k.output,Nat.le_trans k.size g.size,fun b hb hw => ?_,k.low⟩
    refine (g.block b (by have:=k.size; have:=k.low; omega) ?_).trans (k.block b hb hw)
    by_cases hz : cnt b t0 = 0
    · exact hz
    · exact absurd ⟨hb,hw⟩ (hd b hz).2
theorem after_io (hr : Rel E st ts a.tmps w) {r : Nat} (hdead : st[r]? = some .dead) {t0 : C} (hv : val t0 = a.tmps.getD r undef) (hd : ∀ b,cnt b t0 ≠ 0→cntL b ts = 0∧¬ Old E b) {dst : Option Tmp} {w' : World} {t t1 : C} (hb : BelowX t0 w w') (hp : IOPost w w' t0 t t1) :
    ∃ ts',Rel E (put (st.set r (.own (er t1))) dst (mkOwn (er t))) ts' (a.put dst (val t)).tmps w':=by
  have hg:=hr.growX hb hd
  obtain ⟨dd,kids,hbx⟩:=hp.box
  have hold : ∀ b,w.heap.size ≤ b→¬ Old E b:=fun b h1 h2 => by have:=h2.1; have:=hr.keep.low; have:=hr.keep.size; omega
  have hz : ∀ b,cnt b t + cnt b t1 ≠ 0→cntL b ts = 0∧¬ Old E b∧b < w'.heap.size:=by
    intro b hne
    obtain ⟨h1,h2⟩:=hp.own b hne
    rcases h1 with h1 | h1
    · exact ⟨(hd b h1).1,(hd b h1).2,h2⟩
    · refine ⟨?_,hold b h1,h2⟩
      by_cases hz : cntL b ts = 0
      · exact hz
      · have:=(hr.dom b hz).2; omega
  have h1:=hg.setOwn r (t:=t1) ⟨_,_,hbx⟩ hp.mem1 (fun b hne => by
    obtain ⟨k1,k2,k3⟩:=hz b (by omega)
    have:=hp.uniq b
    exact ⟨k1,by omega,k2,k3⟩)
  have e1 : setv st r (.own (er t1)) = st.set r (.own (er t1)):=by simp [setv,hdead]
  have e2 : a.tmps.setIfInBounds r (val t1) = a.tmps:=by rw [hp.val,hv,setI_same]
  rw [e1,e2] at h1
  cases dst with
  | none => exact ⟨_,h1⟩
  | some d =>
    refine h1.setMk d hp.mem fun b hne => ?_
    obtain ⟨k1,k2,k3⟩:=hz b (by omega)
    have hu:=hp.uniq b
    have hs : cntL b (ts.set r t1) = 0:=by
      cases hts : ts[r]? with
      | none =>
        have : ts.set r t1 = ts:=List.set_eq_of_length_le (List.getElem?_eq_none_iff.1 hts)
        rw [this]; exact k1
      | some t2 =>
        have:=cntL_set b ts r t2 t1 hts
        have:=cnt_le_cntL b ts r t2 hts
        omega
    exact ⟨hs,by omega,k2,k3⟩
theorem calI_ok (hr : Rel E st ts a.tmps w) {call : Oracle} (hc : CallsOK P E.g call) {o : Oper} {c : Call} (ho : o.op = .call c) {f : FuncId} (hcal : c.callee = .value (.func f))
    {es : List Nat} {x : MO} {ms : List MO} (hms : opds (c.args.toList.zip es) = some (x :: ms)) (hl : c.args.size = es.length) (hlt : f < ioB) (hs : step call st (.calI o.dst f x ms) = some st') : Goes P E o a w st':=by
  have hex : execOp a.eval o = callFunc f (c.args.map a.eval):=by
    have ef : a.eval (.func f) = .func (.func f) #[] #[]:=rfl
    unfold execOp
    simp [ho,resolve,hcal,Deferred.ofValue,invoke,ef]
  obtain ⟨u,us,hau,hmx,hmm⟩:=args_ok (a:=a) hms hl
  have hv:=ev_ok hr hmx
  simp only [step] at hs
  split at hs
  · rename_i hev
    rw [hev] at hv
    cases hrd : rdAll st ms with
    | none => simp [hrd] at hs
    | some ds =>
      simp only [hrd] at hs
      cases hcd : call f (.v (.pointer none) :: ds) with
      | none => simp [hcd] at hs
      | some d =>
        simp only [hcd,Option.some.injEq] at hs
        subst hs
        obtain ⟨l,h1,h2,h3,h4⟩:=rdAll_ok hr ms hmm hrd
        refine call_goes hr hc hex hlt hcd (l:=.v (.pointer none) :: l) (by simp [erL,er,h1]) ?_ ⟨trivial,h3⟩ (fun b hb => h4 b (by simpa [cntL,cnt] using hb))
        apply Array.toList_inj.1
        have : u = .pointer none:=hv
        simp [valL,val,h2,hau,this]
  · rename_i r hev
    rw [hev] at hv
    split at hs
    · rename_i b0 kids hroot
      cases hrd : rdAll ((kill r [] st).set r .dead) ms with
      | none => simp [hrd] at hs
      | some ds =>
        simp only [hrd] at hs
        obtain ⟨k0,kids0,hts,her,hval⟩:=hr.root hroot
        obtain ⟨t1',k1,kids1,g1,g2,g3⟩:=hv
        rw [hts] at g1; cases g1
        rw [getAt_nil] at g2; cases g2
        obtain ⟨ts1,hr1,hc1,_,hm0⟩:=leave_ok hr hroot hts (p:=[]) (getAt_nil _)
        have hlv : leave st r (T.nd (K.bx b0) kids) [] = (kill r [] st).set r .dead:=rfl
        rw [hlv] at hr1
        obtain ⟨dd,ks,hbx,_⟩:=er_bx her
        obtain ⟨l,h1,h2,h3,h4⟩:=rdAll_ok' hr1 ms hmm hrd
        have hdj : ∀ b,cnt b (.nd k0 kids0) ≠ 0→cntL b ts1 = 0∧¬ Old E b:=by
          intro b hne
          have e1:=hc1 b
          have e2:=hr.uniq b
          exact ⟨by omega,(hr.dom b (by omega)).1⟩
        have hpre : IOPre w (.nd k0 kids0) l:=by
          refine ⟨⟨_,_,hbx⟩,hm0,h3,fun b => ?_,fun b hne => ⟨?_,?_⟩,fun b hb => hr1.below (h4 b hb)⟩
          · have e1:=hc1 b
            have e2:=hr.uniq b
            omega
          · have e1:=hc1 b
            exact (hr.dom b (by omega)).2
          · by_cases hz : cntL b l = 0
            · exact hz
            · obtain ⟨k1,k2⟩:=hdj b hne
              rcases h4 b hz with h5 | h5
              · exact absurd h5 k2
              · exact absurd k1 h5
        cases hcd : call (f + ioB) (.nd (.bx b0) kids :: ds) with
        | none => simp [hcd,ioRes] at hs
        | some d =>
          obtain ⟨hent,hcall⟩:=hc.io f _ d hlt hcd
          intro next Q hn
          unfold Oper.wp
          rw [hex,run_enter hent,Oper.upon_enter]
          have eargs : (c.args.map a.eval) = (val (.nd k0 kids0) :: valL l).toArray:=by
            apply Array.toList_inj.1
            simp [h2,hau,g3]
          rw [eargs]
          refine Calls.mono (hcall (.nd k0 kids0) l w hr.keep.at' (fun b hb => by
            by_cases hz : cnt b (.nd k0 kids0) = 0
            · exact hz
            · exact absurd (E.gold b hb) (hdj b hz).2) (by rw [her,h1]) hpre) ?_
          rintro e w' ⟨t,t1,rfl,rfl,hb,hp⟩
          obtain ⟨d1,kk1,hbx1⟩:=hp.box
          have hst : st' = put (((kill r [] st).set r .dead).set r (.own (er t1))) o.dst (mkOwn (er t)):=by
            rw [hcd] at hs
            subst hbx1
            simpa [ioRes,er,K.er] using hs.symm
          subst hst
          have hrlt : r < st.length:=lt_of_get (rootD_some hroot)
          obtain ⟨ts',h⟩:=after_io (dst:=o.dst) hr1 (r:=r) (by rw [List.getElem?_set_self (by simpa using hrlt)]) hval hdj hb hp
          exact hn _ _ ts' h
    · cases hs
  · cases hs
theorem nc_ok (hr : Rel E st ts a.tmps w) {o : Oper} {x : Operand} (ho : o.op = .nilCheck x) {d e1 : Nat} (hd : o.dst = some d) {mx : MO} (hx : opd e1 x = some mx) {call : Oracle} (hs : step call st (.nc d mx) = some st') : Goes P E o a w st':=by
  simp only [step] at hs
  split at hs
  · rename_i hn
    cases hs
    have hv:=ev_ok hr (opd_ok (a:=a) hx)
    have h1:=isNil_ok hr hv hn
    simp only [if_true] at h1
    obtain ⟨ad,h2,h3⟩:=h1
    cases ad with
    | none => cases h3
    | some ad =>
      refine goes_value (v:=a.eval x) (w':=w) ?_ ?_ (ts':=ts.set d (.v undef))
      · simp [execOp,ho,h2]
      · rw [hd]; exact hr.set d hv
  · cases hs
theorem str_bounds {n : Nat} {lo hi : Option Value} {l h : Option Nat} (hl : (lo = none∧l = none) ∨ ∃ k v,lo = some (.int k (v : Nat))∧l = some v)
    (hh : (hi = none∧h = none) ∨ ∃ k v,hi = some (.int k (v : Nat))∧h = some v) (hle : l.getD 0 ≤ h.getD n) (hn : h.getD n ≤ n) (w : World) :
    (Instr.sliceBounds false n n lo hi none).run P w = .ok (l.getD 0,h.getD n,n) w:=by
  rcases hl with ⟨rfl,rfl⟩ | ⟨k,v,rfl,rfl⟩ <;> rcases hh with ⟨rfl,rfl⟩ | ⟨k',v',rfl,rfl⟩
  · simp [Instr.sliceBounds]
  · simp only [Option.getD_some,Option.getD_none] at *
    simp [Instr.sliceBounds,Instr.sliceBound,asIntOf,show ¬ (n : Nat) < v' by omega,show v' ≤ n by omega]
  · simp only [Option.getD_some,Option.getD_none] at *
    simp [Instr.sliceBounds,Instr.sliceBound,asIntOf,show v ≤ n by omega,show ¬ (n : Nat) < v by omega]
  · simp only [Option.getD_some] at *
    simp [Instr.sliceBounds,Instr.sliceBound,asIntOf,show ¬ (n : Nat) < v' by omega,show v' ≤ n by omega,show v ≤ v' by omega,show ¬ (v' : Nat) < v by omega]
theorem ssl_ok (hr : Rel E st ts a.tmps w) {o : Oper} {t : TypeId} {x : Operand} {lo hi : Option Operand} (ho : o.op = .slice t x lo hi none) (ht : P.underlying t = some .string)
    {d e1 : Nat} (hd : o.dst = some d) {mx : MO} {ml mh : Option MO} (hx : opd e1 x = some mx) (hml : OptM lo ml)
    (hmh : OptM hi mh) {call : Oracle} (hs : step call st (.ssl d mx ml mh) = some st') : Goes P E o a w st':=by
  simp only [step] at hs
  split at hs
  · rename_i s hev
    have hv:=ev_sc hr hx hev
    cases hl : optNat st ml with
    | none => simp [hl] at hs
    | some l =>
      cases hh : optNat st mh with
      | none => simp [hl,hh] at hs
      | some h =>
        simp only [hl,hh] at hs
        cases he : strSl s l h with
        | none => simp [he] at hs
        | some y =>
          simp only [he,Option.some.injEq] at hs
          subst hs
          unfold strSl at he
          split at he
          · rename_i hc
            cases he
            have hb:=str_bounds (P:=P) (optNat_ok hr hml hl) (optNat_ok hr hmh hh) hc.1 hc.2 w
            refine goes_value (v:=.string (s.extract (l.getD 0) (h.getD s.size))) (w':=w) ?_ ?_ (ts':=ts.set d (.v undef))
            · simp [execOp,ho,Instr.sliceAt,hv,run_underlying ht,Instr.slice,hb]
            · rw [hd]; exact hr.set d (x:=.sc _) rfl
          · cases he
  · cases hs
theorem ssl_yields (hr : Rel E st ts a.tmps w) {o : Oper} {t : TypeId} {x : Operand} {lo hi : Option Operand} (ho : o.op = .slice t x lo hi none) (ht : P.underlying t = some .string)
    {e1 : Nat} {mx : MO} {ml mh : Option MO} (hx : opd e1 x = some mx) (hml : OptM lo ml)
    (hmh : OptM hi mh) {s : ByteArray} (hev : ev st mx = .sc (.string s)) {l h : Option Nat} (hl : optNat st ml = some l) (hh : optNat st mh = some h) {y : V} (he : strSl s l h = some y) : ∃ v,(∀ w',(execOp a.eval o).run P w' = .ok (.value v) w')∧VRel E ts y v:=by
  have hv:=ev_sc hr hx hev
  unfold strSl at he
  split at he
  · rename_i hc
    cases he
    refine ⟨_,fun w' => ?_,rfl⟩
    have hb:=str_bounds (P:=P) (optNat_ok hr hml hl) (optNat_ok hr hmh hh) hc.1 hc.2 w'
    simp [execOp,ho,Instr.sliceAt,hv,run_underlying ht,Instr.slice,hb]
  · cases he
end
end Go.Mx
namespace Go.Mx
set_option linter.unusedVariables false
set_option linter.unusedSimpArgs false
set_option linter.unusedSectionVars false
open Go
section
variable {P : Program} {E : Env} {st st' : St} {ts : List C} {a : Act} {w : World}
theorem run_storeRow {b m off : Nat} : ∀ (vs : List Value) (i : Nat) (w : World),Row w b m→off + i + vs.length ≤ m→(∀ v ∈ vs,v.oneCell' = true) →
    ∃ w',(Go.storeCells ⟨b,off,none⟩ vs i).run P w = .ok () w'∧Row w' b m∧(∀ k,k ≠ b→w'.heap[k]? = w.heap[k]?)∧w'.os = w.os∧w'.tape = w.tape∧w'.output = w.output∧w'.heap.size = w.heap.size ∧
      (∀ j,off + i ≤ j→j < off + i + vs.length→w'.cell? ⟨b,j,none⟩ = vs[j - (off + i)]?)∧(∀ j,j < off + i→w'.cell? ⟨b,j,none⟩ = w.cell? ⟨b,j,none⟩)
  | [],i,w,hrow,_,_ => ⟨w,rfl,hrow,fun _ _ => rfl,rfl,rfl,rfl,rfl,fun j h1 h2 => by simp at h2; omega,fun _ _ => rfl⟩
  | v :: vs,i,w,hrow,hle,hone => by
    simp only [List.length_cons] at hle
    have h1:=run_store1 (P:=P) hrow (off:=off + i) (by omega) (hone v (by simp))
    obtain ⟨w',g1,g2,g3,g4,g5,g6,g7,g8,g9⟩:=run_storeRow (m:=m) (off:=off) vs (i + 1) (w.setCell ⟨b,off + i,none⟩ v) (hrow.setCell _ _) (by omega) (fun u hu => hone u (by simp [hu]))
    obtain ⟨u0,hu0⟩:=hrow.cell (off:=off + i) (by omega)
    refine ⟨w',?_,g2,fun k hk => (g3 k hk).trans (setCell_heap_ne hk),g4,g5,g6,by rw [g7]; simp,?_,?_⟩
    · rw [Go.storeCells]
      simp only [Addr.add_lit]
      rw [Sem.run_bind,h1,Result.andThen_ok]
      exact g1
    · intro j hj1 hj2
      simp only [List.length_cons] at hj2
      by_cases he : j = off + i
      · subst he
        rw [g9 _ (by omega),World.cell?_setCell_same _ _ _ hu0]
        simp
      · rw [g8 j (by omega) (by omega)]
        obtain ⟨q,rfl⟩ : ∃ q,j = off + (i + 1) + q:=⟨j - (off + (i + 1)),by omega⟩
        rw [show off + (i + 1) + q - (off + (i + 1)) = q by omega,show off + (i + 1) + q - (off + i) = q + 1 by omega]
        simp
    · intro j hj
      rw [g9 j (by omega)]
      exact World.cell?_setCell_other _ _ _ _ (by simp; omega)
structure Src (P : Program) (w : World) (u : Value) (es m : Nat) (vs : List Value) : Prop where
  len : ∀ w,(Builtin.lenOf u).run P w = .ok m w
  cells : ∀ w',w'.heap = w.heap→(Builtin.firstCells es m u).run P w' = .ok vs.toArray w'
theorem Src.sl {d : Dec} {es es' m : Nat} {kids : List C} {o : Bool} (h : Mem w o (.nd (.sl d es' m) kids)) (he : es' = es ∨ m = 0) : Src P w (val (.nd (.sl d es' m) kids)) es m (valL kids):=by
  obtain ⟨⟨h1,h2,h3,h4⟩,_⟩:=h
  have hl : (valL kids).length = m * es:=by
    rcases he with rfl | rfl
    · exact h1
    · simpa using h1
  refine ⟨fun w => rfl,fun w' hw => ?_⟩
  simp only [val,K.val]
  cases hd : d.a with
  | none =>
    have:=h3 hd
    have hm : m = 0:=by omega
    subst hm
    have : valL kids = []:=List.length_eq_zero_iff.1 (by simpa using hl)
    rw [this]
    exact run_firstCells_none _ _ _ _ _
  | some ad =>
    refine run_firstCells_some w' es m ad m d.cap _ hl fun j v hv => ?_
    have:=(h4 ad hd).1 j v hv
    rw [← this]
    unfold World.cell?
    rw [hw]
theorem all_sc : ∀ {l : List C},(erL l).all isSc = true→(∀ w o,MemL w o l)∧∀ b,cntL b l = 0
  | [],_ => ⟨fun _ _ => trivial,fun _ => rfl⟩
  | t :: ts,h => by
    simp only [erL,List.all_cons,Bool.and_eq_true] at h
    obtain ⟨h1,h2⟩:=all_sc h.2
    cases t with
    | v x => exact ⟨fun w o => ⟨trivial,h1 w o⟩,fun b => by simp [cntL,cnt,h2 b]⟩
    | hole d => simp [er,isSc] at h
    | nd k kids => simp [er,isSc] at h
theorem bytes_er (s : ByteArray) : bytesD s = erL ((s.data.map fun b => Value.int .u8 b.toNat).toList.map .v):=by
  rw [erL_eq,List.map_map]
  simp [bytesD,er]
theorem appSrc_ok (hr : Rel E st ts a.tmps w) {es : Nat} {y : MO} {u : Value} (hy : MORel a.tmps y u) {m : Nat} {ks : List D} {st1 : St} (h : appSrc st es y = some (m,ks,st1)) :
    ∃ (l : List C) (ts1 : List C),erL l = ks∧l.length = m * es∧MemL w true l∧Rel E st1 ts1 a.tmps w∧(∀ b,cntL b ts1 + cntL b l ≤ cntL b ts)∧(erL l).all flatOk = true∧Src P w u es m (valL l):=by
  have hv:=ev_ok hr hy
  unfold appSrc at h
  split at h
  · rename_i b es' n kids hrd
    split at h
    · rename_i hc
      split at h
      · rename_i hflat
        split at h
        · rename_i hsc
          cases h
          obtain ⟨t,h1,h2,h3,_⟩:=rd_ok hr _ hv hrd
          obtain ⟨dd,kk,rfl,rfl,_⟩:=er_sl h1
          obtain ⟨g1,g2⟩:=all_sc hsc
          refine ⟨kk,ts,rfl,by rw [← erL_len]; exact hc.2,g1 w true,hr,fun b => by rw [g2]; omega,hflat,?_⟩
          rw [← h2]
          exact Src.sl h3 hc.1
        · split at h
          · rename_i b' es'' n' kids' st1' htk
            split at h
            · rename_i hc'
              cases h
              obtain ⟨t,ts1,h1,h2,h3,h4,_,h6⟩:=take_ok _ hv (Evolve.refl _) hr htk
              obtain ⟨dd,kk,rfl,rfl,_⟩:=er_sl h1
              have hn:=hc'.1
              subst hn
              obtain ⟨t2,f1,f2,f3,_⟩:=rd_ok hr _ hv hrd
              obtain ⟨dd2,kk2,rfl,rfl,_⟩:=er_sl f1
              refine ⟨kk,ts1,rfl,by rw [← erL_len]; exact hc'.2.1,h3.2,h4,fun b => ?_,hc'.2.2,?_⟩
              · have:=h6 b
                simp only [cnt] at this
                omega
              · rw [← h2]
                refine Src.sl h3 ?_
                have q1:=h3.1.1
                have q2:=hc'.2.1
                rw [erL_len] at q2
                rw [valL_len,q2] at q1
                rcases Nat.eq_zero_or_pos n' with hz | hz
                · exact .inr hz
                · exact .inl (Nat.eq_of_mul_eq_mul_left hz q1.symm)
            · cases h
          · cases h
      · cases h
    · cases h
  · rename_i s hrd
    split at h
    · rename_i hc
      cases h
      obtain ⟨t,h1,h2,h3,_⟩:=rd_ok hr _ hv hrd
      have:=er_eq_v h1
      subst this
      have hu : u = .string s:=h2.symm
      subst hu
      obtain ⟨rfl,_⟩:=hc
      have hall : ∀ l : List Value,(∀ w o,MemL w o (l.map T.v))∧∀ b,cntL b (l.map T.v) = 0:=by
        intro l
        induction l with
        | nil => exact ⟨fun _ _ => trivial,fun _ => rfl⟩
        | cons x xs ih => exact ⟨fun w o => ⟨trivial,ih.1 w o⟩,fun b => by simp [cntL,cnt,ih.2 b]⟩
      obtain ⟨g1,g2⟩:=hall (s.data.map fun b => Value.int .u8 b.toNat).toList
      refine ⟨_,ts,(bytes_er s).symm,by rw [List.length_map,Array.length_toList,Array.size_map,Nat.mul_one]; rfl,g1 w true,hr,fun b => by rw [g2]; omega,?_,⟨fun w => rfl,fun w' _ => ?_⟩⟩
      · rw [← bytes_er,bytesD,List.all_map,List.all_eq_true]
        intro b _
        rfl
      · rw [valL_v]
        simp only [Builtin.firstCells,Array.toArray_toList]
        have : s.extract 0 s.size = s:=by
          apply ByteArray.ext
          rw [ByteArray.data_extract]
          exact Array.extract_size
        rw [this]
        rfl
    · cases h
  · cases h
theorem run_app_room {t t' ty e : TypeId} {i : TypeInfo} (ht : P.underlying t = some (.slice e)) {ds : TypeDesc} (ht' : P.underlying t' = some ds) (hds : ∀ k,ds ≠ .int k) (hi : P.info? e = some i)
    {base : Option Addr} {n cap m : Nat} {u : Value} {vs : List Value} (hs : Src P w u i.size m vs) (hroom : n + m ≤ cap) {w' : World}
    (hst : match base with | some ad => (Go.storeCells (ad.add (n * i.size)) vs).run P w = .ok () w' | none => w' = w) :
    (Builtin.append_ #[t,t'] ty #[.slice base n cap,u]).run P w = .ok (.slice base (n + m) cap) w':=by
  have h1:=hs.len w
  have h2:=hs.cells w rfl
  have hz : (match ds with | .int _ => true | _ => false) = false:=by cases ds <;> first | rfl | exact absurd rfl (hds _)
  cases base with
  | none =>
    subst hst
    simp [Builtin.append_,run_underlying ht,run_underlying ht',sizeOf,typeInfo,hi,hz,h1,h2,hroom]
  | some ad =>
    simp [Builtin.append_,run_underlying ht,run_underlying ht',sizeOf,typeInfo,hi,hz,h1,h2,hroom,hst]
theorem run_app_grow {t t' ty e : TypeId} {i : TypeInfo} {z : Value} (ht : P.underlying t = some (.slice e)) {ds : TypeDesc} (ht' : P.underlying t' = some ds) (hds : ∀ k,ds ≠ .int k) (hi : P.info? e = some i)
    (hz0 : i.zero = some z) {base : Option Addr} {n cap m : Nat} {u : Value} {vs us : List Value} (hs : Src P w u i.size m vs) (ho : ∀ w',w'.heap = w.heap→(Builtin.firstCells i.size n (.slice base n cap)).run P w' = .ok us.toArray w')
    (hroom : cap < n + m) (hfit : Builtin.nextslicecap (n + m) cap * i.bytes ≤ 281474976710656) (h63 : n + m ≤ 9223372036854775807) :
    (Builtin.append_ #[t,t'] ty #[.slice base n cap,u]).run P w = .ok (.slice (some ⟨w.heap.size,0,none⟩) (n + m) (grownCap w (n + m) cap e))
      (w.drew.alloc (.cells (us.toArray ++ vs.toArray ++ Builtin.zeroCells z.cells (grownCap w (n + m) cap e - (n + m))) e)):=by
  have h1:=hs.len w
  have h2:=hs.cells w.drew rfl
  have h3:=ho w.drew rfl
  have hn : ¬ (n + m ≤ cap):=by omega
  have h63' : ¬ (9223372036854775807 < ((n : Int) + (m : Int))):=by omega
  have h48' : ¬ (281474976710656 < Builtin.nextslicecap (n + m) cap * i.bytes):=by omega
  have hz : (match ds with | .int _ => true | _ => false) = false:=by cases ds <;> first | rfl | exact absurd rfl (hds _)
  simp [Builtin.append_,run_underlying ht,run_underlying ht',sizeOf,typeInfo,zeroValue,hi,hz0,hz,h1,hn,h63',h48',Question.forced,h2,h3,newRow,grownCap]
  congr 2
  apply Array.ext'
  simp [List.append_assoc]
theorem Rel.other {tm : Array Value} (h : Rel E st ts tm w) {w' : World} {b0 : Nat} (hb : cntL b0 ts = 0) (hold : ¬ Old E b0) (h1 : w'.os = w.os) (h2 : w'.tape = w.tape) (h3 : w'.output = w.output)
    (h4 : w'.heap.size = w.heap.size) (h5 : ∀ k,k ≠ b0→w'.heap[k]? = w.heap[k]?) (hbase : ∀ k,k < E.base→¬ E.W k→k ≠ b0) : Rel E st ts tm w':=by
  refine ⟨h.lenT,h.lenM,h.slot,?_,h.uniq,fun b hb' => ⟨(h.dom b hb').1,by rw [h4]; exact (h.dom b hb').2⟩,?_⟩
  · intro i t ht
    refine (h.mem i t ht).same fun b hne => h5 b ?_
    rintro rfl
    have:=cnt_le_cntL b ts i t ht
    omega
  · have k:=h.keep
    exact ⟨h1.trans k.os,h2.trans k.tape,h3.trans k.output,by rw [h4]; exact k.size,fun b hb' hw => (h5 b (hbase b hb' hw)).trans (k.block b hb' hw),k.low⟩
theorem app_ok (hr : Rel E st ts a.tmps w) {o : Oper} {c : Call} {x y : Operand} {t t' e : TypeId} (ho : o.op = .call c) (hcal : c.callee = .builtin .append) (hargs : c.args.toList = [x,y]) (hats : c.argTypes.toList = [t,t'])
    (ht : P.underlying t = some (.slice e)) {ds : TypeDesc} (ht' : P.underlying t' = some ds) (hds : ∀ k,ds ≠ .int k) {es : Nat} (hes : sizeT P e = some es) (hpos : 0 < es)
    {z : Value} (hz : (P.info? e).bind (·.zero) = some z) (hzs : z.cells.size = es) (hby : (P.info? e).any (fun i => i.bytes ≤ 1024) = true)
    {d e1 e2 : Nat} (hd : o.dst = some d) {mx my : MO} (hx : opd e1 x = some mx) (hy : opd e2 y = some my)
    {call : Oracle} (hs : step call st (.app d es mx my) = some st') : Goes P E o a w st':=by
  simp only [step] at hs
  cases happ : append st es mx my with
  | none => simp [happ] at hs
  | some q =>
    obtain ⟨dres,st2⟩:=q
    simp only [happ,Option.some.injEq] at hs
    subst hs
    unfold append at happ
    cases hsrc : appSrc st es my with
    | none => simp [hsrc] at happ
    | some q =>
      obtain ⟨m,ks,st1⟩:=q
      simp only [hsrc] at happ
      split at happ
      · rename_i b es' n kids st2' htk
        split at happ
        · rename_i hc
          cases happ
          obtain ⟨hes',hklen,hmost⟩:=hc
          obtain ⟨l,ts1,q1,q2,q3,q4,q5,q6,q7⟩:=appSrc_ok (P:=P) hr (opd_ok (a:=a) hy) hsrc
          subst q1
          obtain ⟨tx,ts2,f1,f2,f3,f4,_,f6⟩:=take_ok _ (ev_ok q4 (opd_ok (a:=a) hx)) (Evolve.refl _) q4 htk
          obtain ⟨dd,kk,rfl,rfl,hb⟩:=er_sl f1
          have hb:=hb.symm
          rw [erL_len] at hklen
          obtain ⟨i,hi,hisz⟩ : ∃ i,P.info? e = some i∧i.size = es:=by
            unfold sizeT at hes
            cases hi : P.info? e with
            | none => simp [hi] at hes
            | some i => simp [hi] at hes; exact ⟨i,rfl,hes⟩
          subst hisz
          have hz0 : i.zero = some z:=by simpa [hi] using hz
          have hbytes : i.bytes ≤ 1024:=by simp [hi] at hby; exact hby
          have hm36 : n + m ≤ 2 ^ 36:=hmost
          have hux : a.eval x = .slice dd.a n dd.cap:=f2.symm
          have hexec : ∀ v w',(Builtin.append_ #[t,t'] o.type #[.slice dd.a n dd.cap,a.eval y]).run P w = .ok v w'→(execOp a.eval o).run P w = .ok (.value v) w':=by
            intro v w' hrun
            have ha : c.args = #[x,y]:=by apply Array.toList_inj.1; rw [hargs]
            have hat : c.argTypes = #[t,t']:=by apply Array.toList_inj.1; rw [hats]
            simp [execOp,ho,resolve,hcal,ha,hat,invoke,builtin,hux,hrun]
          obtain ⟨⟨m1,m2,m3,m4⟩,m5⟩:=f3
          have hcount : ∀ bb,cntL bb ts2 + cntL bb (kk ++ l) ≤ cntL bb ts:=by
            intro bb
            have:=q5 bb
            have h7:=f6 bb
            simp only [cnt] at h7
            rw [cntL_append]
            omega
          have hmem : MemL w true (kk ++ l):=MemL_append m5 q3
          have hlen2 : (kk ++ l).length = (n + m) * i.size:=by rw [List.length_append,hklen,q2,Nat.add_mul]
          by_cases hroom : n + m ≤ dd.cap
          · by_cases hcap : dd.cap = 0
            · have hn : n = 0:=by omega
              have hm0 : m = 0:=by omega
              subst hn
              subst hm0
              have hk0 : kk = []:=List.length_eq_zero_iff.1 (by simpa using hklen)
              have hl0 : l = []:=List.length_eq_zero_iff.1 (by simpa using q2)
              subst hk0
              subst hl0
              have hrun:=run_app_room (t:=t) (ty:=o.type) ht ht' hds hi (base:=dd.a) (n:=0) (cap:=dd.cap) q7 hroom (w':=w) (by cases dd.a <;> rfl)
              refine goes_value (hexec _ _ hrun) ?_ (ts':=ts2.set d (.nd (.sl dd i.size 0) []))
              rw [hd]
              have h8:=f4.setOwn d (t:=.nd (.sl dd i.size 0) []) ⟨_,_,rfl⟩ ⟨⟨by simp [valL],by omega,m3,fun ad had => ⟨fun j u hu => by simp [valL] at hu,fun _ hne => absurd hcap hne⟩⟩,trivial⟩
                (fun bb hbb => absurd (by simp [cnt,K.own,hcap,cntL]) hbb)
              have e1 : er (.nd (.sl dd i.size 0) []) = T.nd (.sl (b && (0 : Nat) == 0) i.size (0 + 0)) (erL [] ++ erL []):=by
                rw [hb]; simp [er,K.er,erL]
              rw [e1] at h8
              exact h8
            · cases hda : dd.a with
              | none => exact absurd (m3 hda) hcap
              | some ad =>
                have hbf : b = false:=by rw [hb,hda]; rfl
                have hee : es' = i.size:=hes'.resolve_right (by rw [hbf]; simp)
                subst hee
                obtain ⟨hcells,hrow⟩:=m4 ad hda
                obtain ⟨hspot,hrow⟩:=hrow rfl hcap
                obtain ⟨bk,off,sp⟩:=ad
                simp only at hspot
                subst hspot
                have hle : off + n * i.size + 0 + (valL l).length ≤ off + dd.cap * i.size:=by
                  rw [valL_len,q2,Nat.add_zero,Nat.add_assoc,← Nat.add_mul]
                  exact Nat.add_le_add_left (Nat.mul_le_mul_right _ hroom) _
                obtain ⟨w',g1,g2,g3,g4,g5,g6,g7,g8,g9⟩:=run_storeRow (P:=P) (off:=off + n * i.size) (valL l) 0 w hrow hle (all_one q6)
                have hrun:=run_app_room (t:=t) (ty:=o.type) ht ht' hds hi (base:=dd.a) (n:=n) (cap:=dd.cap) q7 hroom (w':=w') (by rw [hda]; simp only [Addr.add_lit]; exact g1)
                have hown : (K.sl dd i.size n).own bk = 1:=by simp [K.own,hcap,hda]
                have hz2 : cntL bk ts2 = 0∧cntL bk (kk ++ l) = 0∧cntL bk ts ≠ 0:=by
                  have h7:=f6 bk
                  have h9:=q5 bk
                  have h10:=hr.uniq bk
                  simp only [cnt,hown] at h7
                  rw [cntL_append]
                  omega
                obtain ⟨z1,z2,z3⟩:=hz2
                obtain ⟨z4,z5⟩:=hr.dom bk z3
                have hold : ∀ k,k < E.base→¬ E.W k→k ≠ bk:=fun k h1 h2 he => z4 (he ▸ ⟨h1,h2⟩)
                have hrel:=f4.other (b0:=bk) z1 z4 g4 g5 g6 g7 g3 hold
                have hnew : Mem w' true (.nd (.sl dd i.size (n + m)) (kk ++ l)):=by
                  refine ⟨⟨by rw [valL_len,hlen2],hroom,m3,fun ad had => ?_⟩,hmem.same fun bb hbb => g3 bb fun he => hbb (he ▸ z2)⟩
                  rw [hda] at had
                  cases had
                  refine ⟨fun j u hu => ?_,fun _ _ => ⟨rfl,g2⟩⟩
                  rw [Addr.add_lit]
                  rw [valL_append] at hu
                  have hvk : (valL kk).length = n * i.size:=by rw [valL_len,hklen]
                  by_cases hj : j < n * i.size
                  · rw [List.getElem?_append_left (by omega)] at hu
                    rw [g9 _ (by omega)]
                    have:=hcells j u hu
                    rwa [Addr.add_lit] at this
                  · rw [List.getElem?_append_right (by omega),hvk] at hu
                    have hj2:=lt_of_get hu
                    rw [g8 _ (by omega) (by omega)]
                    rw [show off + j - (off + n * i.size + 0) = j - n * i.size by omega]
                    exact hu
                have h8:=hrel.setOwn d (t:=.nd (.sl dd i.size (n + m)) (kk ++ l)) ⟨_,_,rfl⟩ hnew (fun bb hbb => by
                  simp only [cnt] at hbb ⊢
                  by_cases he : bb = bk
                  · subst he
                    have : (K.sl dd i.size (n + m)).own bb = 1:=by simp [K.own,hcap,hda]
                    exact ⟨z1,by omega,z4,by rw [g7]; exact z5⟩
                  · have h0 : (K.sl dd i.size (n + m)).own bb = 0:=by simp [K.own,hcap,hda]; exact fun h => he h.symm
                    have h1:=hcount bb
                    have h2:=hr.uniq bb
                    obtain ⟨h3,h4⟩:=hr.dom bb (by omega)
                    exact ⟨by omega,by omega,h3,by rw [g7]; exact h4⟩)
                refine goes_value (hexec _ _ hrun) ?_ (ts':=ts2.set d (.nd (.sl dd i.size (n + m)) (kk ++ l)))
                rw [hd]
                have e1 : er (.nd (.sl dd i.size (n + m)) (kk ++ l)) = T.nd (.sl (b && m == 0) i.size (n + m)) (erL kk ++ erL l):=by
                  rw [hbf]; simp [er,K.er,erL_append,hda]
                rw [e1] at h8
                exact h8
          · have hvk : (valL kk).length = n * i.size:=by rw [valL_len,hklen]
            have ho : ∀ w',w'.heap = w.heap→(Builtin.firstCells i.size n (.slice dd.a n dd.cap)).run P w' = .ok (valL kk).toArray w':=by
              have:=Src.sl (P:=P) (es:=i.size) (w:=w) (o:=true) (d:=dd) (es':=es') (m:=n) (kids:=kk) ⟨⟨m1,m2,m3,m4⟩,m5⟩ (by
                rcases hes' with h | h
                · exact .inl h
                · right
                  have : dd.a = none:=by rw [hb] at h; simpa using h
                  have:=m3 this
                  omega)
              exact this.cells
            have hg:=grownCap_ge w (n + m) dd.cap e
            have hrun:=run_app_grow (t:=t) (ty:=o.type) ht ht' hds hi hz0 (base:=dd.a) (n:=n) (cap:=dd.cap) q7 ho (by omega)
              (growslice_fits (by omega) (Nat.le_trans (Nat.mul_le_mul hm36 hbytes) (by decide))) (by omega)
            have harr : ((valL kk).toArray ++ (valL l).toArray ++ Builtin.zeroCells z.cells (grownCap w (n + m) dd.cap e - (n + m))).size = grownCap w (n + m) dd.cap e * i.size:=by
              simp only [Array.size_append,List.size_toArray,size_zeroCells,hzs,hvk,valL_len,q2,← Nat.add_mul]
              congr 1
              omega
            have hfr:=hr.fresh f4 hmem hcount (w':=w.drew.alloc (.cells ((valL kk).toArray ++ (valL l).toArray ++ Builtin.zeroCells z.cells (grownCap w (n + m) dd.cap e - (n + m))) e))
              (arr:=(valL kk).toArray ++ (valL l).toArray ++ Builtin.zeroCells z.cells (grownCap w (n + m) dd.cap e - (n + m))) (e:=e) (lo:=0) (hi:=0) rfl rfl rfl rfl (.inl rfl)
              (fun j v hv => by
                have hj:=lt_of_get hv
                rw [valL_append] at hv hj
                rw [Array.getElem?_append_left (by simpa using hj)]
                rw [← Array.getElem?_toList]
                simpa using hv) d (k:=.sl ⟨some ⟨w.heap.size,0,none⟩,grownCap w (n + m) dd.cap e,undef⟩ i.size (n + m)) (.inl ⟨_,_,_,rfl,hlen2,hg,by rw [harr]; omega⟩)
            refine goes_value (hexec _ _ hrun) ?_ (ts':=ts2.set d (.nd (.sl ⟨some ⟨w.heap.size,0,none⟩,grownCap w (n + m) dd.cap e,undef⟩ i.size (n + m)) (kk ++ l)))
            rw [hd]
            have hbm : (b && m == 0) = false:=by
              by_cases hbt : b = true
              · have h9 : dd.a = none:=by rw [hb] at hbt; simpa using hbt
                have:=m3 h9
                have : m ≠ 0:=by omega
                simp [this]
              · simp [hbt]
            have e1 : er (.nd (.sl ⟨some ⟨w.heap.size,0,none⟩,grownCap w (n + m) dd.cap e,undef⟩ i.size (n + m)) (kk ++ l)) = T.nd (.sl (b && m == 0) i.size (n + m)) (erL kk ++ erL l):=by
              rw [hbm]; simp [er,K.er,erL_append]
            rw [e1] at hfr
            exact hfr
        · cases happ
      · cases happ
end
end Go.Mx
namespace Go.Mx
set_option linter.unusedVariables false
set_option linter.unusedSimpArgs false
set_option linter.unusedSectionVars false
open Go
section
variable {P : Program} {E : Env} {st st' : St} {ts : List C} {a : Act} {w : World}
theorem elemT_some {t e : TypeId} {es : Nat} (h : elemT P t = some (e,es)) : P.underlying t = some (.slice e)∧sizeT P e = some es:=by
  unfold elemT at h
  split at h
  · rename_i e' hu
    split at h
    · rename_i n hs
      simp only [Option.some.injEq,Prod.mk.injEq] at h
      obtain ⟨rfl,rfl⟩:=h
      exact ⟨hu,hs⟩
    · cases h
  · cases h
theorem compCall_ok (hr : Rel E st ts a.tmps w) {call : Oracle} (hc : CallsOK P E.g call) {o : Oper} {c : Call} (ho : o.op = .call c) {m : MOp} (h : compCall P o.dst c = some m) (hs : step call st m = some st') : Goes P E o a w st':=by
  unfold compCall at h
  split at h
  · rename_i f hcal
    split at h
    · rename_i as has
      split at h
      · rename_i hsz
        split at h
        · split at h
          · rename_i x xs
            cases h
            exact calI_ok hr hc ho hcal has (by simpa using hsz.1) hsz.2 hs
          · cases h
        · cases h
          exact call_ok hr hc ho hcal has (by simpa using hsz.1) hsz.2 hs
      · cases h
    · cases h
  · rename_i t hcal
    split at h
    · rename_i as has
      split at h
      · rename_i hsz
        cases h
        exact calv_ok hr hc ho hcal has (by simpa using hsz) hs
      · cases h
    · cases h
  · rename_i b hcal
    split at h
    · rename_i d x t hd hargs hats
      split at h
      · rename_i x' hx
        split at h
        · rename_i e hu
          cases h
          exact len_ok hr ho hcal hargs hats (str:=false) ⟨e,hu⟩ hd hx hs
        · rename_i hu
          cases h
          exact len_ok hr ho hcal hargs hats (str:=true) hu hd hx hs
        · cases h
      · cases h
    · rename_i d x y t t' hd hargs hats
      split at h
      · rename_i e es hel
        obtain ⟨hu,hsz⟩:=elemT_some hel
        split at h
        · rename_i x' y' hx hy
          split at h
          · rename_i e' z hu' hz
            split at h
            · rename_i hcond
              cases h
              exact app_ok hr ho hcal hargs hats hu hu' (by intro k hk; cases hk) hsz hcond.2.1 hz hcond.1 hcond.2.2 hd hx hy hs
            · cases h
          · rename_i z hu' hz
            split at h
            · rename_i hcond
              cases h
              exact app_ok hr ho hcal hargs hats hu hu' (by intro k hk; cases hk) hsz hcond.2.1 hz hcond.1 hcond.2.2 hd hx hy hs
            · cases h
          · cases h
        · cases h
      · cases h
    · rename_i d x y hd hargs
      split at h
      · rename_i x' y' hx hy
        cases h
        exact mm_ok hr ho (mx:=true) hcal hargs hd hx hy hs
      · cases h
    · rename_i d x y hd hargs
      split at h
      · rename_i x' y' hx hy
        cases h
        exact mm_ok hr ho (mx:=false) hcal hargs hd hx hy hs
      · cases h
    · cases h
  · cases h
theorem compOp_ok (hr : Rel E st ts a.tmps w) {call : Oracle} (hc : CallsOK P E.g call) {o : Oper} {m : MOp} (h : compOp P o = some m) (hs : step call st m = some st') : Goes P E o a w st':=by
  unfold compOp at h
  split at h
  · rename_i x hop
    split at h
    · rename_i d y hd hy
      cases h
      exact mv_ok hr (by unfold execOp; rw [hop]) hd hy hs
    · cases h
  · rename_i x hop
    split at h
    · rename_i d y hd hy
      cases h
      exact asg_ok hr (by unfold execOp; rw [hop]) hd hy hs
    · cases h
  · rename_i c x y hop
    split at h
    · rename_i d c' a' b' hd hc' ha hb
      cases h
      exact pick_ok hr hop hd hc' ha hb hs
    · cases h
  · rename_i x i hop
    split at h
    · rename_i d y hd hy
      cases h
      exact ext_ok hr hop hd hy hs
    · cases h
  · rename_i t x i hop
    split at h
    · rename_i d x' i' hd hx hi
      split at h
      · rename_i e hu
        split at h
        · rename_i es hes
          cases h
          exact ixs_ok hr hop hu hes hd hx hi hs
        · cases h
      · rename_i n e hu
        split at h
        · rename_i es hes
          cases h
          exact ixa_ok hr hop hu hes hd hx hi hs
        · cases h
      · cases h
    · cases h
  · rename_i t x hop
    split at h
    · rename_i d x' hd hx
      split at h
      · rename_i hag
        split at h
        · rename_i m' hm'
          cases h
          exact ldn_ok hr hop hag hm' hd hx hs
        · cases h
      · rename_i hag
        split at h
        · rename_i ds hu
          cases h
          exact ld1_ok hr hop (by simpa using hag) hu hd hx hs
        · cases h
    · cases h
  · rename_i t x y hop
    split at h
    · rename_i x' y' m' hx hy hm'
      cases h
      exact stn_ok hr hop hm' hx hy hs
    · cases h
  · rename_i op t x y z hop
    split at h
    · rename_i d x' y' hd hx hy
      cases h
      exact bin_ok hr hop hd hx hy hs
    · cases h
  · rename_i op t x hop
    split at h
    · rename_i d x' hd hx
      cases h
      exact un_ok hr hop hd hx hs
    · cases h
  · rename_i c hop
    exact compCall_ok hr hc hop h hs
  · rename_i t n parts hop
    split at h
    · rename_i d e es hd hel
      obtain ⟨hu,hes⟩:=elemT_some hel
      split at h
      · rename_i z ps hz hps
        split at h
        · rename_i hle
          cases h
          exact bs_ok hr hop hu hes hz hps hle hd hs
        · cases h
      · cases h
    · cases h
  · rename_i t parts hop
    split at h
    · rename_i d z hd hz
      split at h
      · rename_i fs hu
        split at h
        · rename_i ps hps
          split at h
          · rename_i hall
            cases h
            exact bld_struct hr hop hz hu hall hps hd hs
          · cases h
        · cases h
      · rename_i e hu
        split at h
        · rename_i es hes
          split at h
          · rename_i ps hps
            cases h
            exact bld_array hr hop hz hu hes hps hd hs
          · cases h
        · cases h
      · cases h
    · cases h
  · rename_i t x hop
    split at h
    · rename_i d x' hd hx
      cases h
      exact box_ok hr hop hd hx hs
    · cases h
  · rename_i t hop
    split at h
    · rename_i d z hd hz
      cases h
      exact alc_ok hr hop hz hd hs
    · cases h
  · rename_i t l c hop
    split at h
    · rename_i d e es hd hel
      obtain ⟨hu,hes⟩:=elemT_some hel
      split at h
      · rename_i l' c' z hl hc' hz
        split at h
        · rename_i hcond
          cases h
          exact mks_ok hr hop hu hes hz hcond.2 hd hl hc' hs
        · cases h
      · cases h
    · cases h
  · rename_i x hop
    split at h
    · rename_i d x' hd hx
      cases h
      exact nc_ok hr hop hd hx hs
    · cases h
  · rename_i t x lo hi mx hop
    split at h
    · rename_i d x' hd hx
      split at h
      · rename_i hstr
        have hu : P.underlying t = some .string:=by
          unfold isStrT at hstr
          split at hstr
          · assumption
          · cases hstr
        split at h
        · cases h
        · rename_i hmx
          have hmx : mx = none:=by cases mx with
            | none => rfl
            | some _ => simp at hmx
          subst hmx
          split at h
          · cases h
            exact ssl_ok hr hop hu hd hx (ml:=none) (mh:=none) trivial trivial hs
          · rename_i l
            split at h
            · rename_i l' hl
              cases h
              exact ssl_ok hr hop hu hd hx (ml:=some l') (mh:=none) hl trivial hs
            · cases h
          · rename_i hh
            split at h
            · rename_i h' hh'
              cases h
              exact ssl_ok hr hop hu hd hx (ml:=none) (mh:=some h') trivial hh' hs
            · cases h
          · rename_i l hh
            split at h
            · rename_i l' h' hl hh'
              cases h
              exact ssl_ok hr hop hu hd hx (ml:=some l') (mh:=some h') hl hh' hs
            · cases h
      split at h
      · rename_i e es hel
        obtain ⟨hu,hes⟩:=elemT_some hel
        split at h
        · rename_i hcond
          cases h
          exact sl0_ok hr hop hcond.1 hcond.2.1 hcond.2.2 hu hes hd hx hs
        · split at h
          · cases h
          · rename_i hmx
            have hmx : mx = none:=by cases mx with
              | none => rfl
              | some _ => simp at hmx
            subst hmx
            split at h
            · cases h
              exact sl_ok hr hop hu hes hd hx (ml:=none) (mh:=none) trivial trivial hs
            · rename_i l
              split at h
              · rename_i l' hl
                cases h
                exact sl_ok hr hop hu hes hd hx (ml:=some l') (mh:=none) hl trivial hs
              · cases h
            · rename_i hh
              split at h
              · rename_i h' hh'
                cases h
                exact sl_ok hr hop hu hes hd hx (ml:=none) (mh:=some h') trivial hh' hs
              · cases h
            · rename_i l hh
              split at h
              · rename_i l' h' hl hh'
                cases h
                exact sl_ok hr hop hu hes hd hx (ml:=some l') (mh:=some h') hl hh' hs
              · cases h
      · cases h
    · cases h
  · rename_i t x i hop
    split at h
    · rename_i d x' hd hx
      split at h
      · rename_i fs hu
        split at h
        · rename_i f hf
          split at h
          · rename_i s hfs
            split at h
            · cases h
            · rename_i hs0
              cases h
              exact fa_ok hr hop hu hf hfs hs0 hd hx hs
          · cases h
        · cases h
      · cases h
    · cases h
  · rename_i t x i hop
    split at h
    · rename_i d x' hd hx
      split at h
      · rename_i fs hu
        split at h
        · rename_i f hf
          split at h
          · rename_i hag
            split at h
            · rename_i m' hm'
              cases h
              exact fldn_ok hr hop hu hf hag hm' hd hx hs
            · cases h
          · rename_i hag
            split at h
            · rename_i ds hu'
              cases h
              exact fld1_ok hr hop hu hf (by simpa using hag) hu' hd hx hs
            · cases h
        · cases h
      · cases h
    · cases h
  · rename_i t x i hop
    split at h
    · rename_i d x' i' hd hx hi
      split at h
      · rename_i n e hu
        split at h
        · cases h
        · rename_i hag
          split at h
          · rename_i ds hu' hes
            cases h
            exact ix_ok hr hop hu hes (by simpa using hag) hu' hd hx hi hs
          · cases h
      · cases h
    · cases h
  · rename_i s t x hop
    split at h
    · rename_i d x' hd hx
      split at h
      · rename_i k' k hus hut
        cases h
        exact cvi_ok hr hop hus hut hd hx hs
      · rename_i e hus hut
        split at h
        · rename_i hue
          cases h
          exact cvs_ok hr hop hus hue hut hd hx hs
        · cases h
      · rename_i e hus hut
        split at h
        · rename_i hue
          cases h
          exact cvb_ok hr hop hus hut hue hd hx hs
        · cases h
      · rename_i e0 e hus hut
        split at h
        · rename_i hst
          have hst:=eq_of_beq hst
          subst hst
          split at h
          · rename_i hue
            cases h
            exact cvm_ok hr hop hut hue hd hx hs
          · cases h
        · cases h
      · cases h
    · cases h
  · rename_i f first caps hop
    split at h
    · rename_i d cs hd hcs
      split at h
      · rename_i hf
        cases h
        exact mkf_ok hr hop hf hd hcs hs
      · cases h
    · cases h
  · cases h
theorem wanted_ok (hr : Rel E st ts a.tmps w) {ops : Array Oper} {o : Oper} {m : MG} (h : compG P ops o = some m) {t : Bool} (hw : wanted st m.g = some t) : Region.wanted o (yielded ops a.tmps) = t∧∃ m0,compOp P o = some m0∧m.op = zfix ops m0:=by
  unfold compG at h
  split at h
  · rename_i mo hmo
    split at h
    · rename_i hg
      cases h
      simp only [wanted,Option.some.injEq] at hw
      subst hw
      exact ⟨by simp [Region.wanted,hg],_,hmo,rfl⟩
    · rename_i j want hg
      split at h
      · rename_i s hs
        cases h
        refine ⟨?_,_,hmo,rfl⟩
        simp only [wanted] at hw
        split at hw
        · rename_i b hb
          have:=hr.slot' hb
          have h1 : a.tmps.getD s undef = .bool b:=this.1
          have h2:=hr.tm_get hb
          rw [h1] at h2
          simp only [Option.some.injEq] at hw
          subst hw
          simp only [Region.wanted,hg,yielded,hs,Option.bind_some,h2]
          cases b <;> cases want <;> rfl
        · rename_i x hnb hb
          have:=hr.slot' hb
          have h1 : a.tmps.getD s undef = x:=this.1
          have h2:=hr.tm_get hb
          rw [h1] at h2
          simp only [Option.some.injEq] at hw
          subst hw
          simp only [Region.wanted,hg,yielded,hs,Option.bind_some,h2]
          cases x <;> first | rfl | exact absurd rfl (hnb _)
        · cases hw
      · cases h
  · cases h
theorem compOp_dst {o : Oper} {m : MOp} (h : compOp P o = some m) : m.dst = o.dst:=by
  unfold compOp at h
  split at h <;> (try unfold compCall at h) <;> (repeat' split at h) <;> first | (cases h; done) | (cases h; simp_all [MOp.dst]; done)
theorem zfix_dst (ops : Array Oper) (m : MOp) : (zfix ops m).dst = m.dst:=by
  unfold zfix
  split
  · split <;> rfl
  · rfl
theorem bs_inv {o : Oper} {d es : Nat} {z : List D} (h : compOp P o = some (.bs d es 0 z [])) :
    ∃ t e parts k,o.op = .buildSlice t 0 parts∧P.underlying t = some (.slice e)∧sizeT P e = some es∧partsOf (fun i => some (i * es,es,k)) parts.toList = some []∧o.dst = some d:=by
  unfold compOp at h
  split at h <;> (try unfold compCall at h) <;> (repeat' split at h) <;> first | (cases h; done) | skip
  rename_i t n parts hop _ _ d' e es' hd hel _ _ z' ps hz hps _
  obtain ⟨hu,hes⟩:=elemT_some hel
  simp only [Option.some.injEq,MOp.bs.injEq] at h
  obtain ⟨rfl,rfl,rfl,_,rfl⟩:=h
  exact ⟨t,e,parts,_,hop,hu,hes,hps,hd⟩
theorem compZ_ok (hr : Rel E st ts a.tmps w) {call : Oracle} (hc : CallsOK P E.g call) {ops : Array Oper} {o : Oper} {m : MOp} (h : compOp P o = some m) (hs : step call st (zfix ops m) = some st') : Goes P E o a w st':=by
  unfold zfix at hs
  split at hs
  · split at hs
    · obtain ⟨t,e,parts,k,h1,h2,h3,h4,h5⟩:=bs_inv h
      exact mzc_ok hr h1 h2 h3 h4 h5 hs
    · exact compOp_ok hr hc h hs
  · exact compOp_ok hr hc h hs
theorem asg_inv {o : Oper} {d : Nat} {x : MO} (h : compOp P o = some (.asg d x)) : ∃ x0,o.op = .assign x0∧o.dst = some d∧opd (esT P o.type) x0 = some x:=by
  unfold compOp at h
  split at h <;> (try unfold compCall at h) <;> (repeat' split at h) <;> first | (cases h; done) | skip
  rename_i x0 hop _ _ d' x' hd hx
  cases h
  exact ⟨x0,hop,hd,hx⟩
theorem ext_inv {o : Oper} {d : Nat} {x : MO} {i : Nat} (h : compOp P o = some (.ext d x i)) : ∃ x0 e1,o.op = .extract x0 i∧o.dst = some d∧opd e1 x0 = some x:=by
  unfold compOp at h
  repeat' split at h
  all_goals first | (cases h; done) | skip
  all_goals try (unfold compCall at h; repeat' split at h)
  all_goals first | (cases h; done) | skip
  all_goals first | (cases h; exact ⟨_,_,by assumption,by assumption,by assumption⟩) | skip
theorem zfix_ext {ops : Array Oper} {m : MOp} {d : Nat} {x : MO} {i : Nat} (h : zfix ops m = .ext d x i) : m = .ext d x i:=by
  unfold zfix at h
  split at h
  · split at h
    · cases h
    · exact h
  · exact h
theorem bld_inv {o : Oper} {d : Nat} {z : List D} {ps : List (Nat × Nat × MO)} (h : compOp P o = some (.bld d z ps)) : ∃ t parts place,o.op = .build t parts∧zeroOf P t = some z∧o.dst = some d∧partsOf place parts.toList = some ps ∧
    ∃ place' : Nat→Option (Nat × Nat),(∀ i off sz es,place i = some (off,sz,es)→place' i = some (off,sz))∧∀ z,(P.info? t).bind (·.zero) = some z→∀ vs,P.built t vs = Instr.fill place' z.cells vs:=by
  unfold compOp at h
  split at h <;> (try unfold compCall at h) <;> (repeat' split at h) <;> first | (cases h; done) | skip
  · rename_i t parts hop _ _ d' z' hd hz _ fs hu _ ps' hps hall
    cases h
    exact ⟨t,parts,_,hop,hz,hd,hps,place_struct hu hall⟩
  · rename_i t parts hop _ _ d' z' hd hz _ n e hu _ es hes _ ps' hps
    cases h
    exact ⟨t,parts,_,hop,hz,hd,hps,place_array hu hes⟩
theorem zfix_bld {ops : Array Oper} {m : MOp} {d : Nat} {z : List D} {ps : List (Nat × Nat × MO)} (h : zfix ops m = .bld d z ps) : m = .bld d z ps:=by
  unfold zfix at h
  split at h
  · split at h <;> cases h
  · exact h
def cG (P : Program) (ops : Array Oper) (o : Oper) (m : MG) : Prop:=∃ m0,compG P ops o = some m0∧(m = m0 ∨ m = asMv m0)
theorem zfix_asg {ops : Array Oper} {m : MOp} {d : Nat} {x : MO} (h : zfix ops m = .asg d x) : m = .asg d x:=by
  unfold zfix at h
  split at h
  · split at h <;> cases h
  · exact h
structure Kp (F : Nat→Prop) (a a' : Act) : Prop where
  df : a'.defers = a.defers
  kp : ∀ i,F i→a'.tmps.getD i undef = a.tmps.getD i undef
theorem Kp.refl (F : Nat→Prop) (a : Act) : Kp F a a:=⟨rfl,fun _ _ => rfl⟩
theorem Kp.trans {F : Nat→Prop} {a b c : Act} (h : Kp F a b) (k : Kp F b c) : Kp F a c:=⟨k.df.trans h.df,fun i hi => (k.kp i hi).trans (h.kp i hi)⟩
theorem Kp.put {F : Nat→Prop} {a : Act} {dst : Option Nat} (h : ∀ d,dst = some d→¬ F d) (v : Value) : Kp F a (a.put dst v):=by
  cases dst with
  | none => exact Kp.refl F a
  | some d =>
    refine ⟨rfl,fun i hi => ?_⟩
    have hne : d ≠ i:=fun e => h d rfl (e ▸ hi)
    show (a.tmps.setIfInBounds d v).getD i undef = _
    simp [Array.getD_eq_getD_getElem?,Array.getElem?_setIfInBounds_ne hne]
theorem asMv_dst (m : MG) : (asMv m).op.dst = m.op.dst:=by
  unfold asMv
  split
  · rename_i d x h; rw [h]; rfl
  · rename_i d x i h; rw [h]; rfl
  · rename_i d z ps h
    split
    · rfl
    · rw [h]; rfl
  · rfl
theorem compG_dst {ops : Array Oper} {o : Oper} {m : MG} (h : compG P ops o = some m) : m.op.dst = o.dst:=by
  unfold compG at h
  split at h
  · rename_i m0 h0
    split at h
    · cases h; exact (zfix_dst ops m0).trans (compOp_dst h0)
    · split at h
      · cases h; exact (zfix_dst ops m0).trans (compOp_dst h0)
      · cases h
  · cases h
theorem cG_dst {ops : Array Oper} {o : Oper} {m : MG} (h : cG P ops o m) : m.op.dst = o.dst:=by
  obtain ⟨m0,h0,h1⟩:=h
  rcases h1 with rfl | rfl
  · exact compG_dst h0
  · rw [asMv_dst]; exact compG_dst h0
theorem wpOp_ok0 (hr : Rel E st ts a.tmps w) {call : Oracle} (hc : CallsOK P E.g call) {ops : Array Oper} {i : Nat} {o : Oper} (hi : ops[i]? = some o) {m : MG} (h : compG P ops o = some m) (hs : Mx.stepG call st m = some st')
    {Q : Exit→Act→World→Prop} {K : Act→World→Prop} {F : Nat→Prop} (hF : ∀ d,m.op.dst = some d→¬ F d) (hk : ∀ a' w' ts',Kp F a a'→Rel E st' ts' a'.tmps w'→K a' w') : wpOp P ops Q i K a w:=by
  unfold wpOp
  rw [hi]
  unfold Mx.stepG at hs
  have hput : ∀ v,Kp F a (a.put o.dst v):=Kp.put (compG_dst h ▸ hF)
  split at hs
  · rename_i hw
    obtain ⟨h1,h2⟩:=wanted_ok hr h hw
    simp only [h1,if_true]
    obtain ⟨m0,h2,h3⟩:=h2
    rw [h3] at hs
    exact .inl (compZ_ok hr hc h2 hs _ _ fun v w' ts' hrel => hk _ _ _ (hput v) hrel)
  · rename_i hw
    obtain ⟨h1,h2⟩:=wanted_ok hr h hw
    simp only [h1]
    simp only [Bool.false_eq_true,if_false]
    cases hs
    obtain ⟨m0,h2,h3⟩:=h2
    rw [h3,zfix_dst,compOp_dst h2] at hk
    cases hd : o.dst with
    | none => rw [hd] at hk hput; exact hk _ _ ts (hput undef) hr
    | some d => rw [hd] at hk hput; exact hk _ _ _ (hput undef) (hr.set d (x:=.sc undef) (u:=undef) rfl)
  · cases hs
theorem wpOp_ok (hr : Rel E st ts a.tmps w) {call : Oracle} (hc : CallsOK P E.g call) {ops : Array Oper} {i : Nat} {o : Oper} (hi : ops[i]? = some o) {m : MG} (h : cG P ops o m) (hs : Mx.stepG call st m = some st')
    {Q : Exit→Act→World→Prop} {K : Act→World→Prop} {F : Nat→Prop} (hF : ∀ d,m.op.dst = some d→¬ F d) (hk : ∀ a' w' ts',Kp F a a'→Rel E st' ts' a'.tmps w'→K a' w') : wpOp P ops Q i K a w:=by
  obtain ⟨m0,h0,h1⟩:=h
  rcases h1 with rfl | rfl
  · exact wpOp_ok0 hr hc hi h0 hs hF hk
  unfold asMv at hs
  split at hs
  · rename_i d x hop
    unfold wpOp
    rw [hi]
    unfold Mx.stepG at hs
    have hput : ∀ v,Kp F a (a.put o.dst v):=Kp.put ((asMv_dst m0 ▸ compG_dst h0 : (asMv m0).op.dst = o.dst) ▸ hF)
    split at hs
    · rename_i hw
      obtain ⟨h1,m1,h2,h3⟩:=wanted_ok hr h0 hw
      simp only [h1,if_true]
      rw [hop] at h3
      have h4:=zfix_asg h3.symm
      rw [h4] at h2
      obtain ⟨x0,e1,e2,e3⟩:=asg_inv h2
      exact .inl (mv_ok hr (by unfold execOp; rw [e1]) e2 e3 hs _ _ fun v w' ts' hrel => hk _ _ _ (hput v) hrel)
    · rename_i hw
      obtain ⟨h1,m1,h2,h3⟩:=wanted_ok hr h0 hw
      simp only [h1]
      simp only [Bool.false_eq_true,if_false]
      cases hs
      rw [hop] at h3
      have h4:=zfix_asg h3.symm
      rw [h4] at h2
      obtain ⟨x0,e1,e2,e3⟩:=asg_inv h2
      rw [e2] at hput ⊢
      exact hk _ _ _ (hput undef) (hr.set d (x:=.sc undef) (u:=undef) rfl)
    · cases hs
  · rename_i d x i1 hop
    unfold wpOp
    rw [hi]
    unfold Mx.stepG at hs
    have hput : ∀ v,Kp F a (a.put o.dst v):=Kp.put ((asMv_dst m0 ▸ compG_dst h0 : (asMv m0).op.dst = o.dst) ▸ hF)
    split at hs
    · rename_i hw
      obtain ⟨h1,m1,h2,h3⟩:=wanted_ok hr h0 hw
      simp only [h1,if_true]
      rw [hop] at h3
      have h4:=zfix_ext h3.symm
      rw [h4] at h2
      obtain ⟨x0,e1,q1,q2,q3⟩:=ext_inv h2
      exact .inl (exb_ok hr q1 q2 q3 hs _ _ fun v w' ts' hrel => hk _ _ _ (hput v) hrel)
    · rename_i hw
      obtain ⟨h1,m1,h2,h3⟩:=wanted_ok hr h0 hw
      simp only [h1]
      simp only [Bool.false_eq_true,if_false]
      cases hs
      rw [hop] at h3
      have h4:=zfix_ext h3.symm
      rw [h4] at h2
      obtain ⟨x0,e1,q1,q2,q3⟩:=ext_inv h2
      rw [q2] at hput ⊢
      exact hk _ _ _ (hput undef) (hr.set d (x:=.sc undef) (u:=undef) rfl)
    · cases hs
  · rename_i d z ps hop
    split at hs
    · exact wpOp_ok0 hr hc hi h0 hs (fun d hd => hF d (by rw [asMv_dst]; exact hd)) hk
    unfold wpOp
    rw [hi]
    unfold Mx.stepG at hs
    have hput : ∀ v,Kp F a (a.put o.dst v):=Kp.put ((asMv_dst m0 ▸ compG_dst h0 : (asMv m0).op.dst = o.dst) ▸ hF)
    split at hs
    · rename_i hw
      obtain ⟨h1,m1,h2,h3⟩:=wanted_ok hr h0 hw
      simp only [h1,if_true]
      rw [hop] at h3
      have h4:=zfix_bld h3.symm
      rw [h4] at h2
      obtain ⟨t,parts,place,e1,e2,e3,e4,e5⟩:=bld_inv h2
      exact .inl (bv_ok hr e1 e2 e4 e5 e3 hs _ _ fun v w' ts' hrel => hk _ _ _ (hput v) hrel)
    · rename_i hw
      obtain ⟨h1,m1,h2,h3⟩:=wanted_ok hr h0 hw
      simp only [h1]
      simp only [Bool.false_eq_true,if_false]
      cases hs
      rw [hop] at h3
      have h4:=zfix_bld h3.symm
      rw [h4] at h2
      obtain ⟨t,parts,place,e1,e2,e3,e4,e5⟩:=bld_inv h2
      rw [e3] at hput ⊢
      exact hk _ _ _ (hput undef) (hr.set d (x:=.sc undef) (u:=undef) rfl)
    · cases hs
  · exact wpOp_ok0 hr hc hi h0 hs (fun d hd => hF d (by rw [asMv_dst]; exact hd)) hk
end
end Go.Mx
namespace Go.Mx
set_option linter.unusedVariables false
set_option linter.unusedSimpArgs false
set_option linter.unusedSectionVars false
open Go
mutual
def V.within (I : Nat→Prop) : V→Prop
  | .ref r _ => I r
  | .sub r _ _ _ _ => I r
  | .ad r _ _ => I r
  | .vn _ vs => V.withinL I vs
  | _ => True
def V.withinL (I : Nat→Prop) : List V→Prop
  | [] => True
  | x :: xs => V.within I x∧V.withinL I xs
end
structure Like (I : Nat→Prop) (st st' : St) : Prop where
  same : ∀ i,I i→st'[i]? = st[i]?
  clos : ∀ i x,I i→st[i]? = some x→x.within I
def MO.inI (I : Nat→Prop) (m : MO) : Prop:=∀ i ∈ m.slots,I i
set_option linter.unusedSectionVars false
section
variable {I : Nat→Prop} {st st' : St} (L : Like I st st')
include L
theorem ev_like {m : MO} (h : m.inI I) : ev st' m = ev st m∧(ev st m).within I:=by
  cases m with
  | t i =>
    have hi : I i:=h i (by simp [MO.slots])
    simp only [ev,L.same i hi,true_and]
    cases hx : st[i]? with
    | none => trivial
    | some x =>
      have:=L.clos i x hi hx
      cases x <;> first | exact hi | exact this | trivial
  | c d =>
    refine ⟨rfl,?_⟩
    cases d <;> trivial
theorem root_like {r : Nat} (h : I r) : rootD st' r = rootD st r:=by simp only [rootD,L.same r h]
theorem place_like {r : Nat} {p : List Nat} (h : I r) : placeD st' r p = placeD st r p:=by simp only [placeD,root_like L h]
mutual
theorem rd_like : ∀ (x : V),x.within I→rd st' x = rd st x
  | .sc _,_ => rfl
  | .own _,_ => rfl
  | .ro _,_ => rfl
  | .ref r p,h => by simp only [rd]; exact place_like L h
  | .sub r p lo es n,h => by
    have : I r:=h
    simp only [rd,place_like L this]
  | .ad _ _ _,_ => rfl
  | .rad _ _,_ => rfl
  | .vn k vs,h => by simp only [rd,rdL_like vs h]
  | .dead,_ => rfl
theorem rdL_like : ∀ (xs : List V),V.withinL I xs→rdL st' xs = rdL st xs
  | [],_ => rfl
  | x :: xs,h => by simp only [rdL,rd_like x h.1,rdL_like xs h.2]
end
theorem cellV_within {r : Nat} {p : List Nat} {kids : List D} {c : Nat} {y : V} (h : I r) (hy : cellV r p kids c = some y) : y.within I:=by
  unfold cellV at hy
  split at hy
  · cases hy; trivial
  · cases hy; exact h
  · cases hy
theorem cellR_within {kids : List D} {c : Nat} {y : V} (hy : cellR kids c = some y) : y.within I:=by
  unfold cellR at hy
  split at hy
  · cases hy; trivial
  · cases hy; trivial
  · cases hy
theorem load1_like {x : V} (h : x.within I) : load1 st' x = load1 st x∧∀ y,load1 st x = some y→y.within I:=by
  cases x with
  | ad r p c =>
    have hr : I r:=h
    simp only [load1,place_like L hr,true_and]
    intro y hy
    split at hy
    · split at hy
      · exact cellV_within L hr hy
      · cases hy
    · cases hy
  | ref r p =>
    have hr : I r:=h
    simp only [load1,place_like L hr,true_and]
    intro y hy
    split at hy
    · split at hy
      · exact cellV_within L hr hy
      · cases hy
    · cases hy
  | rad kids c => exact ⟨rfl,fun y hy => cellR_within L hy⟩
  | ro d =>
    refine ⟨by cases d <;> first | rfl | (rename_i k _; cases k <;> rfl),fun y hy => ?_⟩
    unfold load1 at hy
    split at hy
    · rename_i heq; cases heq
    · rename_i heq; cases heq
    · rename_i heq; cases heq
    · exact cellR_within L hy
    · cases hy
  | sc _ => exact ⟨rfl,fun y hy => by simp [load1] at hy⟩
  | own _ => exact ⟨rfl,fun y hy => by simp [load1] at hy⟩
  | sub _ _ _ _ _ => exact ⟨rfl,fun y hy => by simp [load1] at hy⟩
  | vn _ _ => exact ⟨rfl,fun y hy => by simp [load1] at hy⟩
  | dead => exact ⟨rfl,fun y hy => by simp [load1] at hy⟩
theorem seqM_within {r : Nat} {p : List Nat} {kids : List D} (h : I r) : ∀ (l : List Nat) (c : Nat) (vs : List V),seqM (l.map fun i => cellV r p kids (c + i)) = some vs→V.withinL I vs
  | [],_,vs,hv => by simp only [List.map_nil,seqM,Option.some.injEq] at hv; subst hv; trivial
  | i :: l,c,vs,hv => by
    simp only [List.map_cons] at hv
    cases h1 : cellV r p kids (c + i) with
    | none => simp [h1,seqM] at hv
    | some y =>
      simp only [h1,seqM] at hv
      cases h2 : seqM (l.map fun i => cellV r p kids (c + i)) with
      | none => simp [h2] at hv
      | some ys =>
        simp only [h2,Option.some.injEq] at hv
        subst hv
        exact ⟨cellV_within L h h1,seqM_within h l c ys h2⟩
theorem aggV_within {r : Nat} {p : List Nat} {kids : List D} {c m : Nat} {y : V} (h : I r) (hy : aggV r p kids c m = some y) : y.within I:=by
  unfold aggV at hy
  split at hy
  · simp only at hy
    split at hy
    · cases hy; trivial
    · split at hy
      · rename_i vs hvs
        cases hy
        exact seqM_within L h _ _ _ hvs
      · cases hy
  · cases hy
theorem aggR_within {kids : List D} {c m : Nat} {y : V} (hy : aggR kids c m = some y) : y.within I:=by
  unfold aggR at hy
  split at hy
  · cases hy; trivial
  · cases hy
theorem loadN_like {x : V} {m : Nat} (h : x.within I) : loadN st' x m = loadN st x m∧∀ y,loadN st x m = some y→y.within I:=by
  cases x with
  | ad r p c =>
    have hr : I r:=h
    simp only [loadN,place_like L hr,true_and]
    intro y hy
    split at hy
    · split at hy
      · exact aggV_within L hr hy
      · cases hy
    · cases hy
  | ref r p =>
    have hr : I r:=h
    simp only [loadN,place_like L hr,true_and]
    intro y hy
    split at hy
    · split at hy
      · exact aggV_within L hr hy
      · cases hy
    · cases hy
  | rad kids c => exact ⟨rfl,fun y hy => aggR_within L hy⟩
  | ro d =>
    refine ⟨by cases d <;> first | rfl | (rename_i k _; cases k <;> rfl),fun y hy => ?_⟩
    unfold loadN at hy
    split at hy
    · rename_i heq; cases heq
    · rename_i heq; cases heq
    · rename_i heq; cases heq
    · exact aggR_within L hy
    · cases hy
  | sc _ => exact ⟨rfl,fun y hy => by simp [loadN] at hy⟩
  | own _ => exact ⟨rfl,fun y hy => by simp [loadN] at hy⟩
  | sub _ _ _ _ _ => exact ⟨rfl,fun y hy => by simp [loadN] at hy⟩
  | vn _ _ => exact ⟨rfl,fun y hy => by simp [loadN] at hy⟩
  | dead => exact ⟨rfl,fun y hy => by simp [loadN] at hy⟩
theorem elem_like {x : V} {es i : Nat} (h : x.within I) : elemAt st' es x i = elemAt st es x i∧∀ y,elemAt st es x i = some y→y.within I:=by
  cases x with
  | ref r p =>
    have hr : I r:=h
    simp only [elemAt,place_like L hr,true_and]
    intro y hy
    split at hy
    · split at hy
      · cases hy; exact hr
      · cases hy
    · cases hy
  | sub r p lo es' n =>
    have hr : I r:=h
    simp only [elemAt,place_like L hr,true_and]
    intro y hy
    split at hy
    · split at hy
      · cases hy; exact hr
      · cases hy
    · cases hy
  | ro d =>
    refine ⟨by cases d <;> first | rfl | (rename_i k _; cases k <;> rfl),fun y hy => ?_⟩
    unfold elemAt at hy
    split at hy
    · rename_i heq; cases heq
    · rename_i heq; cases heq
    · split at hy
      · cases hy; trivial
      · cases hy
    · cases hy
  | sc _ => exact ⟨rfl,fun y hy => by simp [elemAt] at hy⟩
  | own _ => exact ⟨rfl,fun y hy => by simp [elemAt] at hy⟩
  | ad _ _ _ => exact ⟨rfl,fun y hy => by simp [elemAt] at hy⟩
  | rad _ _ => exact ⟨rfl,fun y hy => by simp [elemAt] at hy⟩
  | vn _ _ => exact ⟨rfl,fun y hy => by simp [elemAt] at hy⟩
  | dead => exact ⟨rfl,fun y hy => by simp [elemAt] at hy⟩
theorem add_like {x : V} {o : Nat} (h : x.within I) : addAt st' x o = addAt st x o∧∀ y,addAt st x o = some y→y.within I:=by
  cases x with
  | ad r p c => exact ⟨rfl,fun y hy => by simp only [addAt,Option.some.injEq] at hy; subst hy; exact h⟩
  | ref r p =>
    have hr : I r:=h
    simp only [addAt,place_like L hr,true_and]
    intro y hy
    split at hy
    · cases hy; exact hr
    · cases hy
  | rad kids c => exact ⟨rfl,fun y hy => by simp only [addAt,Option.some.injEq] at hy; subst hy; trivial⟩
  | ro d =>
    refine ⟨by cases d <;> first | rfl | (rename_i k _; cases k <;> rfl),fun y hy => ?_⟩
    unfold addAt at hy
    split at hy
    · rename_i heq; cases heq
    · rename_i heq; cases heq
    · rename_i heq; cases heq
    · cases hy; trivial
    · cases hy
  | sc _ => exact ⟨rfl,fun y hy => by simp [addAt] at hy⟩
  | own _ => exact ⟨rfl,fun y hy => by simp [addAt] at hy⟩
  | sub _ _ _ _ _ => exact ⟨rfl,fun y hy => by simp [addAt] at hy⟩
  | vn _ _ => exact ⟨rfl,fun y hy => by simp [addAt] at hy⟩
  | dead => exact ⟨rfl,fun y hy => by simp [addAt] at hy⟩
theorem withinL_get : ∀ {vs : List V} {i : Nat} {y : V},V.withinL I vs→vs[i]? = some y→y.within I
  | [],_,_,_,h => by simp at h
  | x :: xs,0,y,hw,h => by simp at h; subst h; exact hw.1
  | x :: xs,i + 1,y,hw,h => by simp at h; exact withinL_get hw.2 h
theorem field_like {x : V} {o : Nat} {m : Option Nat} (h : x.within I) : fieldV st' x o m = fieldV st x o m∧∀ y,fieldV st x o m = some y→y.within I:=by
  cases m with
  | some m =>
    simp only [fieldV,rd_like L x h,true_and]
    intro y hy
    split at hy
    · split at hy
      · cases hy; trivial
      · cases hy
    · cases hy
  | none =>
    cases x with
    | ref r p =>
      have hr : I r:=h
      simp only [fieldV,place_like L hr,true_and]
      intro y hy
      split at hy
      · exact cellV_within L hr hy
      · cases hy
    | ro d =>
      refine ⟨by cases d <;> first | rfl | (rename_i k _; cases k <;> rfl),fun y hy => ?_⟩
      simp only [fieldV] at hy
      split at hy
      · rename_i heq; cases heq
      · exact cellR_within L hy
      · rename_i heq; cases heq
      · cases hy
    | vn k vs =>
      refine ⟨by cases k <;> rfl,fun y hy => ?_⟩
      cases k with
      | ag => simp only [fieldV] at hy; exact withinL_get L h hy
      | _ => simp [fieldV] at hy
    | sc _ => exact ⟨rfl,fun y hy => by simp [fieldV] at hy⟩
    | own _ => exact ⟨rfl,fun y hy => by simp [fieldV] at hy⟩
    | ad _ _ _ => exact ⟨rfl,fun y hy => by simp [fieldV] at hy⟩
    | rad _ _ => exact ⟨rfl,fun y hy => by simp [fieldV] at hy⟩
    | sub _ _ _ _ _ => exact ⟨rfl,fun y hy => by simp [fieldV] at hy⟩
    | dead => exact ⟨rfl,fun y hy => by simp [fieldV] at hy⟩
theorem slice_like {x : V} {es : Nat} {lo hi : Option Nat} (h : x.within I) : slice st' es x lo hi = slice st es x lo hi∧∀ y,slice st es x lo hi = some y→y.within I:=by
  cases x with
  | ref r p =>
    have hr : I r:=h
    simp only [slice,place_like L hr,true_and]
    intro y hy
    split at hy
    · split at hy
      · simp only [Option.some.injEq] at hy
        subst hy
        split
        · trivial
        · exact hr
      · cases hy
    · cases hy
  | sub r p lo0 es' n =>
    have hr : I r:=h
    simp only [slice,place_like L hr,true_and]
    intro y hy
    split at hy
    · split at hy
      · cases hy; exact hr
      · cases hy
    · cases hy
  | ro d =>
    refine ⟨by cases d <;> first | rfl | (rename_i k _; cases k <;> rfl),fun y hy => ?_⟩
    unfold slice at hy
    split at hy
    · rename_i heq; cases heq
    · rename_i heq; cases heq
    · simp only at hy
      split at hy
      · cases hy; trivial
      · cases hy
    · cases hy
  | sc _ => exact ⟨rfl,fun y hy => by simp [slice] at hy⟩
  | own _ => exact ⟨rfl,fun y hy => by simp [slice] at hy⟩
  | ad _ _ _ => exact ⟨rfl,fun y hy => by simp [slice] at hy⟩
  | rad _ _ => exact ⟨rfl,fun y hy => by simp [slice] at hy⟩
  | vn _ _ => exact ⟨rfl,fun y hy => by simp [slice] at hy⟩
  | dead => exact ⟨rfl,fun y hy => by simp [slice] at hy⟩
theorem cp_like {x : V} (h : x.within I) : cp st' x = cp st x:=by
  cases x with
  | ref r p =>
    have hr : I r:=h
    simp only [cp,place_like L hr]
  | _ => rfl
theorem cpAll_like : ∀ (l : List MO),(∀ m ∈ l,m.inI I)→cpAll st' l = cpAll st l
  | [],_ => rfl
  | x :: xs,h => by
    obtain ⟨e1,e2⟩:=ev_like L (h x (by simp))
    simp only [cpAll,e1,cp_like L e2,cpAll_like xs fun m hm => h m (by simp [hm])]
theorem rdAll_like : ∀ (l : List MO),(∀ m ∈ l,m.inI I)→rdAll st' l = rdAll st l
  | [],_ => rfl
  | x :: xs,h => by
    obtain ⟨e1,e2⟩:=ev_like L (h x (by simp))
    simp only [rdAll,e1,rd_like L _ e2,rdAll_like xs fun m hm => h m (by simp [hm])]
theorem optNat_like {x : Option MO} (h : ∀ i ∈ oslots x,I i) : optNat st' x = optNat st x:=by
  cases x with
  | none => rfl
  | some m => simp only [optNat,(ev_like L (m:=m) h).1]
theorem isNil_like {x : V} {ptr : Bool} (h : x.within I) : isNil st' ptr x = isNil st ptr x:=by simp only [isNil,rd_like L x h]
theorem lenOf_like {x : V} {str : Bool} (h : x.within I) : lenOf st' str x = lenOf st str x:=by
  cases str
  · cases x <;> first | rfl | (simp only [lenOf,rd_like L _ h])
  · rfl
omit L in
theorem mkRo_within (d : D) : (mkRo d).within I:=by cases d <;> trivial
omit L in
theorem withinL_set : ∀ (l : List V) (i : Nat) (x : V),V.withinL I l→x.within I→V.withinL I (l.set i x)
  | [],_,_,h,_ => h
  | y :: l,0,x,h,hx => ⟨hx,h.2⟩
  | y :: l,i + 1,x,h,hx => ⟨h.1,withinL_set l i x h.2 hx⟩
omit L in
theorem zV_within (l : List D) : V.withinL I (zV l):=by
  induction l with
  | nil => trivial
  | cons d l ih => exact ⟨mkRo_within d,ih⟩
theorem oneV_like {x : V} (h : x.within I) : oneV st' x = oneV st x:=by simp only [oneV,rd_like L x h]
theorem bvL_like : ∀ (ps : List (Nat × Nat × MO)) (cells : List V),(∀ m ∈ ps.map (·.2.2),m.inI I)→V.withinL I cells→bvL st' cells ps = bvL st cells ps∧∀ y,bvL st cells ps = some y→V.withinL I y
  | [],cells,_,hc => ⟨rfl,fun y hy => by simp only [bvL,Option.some.injEq] at hy; subst hy; exact hc⟩
  | (off,sz,x) :: ps,cells,h,hc => by
    obtain ⟨e1,e2⟩:=ev_like L (m:=x) (h x (by simp))
    obtain ⟨h1,h2⟩:=bvL_like ps (cells.set off (ev st x)) (fun m hm => h m (by simp only [List.map_cons,List.mem_cons]; exact .inr hm)) (withinL_set _ _ _ hc e2)
    simp only [bvL,e1,oneV_like L e2,h1,true_and]
    intro y hy
    split at hy
    · exact h2 y hy
    · cases hy
omit L in
theorem mkOwn_within (d : D) : (mkOwn d).within I:=by cases d <;> trivial
theorem exV_like {x : V} {i : Nat} (h : x.within I) : exV st' x i = exV st x i∧∀ y,exV st x i = some y→y.within I:=by
  cases x with
  | ref r p =>
    have hr : I r:=h
    simp only [exV,place_like L hr,true_and]
    intro y hy
    split at hy
    · split at hy
      · cases hy; trivial
      · cases hy; exact hr
      · cases hy
    · cases hy
  | _ => exact ⟨rfl,fun y hy => by simp [exV] at hy⟩
theorem val1_like (call : Oracle) (op : MOp) (h : ∀ i ∈ op.rds,I i) : val1 call st' op = val1 call st op∧∀ y,val1 call st op = some y→y.within I:=by
  have two : ∀ {x y : MO},(∀ i ∈ x.slots ++ y.slots,I i)→x.inI I∧y.inI I:=fun h => ⟨fun i hi => h i (List.mem_append_left _ hi),fun i hi => h i (List.mem_append_right _ hi)⟩
  cases op with
  | mv d x =>
    obtain ⟨e1,e2⟩:=ev_like L (m:=x) h
    simp only [val1,e1,true_and]
    intro y hy
    split at hy
    · cases hy
    · cases hy; exact e2
  | alc d z => exact ⟨rfl,fun y hy => by simp only [val1,Option.some.injEq] at hy; subst hy; trivial⟩
  | asg d x =>
    obtain ⟨e1,e2⟩:=ev_like L (m:=x) h
    simp only [val1,e1,true_and]
    intro y hy
    split at hy
    · cases hy; trivial
    · cases hy
  | pick d c a b =>
    have hc : c.inI I:=fun i hi => h i (List.mem_append_left _ hi)
    obtain ⟨ha,hb⟩:=two (x:=a) (y:=b) fun i hi => h i (List.mem_append_right _ hi)
    obtain ⟨e1,_⟩:=ev_like L hc
    obtain ⟨e3,e4⟩:=ev_like L ha
    obtain ⟨e5,e6⟩:=ev_like L hb
    simp only [val1,e1]
    split
    · rename_i t _
      cases t
      · simp only [Bool.false_eq_true,if_false,e5,true_and]
        intro y hy
        split at hy
        · cases hy
        · cases hy; exact e6
      · simp only [if_true,e3,true_and]
        intro y hy
        split at hy
        · cases hy
        · cases hy; exact e4
    · exact ⟨rfl,fun y hy => by cases hy⟩
  | ixs d es x i =>
    obtain ⟨hx,hi⟩:=two h
    obtain ⟨e1,e2⟩:=ev_like L hx
    obtain ⟨e3,_⟩:=ev_like L hi
    simp only [val1,e1,e3]
    split
    · exact elem_like L e2
    · exact ⟨rfl,fun y hy => by cases hy⟩
  | ixa d es n x i =>
    obtain ⟨hx,hi⟩:=two h
    obtain ⟨e1,e2⟩:=ev_like L hx
    obtain ⟨e3,_⟩:=ev_like L hi
    simp only [val1,e1,e3]
    split
    · split
      · exact add_like L e2
      · exact ⟨rfl,fun y hy => by cases hy⟩
    · exact ⟨rfl,fun y hy => by cases hy⟩
  | ld1 d x =>
    obtain ⟨e1,e2⟩:=ev_like L (m:=x) h
    simp only [val1,e1]
    exact load1_like L e2
  | ldn d m x =>
    obtain ⟨e1,e2⟩:=ev_like L (m:=x) h
    simp only [val1,e1]
    exact loadN_like L e2
  | bin d op bt x y =>
    obtain ⟨hx,hy⟩:=two h
    obtain ⟨e1,e2⟩:=ev_like L hx
    obtain ⟨e3,e4⟩:=ev_like L hy
    have hsc : ∀ z,val1 call st (.bin d op bt x y) = some z→z.within I:=by
      intro z hz
      simp only [val1] at hz
      repeat' split at hz
      all_goals first | (cases hz; trivial) | cases hz
    refine ⟨?_,hsc⟩
    cases bt with
    | nilT ptr => simp only [val1,e1,e3,isNil_like L e2,isNil_like L e4]
    | ag ks => simp only [val1,e1,e3,rd_like L _ e2,rd_like L _ e4]
    | num => simp only [val1,e1,e3]
    | bool => simp only [val1,e1,e3]
    | no => simp only [val1,e1,e3]
  | un d op x =>
    obtain ⟨e1,e2⟩:=ev_like L (m:=x) h
    simp only [val1,e1,true_and]
    intro y hy
    repeat' split at hy
    all_goals first | (cases hy; trivial) | cases hy
  | len d str x =>
    obtain ⟨e1,e2⟩:=ev_like L (m:=x) h
    simp only [val1,e1,lenOf_like L e2,true_and]
    intro y hy
    repeat' split at hy
    all_goals first | (cases hy; trivial) | cases hy
  | mm d mx x y =>
    obtain ⟨hx,hy⟩:=two h
    obtain ⟨e1,e2⟩:=ev_like L hx
    obtain ⟨e3,e4⟩:=ev_like L hy
    simp only [val1,e1,e3,true_and]
    intro z hz
    repeat' split at hz
    all_goals first | (cases hz; trivial) | cases hz
  | call dst f xs =>
    have hxs : ∀ m ∈ xs,m.inI I:=fun m hm i hi => h i (List.mem_flatMap.2 ⟨m,hm,hi⟩)
    simp only [val1,rdAll_like L xs hxs,true_and]
    intro y hy
    repeat' split at hy
    all_goals first | (cases hy; exact mkOwn_within _) | cases hy
  | bs d es n z ps =>
    have hxs : ∀ m ∈ ps.map (·.2.2),m.inI I:=fun m hm i hi => h i (List.mem_flatMap.2 ⟨m,hm,hi⟩)
    simp only [val1,cpAll_like L _ hxs,true_and]
    intro y hy
    repeat' split at hy
    all_goals first | (cases hy; trivial) | cases hy
  | bld d z ps =>
    have hxs : ∀ m ∈ ps.map (·.2.2),m.inI I:=fun m hm i hi => h i (List.mem_flatMap.2 ⟨m,hm,hi⟩)
    simp only [val1,cpAll_like L _ hxs,true_and]
    intro y hy
    repeat' split at hy
    all_goals first | (cases hy; trivial) | cases hy
  | bv d z ps =>
    have hxs : ∀ m ∈ ps.map (·.2.2),m.inI I:=fun m hm i hi => h i (List.mem_flatMap.2 ⟨m,hm,hi⟩)
    obtain ⟨h1,h2⟩:=bvL_like L ps (zV z) hxs (zV_within z)
    simp only [val1,h1,true_and]
    intro y hy
    split at hy
    · rename_i cs hcs; cases hy; exact h2 cs hcs
    · cases hy
  | mks d es z l c =>
    obtain ⟨hx,hy⟩:=two h
    obtain ⟨e1,e2⟩:=ev_like L hx
    obtain ⟨e3,e4⟩:=ev_like L hy
    simp only [val1,e1,e3,true_and]
    intro y hy
    repeat' split at hy
    all_goals first | (cases hy; trivial) | cases hy
  | sl d es x lo hi =>
    have hx : x.inI I:=fun i hi => h i (List.mem_append_left _ hi)
    have h1 : ∀ i ∈ oslots lo,I i:=fun i hi => h i (List.mem_append_right _ (List.mem_append_left _ hi))
    have h2 : ∀ i ∈ oslots hi,I i:=fun i hi' => h i (List.mem_append_right _ (List.mem_append_right _ hi'))
    obtain ⟨e1,e2⟩:=ev_like L hx
    simp only [val1,e1,optNat_like L h1,optNat_like L h2]
    split
    · exact slice_like L e2
    · exact ⟨rfl,fun y hy => by cases hy⟩
  | fa d o x =>
    obtain ⟨e1,e2⟩:=ev_like L (m:=x) h
    simp only [val1,e1]
    exact add_like L e2
  | fld d o m x =>
    obtain ⟨e1,e2⟩:=ev_like L (m:=x) h
    simp only [val1,e1]
    exact field_like L e2
  | cvi d k x =>
    obtain ⟨e1,e2⟩:=ev_like L (m:=x) h
    simp only [val1,e1,true_and]
    intro y hy
    repeat' split at hy
    all_goals first | (cases hy; trivial) | cases hy
  | ix d es n x i =>
    obtain ⟨hx,hi⟩:=two h
    obtain ⟨e1,e2⟩:=ev_like L hx
    obtain ⟨e3,_⟩:=ev_like L hi
    simp only [val1,e1,e3]
    split
    · split
      · exact field_like L e2
      · exact ⟨rfl,fun y hy => by cases hy⟩
    · exact ⟨rfl,fun y hy => by cases hy⟩
  | exb d x i =>
    obtain ⟨e1,e2⟩:=ev_like L (m:=x) h
    simp only [val1,e1]
    exact exV_like L e2
  | nc d x =>
    obtain ⟨e1,e2⟩:=ev_like L (m:=x) h
    simp only [val1,e1,isNil_like L e2,true_and]
    intro y hy
    split at hy
    · cases hy; exact e2
    · cases hy
  | ssl d x lo hi =>
    have h0 : x.inI I:=fun i hi' => h i (by simp [MOp.rds,hi'])
    have h1 : ∀ i ∈ oslots lo,I i:=fun i hi' => h i (by simp [MOp.rds,hi'])
    have h2 : ∀ i ∈ oslots hi,I i:=fun i hi' => h i (by simp [MOp.rds,hi'])
    obtain ⟨e1,e2⟩:=ev_like L h0
    simp only [val1,e1,optNat_like L h1,optNat_like L h2,true_and]
    intro y hy
    split at hy
    · split at hy
      · unfold strSl at hy
        split at hy
        · cases hy; trivial
        · cases hy
      · cases hy
    · cases hy
  | mz d es =>
    refine ⟨rfl,fun y hy => ?_⟩
    simp only [val1,Option.some.injEq] at hy
    subst hy
    trivial
  | app d es x y =>
    obtain ⟨hx,hy⟩:=two h
    obtain ⟨e1,_⟩:=ev_like L hx
    obtain ⟨e3,e4⟩:=ev_like L hy
    refine ⟨by simp only [val1,e1,e3,rd_like L _ e4],fun z hz => ?_⟩
    simp only [val1] at hz
    split at hz
    · split at hz
      · split at hz
        · cases hz; trivial
        · cases hz
      · cases hz
    · cases hz
  | _ => exact ⟨rfl,fun y hy => by simp [val1] at hy⟩
theorem valG_like (call : Oracle) (o : MG) (h : ∀ i ∈ o.rds,I i) : valG call st' o = valG call st o∧∀ y,valG call st o = some y→y.within I:=by
  have hop : ∀ i ∈ o.op.rds,I i:=by
    intro i hi
    refine h i ?_
    unfold MG.rds
    split
    · exact List.mem_cons_of_mem _ hi
    · exact hi
  have hw : wanted st' o.g = wanted st o.g:=by
    cases hg : o.g with
    | none => rfl
    | some q =>
      obtain ⟨s,w⟩:=q
      simp only [wanted]
      rw [L.same s (h s (by simp [MG.rds,hg]))]
  obtain ⟨e1,e2⟩:=val1_like L call o.op hop
  unfold valG
  rw [hw,e1]
  refine ⟨rfl,fun y hy => ?_⟩
  split at hy
  · exact e2 y hy
  · cases hy; trivial
  · cases hy
end
theorem cpAll_take (st : St) : ∀ (l : List MO) (ds : List D),cpAll st l = some ds→takeAll st l = some (ds,st)
  | [],ds,h => by simp only [cpAll,Option.some.injEq] at h; subst h; rfl
  | x :: xs,ds,h => by
    simp only [cpAll] at h
    cases h1 : cp st (ev st x) with
    | none => simp [h1] at h
    | some d =>
      simp only [h1] at h
      cases h2 : cpAll st xs with
      | none => simp [h2] at h
      | some ds' =>
        simp only [h2,Option.some.injEq] at h
        subst h
        have ht : Mx.take st (ev st x) = some (d,st):=by
          generalize ev st x = v at h1
          cases v with
          | sc y => simp only [cp,Option.some.injEq] at h1; subst h1; rfl
          | ro dd =>
            cases dd with
            | v y => simp only [cp,noMem,if_true,Option.some.injEq] at h1; subst h1; rfl
            | hole b => simp [cp,noMem] at h1
            | nd k kids =>
              cases k with
              | ag =>
                simp only [cp] at h1
                split at h1
                · rename_i hn
                  cases h1
                  simp [Mx.take,hn]
                · cases h1
              | _ =>
                simp only [cp] at h1
                split at h1
                · rename_i hn
                  cases h1
                  simp [Mx.take,hn]
                · cases h1
          | ref r p =>
            simp only [cp,placeD] at h1
            cases hr : rootD st r with
            | none => simp [hr] at h1
            | some d0 =>
              simp only [hr] at h1
              split at h1
              · rename_i kids hg
                split at h1
                · rename_i hn
                  cases h1
                  simp [Mx.take,hr,hg,hn]
                · cases h1
              · cases h1
          | _ => simp [cp] at h1
        simp [takeAll,ht,cpAll_take st xs ds' h2]
theorem val1_step {call : Oracle} {st : St} {op : MOp} {y : V} {d : Nat} (h : val1 call st op = some y) (hd : op.dst = some d) : step call st op = some (setv st d y):=by
  cases op with
  | mv e x =>
    simp only [MOp.dst,Option.some.injEq] at hd; subst hd
    simp only [val1] at h
    simp only [step]
    split at h
    · cases h
    · rename_i hne
      cases h
      first
        | rfl
        | (split
           · rename_i h'; exact absurd h' hne
           · rfl)
  | alc e z =>
    simp only [MOp.dst,Option.some.injEq] at hd; subst hd
    simp only [val1,Option.some.injEq] at h
    subst h; rfl
  | asg e x =>
    simp only [MOp.dst,Option.some.injEq] at hd; subst hd
    simp only [val1] at h
    simp only [step]
    split at h
    · rename_i v hv
      cases h
      rw [hv]; rfl
    · cases h
  | pick e c a b =>
    simp only [MOp.dst,Option.some.injEq] at hd; subst hd
    simp only [val1] at h
    simp only [step]
    split at h
    · rename_i t hc
      try rw [hc]
      try simp only
      split at h
      · cases h
      · rename_i hne
        cases h
        first
          | rfl
          | (split
             · rename_i h'; exact absurd h' hne
             · rfl)
    · cases h
  | ixs e es x i =>
    simp only [MOp.dst,Option.some.injEq] at hd; subst hd
    simp only [val1] at h
    simp only [step]
    split at h
    · rename_i n hn; try (try rw [hn])
      simp only [h]
    · cases h
  | ixa e es n x i =>
    simp only [MOp.dst,Option.some.injEq] at hd; subst hd
    simp only [val1] at h
    simp only [step]
    split at h
    · rename_i n hn
      (try rw [hn])
      try simp only
      split at h
      · rename_i hlt; (try rw [if_pos hlt]); (try simp only [h])
      · cases h
    · cases h
  | ld1 e x => simp only [MOp.dst,Option.some.injEq] at hd; subst hd; simp only [val1] at h; simp only [step,h]
  | ldn e m x => simp only [MOp.dst,Option.some.injEq] at hd; subst hd; simp only [val1] at h; simp only [step,h]
  | bin e op bt x z =>
    simp only [MOp.dst,Option.some.injEq] at hd; subst hd
    cases bt with
    | nilT ptr =>
      simp only [val1] at h
      simp only [step]
      cases h1 : isNil st ptr (ev st x) with
      | none => simp [h1] at h
      | some t1 =>
        cases h2 : isNil st ptr (ev st z) with
        | none => simp [h1,h2] at h
        | some t2 =>
          simp only [h1,h2] at h ⊢
          split at h
          · rename_i hc
            (try rw [if_pos hc])
            cases op <;> first | (simp only [Option.some.injEq] at h; subst h; rfl) | cases h
          · cases h
    | ag ks =>
      simp only [val1] at h
      simp only [step]
      split at h
      · rename_i as bs h1 h2
        (try rw [h1,h2])
        try simp only
        cases h3 : eqAll ks as bs with
        | none => simp [h3] at h
        | some t =>
          simp only [h3] at h ⊢
          cases op <;> first | (simp only [Option.some.injEq] at h; subst h; rfl) | cases h
      · cases h
    | num =>
      simp only [val1] at h
      simp only [step]
      split at h
      · rename_i a b h1 h2
        (try rw [h1,h2])
        try simp only
        split at h
        · rename_i z hz; cases h; (try rw [hz]); (try rfl)
        · cases h
      · cases h
    | bool =>
      simp only [val1] at h
      simp only [step]
      split at h
      · rename_i a b h1 h2
        (try rw [h1,h2])
        try simp only
        split at h
        · rename_i z hz; cases h; (try rw [hz]); (try rfl)
        · cases h
      · cases h
    | no =>
      simp only [val1] at h
      simp only [step]
      split at h
      · rename_i a b h1 h2
        (try rw [h1,h2])
        try simp only
        split at h
        · rename_i z hz; cases h; (try rw [hz]); (try rfl)
        · cases h
      · cases h
  | un e op x =>
    simp only [MOp.dst,Option.some.injEq] at hd; subst hd
    simp only [val1] at h
    simp only [step]
    split at h
    · rename_i a h1
      (try rw [h1])
      try simp only
      split at h
      · rename_i z hz; cases h; (try rw [hz]); (try rfl)
      · cases h
    · cases h
  | len e str x =>
    simp only [MOp.dst,Option.some.injEq] at hd; subst hd
    simp only [val1] at h
    simp only [step]
    split at h
    · rename_i n h1; cases h; (try rw [h1]); (try rfl)
    · cases h
  | mm e mx x z =>
    simp only [MOp.dst,Option.some.injEq] at hd; subst hd
    simp only [val1] at h
    simp only [step]
    split at h
    · rename_i k a k' b h1 h2; cases h; (try rw [h1,h2]); (try rfl)
    · cases h
  | call dst f xs =>
    simp only [MOp.dst] at hd; subst hd
    simp only [val1] at h
    simp only [step]
    split at h
    · rename_i ds h1
      (try rw [h1])
      try simp only
      split at h
      · rename_i dd h2; cases h; (try rw [h2]); rfl
      · cases h
    · cases h
  | bs e es n z ps =>
    simp only [MOp.dst,Option.some.injEq] at hd; subst hd
    simp only [val1] at h
    simp only [step]
    split at h
    · rename_i ds h1
      rw [cpAll_take st _ _ h1]
      try simp only
      split at h
      · rename_i cells h2; cases h; (try rw [h2]); (try rfl)
      · cases h
    · cases h
  | bld e z ps =>
    simp only [MOp.dst,Option.some.injEq] at hd; subst hd
    simp only [val1] at h
    simp only [step]
    split at h
    · rename_i ds h1
      rw [cpAll_take st _ _ h1]
      try simp only
      split at h
      · rename_i cells h2; cases h; (try rw [h2]); (try rfl)
      · cases h
    · cases h
  | bv e z ps =>
    simp only [MOp.dst,Option.some.injEq] at hd; subst hd
    simp only [val1] at h
    simp only [step]
    split at h
    · rename_i cs h1; cases h; (try rw [h1]); (try rfl)
    · cases h
  | mks e es z l c =>
    simp only [MOp.dst,Option.some.injEq] at hd; subst hd
    simp only [val1] at h
    simp only [step]
    split at h
    · rename_i n m h1 h2
      (try rw [h1,h2])
      try simp only
      split at h
      · rename_i hc; cases h; (try rw [if_pos hc]); (try rfl)
      · cases h
    · cases h
  | sl e es x lo hi =>
    simp only [MOp.dst,Option.some.injEq] at hd; subst hd
    simp only [val1] at h
    simp only [step]
    split at h
    · rename_i l hh h1 h2
      (try rw [h1,h2])
      simp only [h]
    · cases h
  | fa e o x => simp only [MOp.dst,Option.some.injEq] at hd; subst hd; simp only [val1] at h; simp only [step,h]
  | fld e o m x => simp only [MOp.dst,Option.some.injEq] at hd; subst hd; simp only [val1] at h; simp only [step,h]
  | cvi e k x =>
    simp only [MOp.dst,Option.some.injEq] at hd; subst hd
    simp only [val1] at h
    simp only [step]
    split at h
    · rename_i k' n h1; cases h; (try rw [h1]); (try rfl)
    · cases h
  | ix e es n x i =>
    simp only [MOp.dst,Option.some.injEq] at hd; subst hd
    simp only [val1] at h
    simp only [step]
    split at h
    · rename_i n hn
      (try rw [hn])
      try simp only
      split at h
      · rename_i hlt; (try rw [if_pos hlt]); (try simp only [h])
      · cases h
    · cases h
  | exb e x i => simp only [MOp.dst,Option.some.injEq] at hd; subst hd; simp only [val1] at h; simp only [step,h]
  | nc e x =>
    simp only [MOp.dst,Option.some.injEq] at hd; subst hd
    simp only [val1] at h
    simp only [step]
    split at h
    · rename_i h1; cases h; simp only [h1]
    · cases h
  | ssl e x lo hi =>
    simp only [MOp.dst,Option.some.injEq] at hd; subst hd
    simp only [val1] at h
    simp only [step]
    split at h
    · rename_i s h0
      split at h
      · rename_i l hh h1 h2
        simp only [h0,h1,h2,h]
      · cases h
    · cases h
  | mz e es =>
    simp only [MOp.dst,Option.some.injEq] at hd; subst hd
    simp only [val1,Option.some.injEq] at h
    subst h
    rfl
  | app e es x z =>
    simp only [MOp.dst,Option.some.injEq] at hd; subst hd
    simp only [val1] at h
    split at h
    · rename_i es' hx
      split at h
      · rename_i b2 es2 n kids hy
        split at h
        · rename_i hc
          obtain ⟨rfl,h2,h3,h4,h5,h6⟩:=hc
          cases h
          have hsrc : appSrc st es' z = some (n,kids,st):=by
            simp only [appSrc,hy]
            rw [if_pos ⟨h2,h3⟩,if_pos h4,if_pos h5]
          have htk : take st (V.vn (.sl false es' 0) []) = some (.nd (.sl false es' 0) [],st):=by
            simp [take,memB,mzD]
          simp only [step,append,hsrc,hx,htk]
          simp [h6]
        · cases h
      · cases h
    · cases h
  | _ => simp [val1] at h
theorem setv_free {st : St} {d : Nat} (h : free st d = true) (y : V) : setv st d y = st.set d y:=by
  unfold setv
  split
  · rename_i dd hd; simp [free,hd,isOwn] at h
  · rfl
theorem valG_step {call : Oracle} {st : St} {o : MG} {y : V} {d : Nat} (h : valG call st o = some y) (hd : o.op.dst = some d) (hf : free st d = true) : Mx.stepG call st o = some (st.set d y):=by
  unfold valG at h
  unfold Mx.stepG
  split at h
  · rename_i hw
    (try rw [hw])
    (try simp only)
    rw [val1_step h hd,setv_free hf]
  · rename_i hw
    cases h
    (try rw [hw])
    simp only [put,hd]
    rw [setv_free hf]
  · cases h
end Go.Mx
namespace Go.Mx
set_option linter.unusedVariables false
set_option linter.unusedSimpArgs false
set_option linter.unusedSectionVars false
set_option linter.unusedSectionVars false
open Go
theorem fold_bits (g : Nat→Nat) (i : Nat) : ∀ (l : List Nat) (acc : Nat),(l.foldl (fun acc k => acc ||| (2 ^ k ||| g k)) acc).testBit i = true→acc.testBit i = true ∨ ∃ k ∈ l,i = k ∨ (g k).testBit i = true
  | [],acc,h => .inl h
  | k :: l,acc,h => by
    simp only [List.foldl_cons] at h
    rcases fold_bits g i l _ h with h1 | ⟨k',h1,h2⟩
    · rw [Nat.testBit_or,Nat.testBit_or,Bool.or_eq_true,Bool.or_eq_true] at h1
      rcases h1 with h1 | h1 | h1
      · exact .inl h1
      · rw [Nat.testBit_two_pow] at h1
        exact .inr ⟨k,by simp,.inl (by simpa using h1 : k = i).symm⟩
      · exact .inr ⟨k,by simp,.inr h1⟩
    · exact .inr ⟨k',by simp [h1],h2⟩
theorem ancM_len (af : Nat→List Nat) : ∀ n,(ancM af n).length = n
  | 0 => rfl
  | n + 1 => by simp only [ancM,List.length_append,ancM_len af n,List.length_singleton]
theorem ancM_stable (af : Nat→List Nat) {j : Nat} : ∀ {n : Nat},j < n→(ancM af n).getD j 0 = (ancM af (j + 1)).getD j 0
  | 0,h => by omega
  | n + 1,h => by
    by_cases he : j = n
    · subst he; rfl
    · have hlt : j < n:=by omega
      rw [← ancM_stable af hlt]
      simp only [ancM]
      rw [List.getD_eq_getElem?_getD,List.getD_eq_getElem?_getD,List.getElem?_append_left (by rw [ancM_len]; exact hlt)]
theorem ancM_spec (af : Nat→List Nat) {n j i : Nat} (hj : j < n) (haf : ∀ k ∈ af j,k < j) (h : ((ancM af n).getD j 0).testBit i = true) : ∃ k ∈ af j,i = k ∨ ((ancM af n).getD k 0).testBit i = true:=by
  rw [ancM_stable af hj] at h
  simp only [ancM] at h
  rw [List.getD_eq_getElem?_getD,List.getElem?_append_right (by rw [ancM_len]; exact Nat.le_refl _),ancM_len,Nat.sub_self] at h
  simp only [List.getElem?_cons_zero,Option.getD_some] at h
  rcases fold_bits _ i _ _ h with h1 | ⟨k,h1,h2⟩
  · simp at h1
  · refine ⟨k,h1,h2.imp id fun h3 => ?_⟩
    have hk:=haf k h1
    rw [ancM_stable af (show k < n by omega),← ancM_stable af hk]
    exact h3
def InL (listed : Array Bool) (i : Nat) : Prop:=listed.getD i false = true
theorem anc_in {af : Nat→List Nat} {n : Nat} (haf : ∀ j,j < n→∀ k ∈ af j,k < j) {A : Nat→Prop} (hcl : ∀ j,A j→∀ k ∈ af j,A k) : ∀ (j : Nat),j < n→(∀ k ∈ af j,A k)→∀ i,((ancM af n).getD j 0).testBit i = true→A i:=by
  intro j
  induction j using Nat.strongRecOn with
  | _ j ih =>
    intro hj hall i hb
    obtain ⟨k,hk,h⟩:=ancM_spec af hj (haf j hj) hb
    rcases h with rfl | h
    · exact hall _ hk
    · have hkj:=haf j hj k hk
      exact ih k hkj (by omega) (hcl k (hall k hk)) i h
def pre' (f : List MG) (y : Nat→V) (st : St) : Nat→St
  | 0 => st
  | j + 1 => match dstK f j with
    | some d => (pre' f y st j).set d (y j)
    | none => pre' f y st j
theorem stepsF_vals {call : Oracle} : ∀ (f : List MG) (st st1 : St),stepsF call f st = some st1→∃ y : Nat→V,pre' f y st f.length = st1∧∀ (j : Nat) (m : MG),f[j]? = some m→∃ d,m.op.dst = some d∧free (pre' f y st j) d = true∧valG call (pre' f y st j) m = some (y j)
  | [],st,st1,h => by simp only [stepsF,Option.some.injEq] at h; exact ⟨fun _ => .dead,h,fun j m hm => by simp at hm⟩
  | o :: os,st,st1,h => by
    simp only [stepsF] at h
    cases hd : o.op.dst with
    | none => simp [hd] at h
    | some d =>
      simp only [hd] at h
      split at h
      · rename_i hf
        cases hv : valG call st o with
        | none => simp [hv] at h
        | some y0 =>
          simp only [hv] at h
          obtain ⟨y,h1,h2⟩:=stepsF_vals os (st.set d y0) st1 h
          let y' : Nat→V:=fun j => match j with | 0 => y0 | j + 1 => y j
          have e : ∀ j,pre' (o :: os) y' st (j + 1) = pre' os y (st.set d y0) j:=by
            intro j
            induction j with
            | zero => simp [pre',dstK,hd,y']
            | succ j ih =>
              rw [pre',ih,pre']
              have : dstK (o :: os) (j + 1) = dstK os j:=by simp [dstK]
              rw [this]
          refine ⟨y',by rw [List.length_cons,e]; exact h1,?_⟩
          intro j m hm
          cases j with
          | zero =>
            simp only [List.getElem?_cons_zero,Option.some.injEq] at hm
            subst hm
            exact ⟨d,hd,hf,hv⟩
          | succ j =>
            simp only [List.getElem?_cons_succ] at hm
            rw [e]
            exact h2 j m hm
      · cases h
mutual
theorem within_mono {I J : Nat→Prop} (h : ∀ i,I i→J i) : ∀ (x : V),x.within I→x.within J
  | .ref r _,hx => h r hx
  | .sub r _ _ _ _,hx => h r hx
  | .ad r _ _,hx => h r hx
  | .vn _ vs,hx => withinL_mono h vs hx
  | .sc _,_ => trivial
  | .own _,_ => trivial
  | .ro _,_ => trivial
  | .rad _ _,_ => trivial
  | .dead,_ => trivial
theorem withinL_mono {I J : Nat→Prop} (h : ∀ i,I i→J i) : ∀ (xs : List V),V.withinL I xs→V.withinL J xs
  | [],_ => trivial
  | x :: xs,hx => ⟨within_mono h x hx.1,withinL_mono h xs hx.2⟩
end
section
variable {f : List MG} {y : Nat→V} {st : St}
theorem pre_out {i : Nat} : ∀ (j : Nat),(∀ k,k < j→dstK f k ≠ some i)→(pre' f y st j)[i]? = st[i]?
  | 0,_ => rfl
  | j + 1,h => by
    have ih:=pre_out j fun k hk => h k (by omega)
    rw [pre']
    cases hd : dstK f j with
    | none => exact ih
    | some d =>
      have : d ≠ i:=fun e => h j (by omega) (by rw [hd,e])
      simp only
      rw [List.getElem?_set_ne this]
      exact ih
theorem pre_in (hdis : ∀ j k,j < f.length→k < f.length→k ≠ j→dstK f k ≠ dstK f j) {k d : Nat} (hd : dstK f k = some d) : ∀ (j : Nat),k < j→j ≤ f.length→(pre' f y st j)[d]? = (st[d]?).map fun _ => y k
  | 0,h,_ => by omega
  | j + 1,h,hl => by
    rw [pre']
    by_cases he : k = j
    · subst he
      rw [hd]
      simp only
      rw [List.getElem?_set_self']
      have:=pre_out (f:=f) (y:=y) (st:=st) (i:=d) k fun k' hk' => by rw [← hd]; exact hdis k k' (by omega) (by omega) (by omega)
      rw [this]
      rfl
    · have ih:=pre_in hdis hd j (by omega) (by omega)
      cases hdj : dstK f j with
      | none => exact ih
      | some d' =>
        have : d' ≠ d:=fun e => hdis k j (by omega) (by omega) (by omega) (by rw [hdj,hd,e])
        simp only
        rw [List.getElem?_set_ne this]
        exact ih
def Src' (f : List MG) (A : Nat→Prop) (j r : Nat) : Prop:=(∀ m,m < f.length→dstK f m ≠ some r) ∨ ∃ m,m < j∧A m∧dstK f m = some r
variable {call : Oracle} {af : Nat→List Nat}
  (hdis : ∀ j k,j < f.length→k < f.length→k ≠ j→dstK f k ≠ dstK f j)
  (hrd : ∀ (j : Nat) (m : MG),f[j]? = some m→∀ i ∈ m.rds,∀ k,k < f.length→dstK f k = some i→k < j∧k ∈ af j)
  (h0 : ∀ (i : Nat) (x : V),st[i]? = some x→x.within fun r => ∀ m,m < f.length→dstK f m ≠ some r)
  (hval : ∀ (j : Nat) (m : MG),f[j]? = some m→∃ d,m.op.dst = some d∧free (pre' f y st j) d = true∧valG call (pre' f y st j) m = some (y j))
include hdis hrd h0 hval
omit hdis h0 hval in
theorem rds_src {A : Nat→Prop} {j : Nat} {m : MG} (hm : f[j]? = some m) (haf : ∀ k ∈ af j,A k) : ∀ i ∈ m.rds,Src' f A j i:=by
  intro i hi
  by_cases h : ∃ k,k < f.length∧dstK f k = some i
  · obtain ⟨k,h1,h2⟩:=h
    obtain ⟨h3,h4⟩:=hrd j m hm i hi k h1 h2
    exact .inr ⟨k,h3,haf k h4,h2⟩
  · exact .inl fun m hm he => h ⟨m,hm,he⟩
theorem like_pre {A : Nat→Prop} {j : Nat} (hj : j ≤ f.length) (hy : ∀ k,k < j→A k→(y k).within (Src' f A k)) {st' : St} (hs : ∀ i,Src' f A j i→st'[i]? = (pre' f y st j)[i]?) : Like (Src' f A j) (pre' f y st j) st':=by
  refine ⟨hs,?_⟩
  intro i x hi hx
  rcases hi with ho | ⟨m,h1,h2,h3⟩
  · rw [pre_out j fun k hk => ho k (by omega)] at hx
    exact within_mono (fun r hr => .inl hr) x (h0 i x hx)
  · rw [pre_in hdis h3 j h1 hj] at hx
    simp only [Option.map_eq_some_iff] at hx
    obtain ⟨_,_,rfl⟩:=hx
    exact within_mono (fun r hr => hr.imp id fun ⟨m',q1,q2,q3⟩ => ⟨m',by omega,q2,q3⟩) _ (hy m h1 h2)
theorem y_within {A : Nat→Prop} (hcl : ∀ j,A j→∀ k ∈ af j,A k) : ∀ (j : Nat),j < f.length→A j→(y j).within (Src' f A j):=by
  intro j
  induction j using Nat.strongRecOn with
  | _ j ih =>
    intro hj ha
    have hm:=List.getElem?_eq_getElem hj
    obtain ⟨d,h1,h2,h3⟩:=hval j _ hm
    have L:=like_pre hdis hrd h0 hval (A:=A) (j:=j) (by omega) (fun k hk hak => ih k hk (by omega) hak) (st':=pre' f y st j) (fun _ _ => rfl)
    exact (valG_like L call _ (rds_src hrd hm (hcl j ha))).2 _ h3
structure Des (f : List MG) (y : Nat→V) (st : St) (A : Nat→Prop) (s : St) : Prop where
  out : ∀ i,(∀ m,m < f.length→A m→dstK f m ≠ some i)→s[i]? = st[i]?
  done : ∀ m d,m < f.length→A m→dstK f m = some d→s[d]? = (st[d]?).map fun _ => y m
theorem val_des {A : Nat→Prop} (hcl : ∀ j,A j→∀ k ∈ af j,A k) {s : St} (hd : Des f y st A s) {j : Nat} {m : MG} (hm : f[j]? = some m) (hA : ¬ A j) (haf : ∀ k ∈ af j,A k) :
    ∃ d,m.op.dst = some d∧free s d = true∧valG call s m = some (y j):=by
  have hj:=lt_of_get hm
  obtain ⟨d,h1,h2,h3⟩:=hval j m hm
  have hdj : dstK f j = some d:=by simp [dstK,hm,h1]
  refine ⟨d,h1,?_,?_⟩
  · have e1 : s[d]? = st[d]?:=hd.out d fun k hk hak he => by
      by_cases hkj : k = j
      · subst hkj; exact hA hak
      · exact hdis j k hj hk hkj (by rw [he,hdj])
    have e2 : (pre' f y st j)[d]? = st[d]?:=pre_out j fun k hk he => hdis j k hj (by omega) (by omega) (by rw [he,hdj])
    unfold free at h2 ⊢
    rw [e1,← e2]
    exact h2
  · have L:=like_pre hdis hrd h0 hval (A:=A) (j:=j) (by omega) (fun k hk hak => y_within hdis hrd h0 hval hcl k (by omega) hak) (st':=s) (by
      intro i hi
      rcases hi with ho | ⟨k,q1,q2,q3⟩
      · rw [pre_out j fun k hk => ho k (by omega)]
        exact hd.out i fun k hk _ => ho k hk
      · rw [pre_in hdis q3 j q1 (by omega)]
        exact hd.done k i (by omega) q2 q3)
    rw [(valG_like L call m (rds_src hrd hm haf)).1]
    exact h3
omit hrd h0 hval in
theorem des_all {A : Nat→Prop} {s : St} (hd : Des f y st A s) (hall : ∀ k,k < f.length→A k) : s = pre' f y st f.length:=by
  apply List.ext_getElem?
  intro i
  by_cases h : ∃ k,k < f.length∧dstK f k = some i
  · obtain ⟨k,h1,h2⟩:=h
    rw [hd.done k i h1 (hall k h1) h2,pre_in hdis h2 f.length h1 (Nat.le_refl _)]
  · have hn : ∀ m,m < f.length→dstK f m ≠ some i:=fun m hm he => h ⟨m,hm,he⟩
    rw [hd.out i fun m hm _ => hn m hm,pre_out f.length hn]
omit hrd h0 hval in
theorem des_set {A A' : Nat→Prop} {s : St} (hd : Des f y st A s) {j d : Nat} (hj : j < f.length) (hdj : dstK f j = some d) (hA : ¬ A j) (hA' : ∀ k,A' k ↔ A k ∨ k = j) : Des f y st A' (s.set d (y j)):=by
  refine ⟨fun i hi => ?_,fun m d' hm hm' hd' => ?_⟩
  · have hne : d ≠ i:=fun e => hi j hj ((hA' j).2 (.inr rfl)) (by rw [hdj,e])
    rw [List.getElem?_set_ne hne]
    exact hd.out i fun m hm hma => hi m hm ((hA' m).2 (.inl hma))
  · by_cases he : m = j
    · subst he
      rw [hdj] at hd'
      cases hd'
      rw [List.getElem?_set_self']
      have : s[d]? = st[d]?:=hd.out d fun k hk hak he => by
        by_cases hkj : k = m
        · subst hkj; exact hA hak
        · exact hdis m k hj hk hkj (by rw [he,hdj])
      rw [this]
      rfl
    · have hne : d ≠ d':=fun e => hdis j m hj hm he (by rw [hd',hdj,e])
      rw [List.getElem?_set_ne hne]
      exact hd.done m d' hm (((hA' m).1 hm').resolve_right he) hd'
end
mutual
theorem within_rel {E : Env} {st : St} {ts : List C} {tm : Array Value} {w : World} (h : Rel E st ts tm w) : ∀ (x : V) (u : Value),VRel E ts x u→x.within fun r => isOwn (st.getD r .dead) = true
  | .ref r p,u,hv => by
    obtain ⟨t0,k,kids,h1,h2,_⟩:=hv
    exact root_own h h1 h2
  | .sub r p _ _ _,u,hv => by
    obtain ⟨t0,d,n',kids,c,a,ad,h1,h2,_⟩:=hv
    exact root_own h h1 h2
  | .ad r p _,u,hv => by
    obtain ⟨t0,k,kids,a,h1,h2,_⟩:=hv
    exact root_own h h1 h2
  | .vn k vs,u,hv => by
    obtain ⟨us,h1,_⟩:=hv
    exact withinL_rel h vs us h1
  | .sc _,_,_ => trivial
  | .own _,_,_ => trivial
  | .ro _,_,_ => trivial
  | .rad _ _,_,_ => trivial
  | .dead,_,_ => trivial
theorem withinL_rel {E : Env} {st : St} {ts : List C} {tm : Array Value} {w : World} (h : Rel E st ts tm w) : ∀ (xs : List V) (us : List Value),VRelL E ts xs us→V.withinL (fun r => isOwn (st.getD r .dead) = true) xs
  | [],_,_ => trivial
  | x :: xs,us,hv => by
    obtain ⟨u,us',_,h1,h2⟩:=hv
    exact ⟨within_rel h x u h1,withinL_rel h xs us' h2⟩
theorem root_own {E : Env} {st : St} {ts : List C} {tm : Array Value} {w : World} (h : Rel E st ts tm w) {r : Nat} {p : List Nat} {t0 : C} {k : K Dec} {kids : List C} (h1 : ts[r]? = some t0) (h2 : getAt t0 p = some (.nd k kids)) :
    isOwn (st.getD r .dead) = true:=by
  have hlt : r < st.length:=by have:=lt_of_get h1; rw [h.lenT] at this; exact this
  have hx:=List.getElem?_eq_getElem hlt
  have hs:=h.slot' hx
  rw [List.getD_eq_getElem?_getD,hx,Option.getD_some]
  by_cases ho : ∃ d,st[r] = .own d
  · obtain ⟨d,hd⟩:=ho; rw [hd]; rfl
  · obtain ⟨_,z,hz⟩:=hs.nonown fun d hd => ho ⟨d,hd⟩
    rw [h1] at hz
    cases hz
    cases p <;> simp [getAt] at h2
end
theorem countP_lt {p p' : Nat→Bool} {j : Nat} : ∀ {l : List Nat},j ∈ l→p j = true→p' j = false→(∀ i,p' i = true→p i = true)→l.countP p' < l.countP p
  | [],h,_,_,_ => by simp at h
  | x :: xs,h,hp,hp',himp => by
    rw [List.countP_cons,List.countP_cons]
    have hle : xs.countP p' ≤ xs.countP p:=List.countP_mono_left fun i _ hi => himp i hi
    rcases List.mem_cons.1 h with rfl | h
    · rw [hp,hp']; simp; omega
    · have:=countP_lt h hp hp' himp
      by_cases hx : p' x = true
      · rw [hx,himp x hx]; omega
      · simp only [hx,Bool.false_eq_true,if_false]
        split <;> omega
section
variable {P : Program} {E : Env} {call : Oracle} (hc : CallsOK P E.g call) {ops : Array Oper} {ms : List MG}
theorem msX_get {s : Nat} {ms : List MG} {j : Nat} {m : MG} (h : (msX s ms)[j]? = some m) : ∃ m0,ms[j]? = some m0∧(m = m0 ∨ m = asMv m0):=by
  unfold msX at h
  have hl : ((ms.take s).map asMv).length = min s ms.length:=by simp
  by_cases hj : j < min s ms.length
  · rw [List.getElem?_append_left (by rw [hl]; exact hj),List.getElem?_map,List.getElem?_take,if_pos (by omega)] at h
    cases hm : ms[j]? with
    | none => rw [hm] at h; cases h
    | some m0 =>
      rw [hm] at h
      simp only [Option.map_some,Option.some.injEq] at h
      exact ⟨m0,rfl,.inr h.symm⟩
  · rw [List.getElem?_append_right (by rw [hl]; omega),hl,List.getElem?_drop] at h
    by_cases hs : s ≤ ms.length
    · rw [show s + (j - min s ms.length) = j by omega] at h
      exact ⟨m,h,.inl rfl⟩
    · rw [List.getElem?_eq_none (by omega)] at h
      cases h
theorem compOps_get : ∀ (l : List Oper) (ms : List MG),compOps P ops l = some ms→ms.length = l.length∧∀ (j : Nat) (m : MG),ms[j]? = some m→∃ o : Oper,l[j]? = some o∧compG P ops o = some m
  | [],ms,h => by simp only [compOps,Option.some.injEq] at h; subst h; exact ⟨rfl,fun j m hm => by simp at hm⟩
  | o :: l,ms,h => by
    simp only [compOps] at h
    cases h1 : compG P ops o with
    | none => simp [h1] at h
    | some m =>
      simp only [h1] at h
      cases h2 : compOps P ops l with
      | none => simp [h2] at h
      | some ms' =>
        simp only [h2,Option.some.injEq] at h
        subst h
        obtain ⟨e1,e2⟩:=compOps_get l ms' h2
        refine ⟨by simp [e1],fun j m' hm => ?_⟩
        cases j with
        | zero => simp at hm; subst hm; exact ⟨o,rfl,h1⟩
        | succ j => simp at hm; simpa using e2 j m' hm
variable {Q : Exit→Act→World→Prop} {a0 : Act} {F : Nat→Prop} (hNF : ∀ (j : Nat) (m : MG),ms[j]? = some m→∀ d,m.op.dst = some d→¬ F d)
theorem ready_iff {listed : Array Bool} (hsz : listed.size = ops.size) {j : Nat} : j ∈ Region.ready .any ops listed ↔ j < ops.size∧¬ InL listed j∧∀ k ∈ afF ops j,InL listed k:=by
  rw [mem_ready]
  constructor
  · rintro ⟨h1,o,ho,h2⟩
    have hj : j < ops.size:=(Array.getElem?_eq_some_iff.1 ho).1
    refine ⟨hj,fun h => ?_,fun k hk => ?_⟩
    · unfold InL at h
      have hl : j < listed.size:=by omega
      simp [hl] at h h1
      rw [h] at h1; cases h1
    · simp only [afF,ho,aftOf,List.mem_map,List.mem_filter] at hk
      obtain ⟨e,⟨he1,he2⟩,rfl⟩:=hk
      exact h2 e (by simpa using he1) he2
  · rintro ⟨hj,h1,h2⟩
    have ho:=Array.getElem?_eq_getElem hj
    refine ⟨?_,_,ho,fun e he hb => h2 e.on ?_⟩
    · unfold InL at h1
      have hl : j < listed.size:=by omega
      simp [hl] at h1 ⊢
      exact h1
    · simp only [afF,ho,aftOf,List.mem_map,List.mem_filter]
      exact ⟨e,⟨by simpa using he,hb⟩,rfl⟩
theorem sel_get : ∀ (sg : List Nat) (l : List Oper),sel ops sg = some l→l.length = sg.length∧∀ (p : Nat) (i : Nat),sg[p]? = some i→∃ o : Oper,ops[i]? = some o∧l[p]? = some o
  | [],l,h => by simp only [sel,Option.some.injEq] at h; subst h; exact ⟨rfl,fun p i hp => by simp at hp⟩
  | k :: is,l,h => by
    simp only [sel] at h
    cases h1 : ops[k]? with
    | none => simp [h1] at h
    | some o =>
      simp only [h1] at h
      cases h2 : sel ops is with
      | none => simp [h2] at h
      | some os =>
        simp only [h2,Option.some.injEq] at h
        subst h
        obtain ⟨e1,e2⟩:=sel_get is os h2
        refine ⟨by simp [e1],fun p i hp => ?_⟩
        cases p with
        | zero => simp at hp; subst hp; exact ⟨o,h1,rfl⟩
        | succ p => simp at hp; simpa using e2 p i hp
structure Ord (ops : Array Oper) (sg : List Nat) : Prop where
  len : sg.length = ops.size
  lt : ∀ p,p < ops.size→sg.getD p 0 < ops.size
  inj : ∀ p q,p < ops.size→q < ops.size→sg.getD p 0 = sg.getD q 0→p = q
  sur : ∀ i,i < ops.size→∃ p,p < ops.size∧sg.getD p 0 = i
  aft : ∀ i,i < ops.size→∀ k ∈ afF ops i,k < ops.size
def InP (ops : Array Oper) (sg : List Nat) (listed : Array Bool) (p : Nat) : Prop:=p < ops.size∧InL listed (sg.getD p 0)
theorem mem_afP {sg : List Nat} (h : sg.length = ops.size) {p q : Nat} : q ∈ afP (afF ops) sg p ↔ q < ops.size∧sg.getD q 0 ∈ afF ops (sg.getD p 0):=by
  simp [afP,h]
theorem ready_pos {sg : List Nat} (O : Ord ops sg) {listed : Array Bool} (hsz : listed.size = ops.size) {j : Nat} :
    j ∈ Region.ready .any ops listed ↔ ∃ p,p < ops.size∧sg.getD p 0 = j∧¬ InP ops sg listed p∧∀ q ∈ afP (afF ops) sg p,InP ops sg listed q:=by
  rw [ready_iff hsz]
  constructor
  · rintro ⟨h1,h2,h3⟩
    obtain ⟨p,hp,rfl⟩:=O.sur j h1
    refine ⟨p,hp,rfl,fun h => h2 h.2,fun q hq => ?_⟩
    obtain ⟨q1,q2⟩:=(mem_afP O.len).1 hq
    exact ⟨q1,h3 _ q2⟩
  · rintro ⟨p,hp,rfl,h2,h3⟩
    refine ⟨O.lt p hp,fun h => h2 ⟨hp,h⟩,fun k hk => ?_⟩
    obtain ⟨q,hq,rfl⟩:=O.sur k (O.aft _ (O.lt p hp) k hk)
    exact (h3 q ((mem_afP O.len).2 ⟨hq,hk⟩)).2
theorem inL_set {listed : Array Bool} {j : Nat} (hj : j < listed.size) (k : Nat) : InL (listed.setIfInBounds j true) k ↔ InL listed k ∨ k = j:=by
  unfold InL
  by_cases h : j = k
  · subst h; simp [hj]
  · rw [getD_set_ne false h]
    constructor
    · exact .inl
    · rintro (h1 | h1)
      · exact h1
      · exact absurd h1.symm h
theorem inP_set {sg : List Nat} (O : Ord ops sg) {listed : Array Bool} (hsz : listed.size = ops.size) {p : Nat} (hp : p < ops.size) (q : Nat) :
    InP ops sg (listed.setIfInBounds (sg.getD p 0) true) q ↔ InP ops sg listed q ∨ q = p:=by
  unfold InP
  have hl:=O.lt p hp
  constructor
  · rintro ⟨h1,h2⟩
    rcases (inL_set (by omega) _).1 h2 with h | h
    · exact .inl ⟨h1,h⟩
    · exact .inr (O.inj q p h1 hp h)
  · rintro (⟨h1,h2⟩ | rfl)
    · exact ⟨h1,(inL_set (by omega) _).2 (.inl h2)⟩
    · exact ⟨hp,(inL_set (by omega) _).2 (.inr rfl)⟩
include hc hNF in
theorem tail_ok {sg : List Nat} (O : Ord ops sg) (hlen : ms.length = ops.size) (hget : ∀ (j : Nat) (m : MG),ms[j]? = some m→∃ o : Oper,ops[sg.getD j 0]? = some o∧cG P ops o m) (haf : ∀ j,j < ops.size→∀ k ∈ afP (afF ops) sg j,k < j) {s : Nat} {mu : Nat} (hmu : mu ≤ s) (htl : ∀ j,j < ops.size→s ≤ j→∀ i,mu ≤ i→i < j→((ancM (afP (afF ops) sg) ops.size).getD j 0).testBit i = true) {st2 : St}
    (hq : ∀ a' w' ts',Kp F a0 a'→Rel E st2 ts' a'.tmps w'→Q .normal a' w') : ∀ (r t fuel : Nat) (listed : Array Bool) {st : St} {ts : List C} {a : Act} {w : World},t + r = ops.size→s ≤ t→r ≤ fuel→listed.size = ops.size→(∀ i,i < ops.size→(InP ops sg listed i ↔ i < t)) →
      Kp F a0 a→Rel E st ts a.tmps w→stepsG call (ms.drop t) st = some st2→wpAny P .any ops Q fuel listed a w:=by
  intro r
  induction r with
  | zero =>
    intro t fuel listed st ts a w htr hst hf hsz hin hdef hr hs
    have hd : ms.drop t = []:=List.drop_eq_nil_of_le (by rw [hlen]; omega)
    rw [hd] at hs
    simp only [stepsG,Option.some.injEq] at hs
    subst hs
    refine wpAny_done ?_ (hq a w ts hdef hr) fuel
    apply List.eq_nil_iff_forall_not_mem.2
    intro j hj
    obtain ⟨p,h1,_,h2,_⟩:=(ready_pos O hsz).1 hj
    exact h2 ((hin p h1).2 (by omega))
  | succ r ih =>
    intro t fuel listed st ts a w htr hst hf hsz hin hdef hr hs
    obtain ⟨fuel,rfl⟩ : ∃ k,fuel = k + 1:=⟨fuel - 1,by omega⟩
    have htlt : t < ops.size:=by omega
    have htm : t < ms.length:=by rw [hlen]; exact htlt
    rw [List.drop_eq_getElem_cons htm] at hs
    simp only [stepsG] at hs
    obtain ⟨o,ho',hcg⟩:=hget t _ (List.getElem?_eq_getElem htm)
    cases hs1 : Mx.stepG call st ms[t] with
    | none => simp [hs1] at hs
    | some st1 =>
      simp only [hs1] at hs
      have hmem : sg.getD t 0 ∈ Region.ready .any ops listed:=(ready_pos O hsz).2 ⟨t,htlt,rfl,fun h => by have:=(hin t htlt).1 h; omega,fun k hk => (hin k (by have:=haf t htlt k hk; omega)).2 (haf t htlt k hk)⟩
      refine ⟨fun h => (by rw [h] at hmem; cases hmem),fun j' hj => ?_⟩
      obtain ⟨j,h1,rfl,h2,h3⟩:=(ready_pos O hsz).1 hj
      have hjt : j = t:=by
        by_cases he : j = t
        · exact he
        · have hgt : t < j:=by
            rcases Nat.lt_or_ge j t with h4 | h4
            · exact absurd ((hin j h1).2 h4) h2
            · omega
          have:=anc_in haf (A:=InP ops sg listed) (fun i hi k hk => (hin k (by have:=haf i hi.1 k hk; have:=hi.1; omega)).2 (by have:=(hin i hi.1).1 hi; have:=haf i hi.1 k hk; omega)) j h1 h3 t (htl j h1 (by omega) t (by omega) hgt)
          have:=(hin t htlt).1 this
          omega
      subst hjt
      refine wpOp_ok hr hc ho' hcg hs1 (hNF _ _ (List.getElem?_eq_getElem htm)) fun a' w' ts' hd' hr' => ?_
      refine ih (j + 1) fuel _ (by omega) (by omega) (by omega) (by simpa using hsz) ?_ (hdef.trans hd') hr' hs
      intro i hi
      rw [inP_set O hsz h1]
      have:=hin i hi
      constructor
      · rintro (h | h)
        · have:=this.1 h; omega
        · omega
      · intro h
        by_cases he : i = j
        · exact .inr he
        · exact .inl (this.2 (by omega))
include hc hNF in
theorem free_ok {sg : List Nat} (O : Ord ops sg) (hlen : ms.length = ops.size) (hget : ∀ (j : Nat) (m : MG),ms[j]? = some m→∃ o : Oper,ops[sg.getD j 0]? = some o∧cG P ops o m) (haf : ∀ j,j < ops.size→∀ k ∈ afP (afF ops) sg j,k < j) {s : Nat} (hsn : s ≤ ops.size)
    {mu : Nat} (hmu : mu ≤ s) (htl : ∀ j,j < ops.size→s ≤ j→∀ i,mu ≤ i→i < j→((ancM (afP (afF ops) sg) ops.size).getD j 0).testBit i = true)
    (hdis : ∀ j k,j < (ms.take s).length→k < (ms.take s).length→k ≠ j→dstK (ms.take s) k ≠ dstK (ms.take s) j)
    (hrd : ∀ (j : Nat) (m : MG),(ms.take s)[j]? = some m→∀ i ∈ m.rds,∀ k,k < (ms.take s).length→dstK (ms.take s) k = some i→k < j∧k ∈ afP (afF ops) sg j)
    {y : Nat→V} {st0 : St} (h0 : ∀ (i : Nat) (x : V),st0[i]? = some x→x.within fun r => ∀ m,m < (ms.take s).length→dstK (ms.take s) m ≠ some r)
    (hval : ∀ (j : Nat) (m : MG),(ms.take s)[j]? = some m→∃ d,m.op.dst = some d∧free (pre' (ms.take s) y st0 j) d = true∧valG call (pre' (ms.take s) y st0 j) m = some (y j))
    {st2 : St} (hs : stepsG call (ms.drop s) (pre' (ms.take s) y st0 (ms.take s).length) = some st2)
    (hq : ∀ a' w' ts',Kp F a0 a'→Rel E st2 ts' a'.tmps w'→Q .normal a' w') : ∀ (c fuel : Nat) (listed : Array Bool) {st : St} {ts : List C} {a : Act} {w : World},
      (List.range s).countP (fun i => !listed.getD (sg.getD i 0) false) = c→c + (ops.size - s) ≤ fuel→listed.size = ops.size→(∀ i,InP ops sg listed i→i < s)→(∀ j,InP ops sg listed j→∀ k ∈ afP (afF ops) sg j,InP ops sg listed k)→(∀ i,i < mu→InP ops sg listed i) →
      Des (ms.take s) y st0 (InP ops sg listed) st→Kp F a0 a→Rel E st ts a.tmps w→wpAny P .any ops Q fuel listed a w:=by
  have hfl : (ms.take s).length = s:=by rw [List.length_take,hlen]; omega
  intro c
  induction c using Nat.strongRecOn with
  | _ c ih =>
    intro fuel listed st ts a w hcnt hf hsz hlt hcl hmv hdes hdef hr
    by_cases hall : ∀ i,i < s→InP ops sg listed i
    · have he:=des_all hdis hdes (fun k hk => hall k (by omega))
      subst he
      exact tail_ok hc hNF O hlen hget haf hmu htl hq (ops.size - s) s fuel listed (by omega) (Nat.le_refl _) (by omega) hsz (fun i _ => ⟨hlt i,hall i⟩) hdef hr hs
    · -- some free operation is left
      have hex : ∃ j,j < s∧¬ InP ops sg listed j∧∀ k,k < j→InP ops sg listed k:=by
        have : ∀ n,n ≤ s→(∀ i,i < n→InP ops sg listed i) ∨ ∃ j,j < s∧¬ InP ops sg listed j∧∀ k,k < j→InP ops sg listed k:=by
          intro n
          induction n with
          | zero => intro _; exact .inl fun i hi => by omega
          | succ n ih =>
            intro hn
            rcases ih (by omega) with h | h
            · by_cases hn' : InP ops sg listed n
              · exact .inl fun i hi => by
                  by_cases he : i = n
                  · subst he; exact hn'
                  · exact h i (by omega)
              · exact .inr ⟨n,by omega,hn',h⟩
            · exact .inr h
        exact (this s (Nat.le_refl _)).resolve_left hall
      obtain ⟨j0,hj0,hj1,hj2⟩:=hex
      have hpos : 0 < c:=by
        rw [← hcnt]
        apply List.countP_pos_iff.2
        refine ⟨j0,List.mem_range.2 hj0,?_⟩
        have : ¬ InL listed (sg.getD j0 0):=fun h => hj1 ⟨by omega,h⟩
        unfold InL at this
        simpa using this
      obtain ⟨fuel,rfl⟩ : ∃ k,fuel = k + 1:=⟨fuel - 1,by omega⟩
      have hmem : sg.getD j0 0 ∈ Region.ready .any ops listed:=(ready_pos O hsz).2 ⟨j0,by omega,rfl,hj1,fun k hk => hj2 k (haf j0 (by omega) k hk)⟩
      refine ⟨fun h => (by rw [h] at hmem; cases hmem),fun j' hj => ?_⟩
      obtain ⟨j,h1,rfl,h2,h3⟩:=(ready_pos O hsz).1 hj
      have hjs : j < s:=by
        rcases Nat.lt_or_ge j s with h4 | h4
        · exact h4
        · exact absurd (anc_in haf hcl j h1 h3 j0 (htl j h1 h4 j0 (Nat.le_of_not_lt fun h5 => hj1 (hmv j0 h5)) (by omega))) hj1
      have hjm : j < ms.length:=by rw [hlen]; exact h1
      have hm : (ms.take s)[j]? = some ms[j]:=by rw [List.getElem?_take,if_pos hjs,List.getElem?_eq_getElem hjm]
      obtain ⟨o,ho',hcg⟩:=hget j _ (List.getElem?_eq_getElem hjm)
      obtain ⟨d,hd1,hd2,hd3⟩:=val_des hdis hrd h0 hval hcl hdes hm h2 h3
      have hstep:=valG_step hd3 hd1 hd2
      have hdj : dstK (ms.take s) j = some d:=by simp only [dstK,hm,Option.bind_some,hd1]
      refine wpOp_ok hr hc ho' hcg hstep (hNF _ _ (List.getElem?_eq_getElem hjm)) fun a' w' ts' hd' hr' => ?_
      have hin:=inP_set O hsz h1
      have h2' : ¬ InL listed (sg.getD j 0):=fun h => h2 ⟨h1,h⟩
      have hj3 : InL (listed.setIfInBounds (sg.getD j 0) true) (sg.getD j 0):=((hin j).2 (.inr rfl)).2
      refine ih _ ?_ fuel (listed.setIfInBounds (sg.getD j 0) true) rfl ?_ (by simpa using hsz) ?_ ?_ (fun i hi => (hin i).2 (.inl (hmv i hi))) (des_set hdis hdes (by omega) hdj h2 hin) (hdef.trans hd') hr'
      · rw [← hcnt]
        refine countP_lt (j:=j) (List.mem_range.2 hjs) ?_ ?_ ?_
        · unfold InL at h2'; simpa using h2'
        · unfold InL at hj3
          simp only [hj3,Bool.not_true]
        · intro i hi
          simp only [Bool.not_eq_true'] at hi ⊢
          cases hq' : listed.getD (sg.getD i 0) false with
          | false => rfl
          | true =>
            have:=(inL_set (listed:=listed) (j:=sg.getD j 0) (by have:=O.lt j h1; omega) (sg.getD i 0)).2 (.inl hq')
            unfold InL at this
            rw [this] at hi
            cases hi
      · have : (List.range s).countP (fun i => !(listed.setIfInBounds (sg.getD j 0) true).getD (sg.getD i 0) false) < c:=by
          rw [← hcnt]
          refine countP_lt (j:=j) (List.mem_range.2 hjs) ?_ ?_ ?_
          · unfold InL at h2'; simpa using h2'
          · unfold InL at hj3
            simp only [hj3,Bool.not_true]
          · intro i hi
            simp only [Bool.not_eq_true'] at hi ⊢
            cases hq' : listed.getD (sg.getD i 0) false with
            | false => rfl
            | true =>
              have:=(inL_set (listed:=listed) (j:=sg.getD j 0) (by have:=O.lt j h1; omega) (sg.getD i 0)).2 (.inl hq')
              unfold InL at this
              rw [this] at hi
              cases hi
        omega
      · intro i hi
        rcases (hin i).1 hi with h | h
        · exact hlt i h
        · omega
      · intro i hi k hk
        rcases (hin i).1 hi with h | h
        · exact (hin k).2 (.inl (hcl i h k hk))
        · subst h; exact (hin k).2 (.inl (h3 k hk))
omit hc in
theorem first_ok {i : Nat} {o : Oper} (ho : ops[i]? = some o) (h : (isMv ops i || isSlc ops i) = true) {m : MG} (hcg : cG P ops o m) {st : St} {ts : List C} {a : Act} {w : World} (hr : Rel E st ts a.tmps w) {y : V} (hv : valG call st m = some y) :
    o.guard = none∧∃ d v,m.op.dst = some d∧o.dst = some d∧(∀ w',(execOp a.eval o).run P w' = .ok (.value v) w')∧VRel E ts y v:=by
  obtain ⟨m0,hcg,hm0⟩:=hcg
  rw [Bool.or_eq_true] at h
  rcases h with h | h
  · unfold isMv at h
    rw [ho] at h
    simp only [Bool.and_eq_true,Option.isNone_iff_eq_none] at h
    obtain ⟨⟨j1,j2⟩,_⟩:=h
    obtain ⟨x,hx⟩ : ∃ x,o.op = .move x:=by
      cases hop : o.op <;> simp [hop] at j1
      exact ⟨_,rfl⟩
    refine ⟨j2,?_⟩
    unfold compG compOp at hcg
    rw [hx,j2] at hcg
    simp only at hcg
    generalize hod : o.dst = od at hcg
    cases od with
    | none => simp [hod] at hcg
    | some d' =>
      cases hom : opd (esT P o.type) x with
      | none => simp [hod,hom] at hcg
      | some m1 =>
        simp only [hod,hom,Option.some.injEq] at hcg
        rw [show zfix ops (MOp.mv d' m1) = MOp.mv d' m1 from rfl] at hcg
        have hcg : m = (⟨none,.mv d' m1⟩ : MG):=by
          rcases hm0 with h | h <;> rw [h,← hcg]
          rfl
        subst hcg
        simp only [valG,wanted,val1] at hv
        split at hv
        · cases hv
        · cases hv
          refine ⟨d',a.eval x,rfl,rfl,fun w' => ?_,ev_ok hr (opd_ok (a:=a) hom)⟩
          unfold execOp
          rw [hx]
          rfl
  · unfold isSlc at h
    rw [ho] at h
    simp only [Bool.and_eq_true,Option.isNone_iff_eq_none] at h
    obtain ⟨⟨j1,j2⟩,_⟩:=h
    obtain ⟨t,x,lo,hi,hx⟩ : ∃ t x lo hi,o.op = .slice t x lo hi none:=by
      split at j1
      · rename_i hop; exact ⟨_,_,_,_,hop⟩
      · cases j1
    refine ⟨j2,?_⟩
    have key : ∀ {d es : Nat} {mx : MO} {ml mh : Option MO} {e : TypeId},o.dst = some d→P.underlying t = some (.slice e)→sizeT P e = some es→opd 0 x = some mx→OptM lo ml→OptM hi mh→m = ⟨none,.sl d es mx ml mh⟩ →
        ∃ v,m.op.dst = some d∧(∀ w',(execOp a.eval o).run P w' = .ok (.value v) w')∧VRel E ts y v:=by
      rintro d es mx ml mh e hd hu hes hxx hml hmh rfl
      simp only [valG,wanted,val1] at hv
      split at hv
      · rename_i l h' hl hh
        obtain ⟨v,h1,h2⟩:=sl_yields hr hx hu hes hxx hml hmh hl hh hv
        exact ⟨v,rfl,h1,h2⟩
      · cases hv
    have keyS : ∀ {d : Nat} {mx : MO} {ml mh : Option MO},P.underlying t = some .string→opd 0 x = some mx→OptM lo ml→OptM hi mh→m = ⟨none,.ssl d mx ml mh⟩ →
        ∃ v,m.op.dst = some d∧(∀ w',(execOp a.eval o).run P w' = .ok (.value v) w')∧VRel E ts y v:=by
      rintro d mx ml mh hu hxx hml hmh rfl
      simp only [valG,wanted,val1] at hv
      split at hv
      · rename_i s hev
        split at hv
        · rename_i l h' hl hh
          obtain ⟨v,h1,h2⟩:=ssl_yields hr hx hu hxx hml hmh hev hl hh hv
          exact ⟨v,rfl,h1,h2⟩
        · cases hv
      · cases hv
    unfold compG compOp at hcg
    rw [hx,j2] at hcg
    simp only at hcg
    generalize hod : o.dst = od at hcg
    by_cases hstr : isStrT P t = true
    · have hu : P.underlying t = some .string:=by
        unfold isStrT at hstr
        split at hstr
        · assumption
        · cases hstr
      cases od with
      | none => simp at hcg
      | some d' =>
        cases hom : opd 0 x with
        | none => simp [hom] at hcg
        | some mx =>
          simp only [hom,hstr,if_true,Option.isSome_none,Bool.false_eq_true,if_false] at hcg
          cases lo with
          | none =>
            cases hi with
            | none =>
              simp only [Option.some.injEq] at hcg
              subst hcg
              obtain ⟨v,k1,k2,k3⟩:=keyS (d:=d') hu hom (ml:=none) (mh:=none) trivial trivial (by rcases hm0 with h | h <;> rw [h] <;> rfl)
              exact ⟨d',v,k1,(by first | exact hod | rfl),k2,k3⟩
            | some h =>
              cases hh : opd 0 h with
              | none => simp [hh] at hcg
              | some h' =>
                simp only [hh,Option.some.injEq] at hcg
                subst hcg
                obtain ⟨v,k1,k2,k3⟩:=keyS (d:=d') hu hom (ml:=none) (mh:=some h') trivial hh (by rcases hm0 with h | h <;> rw [h] <;> rfl)
                exact ⟨d',v,k1,(by first | exact hod | rfl),k2,k3⟩
          | some l =>
            cases hl : opd 0 l with
            | none => cases hi <;> simp [hl] at hcg
            | some l' =>
              cases hi with
              | none =>
                simp only [hl,Option.some.injEq] at hcg
                subst hcg
                obtain ⟨v,k1,k2,k3⟩:=keyS (d:=d') hu hom (ml:=some l') (mh:=none) hl trivial (by rcases hm0 with h | h <;> rw [h] <;> rfl)
                exact ⟨d',v,k1,(by first | exact hod | rfl),k2,k3⟩
              | some h =>
                cases hh : opd 0 h with
                | none => simp [hl,hh] at hcg
                | some h' =>
                  simp only [hl,hh,Option.some.injEq] at hcg
                  subst hcg
                  obtain ⟨v,k1,k2,k3⟩:=keyS (d:=d') hu hom (ml:=some l') (mh:=some h') hl hh (by rcases hm0 with h | h <;> rw [h] <;> rfl)
                  exact ⟨d',v,k1,(by first | exact hod | rfl),k2,k3⟩
    have hstr : isStrT P t = false:=by simpa using hstr
    cases od with
    | none => simp [hod] at hcg
    | some d' =>
      cases hom : opd 0 x with
      | none => simp [hod,hom] at hcg
      | some mx =>
        cases hel : elemT P t with
        | none => simp [hod,hom,hel,hstr] at hcg
        | some q =>
          obtain ⟨e,es⟩:=q
          obtain ⟨hu,hes⟩:=elemT_some hel
          simp only [hod,hom,hel,hstr,isZero,Bool.false_eq_true,false_and,if_false,Option.isSome_none] at hcg
          cases lo with
          | none =>
            cases hi with
            | none =>
              simp only [Option.some.injEq] at hcg
              subst hcg
              obtain ⟨v,k1,k2,k3⟩:=key hod hu hes hom (ml:=none) (mh:=none) trivial trivial (by rcases hm0 with h | h <;> rw [h] <;> rfl)
              exact ⟨d',v,k1,(by first | exact hod | rfl),k2,k3⟩
            | some h =>
              cases hh : opd 0 h with
              | none => simp [hh] at hcg
              | some h' =>
                simp only [hh,Option.some.injEq] at hcg
                subst hcg
                obtain ⟨v,k1,k2,k3⟩:=key hod hu hes hom (ml:=none) (mh:=some h') trivial hh (by rcases hm0 with h | h <;> rw [h] <;> rfl)
                exact ⟨d',v,k1,(by first | exact hod | rfl),k2,k3⟩
          | some l =>
            cases hl : opd 0 l with
            | none => cases hi <;> simp [hl] at hcg
            | some l' =>
              cases hi with
              | none =>
                simp only [hl,Option.some.injEq] at hcg
                subst hcg
                obtain ⟨v,k1,k2,k3⟩:=key hod hu hes hom (ml:=some l') (mh:=none) hl trivial (by rcases hm0 with h | h <;> rw [h] <;> rfl)
                exact ⟨d',v,k1,(by first | exact hod | rfl),k2,k3⟩
              | some h =>
                cases hh : opd 0 h with
                | none => simp [hl,hh] at hcg
                | some h' =>
                  simp only [hl,hh,Option.some.injEq] at hcg
                  subst hcg
                  obtain ⟨v,k1,k2,k3⟩:=key hod hu hes hom (ml:=some l') (mh:=some h') hl hh (by rcases hm0 with h | h <;> rw [h] <;> rfl)
                  exact ⟨d',v,k1,(by first | exact hod | rfl),k2,k3⟩
include hc hNF in
theorem drw_ok0 {sg : List Nat} {os : List Oper} (hsel : sel ops sg = some os) {ms0 : List MG} {s0 : Nat} (hms : compOps P ops os = some ms0) (hX : ms = msX s0 ms0) {mu s : Nat} (hok : okDraw ops sg mu ms = some s) {st st1 st2 : St} {ts : List C} {w : World} (hr : Rel E st ts a0.tmps w) (hs : stepsF call (ms.take s) st = some st1) (ht : stepsG call (ms.drop s) st1 = some st2) {st3 : St} (hfin : ∀ (a' : Act) (w' : World) (ts' : List C),Rel E st2 ts' a'.tmps w'→∃ ts'',Rel E st3 ts'' a'.tmps w') :
    wpAny P .any ops (fun e a' w' => e = .normal∧∃ ts',Kp F a0 a'∧Rel E st3 ts' a'.tmps w') ops.size (Array.replicate ops.size false) a0 { w with drawn:=w.drawn + 1 }:=by
  obtain ⟨hlen0',hget0'⟩:=compOps_get (P:=P) (ops:=ops) _ _ hms
  have hget0 : ∀ (j : Nat) (m : MG),ms[j]? = some m→∃ o : Oper,os[j]? = some o∧cG P ops o m:=by
    intro j m hm
    rw [hX] at hm
    obtain ⟨m0,e1,e2⟩:=msX_get hm
    obtain ⟨o,f1,f2⟩:=hget0' j m0 e1
    exact ⟨o,f1,m0,f2,e2⟩
  obtain ⟨hl1,hsel'⟩:=sel_get _ _ hsel
  unfold okDraw at hok
  simp only at hok
  split at hok
  · rename_i hcond
    simp only [Option.some.injEq] at hok
    rw [hok] at hcond
    simp only [Bool.and_eq_true,decide_eq_true_eq] at hcond
    obtain ⟨⟨⟨⟨⟨⟨⟨c0,hlen⟩,c1⟩,c2⟩,c3⟩,c4⟩,c5⟩,c6⟩:=hcond
    have O : Ord ops sg:=by
      unfold okPerm at c0
      simp only [Bool.and_eq_true,decide_eq_true_eq] at c0
      obtain ⟨⟨⟨⟨p1,p2⟩,p3⟩,p4⟩,p5⟩:=c0
      refine ⟨p1,fun p hp => ?_,fun p q hp hq he => ?_,fun i hi => ?_,fun i hi k hk => ?_⟩
      · have hp' : p < sg.length:=by omega
        have:=List.all_eq_true.1 p4 _ (List.getElem_mem hp')
        rw [List.getD_eq_getElem?_getD,List.getElem?_eq_getElem hp']
        simpa using this
      · have:=List.all_eq_true.1 (List.all_eq_true.1 p3 p (List.mem_range.2 hp)) q (List.mem_range.2 hq)
        simp only [Bool.or_eq_true,beq_iff_eq,bne_iff_ne] at this
        exact this.resolve_right fun h => h he
      · have:=List.all_eq_true.1 p2 i (List.mem_range.2 hi)
        simp only [List.contains_iff_mem] at this
        obtain ⟨p,hp,he⟩:=List.getElem_of_mem this
        exact ⟨p,by omega,by rw [List.getD_eq_getElem?_getD,List.getElem?_eq_getElem hp]; exact he⟩
      · have:=List.all_eq_true.1 (List.all_eq_true.1 p5 i (List.mem_range.2 hi)) k hk
        simpa using this
    have hget : ∀ (j : Nat) (m : MG),ms[j]? = some m→∃ o : Oper,ops[sg.getD j 0]? = some o∧cG P ops o m:=by
      intro j m hm
      obtain ⟨o,h1,h2⟩:=hget0 j m hm
      have hj : j < sg.length:=by have:=lt_of_get hm; rw [O.len]; omega
      obtain ⟨o',h3,h4⟩:=hsel' j _ (List.getElem?_eq_getElem hj)
      rw [h1] at h4
      cases h4
      refine ⟨o,?_,h2⟩
      rw [List.getD_eq_getElem?_getD,List.getElem?_eq_getElem hj]
      exact h3
    have haf : ∀ j,j < ops.size→∀ k ∈ afP (afF ops) sg j,k < j:=by
      intro j hj k hk
      have:=List.all_eq_true.1 (List.all_eq_true.1 c1 j (List.mem_range.2 hj)) k hk
      simpa using this
    have htl : ∀ j,j < ops.size→s ≤ j→∀ i,mu ≤ i→i < j→((ancM (afP (afF ops) sg) ops.size).getD j 0).testBit i = true:=by
      intro j hj hsj i hmi hi
      have:=List.all_eq_true.1 c3 j (List.mem_range.2 hj)
      simp only [Bool.or_eq_true,decide_eq_true_eq] at this
      rcases this with h | h
      · omega
      · have:=List.all_eq_true.1 h i (List.mem_range.2 hi)
        simp only [Bool.or_eq_true,decide_eq_true_eq] at this
        rcases this with h | h
        · omega
        · exact h
    have hF : ∀ (j : Nat) (m : MG),(ms.take s)[j]? = some m→(dstK (ms.take s) j).isSome = true∧(∀ k,k < (ms.take s).length→k = j ∨ dstK (ms.take s) k ≠ dstK (ms.take s) j) ∧
        ∀ i ∈ m.rds,∀ k,k < (ms.take s).length→dstK (ms.take s) k ≠ some i ∨ (k < j∧k ∈ afP (afF ops) sg j):=by
      intro j m hm
      have:=List.all_eq_true.1 c2 j (List.mem_range.2 (lt_of_get hm))
      simp only [hm,Bool.and_eq_true] at this
      obtain ⟨⟨q1,q2⟩,q3⟩:=this
      refine ⟨q1,fun k hk => ?_,fun i hi k hk => ?_⟩
      · have:=List.all_eq_true.1 q2 k (List.mem_range.2 hk)
        simpa using this
      · have:=List.all_eq_true.1 (List.all_eq_true.1 q3 i hi) k (List.mem_range.2 hk)
        simpa using this
    have hdis : ∀ j k,j < (ms.take s).length→k < (ms.take s).length→k ≠ j→dstK (ms.take s) k ≠ dstK (ms.take s) j:=fun j k hj hk hne => ((hF j _ (List.getElem?_eq_getElem hj)).2.1 k hk).resolve_left hne
    have hrd : ∀ j m,(ms.take s)[j]? = some m→∀ i ∈ m.rds,∀ k,k < (ms.take s).length→dstK (ms.take s) k = some i→k < j∧k ∈ afP (afF ops) sg j:=fun j m hm i hi k hk hd => ((hF j m hm).2.2 i hi k hk).resolve_left fun h => h hd
    obtain ⟨y,hy1,hy2⟩:=stepsF_vals _ _ _ hs
    subst hy1
    have hfree : ∀ m,m < (ms.take s).length→∀ r,dstK (ms.take s) m = some r→isOwn (st.getD r .dead) = false:=by
      intro m hm r hd
      obtain ⟨d,e1,e2,e3⟩:=hy2 m _ (List.getElem?_eq_getElem hm)
      have : d = r:=by simp only [dstK,List.getElem?_eq_getElem hm,Option.bind_some,e1,Option.some.injEq] at hd; exact hd
      subst this
      have e4 : (pre' (ms.take s) y st m)[d]? = st[d]?:=pre_out m fun k hk he => hdis m k hm (by omega) (by omega) (by rw [he,hd])
      unfold free at e2
      rw [e4] at e2
      rw [List.getD_eq_getElem?_getD]
      cases hx : st[d]? with
      | none => rfl
      | some x => simp only [hx] at e2; simpa using e2
    have hout : ∀ (i : Nat) (x : V),st[i]? = some x→x.within fun r => ∀ m,m < (ms.take s).length→dstK (ms.take s) m ≠ some r:=by
      intro i x hx
      have hi : i < st.length:=lt_of_get hx
      have hs':=hr.slot' hx
      by_cases ho : ∃ d,x = .own d
      · obtain ⟨d,rfl⟩:=ho; trivial
      · have hv:=(hs'.nonown fun d hd => ho ⟨d,hd⟩).1
        refine within_mono ?_ x (within_rel hr x _ hv)
        intro r hrr m hm hd
        rw [hfree m hm r hd] at hrr
        cases hrr
    have hfl : (ms.take s).length = s:=by rw [List.length_take,hlen]; omega
    -- what is done behind the first p operations of the order
    have hdone : ∀ p,p ≤ ops.size→(doneL ops.size (sg.take p)).size = ops.size∧∀ q,InP ops sg (doneL ops.size (sg.take p)) q ↔ q < p∧q < ops.size:=by
      intro p
      induction p with
      | zero =>
        intro _
        refine ⟨by simp [doneL],fun q => ⟨fun h => ?_,fun h => by omega⟩⟩
        have h:=h.2
        unfold InL at h
        simp only [List.take_zero,doneL,List.foldl_nil] at h
        rw [Array.getD_eq_getD_getElem?,Array.getElem?_replicate] at h
        split at h <;> simp at h
      | succ p ih =>
        intro hp
        obtain ⟨e1,e2⟩:=ih (by omega)
        have hps : p < sg.length:=by rw [O.len]; omega
        have e3 : doneL ops.size (sg.take (p + 1)) = (doneL ops.size (sg.take p)).setIfInBounds (sg.getD p 0) true:=by
          rw [List.take_add_one,List.getElem?_eq_getElem hps]
          simp only [Option.toList_some,doneL,List.foldl_append,List.foldl_cons,List.foldl_nil]
          rw [List.getD_eq_getElem?_getD,List.getElem?_eq_getElem hps]
          rfl
        rw [e3]
        refine ⟨by simpa using e1,fun q => ?_⟩
        rw [inP_set O e1 (by omega),e2]
        constructor
        · rintro (⟨h1,h2⟩ | rfl)
          · exact ⟨by omega,h2⟩
          · exact ⟨by omega,by omega⟩
        · rintro ⟨h1,h2⟩
          by_cases he : q = p
          · exact .inr he
          · exact .inl ⟨by omega,h2⟩
    -- the moves first
    have main : ∀ (r p : Nat) {ts : List C} {a : Act} {w : World},p + r = mu→Kp F a0 a→Rel E (pre' (ms.take s) y st p) ts a.tmps w →
        wpAny P .any ops (fun e a' w' => e = .normal∧∃ ts',Kp F a0 a'∧Rel E st3 ts' a'.tmps w') (ops.size - p) (doneL ops.size (sg.take p)) a w:=by
      intro r
      induction r with
      | zero =>
        intro p ts a w hp hdef hrel
        have hp : p = mu:=by omega
        subst hp
        obtain ⟨e1,e2⟩:=hdone p (by omega)
        refine free_ok hc hNF O hlen hget haf c4 c6 htl hdis hrd (y:=y) (st0:=st) hout hy2 ht (fun a' w' ts' h1 h2 => (hfin a' w' ts' h2).elim fun t h => ⟨rfl,t,h1,h⟩) _ (ops.size - p) _ rfl ?_ e1 ?_ ?_ ?_ ?_ hdef hrel
        · have : ∀ (l : List Nat) (b : Nat→Bool),(∀ i,i < p→b i = false)→(List.range s).countP b ≤ s - p:=by
            intro _ b hb
            obtain ⟨d,hd⟩ : ∃ d,s = p + d:=⟨s - p,by omega⟩
            subst hd
            rw [List.range_add,List.countP_append]
            have z : (List.range p).countP b = 0:=by
              rw [List.countP_eq_zero]
              intro i hi
              rw [hb i (List.mem_range.1 hi)]; simp
            have l2 : ((List.range d).map (p + ·)).countP b ≤ d:=Nat.le_trans List.countP_le_length (by simp)
            omega
          have:=this [] (fun i => !(doneL ops.size (sg.take p)).getD (sg.getD i 0) false) fun i hi => by
            have:=((e2 i).2 ⟨hi,by omega⟩).2
            unfold InL at this
            simp only [this,Bool.not_true]
          omega
        · intro i hi; have:=(e2 i).1 hi; omega
        · intro j hj k hk
          have:=(e2 j).1 hj
          have:=haf j this.2 k hk
          exact (e2 k).2 ⟨by omega,by omega⟩
        · intro i hi; exact (e2 i).2 ⟨hi,by omega⟩
        · refine ⟨fun i hi => pre_out p fun k hk => hi k (by omega) ((e2 k).2 ⟨hk,by omega⟩),fun m d hm hA hd => ?_⟩
          exact pre_in hdis hd p ((e2 m).1 hA).1 (by omega)
      | succ r ih =>
        intro p ts a w hp hdef hrel
        have hpm : p < mu:=by omega
        unfold okMv at c5
        simp only [Bool.and_eq_true,Bool.or_eq_true,beq_iff_eq] at c5
        obtain ⟨k1,k2⟩:=c5
        have k3:=List.all_eq_true.1 k2 p (List.mem_range.2 hpm)
        simp only [Bool.and_eq_true] at k3
        obtain ⟨⟨k4,k5⟩,k6⟩:=k3
        have hpms : p < ms.length:=by omega
        have hm : (ms.take s)[p]? = some ms[p]:=by rw [List.getElem?_take,if_pos (by omega),List.getElem?_eq_getElem hpms]
        obtain ⟨o,ho,hcg⟩:=hget p _ (List.getElem?_eq_getElem hpms)
        obtain ⟨d,q1,q2,q3⟩:=hy2 p _ hm
        have hdp : dstK (ms.take s) p = some d:=by simp only [dstK,hm,Option.bind_some,q1]
        obtain ⟨j2,d1,v,r1,r2,r3,r4⟩:=first_ok ho k4 hcg hrel q3
        have hd1 : d1 = d:=by rw [q1] at r1; exact (Option.some.inj r1).symm
        subst hd1
        have hput : (a.put o.dst v).tmps = a.tmps.setIfInBounds d1 v:=by rw [r2]; rfl
        have hrel2:=hrel.set d1 r4
        rw [setv_free q2,← hput] at hrel2
        have e4 : pre' (ms.take s) y st (p + 1) = (pre' (ms.take s) y st p).set d1 (y p):=by rw [pre',hdp]
        rw [← e4] at hrel2
        have hps : p < sg.length:=by rw [O.len]; omega
        have e5 : doneL ops.size (sg.take (p + 1)) = (doneL ops.size (sg.take p)).setIfInBounds (sg.getD p 0) true:=by
          rw [List.take_add_one,List.getElem?_eq_getElem hps]
          simp only [Option.toList_some,doneL,List.foldl_append,List.foldl_cons,List.foldl_nil]
          rw [List.getD_eq_getElem?_getD,List.getElem?_eq_getElem hps]
          rfl
        have hnext:=ih (p + 1) (a:=a.put o.dst v) (w:=w) (by omega) (hdef.trans (Kp.put (fun d hd => hNF p _ (List.getElem?_eq_getElem hpms) d (by rw [cG_dst hcg]; exact hd)) v)) hrel2
        rw [e5] at hnext
        obtain ⟨fu,hfu⟩ : ∃ fu,ops.size - p = fu + 1:=⟨ops.size - p - 1,by omega⟩
        rw [show ops.size - (p + 1) = fu by omega] at hnext
        rw [hfu]
        refine wpAny_take ho (k1.resolve_left (by omega)) k5 k6 (fun c a w h => ?_) (v:=v) (.inl ⟨by simp [Region.wanted,j2],r3⟩) hnext
        exact absurd h.1 (by simp)
    have hfin:=main mu 0 (a:=a0) (w:={ w with drawn:=w.drawn + 1 }) (by omega) (Kp.refl F a0) (hr.grow ⟨rfl,rfl,rfl,Nat.le_refl _,fun _ _ => rfl⟩)
    exact hfin
  · cases hok
omit hc in
theorem gho_ok {E : Env} {tm : Array Value} {w : World} : ∀ (l : List Nat) {st st' : St} {ts : List C},Rel E st ts tm w→stepsG call (ghoG l) st = some st'→∃ ts',Rel E st' ts' tm w
  | [],st,st',ts,hr,hs => by
    simp only [ghoG,List.map_nil,stepsG,Option.some.injEq] at hs
    subst hs
    exact ⟨ts,hr⟩
  | d :: l,st,st',ts,hr,hs => by
    simp only [ghoG,List.map_cons,stepsG,Mx.stepG,wanted] at hs
    have key : ∃ st1,assign st d (ev st (.t d)) = some st1∧stepsG call (ghoG l) st1 = some st':=by
      simp only [step] at hs
      split at hs
      · rename_i st1 h1
        split at h1
        · cases h1
        · exact ⟨st1,h1,hs⟩
      · cases hs
    obtain ⟨st1,h1,h2⟩:=key
    have hv : VRel E ts (ev st (.t d)) (tm.getD d undef):=ev_ok hr (m:=.t d) rfl
    obtain ⟨ts1,h3⟩:=assign_ok hr hv h1
    rw [setI_same] at h3
    exact gho_ok l h3 h2
theorem stepsG_app {call : Oracle} : ∀ (l m : List MG) (st : St),stepsG call (l ++ m) st = (stepsG call l st).bind (stepsG call m)
  | [],m,st => rfl
  | o :: l,m,st => by
    simp only [List.cons_append,stepsG]
    cases Mx.stepG call st o with
    | none => rfl
    | some st1 => exact stepsG_app l m st1
include hc hNF in
theorem drw_ok {sg : List Nat} {os : List Oper} (hsel : sel ops sg = some os) {ms0 : List MG} {s0 : Nat} (hms : compOps P ops os = some ms0) (hX : ms = msX s0 ms0) {mu s : Nat} (hok : okDraw ops sg mu ms = some s) {g : List Nat} {st st1 st2 : St} {ts : List C} {w : World} (hr : Rel E st ts a0.tmps w) (hs : stepsF call (ms.take s) st = some st1) (ht : stepsG call (ms.drop s ++ ghoG g) st1 = some st2) :
    wpAny P .any ops (fun e a' w' => e = .normal∧∃ ts',Kp F a0 a'∧Rel E st2 ts' a'.tmps w') ops.size (Array.replicate ops.size false) a0 { w with drawn:=w.drawn + 1 }:=by
  rw [stepsG_app] at ht
  cases h1 : stepsG call (ms.drop s) st1 with
  | none => rw [h1] at ht; cases ht
  | some st3 =>
    rw [h1] at ht
    exact drw_ok0 hc hNF hsel hms hX hok hr hs h1 fun a' w' ts' h4 => gho_ok g h4 ht
end
end Go.Mx
namespace Go.Mx
set_option linter.unusedVariables false
set_option linter.unusedSimpArgs false
set_option linter.unusedSectionVars false
set_option linter.unusedSectionVars false
open Go
mutual
theorem within_roots : ∀ (x : V),x.within (· ∈ rootsV x)
  | .sc _ => trivial
  | .own _ => trivial
  | .ro _ => trivial
  | .ref r _ => by simp [V.within,rootsV]
  | .sub r _ _ _ _ => by simp [V.within,rootsV]
  | .ad r _ _ => by simp [V.within,rootsV]
  | .rad _ _ => trivial
  | .vn _ vs => by simp only [V.within,rootsV]; exact within_rootsL vs
  | .dead => trivial
theorem within_rootsL : ∀ (xs : List V),V.withinL (· ∈ rootsL xs) xs
  | [] => trivial
  | x :: xs => ⟨within_mono (fun r hr => by simp [rootsL,hr]) x (within_roots x),withinL_mono (fun r hr => by simp [rootsL,hr]) xs (within_rootsL xs)⟩
end
mutual
theorem roots_in {I : Nat→Prop} : ∀ (x : V),x.within I→∀ r ∈ rootsV x,I r
  | .sc _,_,r,hr => by simp [rootsV] at hr
  | .own _,_,r,hr => by simp [rootsV] at hr
  | .ro _,_,r,hr => by simp [rootsV] at hr
  | .ref _ _,h,r,hr => by simp only [rootsV,List.mem_singleton] at hr; subst hr; exact h
  | .sub _ _ _ _ _,h,r,hr => by simp only [rootsV,List.mem_singleton] at hr; subst hr; exact h
  | .ad _ _ _,h,r,hr => by simp only [rootsV,List.mem_singleton] at hr; subst hr; exact h
  | .rad _ _,_,r,hr => by simp [rootsV] at hr
  | .vn _ vs,h,r,hr => roots_inL vs h r (by simpa [rootsV] using hr)
  | .dead,_,r,hr => by simp [rootsV] at hr
theorem roots_inL {I : Nat→Prop} : ∀ (xs : List V),V.withinL I xs→∀ r ∈ rootsL xs,I r
  | [],_,r,hr => by simp [rootsL] at hr
  | x :: xs,h,r,hr => by
    simp only [rootsL,List.mem_append] at hr
    rcases hr with hr | hr
    · exact roots_in x h.1 r hr
    · exact roots_inL xs h.2 r hr
end
structure Sim (U : Nat→Prop) (c s : St) : Prop where
  like : Like (fun i => ¬ U i) c s
  free : ∀ i d,U i→s[i]? ≠ some (.own d)
  len : s.length = c.length
section
variable {U : Nat→Prop} {c s : St}
theorem kill_within {I : Nat→Prop} (r : Nat) (p : List Nat) {x : V} (h : x.within I) : (V.kill r p x).within I:=by
  unfold V.kill
  split
  · trivial
  · exact h
theorem Sim.kill (h : Sim U c s) (r : Nat) (p : List Nat) : Sim U (Mx.kill r p c) (Mx.kill r p s):=by
  refine ⟨⟨fun i hi => ?_,fun i x hi hx => ?_⟩,fun i d hi hx => ?_,by simpa using h.len⟩
  · rw [kill_get,kill_get,h.like.same i hi]
  · rw [kill_get,Option.map_eq_some_iff] at hx
    obtain ⟨y,hy,rfl⟩:=hx
    exact kill_within r p (h.like.clos i y hi hy)
  · rw [kill_get,Option.map_eq_some_iff] at hx
    obtain ⟨y,hy,he⟩:=hx
    unfold V.kill at he
    split at he
    · cases he
    · subst he; exact h.free i d hi hy
theorem Sim.set (h : Sim U c s) {r : Nat} (hr : ¬ U r) {x : V} (hx : x.within fun i => ¬ U i) : Sim U (c.set r x) (s.set r x):=by
  refine ⟨⟨fun i hi => ?_,fun i y hi hy => ?_⟩,fun i d hi hy => ?_,by simpa using h.len⟩
  · by_cases e : r = i
    · subst e
      rw [List.getElem?_set_self',List.getElem?_set_self',h.like.same r hi]
    · rw [List.getElem?_set_ne e,List.getElem?_set_ne e,h.like.same i hi]
  · by_cases e : r = i
    · subst e
      rw [List.getElem?_set_self'] at hy
      cases hc : c[r]? with
      | none => simp [hc] at hy
      | some z => simp [hc] at hy; subst hy; exact hx
    · rw [List.getElem?_set_ne e] at hy
      exact h.like.clos i y hi hy
  · have e : r ≠ i:=fun e => hr (e ▸ hi)
    rw [List.getElem?_set_ne e] at hy
    exact h.free i d hi hy
theorem Sim.setv (h : Sim U c s) {r : Nat} (hr : ¬ U r) {x : V} (hx : x.within fun i => ¬ U i) : Sim U (Mx.setv c r x) (Mx.setv s r x):=by
  unfold Mx.setv
  rw [h.like.same r hr]
  split
  · exact (h.kill r []).set hr (kill_within r [] hx)
  · exact h.set hr hx
theorem Sim.put (h : Sim U c s) {dst : Option Nat} (hr : ∀ d,dst = some d→¬ U d) {x : V} (hx : x.within fun i => ¬ U i) : Sim U (Mx.put c dst x) (Mx.put s dst x):=by
  cases dst with
  | none => exact h
  | some d => exact h.setv (hr d rfl) hx
theorem Sim.leave (h : Sim U c s) {r : Nat} (hr : ¬ U r) (d0 : D) (p : List Nat) : Sim U (Mx.leave c r d0 p) (Mx.leave s r d0 p):=by
  cases p with
  | nil => exact (h.kill r []).set hr trivial
  | cons i p => exact (h.kill r (i :: p)).set hr trivial
mutual
theorem take_sim : ∀ (x : V) {c s c1 : St} {d : D},Sim U c s→x.within (fun i => ¬ U i)→take c x = some (d,c1)→∃ s1,take s x = some (d,s1)∧Sim U c1 s1
  | .sc x,c,s,c1,d,h,hw,ht => by
    simp only [take,Option.some.injEq,Prod.mk.injEq] at ht
    obtain ⟨rfl,rfl⟩:=ht
    exact ⟨s,by simp [take],h⟩
  | .own _,c,s,c1,d,h,hw,ht => by simp [take] at ht
  | .ro dd,c,s,c1,d,h,hw,ht => by
    simp only [take] at ht ⊢
    split at ht
    · split at ht
      · rename_i hc
        cases ht
        exact ⟨s,by rw [if_pos hc],h⟩
      · cases ht
    · split at ht
      · rename_i hc
        cases ht
        exact ⟨s,by rw [if_pos hc],h⟩
      · cases ht
  | .ref r p,c,s,c1,d,h,hw,ht => by
    have hr : ¬ U r:=hw
    simp only [take] at ht ⊢
    rw [root_like h.like hr]
    split at ht
    · rename_i d0 h0
      try simp only [h0]
      split at ht
      · rename_i kids h1
        try simp only [h1]
        split at ht
        · rename_i hc
          cases ht
          exact ⟨s,by rw [if_pos hc],h⟩
        · rename_i hc
          cases ht
          exact ⟨_,by rw [if_neg hc],h.leave hr d0 p⟩
      · rename_i k kids hk h1
        cases ht
        refine ⟨_,?_,h.leave hr d0 p⟩
        try simp only [h1]
      · cases ht
    · cases ht
  | .sub r p lo es n,c,s,c1,d,h,hw,ht => by
    have hr : ¬ U r:=hw
    simp only [take] at ht ⊢
    rw [root_like h.like hr]
    split at ht
    · rename_i d0 h0
      try simp only [h0]
      split at ht
      · rename_i d1 h1
        try simp only [h1]
        split at ht
        · rename_i d2 h2
          try simp only [h2]
          cases ht
          exact ⟨_,rfl,h.leave hr d0 p⟩
        · cases ht
      · cases ht
    · cases ht
  | .ad _ _ _,c,s,c1,d,h,hw,ht => by simp [take] at ht
  | .rad _ _,c,s,c1,d,h,hw,ht => by simp [take] at ht
  | .vn k vs,c,s,c1,d,h,hw,ht => by
    simp only [take] at ht ⊢
    split at ht
    · rename_i hk
      rw [if_pos hk]
      split at ht
      · rename_i d1 h1
        cases ht
        exact ⟨s,by simp only [h1],h⟩
      · cases ht
    · rename_i hk
      rw [if_neg hk]
      split at ht
      · rename_i ds c2 h1
        cases ht
        obtain ⟨s1,h2,h3⟩:=takeL_sim vs h hw h1
        exact ⟨s1,by simp only [h2],h3⟩
      · cases ht
  | .dead,c,s,c1,d,h,hw,ht => by simp [take] at ht
theorem takeL_sim : ∀ (xs : List V) {c s c1 : St} {ds : List D},Sim U c s→V.withinL (fun i => ¬ U i) xs→takeL c xs = some (ds,c1)→∃ s1,takeL s xs = some (ds,s1)∧Sim U c1 s1
  | [],c,s,c1,ds,h,hw,ht => by
    simp only [takeL,Option.some.injEq,Prod.mk.injEq] at ht
    obtain ⟨rfl,rfl⟩:=ht
    exact ⟨s,by simp [takeL],h⟩
  | x :: xs,c,s,c1,ds,h,hw,ht => by
    simp only [takeL] at ht ⊢
    split at ht
    · rename_i d c2 h1
      obtain ⟨s1,h2,h3⟩:=take_sim x h hw.1 h1
      try simp only [h2]
      split at ht
      · rename_i ds2 c3 h4
        cases ht
        obtain ⟨s2,h5,h6⟩:=takeL_sim xs h3 hw.2 h4
        exact ⟨s2,by simp only [h5],h6⟩
      · cases ht
    · cases ht
end
theorem takeAll_sim : ∀ (xs : List MO) {c s c1 : St} {ds : List D},Sim U c s→(∀ m ∈ xs,m.inI fun i => ¬ U i)→takeAll c xs = some (ds,c1)→∃ s1,takeAll s xs = some (ds,s1)∧Sim U c1 s1
  | [],c,s,c1,ds,h,hw,ht => by
    simp only [takeAll,Option.some.injEq,Prod.mk.injEq] at ht
    obtain ⟨rfl,rfl⟩:=ht
    exact ⟨s,rfl,h⟩
  | x :: xs,c,s,c1,ds,h,hw,ht => by
    obtain ⟨e1,e2⟩:=ev_like h.like (hw x (List.mem_cons_self ..))
    simp only [takeAll] at ht ⊢
    rw [e1]
    split at ht
    · rename_i d c2 h1
      obtain ⟨s1,h2,h3⟩:=take_sim _ h e2 h1
      try simp only [h2]
      split at ht
      · rename_i ds2 c3 h4
        cases ht
        obtain ⟨s2,h5,h6⟩:=takeAll_sim xs h3 (fun m hm => hw m (List.mem_cons_of_mem _ hm)) h4
        exact ⟨s2,by simp only [h5],h6⟩
      · cases ht
    · cases ht
theorem append_sim {es : Nat} {x y : MO} {c s c1 : St} {d : D} (h : Sim U c s) (hx : x.inI fun i => ¬ U i) (hy : y.inI fun i => ¬ U i) (ht : append c es x y = some (d,c1)) : ∃ s1,append s es x y = some (d,s1)∧Sim U c1 s1:=by
  have hsrc : ∀ q,appSrc c es y = some q→∃ s1,appSrc s es y = some (q.1,q.2.1,s1)∧Sim U q.2.2 s1:=by
    rintro ⟨n0,k0,c0⟩ hq
    obtain ⟨e1,e2⟩:=ev_like h.like hy
    unfold appSrc at hq ⊢
    rw [e1,rd_like h.like _ e2]
    split at hq
    · rename_i b es' n kids h1
      try simp only [h1]
      split at hq
      · rename_i g1
        rw [if_pos g1]
        split at hq
        · rename_i g2
          rw [if_pos g2]
          split at hq
          · rename_i g3
            rw [if_pos g3]
            cases hq
            exact ⟨s,rfl,h⟩
          · rename_i g3
            rw [if_neg g3]
            split at hq
            · rename_i b2 es2 n' kids' c2 h2
              obtain ⟨s1,h3,h4⟩:=take_sim _ h e2 h2
              try simp only [h3]
              split at hq
              · rename_i g4
                rw [if_pos g4]
                cases hq
                exact ⟨s1,rfl,h4⟩
              · cases hq
            · cases hq
        · cases hq
      · cases hq
    · rename_i st h1
      try simp only [h1]
      split at hq
      · rename_i g1
        rw [if_pos g1]
        cases hq
        exact ⟨s,rfl,h⟩
      · cases hq
    · cases hq
  unfold append at ht ⊢
  split at ht
  · rename_i m ks c2 h1
    obtain ⟨s1,h2,h3⟩:=hsrc _ h1
    try simp only [h2]
    obtain ⟨e1,e2⟩:=ev_like h3.like hx
    rw [e1]
    split at ht
    · rename_i b es' n kids c3 h4
      obtain ⟨s2,h5,h6⟩:=take_sim _ h3 e2 h4
      try simp only [h5]
      split at ht
      · rename_i g1
        rw [if_pos g1]
        cases ht
        exact ⟨s2,rfl,h6⟩
      · cases ht
    · cases ht
  · cases ht
theorem mo_parts {ps : List (Nat × Nat × MO)} (hr : ∀ i ∈ (ps.map (·.2.2)).flatMap MO.slots,¬ U i) : ∀ m ∈ ps.map (·.2.2),m.inI fun i => ¬ U i :=
  fun m hm i hi => hr i (List.mem_flatMap.2 ⟨m,hm,hi⟩)
theorem step_sim {call : Oracle} {op : MOp} {c s c' : St} (he : earlyOK op = true) (h : Sim U c s) (hr : ∀ i ∈ op.rds,¬ U i) (hd : ∀ d,op.dst = some d→¬ U d) (hs : step call c op = some c') : ∃ s',step call s op = some s'∧Sim U c' s':=by
  cases op <;> simp only [earlyOK,Bool.false_eq_true] at he
  case app d es x y =>
    have hx : x.inI fun i => ¬ U i:=fun i hi => hr i (by simp [MOp.rds,hi])
    have hy : y.inI fun i => ¬ U i:=fun i hi => hr i (by simp [MOp.rds,hi])
    simp only [step] at hs ⊢
    split at hs
    · rename_i dd c1 h1
      obtain ⟨s1,h2,h3⟩:=append_sim h hx hy h1
      try simp only [h2]
      cases hs
      exact ⟨_,rfl,h3.setv (hd d rfl) trivial⟩
    · cases hs
  case bs d es n zero parts =>
    simp only [step] at hs ⊢
    split at hs
    · rename_i ds c1 h1
      obtain ⟨s1,h2,h3⟩:=takeAll_sim _ h (mo_parts hr) h1
      try simp only [h2]
      split at hs
      · rename_i cells h4
        try simp only [h4]
        cases hs
        exact ⟨_,rfl,h3.setv (hd d rfl) trivial⟩
      · cases hs
    · cases hs
  case bld d zero parts =>
    simp only [step] at hs ⊢
    split at hs
    · rename_i ds c1 h1
      obtain ⟨s1,h2,h3⟩:=takeAll_sim _ h (mo_parts hr) h1
      try simp only [h2]
      split at hs
      · rename_i cells h4
        try simp only [h4]
        cases hs
        exact ⟨_,rfl,h3.setv (hd d rfl) trivial⟩
      · cases hs
    · cases hs
  case box d x =>
    have hx : x.inI fun i => ¬ U i:=fun i hi => hr i hi
    obtain ⟨e1,e2⟩:=ev_like h.like hx
    simp only [step] at hs ⊢
    rw [e1]
    split at hs
    · rename_i dd c1 h1
      obtain ⟨s1,h2,h3⟩:=take_sim _ h e2 h1
      try simp only [h2]
      split at hs
      · rename_i g1
        rw [if_pos g1]
        cases hs
        exact ⟨_,rfl,h3.setv (hd d rfl) trivial⟩
      · cases hs
    · cases hs
  case calI dst f x args =>
    have hx : x.inI fun i => ¬ U i:=fun i hi => hr i (by simp [MOp.rds,hi])
    have ha : ∀ m ∈ args,m.inI fun i => ¬ U i:=fun m hm i hi => hr i (by simp only [MOp.rds,List.mem_append,List.mem_flatMap]; exact .inr ⟨m,hm,hi⟩)
    obtain ⟨e1,e2⟩:=ev_like h.like hx
    simp only [step] at hs ⊢
    rw [e1]
    split at hs
    · rename_i h1
      try simp only [h1]
      rw [rdAll_like h.like _ ha]
      split at hs
      · rename_i ds h2
        try simp only [h2]
        split at hs
        · rename_i d h3
          try simp only [h3]
          cases hs
          exact ⟨_,rfl,h.put hd (mkOwn_within d)⟩
        · cases hs
      · cases hs
    · rename_i r h1
      rw [h1] at e2
      have hrU : ¬ U r:=e2
      try simp only [h1]
      rw [root_like h.like hrU]
      split at hs
      · rename_i b kids h2
        try simp only [h2]
        have hk : Sim U ((Mx.kill r [] c).set r .dead) ((Mx.kill r [] s).set r .dead):=(h.kill r []).set hrU trivial
        rw [rdAll_like hk.like _ ha]
        split at hs
        · rename_i ds h3
          try simp only [h3]
          unfold ioRes at hs ⊢
          split at hs
          · rename_i d b2 kids2 h4
            try simp only [h4]
            cases hs
            exact ⟨_,rfl,(hk.set (x:=.own (.nd (.bx b2) kids2)) hrU trivial).put hd (mkOwn_within d)⟩
          · cases hs
        · cases hs
      · cases hs
    · cases hs
end
theorem stepsX_vals {call : Oracle} : ∀ (g : List (MG × List (Nat × List Nat))) (st st2 : St),stepsX call g st = some st2→∃ c : Nat→St,c 0 = st∧c g.length = st2∧∀ (k : Nat) (o : MG) (l : List (Nat × List Nat)),g[k]? = some (o,l)→Mx.stepG call (c k) o = some (c (k + 1))∧lateOK (c k) (c (k + 1)) l
  | [],st,st2,h => by
    simp only [stepsX,Option.some.injEq] at h
    exact ⟨fun _ => st,rfl,h,fun k o l hk => by simp at hk⟩
  | (o,l) :: g,st,st2,h => by
    simp only [stepsX] at h
    split at h
    · rename_i st1 h1
      split at h
      · rename_i hl
        obtain ⟨c,e1,e2,e3⟩:=stepsX_vals g st1 st2 h
        refine ⟨fun k => match k with | 0 => st | k + 1 => c k,rfl,e2,fun k o' l' hk => ?_⟩
        cases k with
        | zero =>
          simp only [List.getElem?_cons_zero,Option.some.injEq,Prod.mk.injEq] at hk
          obtain ⟨rfl,rfl⟩:=hk
          show Mx.stepG call st o = some (c 0)∧lateOK st (c 0) l
          rw [e1]
          exact ⟨h1,hl⟩
        | succ k => exact e3 k o' l' (by simpa using hk)
      · cases h
    · cases h
section
variable {P : Program} {E : Env} {call : Oracle} (hc : CallsOK P E.g call) {ops : Array Oper} {ms : List MG}
variable {Q : Exit→Act→World→Prop} {a0 : Act} {F : Nat→Prop} (hNF : ∀ (j : Nat) (m : MG),ms[j]? = some m→∀ d,m.op.dst = some d→¬ F d)
def Uof (ops : Array Oper) (sg : List Nat) (listed : Array Bool) (f : List MG) (i : Nat) : Prop:=∃ q,q < f.length∧¬ InP ops sg listed q∧dstK f q = some i
include hc hNF in
theorem mix_ok {sg : List Nat} (O : Ord ops sg) (hlen : ms.length = ops.size) (hget : ∀ (j : Nat) (m : MG),ms[j]? = some m→∃ o : Oper,ops[sg.getD j 0]? = some o∧cG P ops o m) (haf : ∀ j,j < ops.size→∀ k ∈ afP (afF ops) sg j,k < j) {s : Nat} (hsn : s ≤ ops.size)
    {mu : Nat} (hmu : mu ≤ s) (htl : ∀ j,j < ops.size→s ≤ j→∀ i,s ≤ i→i < j→((ancM (afP (afF ops) sg) ops.size).getD j 0).testBit i = true)
    (hea : ∀ j,j < ops.size→s ≤ j→okEarly (ancM (afP (afF ops) sg) ops.size) mu s ms j = true)
    (hdis : ∀ j k,j < (ms.take s).length→k < (ms.take s).length→k ≠ j→dstK (ms.take s) k ≠ dstK (ms.take s) j)
    (hrd : ∀ (j : Nat) (m : MG),(ms.take s)[j]? = some m→∀ i ∈ m.rds,∀ k,k < (ms.take s).length→dstK (ms.take s) k = some i→k < j∧k ∈ afP (afF ops) sg j)
    {y : Nat→V} {st0 : St} (h0 : ∀ (i : Nat) (x : V),st0[i]? = some x→x.within fun r => ∀ m,m < (ms.take s).length→dstK (ms.take s) m ≠ some r)
    (hval : ∀ (j : Nat) (m : MG),(ms.take s)[j]? = some m→∃ d,m.op.dst = some d∧free (pre' (ms.take s) y st0 j) d = true∧valG call (pre' (ms.take s) y st0 j) m = some (y j))
    {c : Nat→St} (hc0 : c 0 = pre' (ms.take s) y st0 (ms.take s).length)
    (hch : ∀ k,s + k < ops.size→∀ m,ms[s + k]? = some m→Mx.stepG call (c k) m = some (c (k + 1))∧lateOK (c k) (c (k + 1)) (lateOf (ancM (afP (afF ops) sg) ops.size) mu s ms (s + k)))
    (hq : ∀ a' w' ts',Kp F a0 a'→Rel E (c (ops.size - s)) ts' a'.tmps w'→Q .normal a' w') : ∀ (r fuel : Nat) (listed : Array Bool) (k : Nat) {st : St} {ts : List C} {a : Act} {w : World},
      (List.range ops.size).countP (fun i => !listed.getD (sg.getD i 0) false) = r→r ≤ fuel→listed.size = ops.size→k ≤ ops.size - s→(∀ i,s ≤ i→i < ops.size→(InP ops sg listed i ↔ i < s + k))→(∀ j,InP ops sg listed j→∀ k ∈ afP (afF ops) sg j,InP ops sg listed k)→(∀ i,i < mu→InP ops sg listed i) →
      Sim (Uof ops sg listed (ms.take s)) (c k) st→Kp F a0 a→Rel E st ts a.tmps w→wpAny P .any ops Q fuel listed a w:=by
  have hfl : (ms.take s).length = s:=by rw [List.length_take,hlen]; omega
  intro r
  induction r using Nat.strongRecOn with
  | _ r ih =>
    intro fuel listed k st ts a w hcnt hf hsz hk hchn hcl hmv hsim hdef hr
    by_cases hall : ∀ i,i < ops.size→InP ops sg listed i
    · -- all is done
      have hkn : k = ops.size - s:=by
        rcases Nat.lt_or_ge k (ops.size - s) with h | h
        · have:=(hchn (s + k) (by omega) (by omega)).1 (hall (s + k) (by omega))
          omega
        · omega
      have hst : st = c k:=by
        apply List.ext_getElem?
        intro i
        refine hsim.like.same i ?_
        rintro ⟨q,h1,h2,_⟩
        exact h2 (hall q (by omega))
      subst hst
      subst hkn
      refine wpAny_done ?_ (hq a w ts hdef hr) fuel
      apply List.eq_nil_iff_forall_not_mem.2
      intro j hj
      obtain ⟨p,h1,_,h2,_⟩:=(ready_pos O hsz).1 hj
      exact h2 (hall p h1)
    · have hex : ∃ j,j < ops.size∧¬ InP ops sg listed j∧∀ k,k < j→InP ops sg listed k:=by
        have : ∀ n,n ≤ ops.size→(∀ i,i < n→InP ops sg listed i) ∨ ∃ j,j < ops.size∧¬ InP ops sg listed j∧∀ k,k < j→InP ops sg listed k:=by
          intro n
          induction n with
          | zero => intro _; exact .inl fun i hi => by omega
          | succ n ih =>
            intro hn
            rcases ih (by omega) with h | h
            · by_cases hn' : InP ops sg listed n
              · exact .inl fun i hi => by
                  by_cases he : i = n
                  · subst he; exact hn'
                  · exact h i (by omega)
              · exact .inr ⟨n,by omega,hn',h⟩
            · exact .inr h
        exact (this ops.size (Nat.le_refl _)).resolve_left hall
      obtain ⟨j0,hj0,hj1,hj2⟩:=hex
      have hpos : 0 < r:=by
        rw [← hcnt]
        apply List.countP_pos_iff.2
        refine ⟨j0,List.mem_range.2 hj0,?_⟩
        have : ¬ InL listed (sg.getD j0 0):=fun h => hj1 ⟨by omega,h⟩
        unfold InL at this
        simpa using this
      obtain ⟨fuel,rfl⟩ : ∃ k,fuel = k + 1:=⟨fuel - 1,by omega⟩
      have hmem : sg.getD j0 0 ∈ Region.ready .any ops listed:=(ready_pos O hsz).2 ⟨j0,by omega,rfl,hj1,fun k hk => hj2 k (haf j0 (by omega) k hk)⟩
      refine ⟨fun h => (by rw [h] at hmem; cases hmem),fun j' hj => ?_⟩
      obtain ⟨j,h1,rfl,h2,h3⟩:=(ready_pos O hsz).1 hj
      have hjm : j < ms.length:=by rw [hlen]; exact h1
      obtain ⟨o,ho',hcg⟩:=hget j _ (List.getElem?_eq_getElem hjm)
      have hin:=inP_set O hsz h1
      have h2' : ¬ InL listed (sg.getD j 0):=fun h => h2 ⟨h1,h⟩
      have hj3 : InL (listed.setIfInBounds (sg.getD j 0) true) (sg.getD j 0):=((hin j).2 (.inr rfl)).2
      have hcntlt : (List.range ops.size).countP (fun i => !(listed.setIfInBounds (sg.getD j 0) true).getD (sg.getD i 0) false) < r:=by
        rw [← hcnt]
        refine countP_lt (j:=j) (List.mem_range.2 h1) ?_ ?_ ?_
        · unfold InL at h2'; simpa using h2'
        · unfold InL at hj3
          simp only [hj3,Bool.not_true]
        · intro i hi
          simp only [Bool.not_eq_true'] at hi ⊢
          cases hq' : listed.getD (sg.getD i 0) false with
          | false => rfl
          | true =>
            have:=(inL_set (listed:=listed) (j:=sg.getD j 0) (by have:=O.lt j h1; omega) (sg.getD i 0)).2 (.inl hq')
            unfold InL at this
            rw [this] at hi
            cases hi
      have hcl' : ∀ i,InP ops sg (listed.setIfInBounds (sg.getD j 0) true) i→∀ k ∈ afP (afF ops) sg i,InP ops sg (listed.setIfInBounds (sg.getD j 0) true) k:=by
        intro i hi k hk
        rcases (hin i).1 hi with h | h
        · exact (hin k).2 (.inl (hcl i h k hk))
        · subst h; exact (hin k).2 (.inl (h3 k hk))
      have hmv' : ∀ i,i < mu→InP ops sg (listed.setIfInBounds (sg.getD j 0) true) i:=fun i hi => (hin i).2 (.inl (hmv i hi))
      have hanc:=anc_in haf hcl
      rcases Nat.lt_or_ge j s with hjs | hjs
      · -- an operation that changes its own slot
        have hm : (ms.take s)[j]? = some ms[j]:=by rw [List.getElem?_take,if_pos hjs,List.getElem?_eq_getElem hjm]
        have hjmu : mu ≤ j:=Nat.le_of_not_lt fun h => h2 (hmv j h)
        -- the state without what changes more
        have hpl : (c 0).length = st0.length:=by
          rw [hc0]
          have : ∀ n,(pre' (ms.take s) y st0 n).length = st0.length:=by
            intro n
            induction n with
            | zero => rfl
            | succ n ih => rw [pre']; split <;> simp [ih]
          exact this _
        obtain ⟨sh,hs1,hs2⟩ : ∃ sh : St,(∀ i,Uof ops sg listed (ms.take s) i→sh[i]? = st0[i]?)∧∀ i,¬ Uof ops sg listed (ms.take s) i→sh[i]? = (c 0)[i]?:=by
          classical
          refine ⟨(List.range st0.length).map fun i => if Uof ops sg listed (ms.take s) i then st0.getD i .dead else (c 0).getD i .dead,fun i hi => ?_,fun i hi => ?_⟩
          · by_cases hlt : i < st0.length
            · simp [hlt,hi]
            · rw [List.getElem?_eq_none (by simpa using hlt),List.getElem?_eq_none (by omega)]
          · by_cases hlt : i < st0.length
            · have : i < (c 0).length:=by omega
              simp [hlt,hi,this]
            · rw [List.getElem?_eq_none (by simpa using hlt),List.getElem?_eq_none (by omega)]
        have hUd : ∀ q d,q < (ms.take s).length→InP ops sg listed q→dstK (ms.take s) q = some d→¬ Uof ops sg listed (ms.take s) d:=by
          rintro q d hq hA hd ⟨q',e1,e2,e3⟩
          by_cases he : q' = q
          · subst he; exact e2 hA
          · exact hdis q q' hq e1 he (by rw [e3,hd])
        have hdes : Des (ms.take s) y st0 (InP ops sg listed) sh:=by
          refine ⟨fun i hi => ?_,fun q d hq hA hd => ?_⟩
          · by_cases hU : Uof ops sg listed (ms.take s) i
            · exact hs1 i hU
            · rw [hs2 i hU,hc0]
              refine pre_out _ fun q hq hd => ?_
              by_cases hA : InP ops sg listed q
              · exact hi q hq hA hd
              · exact hU ⟨q,hq,hA,hd⟩
          · rw [hs2 d (hUd q d hq hA hd),hc0]
            exact pre_in hdis hd _ hq (Nat.le_refl _)
        obtain ⟨d,hd1,_,hd3⟩:=val_des hdis hrd h0 hval hcl hdes hm h2 h3
        have hdj : dstK (ms.take s) j = some d:=by simp only [dstK,hm,Option.bind_some,hd1]
        have hUj : Uof ops sg listed (ms.take s) d:=⟨j,by omega,h2,hdj⟩
        -- the chain has left alone what this operation is about
        have hlate : ∀ k',k' ≤ k→(c k')[d]? = (c 0)[d]?∧∀ i ∈ ms[j].rds,(c k')[i]? = (c 0)[i]?∧∀ x,(c 0)[i]? = some x→∀ r ∈ rootsV x,(c k')[r]? = (c 0)[r]?:=by
          intro k'
          induction k' with
          | zero => intro _; exact ⟨rfl,fun i _ => ⟨rfl,fun _ _ _ _ => rfl⟩⟩
          | succ k' ihk =>
            intro hk'
            obtain ⟨g1,g2⟩:=ihk (by omega)
            have hp : s + k' < ops.size:=by omega
            have hpm : s + k' < ms.length:=by omega
            obtain ⟨_,hl⟩:=hch k' hp _ (List.getElem?_eq_getElem hpm)
            have hpin : InP ops sg listed (s + k'):=(hchn (s + k') (by omega) hp).2 (by omega)
            have hnb : ((ancM (afP (afF ops) sg) ops.size).getD (s + k') 0).testBit j = false:=by
              cases hb : ((ancM (afP (afF ops) sg) ops.size).getD (s + k') 0).testBit j with
              | false => rfl
              | true => exact absurd (hanc (s + k') hp (hcl _ hpin) j hb) h2
            have hmemL : (d,ms[j].rds) ∈ lateOf (ancM (afP (afF ops) sg) ops.size) mu s ms (s + k'):=by
              unfold lateOf
              refine List.mem_filterMap.2 ⟨j,List.mem_filter.2 ⟨List.mem_range.2 hjs,by rw [hnb]; simp [hjmu]⟩,?_⟩
              rw [List.getElem?_eq_getElem hjm]
              simp only [hd1,Option.map_some]
            obtain ⟨q1,q2⟩:=hl _ hmemL
            refine ⟨q1.trans g1,fun i hi => ?_⟩
            obtain ⟨q3,q4⟩:=q2 i hi
            obtain ⟨g3,g4⟩:=g2 i hi
            exact ⟨q3.trans g3,fun x hx r hr => (q4 x (g3.trans hx) r hr).trans (g4 x hx r hr)⟩
        obtain ⟨hk1,hk2⟩:=hlate k (Nat.le_refl _)
        have hrU : ∀ i ∈ ms[j].rds,¬ Uof ops sg listed (ms.take s) i:=by
          rintro i hi ⟨q,e1,e2,e3⟩
          exact e2 (h3 q (hrd j _ hm i hi q e1 e3).2)
        have hroot : ∀ i ∈ ms[j].rds,∀ x,(c 0)[i]? = some x→∀ r ∈ rootsV x,∃ dd,st[r]? = some (.own dd):=by
          intro i hi x hx r hrr
          have hsi : st[i]? = some x:=by rw [hsim.like.same i (hrU i hi),(hk2 i hi).1,hx]
          have hs':=hr.slot' hsi
          by_cases ho : ∃ d,x = .own d
          · obtain ⟨d,rfl⟩:=ho; simp [rootsV] at hrr
          · have hv:=(hs'.nonown fun d hd => ho ⟨d,hd⟩).1
            have:=roots_in x (within_rel hr x _ hv) r hrr
            cases hsr : st[r]? with
            | none => rw [List.getD_eq_getElem?_getD,hsr] at this; simp [isOwn] at this
            | some v =>
              rw [List.getD_eq_getElem?_getD,hsr] at this
              cases v <;> simp [isOwn] at this
              exact ⟨_,rfl⟩
        have hL : Like (fun i => i ∈ ms[j].rds ∨ ∃ i' ∈ ms[j].rds,∃ x,(c 0)[i']? = some x∧i ∈ rootsV x) sh st:=by
          refine ⟨fun i hi => ?_,fun i x hi hx => ?_⟩
          · rcases hi with hi | ⟨i',hi',x,hx,hrr⟩
            · rw [hsim.like.same i (hrU i hi),(hk2 i hi).1,hs2 i (hrU i hi)]
            · obtain ⟨dd,hdd⟩:=hroot i' hi' x hx i hrr
              have hnU : ¬ Uof ops sg listed (ms.take s) i:=fun hU => hsim.free i dd hU hdd
              rw [hsim.like.same i hnU,(hk2 i' hi').2 x hx i hrr,hs2 i hnU]
          · rcases hi with hi | ⟨i',hi',x',hx',hrr⟩
            · rw [hs2 i (hrU i hi)] at hx
              exact within_mono (fun r hr => .inr ⟨i,hi,x,hx,hr⟩) x (within_roots x)
            · obtain ⟨dd,hdd⟩:=hroot i' hi' x' hx' i hrr
              have hnU : ¬ Uof ops sg listed (ms.take s) i:=fun hU => hsim.free i dd hU hdd
              rw [hs2 i hnU,← (hk2 i' hi').2 x' hx' i hrr,← hsim.like.same i hnU,hdd] at hx
              cases hx
              trivial
        have hvst : valG call st ms[j] = some (y j):=by
          rw [(valG_like hL call ms[j] (fun i hi => .inl hi)).1]
          exact hd3
        have hfree : free st d = true:=by
          unfold free
          cases hsd : st[d]? with
          | none => rfl
          | some x =>
            cases x with
            | own dd => exact absurd hsd (hsim.free d dd hUj)
            | _ => rfl
        have hstep:=valG_step hvst hd1 hfree
        refine wpOp_ok hr hc ho' hcg hstep (hNF _ _ (List.getElem?_eq_getElem hjm)) fun a' w' ts' hd' hr' => ?_
        have hU' : ∀ i,Uof ops sg (listed.setIfInBounds (sg.getD j 0) true) (ms.take s) i ↔ Uof ops sg listed (ms.take s) i∧i ≠ d:=by
          intro i
          constructor
          · rintro ⟨q,e1,e2,e3⟩
            have hqj : q ≠ j:=fun e => e2 ((hin q).2 (.inr e))
            refine ⟨⟨q,e1,fun h => e2 ((hin q).2 (.inl h)),e3⟩,?_⟩
            rintro rfl
            exact hdis j q (by omega) e1 hqj (by rw [e3,hdj])
          · rintro ⟨⟨q,e1,e2,e3⟩,hne⟩
            refine ⟨q,e1,fun h => ?_,e3⟩
            rcases (hin q).1 h with h | h
            · exact e2 h
            · subst h; rw [hdj] at e3; exact hne (Option.some.inj e3).symm
        have hcd : (c k)[d]? = (st0[d]?).map fun _ => y j:=by
          rw [hk1,hc0]
          exact pre_in hdis hdj _ (by omega) (Nat.le_refl _)
        have hyw:=y_within hdis hrd h0 hval hcl' j (by omega) ((hin j).2 (.inr rfl))
        refine ih _ hcntlt fuel _ k rfl (by omega) (by simpa using hsz) hk ?_ hcl' hmv' ?_ (hdef.trans hd') hr'
        · intro i hi1 hi2
          rw [hin i,hchn i hi1 hi2]
          constructor
          · rintro (h | h)
            · exact h
            · omega
          · exact .inl
        · refine ⟨⟨fun i hi => ?_,fun i x hi hx => ?_⟩,fun i dd hi hx => ?_,by simpa using hsim.len⟩
          · by_cases e : d = i
            · subst e
              rw [List.getElem?_set_self',hcd]
              have hl1 : d < st.length ↔ d < (c k).length:=by rw [hsim.len]
              cases hz : st0[d]? with
              | none =>
                rw [hz] at hcd
                have : ¬ d < st.length:=fun h => by
                  have:=List.getElem?_eq_getElem (hl1.1 h)
                  rw [hcd] at this
                  cases this
                rw [List.getElem?_eq_none (by omega)]
                rfl
              | some z =>
                rw [hz] at hcd
                have : d < st.length:=hl1.2 (lt_of_get hcd)
                rw [List.getElem?_eq_getElem this]
                rfl
            · rw [List.getElem?_set_ne e]
              exact hsim.like.same i fun hU => hi ((hU' i).2 ⟨hU,fun h => e h.symm⟩)
          · by_cases e : i = d
            · subst e
              rw [hcd,Option.map_eq_some_iff] at hx
              obtain ⟨_,_,rfl⟩:=hx
              refine within_mono (fun r hr => ?_) _ hyw
              rintro ⟨q,e1,e2,e3⟩
              rcases hr with hr | ⟨m',q1,q2,q3⟩
              · exact hr q e1 e3
              · by_cases he : q = m'
                · subst he; exact e2 q2
                · exact hdis m' q (by omega) e1 he (by rw [e3,q3])
            · refine within_mono (fun r hr h => hr ((hU' r).1 h).1) x (hsim.like.clos i x (fun hU => hi ((hU' i).2 ⟨hU,e⟩)) hx)
          · obtain ⟨hU,hne⟩:=(hU' i).1 hi
            rw [List.getElem?_set_ne (Ne.symm hne)] at hx
            exact hsim.free i dd hU hx
      · -- the next operation of the chain
        have hjk : j = s + k:=by
          have h5 : ¬ j < s + k:=fun h => h2 ((hchn j hjs h1).2 h)
          rcases Nat.lt_or_ge (s + k) j with h | h
          · have:=hanc j h1 h3 (s + k) (htl j h1 hjs (s + k) (by omega) h)
            have:=(hchn (s + k) (by omega) (by omega)).1 this
            omega
          · omega
        subst hjk
        obtain ⟨hst1,_⟩:=hch k h1 _ (List.getElem?_eq_getElem hjm)
        have hUs : ∀ i,Uof ops sg (listed.setIfInBounds (sg.getD (s + k) 0) true) (ms.take s) i ↔ Uof ops sg listed (ms.take s) i:=by
          intro i
          constructor
          · rintro ⟨q,e1,e2,e3⟩
            exact ⟨q,e1,fun h => e2 ((hin q).2 (.inl h)),e3⟩
          · rintro ⟨q,e1,e2,e3⟩
            refine ⟨q,e1,fun h => ?_,e3⟩
            rcases (hin q).1 h with h | h
            · exact e2 h
            · omega
        have hstep : ∃ st',Mx.stepG call st ms[s + k] = some st'∧Sim (Uof ops sg listed (ms.take s)) (c (k + 1)) st':=by
          by_cases hallf : ∀ q,q < s→InP ops sg listed q
          · have hnoU : ∀ i,¬ Uof ops sg listed (ms.take s) i:=fun i ⟨q,e1,e2,_⟩ => e2 (hallf q (by omega))
            have hst : st = c k:=List.ext_getElem? fun i => hsim.like.same i (hnoU i)
            rw [hst]
            refine ⟨_,hst1,⟨fun _ _ => rfl,fun i x _ hx => ?_⟩,fun i d hi => absurd hi (hnoU i),rfl⟩
            exact within_mono (fun r _ => hnoU r) x (within_roots x)
          · obtain ⟨q,hq1,hq2⟩ : ∃ q,q < s∧¬ InP ops sg listed q:=by
              apply Classical.byContradiction
              intro h
              exact hallf fun q hq => Classical.byContradiction fun h2 => h ⟨q,hq,h2⟩
            have hqb : ((ancM (afP (afF ops) sg) ops.size).getD (s + k) 0).testBit q = false:=by
              cases hb : ((ancM (afP (afF ops) sg) ops.size).getD (s + k) 0).testBit q with
              | false => rfl
              | true => exact absurd (hanc (s + k) h1 h3 q hb) hq2
            have he:=hea (s + k) h1 (by omega)
            unfold okEarly at he
            rw [Bool.or_eq_true] at he
            rcases he with he | he
            · have:=List.all_eq_true.1 he q (List.mem_range.2 hq1)
              rw [hqb] at this
              simp only [Bool.or_false,decide_eq_true_eq] at this
              exact absurd (hmv q this) hq2
            · rw [List.getElem?_eq_getElem hjm] at he
              simp only [Bool.and_eq_true] at he
              obtain ⟨⟨⟨k1,k2⟩,k3⟩,k4⟩:=he
              have hg : ms[s + k].g = none:=by simpa using k2
              have hrU : ∀ i ∈ ms[s + k].op.rds,¬ Uof ops sg listed (ms.take s) i:=by
                rintro i hi ⟨q',e1,e2,e3⟩
                have:=List.all_eq_true.1 (List.all_eq_true.1 k3 i hi) q' (List.mem_range.2 (by omega))
                simp only [Bool.or_eq_true,bne_iff_ne,decide_eq_true_eq] at this
                rcases this with (h | h) | h
                · exact h e3
                · exact e2 (hmv q' h)
                · exact e2 (hanc (s + k) h1 h3 q' h)
              have hdU : ∀ d,ms[s + k].op.dst = some d→¬ Uof ops sg listed (ms.take s) d:=by
                rintro d hd ⟨q',e1,e2,e3⟩
                have:=List.all_eq_true.1 k4 q' (List.mem_range.2 (by omega))
                rw [hd,e3] at this
                simp at this
              unfold Mx.stepG at hst1 ⊢
              rw [hg] at hst1 ⊢
              simp only [wanted] at hst1 ⊢
              exact step_sim k1 hsim hrU hdU hst1
        obtain ⟨st',hst2,hsim2⟩:=hstep
        refine wpOp_ok hr hc ho' hcg hst2 (hNF _ _ (List.getElem?_eq_getElem hjm)) fun a' w' ts' hd' hr' => ?_
        refine ih _ hcntlt fuel _ (k + 1) rfl (by omega) (by simpa using hsz) (by omega) ?_ hcl' hmv' ?_ (hdef.trans hd') hr'
        · intro i hi1 hi2
          rw [hin i,hchn i hi1 hi2]
          omega
        · have : Uof ops sg (listed.setIfInBounds (sg.getD (s + k) 0) true) (ms.take s) = Uof ops sg listed (ms.take s):=funext fun i => propext (hUs i)
          rw [this]
          exact hsim2
include hc hNF in
theorem drx_ok0 {sg : List Nat} {os : List Oper} (hsel : sel ops sg = some os) {ms0 : List MG} {s0 : Nat} (hms : compOps P ops os = some ms0) (hX : ms = msX s0 ms0) {mu s : Nat} (hok : okDrawX ops sg mu ms s = true) {lt : List (List (Nat × List Nat))} (hlt : lt = (List.range (ops.size - s)).map fun k => lateOf (ancM (afP (afF ops) sg) ops.size) mu s ms (s + k)) {st st1 st2 : St} {ts : List C} {w : World} (hr : Rel E st ts a0.tmps w) (hs : stepsF call (ms.take s) st = some st1) (ht : stepsX call ((ms.drop s).zip lt) st1 = some st2) {st3 : St} (hfin : ∀ (a' : Act) (w' : World) (ts' : List C),Rel E st2 ts' a'.tmps w'→∃ ts'',Rel E st3 ts'' a'.tmps w') :
    wpAny P .any ops (fun e a' w' => e = .normal∧∃ ts',Kp F a0 a'∧Rel E st3 ts' a'.tmps w') ops.size (Array.replicate ops.size false) a0 { w with drawn:=w.drawn + 1 }:=by
  obtain ⟨hlen0',hget0'⟩:=compOps_get (P:=P) (ops:=ops) _ _ hms
  have hget0 : ∀ (j : Nat) (m : MG),ms[j]? = some m→∃ o : Oper,os[j]? = some o∧cG P ops o m:=by
    intro j m hm
    rw [hX] at hm
    obtain ⟨m0,e1,e2⟩:=msX_get hm
    obtain ⟨o,f1,f2⟩:=hget0' j m0 e1
    exact ⟨o,f1,m0,f2,e2⟩
  obtain ⟨hl1,hsel'⟩:=sel_get _ _ hsel
  have hcond:=hok
  unfold okDrawX at hcond
  simp only [Bool.and_eq_true,decide_eq_true_eq] at hcond
  obtain ⟨⟨⟨⟨⟨⟨⟨c0,hlen⟩,c1⟩,c2⟩,c3⟩,c4⟩,c5⟩,c6⟩:=hcond
  show wpAny P .any ops _ _ _ _ _
  by_cases hfalse : False
  · exact hfalse.elim
  · clear hfalse
    have O : Ord ops sg:=by
      unfold okPerm at c0
      simp only [Bool.and_eq_true,decide_eq_true_eq] at c0
      obtain ⟨⟨⟨⟨p1,p2⟩,p3⟩,p4⟩,p5⟩:=c0
      refine ⟨p1,fun p hp => ?_,fun p q hp hq he => ?_,fun i hi => ?_,fun i hi k hk => ?_⟩
      · have hp' : p < sg.length:=by omega
        have:=List.all_eq_true.1 p4 _ (List.getElem_mem hp')
        rw [List.getD_eq_getElem?_getD,List.getElem?_eq_getElem hp']
        simpa using this
      · have:=List.all_eq_true.1 (List.all_eq_true.1 p3 p (List.mem_range.2 hp)) q (List.mem_range.2 hq)
        simp only [Bool.or_eq_true,beq_iff_eq,bne_iff_ne] at this
        exact this.resolve_right fun h => h he
      · have:=List.all_eq_true.1 p2 i (List.mem_range.2 hi)
        simp only [List.contains_iff_mem] at this
        obtain ⟨p,hp,he⟩:=List.getElem_of_mem this
        exact ⟨p,by omega,by rw [List.getD_eq_getElem?_getD,List.getElem?_eq_getElem hp]; exact he⟩
      · have:=List.all_eq_true.1 (List.all_eq_true.1 p5 i (List.mem_range.2 hi)) k hk
        simpa using this
    have hget : ∀ (j : Nat) (m : MG),ms[j]? = some m→∃ o : Oper,ops[sg.getD j 0]? = some o∧cG P ops o m:=by
      intro j m hm
      obtain ⟨o,h1,h2⟩:=hget0 j m hm
      have hj : j < sg.length:=by have:=lt_of_get hm; rw [O.len]; omega
      obtain ⟨o',h3,h4⟩:=hsel' j _ (List.getElem?_eq_getElem hj)
      rw [h1] at h4
      cases h4
      refine ⟨o,?_,h2⟩
      rw [List.getD_eq_getElem?_getD,List.getElem?_eq_getElem hj]
      exact h3
    have haf : ∀ j,j < ops.size→∀ k ∈ afP (afF ops) sg j,k < j:=by
      intro j hj k hk
      have:=List.all_eq_true.1 (List.all_eq_true.1 c1 j (List.mem_range.2 hj)) k hk
      simpa using this
    have c3' : ∀ j,j < ops.size→s ≤ j→(∀ i,s ≤ i→i < j→((ancM (afP (afF ops) sg) ops.size).getD j 0).testBit i = true)∧okEarly (ancM (afP (afF ops) sg) ops.size) mu s ms j = true:=by
      intro j hj hsj
      have:=List.all_eq_true.1 c3 j (List.mem_range.2 hj)
      simp only [Bool.or_eq_true,decide_eq_true_eq,Bool.and_eq_true] at this
      rcases this with h | ⟨h,h'⟩
      · omega
      · refine ⟨fun i hsi hi => ?_,h'⟩
        have:=List.all_eq_true.1 h i (List.mem_range.2 hi)
        simp only [Bool.or_eq_true,decide_eq_true_eq] at this
        rcases this with h | h
        · omega
        · exact h
    have hF : ∀ (j : Nat) (m : MG),(ms.take s)[j]? = some m→(dstK (ms.take s) j).isSome = true∧(∀ k,k < (ms.take s).length→k = j ∨ dstK (ms.take s) k ≠ dstK (ms.take s) j) ∧
        ∀ i ∈ m.rds,∀ k,k < (ms.take s).length→dstK (ms.take s) k ≠ some i ∨ (k < j∧k ∈ afP (afF ops) sg j):=by
      intro j m hm
      have:=List.all_eq_true.1 c2 j (List.mem_range.2 (lt_of_get hm))
      simp only [hm,Bool.and_eq_true] at this
      obtain ⟨⟨q1,q2⟩,q3⟩:=this
      refine ⟨q1,fun k hk => ?_,fun i hi k hk => ?_⟩
      · have:=List.all_eq_true.1 q2 k (List.mem_range.2 hk)
        simpa using this
      · have:=List.all_eq_true.1 (List.all_eq_true.1 q3 i hi) k (List.mem_range.2 hk)
        simpa using this
    have hdis : ∀ j k,j < (ms.take s).length→k < (ms.take s).length→k ≠ j→dstK (ms.take s) k ≠ dstK (ms.take s) j:=fun j k hj hk hne => ((hF j _ (List.getElem?_eq_getElem hj)).2.1 k hk).resolve_left hne
    have hrd : ∀ j m,(ms.take s)[j]? = some m→∀ i ∈ m.rds,∀ k,k < (ms.take s).length→dstK (ms.take s) k = some i→k < j∧k ∈ afP (afF ops) sg j:=fun j m hm i hi k hk hd => ((hF j m hm).2.2 i hi k hk).resolve_left fun h => h hd
    obtain ⟨y,hy1,hy2⟩:=stepsF_vals _ _ _ hs
    subst hy1
    obtain ⟨c,hc0,hcn,hcs⟩:=stepsX_vals _ _ _ ht
    have hlz : ((ms.drop s).zip lt).length = ops.size - s:=by
      rw [List.length_zip,List.length_drop,hlen,hlt]
      simp
    rw [hlz] at hcn
    subst hcn
    have hch : ∀ k,s + k < ops.size→∀ m,ms[s + k]? = some m→Mx.stepG call (c k) m = some (c (k + 1))∧lateOK (c k) (c (k + 1)) (lateOf (ancM (afP (afF ops) sg) ops.size) mu s ms (s + k)):=by
      intro k hk m hm
      refine hcs k m _ ?_
      rw [List.getElem?_zip_eq_some]
      refine ⟨by rw [List.getElem?_drop]; exact hm,?_⟩
      rw [hlt,List.getElem?_map,List.getElem?_range (by omega)]
      rfl
    have hfree : ∀ m,m < (ms.take s).length→∀ r,dstK (ms.take s) m = some r→isOwn (st.getD r .dead) = false:=by
      intro m hm r hd
      obtain ⟨d,e1,e2,e3⟩:=hy2 m _ (List.getElem?_eq_getElem hm)
      have : d = r:=by simp only [dstK,List.getElem?_eq_getElem hm,Option.bind_some,e1,Option.some.injEq] at hd; exact hd
      subst this
      have e4 : (pre' (ms.take s) y st m)[d]? = st[d]?:=pre_out m fun k hk he => hdis m k hm (by omega) (by omega) (by rw [he,hd])
      unfold free at e2
      rw [e4] at e2
      rw [List.getD_eq_getElem?_getD]
      cases hx : st[d]? with
      | none => rfl
      | some x => simp only [hx] at e2; simpa using e2
    have hout : ∀ (i : Nat) (x : V),st[i]? = some x→x.within fun r => ∀ m,m < (ms.take s).length→dstK (ms.take s) m ≠ some r:=by
      intro i x hx
      have hi : i < st.length:=lt_of_get hx
      have hs':=hr.slot' hx
      by_cases ho : ∃ d,x = .own d
      · obtain ⟨d,rfl⟩:=ho; trivial
      · have hv:=(hs'.nonown fun d hd => ho ⟨d,hd⟩).1
        refine within_mono ?_ x (within_rel hr x _ hv)
        intro r hrr m hm hd
        rw [hfree m hm r hd] at hrr
        cases hrr
    have hfl : (ms.take s).length = s:=by rw [List.length_take,hlen]; omega
    -- what is done behind the first p operations of the order
    have hdone : ∀ p,p ≤ ops.size→(doneL ops.size (sg.take p)).size = ops.size∧∀ q,InP ops sg (doneL ops.size (sg.take p)) q ↔ q < p∧q < ops.size:=by
      intro p
      induction p with
      | zero =>
        intro _
        refine ⟨by simp [doneL],fun q => ⟨fun h => ?_,fun h => by omega⟩⟩
        have h:=h.2
        unfold InL at h
        simp only [List.take_zero,doneL,List.foldl_nil] at h
        rw [Array.getD_eq_getD_getElem?,Array.getElem?_replicate] at h
        split at h <;> simp at h
      | succ p ih =>
        intro hp
        obtain ⟨e1,e2⟩:=ih (by omega)
        have hps : p < sg.length:=by rw [O.len]; omega
        have e3 : doneL ops.size (sg.take (p + 1)) = (doneL ops.size (sg.take p)).setIfInBounds (sg.getD p 0) true:=by
          rw [List.take_add_one,List.getElem?_eq_getElem hps]
          simp only [Option.toList_some,doneL,List.foldl_append,List.foldl_cons,List.foldl_nil]
          rw [List.getD_eq_getElem?_getD,List.getElem?_eq_getElem hps]
          rfl
        rw [e3]
        refine ⟨by simpa using e1,fun q => ?_⟩
        rw [inP_set O e1 (by omega),e2]
        constructor
        · rintro (⟨h1,h2⟩ | rfl)
          · exact ⟨by omega,h2⟩
          · exact ⟨by omega,by omega⟩
        · rintro ⟨h1,h2⟩
          by_cases he : q = p
          · exact .inr he
          · exact .inl ⟨by omega,h2⟩
    -- the moves first
    have main : ∀ (r p : Nat) {ts : List C} {a : Act} {w : World},p + r = mu→Kp F a0 a→Rel E (pre' (ms.take s) y st p) ts a.tmps w →
        wpAny P .any ops (fun e a' w' => e = .normal∧∃ ts',Kp F a0 a'∧Rel E st3 ts' a'.tmps w') (ops.size - p) (doneL ops.size (sg.take p)) a w:=by
      intro r
      induction r with
      | zero =>
        intro p ts a w hp hdef hrel
        have hp : p = mu:=by omega
        subst hp
        obtain ⟨e1,e2⟩:=hdone p (by omega)
        refine mix_ok hc hNF O hlen hget haf c4 c6 (fun j h1 h2 => (c3' j h1 h2).1) (fun j h1 h2 => (c3' j h1 h2).2) hdis hrd (y:=y) (st0:=st) hout hy2 hc0 hch (fun a' w' ts' h1 h2 => (hfin a' w' ts' h2).elim fun t h => ⟨rfl,t,h1,h⟩) _ (ops.size - p) _ 0 rfl ?_ e1 (Nat.zero_le _) ?_ ?_ ?_ ?_ hdef hrel
        · have : ∀ (l : List Nat) (b : Nat→Bool),(∀ i,i < p→b i = false)→(List.range ops.size).countP b ≤ ops.size - p:=by
            intro _ b hb
            obtain ⟨d,hd⟩ : ∃ d,ops.size = p + d:=⟨ops.size - p,by omega⟩
            rw [hd,List.range_add,List.countP_append]
            have z : (List.range p).countP b = 0:=by
              rw [List.countP_eq_zero]
              intro i hi
              rw [hb i (List.mem_range.1 hi)]; simp
            have l2 : ((List.range d).map (p + ·)).countP b ≤ d:=Nat.le_trans List.countP_le_length (by simp)
            omega
          have:=this [] (fun i => !(doneL ops.size (sg.take p)).getD (sg.getD i 0) false) fun i hi => by
            have:=((e2 i).2 ⟨hi,by omega⟩).2
            unfold InL at this
            simp only [this,Bool.not_true]
          omega
        · intro i hi1 hi2
          constructor
          · intro h; have:=(e2 i).1 h; omega
          · intro h; omega
        · intro j hj k hk
          have:=(e2 j).1 hj
          have:=haf j this.2 k hk
          exact (e2 k).2 ⟨by omega,by omega⟩
        · intro i hi; exact (e2 i).2 ⟨hi,by omega⟩
        · have hclp : ∀ j,InP ops sg (doneL ops.size (sg.take p)) j→∀ k ∈ afP (afF ops) sg j,InP ops sg (doneL ops.size (sg.take p)) k:=by
            intro j hj k hk
            have:=(e2 j).1 hj
            have:=haf j this.2 k hk
            exact (e2 k).2 ⟨by omega,by omega⟩
          have hpl : ∀ n,(pre' (ms.take s) y st n).length = st.length:=by
            intro n
            induction n with
            | zero => rfl
            | succ n ih => rw [pre']; split <;> simp [ih]
          rw [hc0]
          refine ⟨⟨fun i hi => ?_,fun i x hi hx => ?_⟩,fun i dd hi hx => ?_,by rw [hpl,hpl]⟩
          · by_cases hd : ∃ q,q < (ms.take s).length∧dstK (ms.take s) q = some i
            · obtain ⟨q,h1,h2⟩:=hd
              have hq : q < p:=by
                rcases Nat.lt_or_ge q p with h | h
                · exact h
                · exact absurd ⟨q,h1,fun h3 => by have:=(e2 q).1 h3; omega,h2⟩ hi
              rw [pre_in hdis h2 p hq (by omega),pre_in hdis h2 _ h1 (Nat.le_refl _)]
            · have hno : ∀ q,q < (ms.take s).length→dstK (ms.take s) q ≠ some i:=fun q hq he => hd ⟨q,hq,he⟩
              rw [pre_out p fun q hq => hno q (by omega),pre_out _ hno]
          · by_cases hd : ∃ q,q < (ms.take s).length∧dstK (ms.take s) q = some i
            · obtain ⟨q,h1,h2⟩:=hd
              have hq : InP ops sg (doneL ops.size (sg.take p)) q:=by
                apply Classical.byContradiction
                intro h; exact hi ⟨q,h1,h,h2⟩
              rw [pre_in hdis h2 _ h1 (Nat.le_refl _),Option.map_eq_some_iff] at hx
              obtain ⟨_,_,rfl⟩:=hx
              have hyw:=y_within hdis hrd hout hy2 hclp q h1 hq
              refine within_mono (fun r hr => ?_) _ hyw
              rintro ⟨q',g1,g2,g3⟩
              rcases hr with hr | ⟨m',q1,q2,q3⟩
              · exact hr q' g1 g3
              · by_cases he : q' = m'
                · subst he; exact g2 q2
                · exact hdis m' q' (by omega) g1 he (by rw [g3,q3])
            · have hno : ∀ q,q < (ms.take s).length→dstK (ms.take s) q ≠ some i:=fun q hq he => hd ⟨q,hq,he⟩
              rw [pre_out _ hno] at hx
              refine within_mono (fun r hr => ?_) x (hout i x hx)
              rintro ⟨q',g1,g2,g3⟩
              exact hr q' g1 g3
          · obtain ⟨q,h1,h2,h3⟩:=hi
            have hq : p ≤ q:=Nat.le_of_not_lt fun h => h2 ((e2 q).2 ⟨h,by omega⟩)
            rw [pre_out p fun q' hq' he => hdis q q' h1 (by omega) (by omega) (by rw [he,h3])] at hx
            obtain ⟨d,f1,f2,f3⟩:=hy2 q _ (List.getElem?_eq_getElem h1)
            have hd : d = i:=by
              simp only [dstK,List.getElem?_eq_getElem h1,Option.bind_some,f1,Option.some.injEq] at h3
              exact h3
            subst hd
            have e4 : (pre' (ms.take s) y st q)[d]? = st[d]?:=pre_out q fun k hk he => hdis q k h1 (by omega) (by omega) (by rw [he,h3])
            unfold free at f2
            rw [e4,hx] at f2
            simp [isOwn] at f2
      | succ r ih =>
        intro p ts a w hp hdef hrel
        have hpm : p < mu:=by omega
        unfold okMv at c5
        simp only [Bool.and_eq_true,Bool.or_eq_true,beq_iff_eq] at c5
        obtain ⟨k1,k2⟩:=c5
        have k3:=List.all_eq_true.1 k2 p (List.mem_range.2 hpm)
        simp only [Bool.and_eq_true] at k3
        obtain ⟨⟨k4,k5⟩,k6⟩:=k3
        have hpms : p < ms.length:=by omega
        have hm : (ms.take s)[p]? = some ms[p]:=by rw [List.getElem?_take,if_pos (by omega),List.getElem?_eq_getElem hpms]
        obtain ⟨o,ho,hcg⟩:=hget p _ (List.getElem?_eq_getElem hpms)
        obtain ⟨d,q1,q2,q3⟩:=hy2 p _ hm
        have hdp : dstK (ms.take s) p = some d:=by simp only [dstK,hm,Option.bind_some,q1]
        obtain ⟨j2,d1,v,r1,r2,r3,r4⟩:=first_ok ho k4 hcg hrel q3
        have hd1 : d1 = d:=by rw [q1] at r1; exact (Option.some.inj r1).symm
        subst hd1
        have hput : (a.put o.dst v).tmps = a.tmps.setIfInBounds d1 v:=by rw [r2]; rfl
        have hrel2:=hrel.set d1 r4
        rw [setv_free q2,← hput] at hrel2
        have e4 : pre' (ms.take s) y st (p + 1) = (pre' (ms.take s) y st p).set d1 (y p):=by rw [pre',hdp]
        rw [← e4] at hrel2
        have hps : p < sg.length:=by rw [O.len]; omega
        have e5 : doneL ops.size (sg.take (p + 1)) = (doneL ops.size (sg.take p)).setIfInBounds (sg.getD p 0) true:=by
          rw [List.take_add_one,List.getElem?_eq_getElem hps]
          simp only [Option.toList_some,doneL,List.foldl_append,List.foldl_cons,List.foldl_nil]
          rw [List.getD_eq_getElem?_getD,List.getElem?_eq_getElem hps]
          rfl
        have hnext:=ih (p + 1) (a:=a.put o.dst v) (w:=w) (by omega) (hdef.trans (Kp.put (fun d hd => hNF p _ (List.getElem?_eq_getElem hpms) d (by rw [cG_dst hcg]; exact hd)) v)) hrel2
        rw [e5] at hnext
        obtain ⟨fu,hfu⟩ : ∃ fu,ops.size - p = fu + 1:=⟨ops.size - p - 1,by omega⟩
        rw [show ops.size - (p + 1) = fu by omega] at hnext
        rw [hfu]
        refine wpAny_take ho (k1.resolve_left (by omega)) k5 k6 (fun c a w h => ?_) (v:=v) (.inl ⟨by simp [Region.wanted,j2],r3⟩) hnext
        exact absurd h.1 (by simp)
    have hfin:=main mu 0 (a:=a0) (w:={ w with drawn:=w.drawn + 1 }) (by omega) (Kp.refl F a0) (hr.grow ⟨rfl,rfl,rfl,Nat.le_refl _,fun _ _ => rfl⟩)
    exact hfin
include hc hNF in
theorem drx_ok {sg : List Nat} {os : List Oper} (hsel : sel ops sg = some os) {ms0 : List MG} {s0 : Nat} (hms : compOps P ops os = some ms0) (hX : ms = msX s0 ms0) {mu s : Nat} (hok : okDrawX ops sg mu ms s = true) {lt : List (List (Nat × List Nat))} (hlt : lt = (List.range (ops.size - s)).map fun k => lateOf (ancM (afP (afF ops) sg) ops.size) mu s ms (s + k)) {g : List Nat} {st st1 st2 st3 : St} {ts : List C} {w : World} (hr : Rel E st ts a0.tmps w) (hs : stepsF call (ms.take s) st = some st1) (ht : stepsX call ((ms.drop s).zip lt) st1 = some st2) (hg : stepsG call (ghoG g) st2 = some st3) :
    wpAny P .any ops (fun e a' w' => e = .normal∧∃ ts',Kp F a0 a'∧Rel E st3 ts' a'.tmps w') ops.size (Array.replicate ops.size false) a0 { w with drawn:=w.drawn + 1 } :=
  drx_ok0 hc hNF hsel hms hX hok hlt hr hs ht fun a' w' ts' h4 => gho_ok g h4 hg
end
end Go.Mx
