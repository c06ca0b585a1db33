import Derived.Test.YthahhbbfhohhfaaMgF
import Derived.Laws.MakeOwn
import Derived.Laws.IdiomStrings
/-
  Mx,part L: new blocks.
-/
namespace Go.Mx
set_option linter.unusedVariables false
set_option linter.unusedSimpArgs false
set_option linter.unusedSectionVars false
open Go
section
variable {P : Program} {E : Env} {st st' : St} {ts : List C} {a : Act} {w : World}
structure Grew (w w' : World) : Prop where
  os : w'.os = w.os
  tape : w'.tape = w.tape
  output : w'.output = w.output
  size : w.heap.size ≤ w'.heap.size
  block : ∀ k,k < w.heap.size→w'.heap[k]? = w.heap[k]?
theorem Grew.push {w w' : World} {o : Obj} (hh : w'.heap = w.heap.push o) (h1 : w'.os = w.os) (h2 : w'.tape = w.tape) (h3 : w'.output = w.output) : Grew w w' :=
  ⟨h1,h2,h3,by rw [hh]; simp,fun k hk => by rw [hh,Array.getElem?_push,if_neg (by omega)]⟩
theorem Rel.grow {tm : Array Value} (h : Rel E st ts tm w) {w' : World} (g : Grew w w') : Rel E st ts tm w':=by
  refine ⟨h.lenT,h.lenM,h.slot,?_,h.uniq,fun b hb => ⟨(h.dom b hb).1,by have:=(h.dom b hb).2; have:=g.size; omega⟩,?_⟩
  · intro i t ht
    refine (h.mem i t ht).same fun b hb => g.block b (h.dom b ?_).2
    have:=cnt_le_cntL b ts i t ht
    omega
  · have k:=h.keep
    exact ⟨g.os.trans k.os,g.tape.trans k.tape,g.output.trans k.output,Nat.le_trans k.size g.size,fun b hb hw => (g.block b (by have:=k.size; have:=k.low; omega)).trans (k.block b hb hw),k.low⟩
theorem new_block {w w' : World} {o : Obj} (hh : w'.heap = w.heap.push o) : w'.heap[w.heap.size]? = some o:=by rw [hh]; simp
theorem MemL.grow {w w' : World} {l : List C} (h : MemL w true l) (g : Grew w w') (hl : ∀ b,cntL b l ≠ 0→b < w.heap.size) : MemL w' true l:=h.same fun b hb => g.block b (hl b hb)
theorem cells_new {w w' : World} {arr : Array Value} {e : TypeId} {fr : Nat × Nat} (hh : w'.heap = w.heap.push (.cells arr e fr)) {vs : List Value} (h : ∀ (i : Nat) v,vs[i]? = some v→arr[i]? = some v) : Cells w' ⟨w.heap.size,0,none⟩ vs:=by
  intro i v hv
  rw [Addr.add_lit,Nat.zero_add]
  simp only [World.cell?,new_block hh]
  exact h i v hv
theorem Rel.fresh {st0 : St} {ts0 : List C} {tm : Array Value} (h0 : Rel E st0 ts0 tm w) (h : Rel E st ts tm w) {kids : List C} (hk : MemL w true kids) (hc : ∀ b,cntL b ts + cntL b kids ≤ cntL b ts0)
    {w' : World} {arr : Array Value} {e : TypeId} {lo hi : Nat} (hh : w'.heap = w.heap.push (.cells arr e (lo,hi))) (hw1 : w'.os = w.os) (hw2 : w'.tape = w.tape) (hw3 : w'.output = w.output)
    (hfr : lo = hi ∨ arr.size ≤ lo) (harr : ∀ (i : Nat) v,(valL kids)[i]? = some v→arr[i]? = some v) (d : Nat) {k : K Dec}
    (hkk : (∃ cap es n,k = .sl ⟨some ⟨w.heap.size,0,none⟩,cap,undef⟩ es n∧kids.length = n * es∧n ≤ cap∧cap * es ≤ arr.size) ∨ (k = .bx ⟨some ⟨w.heap.size,0,none⟩,0,undef⟩∧kids.length ≤ arr.size)) :
    Rel E (setv st d (.own (er (.nd k kids)))) (ts.set d (.nd k kids)) (tm.setIfInBounds d (val (.nd k kids))) w':=by
  have g:=Grew.push hh hw1 hw2 hw3
  have hlt : ∀ b,cntL b kids ≠ 0→¬ Old E b∧b < w.heap.size:=fun b hb => h0.dom b (by have:=hc b; omega)
  have hdomts : cntL w.heap.size ts = 0:=by
    by_cases hz : cntL w.heap.size ts = 0
    · exact hz
    · have:=(h.dom _ hz).2; omega
  have hdomk : cntL w.heap.size kids = 0:=by
    by_cases hz : cntL w.heap.size kids = 0
    · exact hz
    · have:=(hlt _ hz).2; omega
  have hcells:=cells_new hh harr
  have hrow : Row w' w.heap.size arr.size:=⟨arr,e,lo,hi,new_block hh,Nat.le_refl _,hfr⟩
  have hown : ∀ b,k.own b ≤ 1∧(k.own b ≠ 0→b = w.heap.size):=by
    intro b
    rcases hkk with ⟨cap,es,n,rfl,_⟩ | ⟨rfl,_⟩
    · simp only [K.own,Option.map_some,Option.some.injEq]
      split
      · rename_i hq; exact ⟨Nat.le_refl _,fun _ => hq.2.symm⟩
      · exact ⟨by omega,fun hne => absurd rfl hne⟩
    · simp only [K.own,Option.map_some,Option.some.injEq]
      split
      · rename_i hq; exact ⟨Nat.le_refl _,fun _ => hq.symm⟩
      · exact ⟨by omega,fun hne => absurd rfl hne⟩
  refine (h.grow g).setOwn d ⟨k,kids,rfl⟩ ⟨?_,hk.grow g fun b hb => (hlt b hb).2⟩ ?_
  · rcases hkk with ⟨cap,es,n,rfl,h1,h2,h3⟩ | ⟨rfl,h1⟩
    · refine ⟨by rw [valL_len,h1],h2,(by intro hn; cases hn),?_⟩
      intro ad had
      cases had
      exact ⟨hcells,fun _ _ => ⟨rfl,hrow.le (by simpa using h3)⟩⟩
    · exact ⟨_,rfl,hcells,fun _ => ⟨rfl,hrow.le (by simpa [valL_len] using h1)⟩⟩
  · intro b hb
    simp only [cnt] at hb ⊢
    obtain ⟨o1,o2⟩:=hown b
    by_cases hz : k.own b = 0
    · have hkb : cntL b kids ≠ 0:=by omega
      have h1:=hc b
      have h2:=h0.uniq b
      obtain ⟨h3,h4⟩:=hlt b hkb
      exact ⟨by omega,by omega,h3,by have:=g.size; omega⟩
    · have hbs:=o2 hz
      subst hbs
      refine ⟨hdomts,by omega,?_,by rw [hh]; simp⟩
      intro ho
      have:=ho.1
      have:=h.keep.low
      have:=h.keep.size
      omega
theorem sameZ_ok {d : D} {v : Value} (h : sameZ d v = true) : Kon d v:=by
  unfold sameZ at h
  split at h
  · simp at h; subst h; exact scConst_kon
  · simp at h; obtain ⟨rfl,rfl⟩:=h; exact scConst_kon
  · simp at h
    obtain ⟨rfl,rfl⟩:=h; exact scConst_kon
  · exact scConst_kon
  · exact scConst_kon
  · exact scConst_kon
  · exact scConst_kon
  · rename_i es
    exact ⟨.nd (.sl ⟨none,0,undef⟩ es 0) [],rfl,rfl,fun w o => ⟨⟨by simp [valL],by simp,fun _ => rfl,fun a ha => by cases ha⟩,trivial⟩,fun b => by simp [cnt,K.own,cntL]⟩
  · cases h
def KonL (ds : List D) (us : List Value) : Prop:=∃ l : List C,erL l = ds∧valL l = us∧(∀ w o,MemL w o l)∧∀ b,cntL b l = 0
theorem KonL.nil : KonL [] []:=⟨[],rfl,rfl,fun _ _ => trivial,fun _ => rfl⟩
theorem KonL.cons {d : D} {ds : List D} {u : Value} {us : List Value} (h : Kon d u) (k : KonL ds us) : KonL (d :: ds) (u :: us):=by
  obtain ⟨t,h1,h2,h3,h4⟩:=h
  obtain ⟨l,k1,k2,k3,k4⟩:=k
  exact ⟨t :: l,by rw [erL,h1,k1],by rw [valL,h2,k2],fun w o => ⟨h3 w o,k3 w o⟩,fun b => by rw [cntL,h4,k4]⟩
theorem KonL.append {ds ds' : List D} {us us' : List Value} (h : KonL ds us) (k : KonL ds' us') : KonL (ds ++ ds') (us ++ us'):=by
  obtain ⟨l,h1,h2,h3,h4⟩:=h
  obtain ⟨m,k1,k2,k3,k4⟩:=k
  refine ⟨l ++ m,by rw [erL_eq,List.map_append,← erL_eq,← erL_eq,h1,k1],by rw [valL_eq,List.map_append,← valL_eq,← valL_eq,h2,k2],fun w o => ?_,fun b => by rw [cntL_append,h4,k4]⟩
  rw [MemL_iff]
  intro t ht
  rcases List.mem_append.1 ht with ht | ht
  · exact MemL_iff.1 (h3 w o) t ht
  · exact MemL_iff.1 (k3 w o) t ht
theorem reps_succ {α : Type} (n : Nat) (l : List α) : reps (n + 1) l = l ++ reps n l:=by simp [reps,List.replicate_succ]
theorem KonL.reps {ds : List D} {us : List Value} (h : KonL ds us) (n : Nat) : KonL (reps n ds) (Mx.reps n us):=by
  induction n with
  | zero => exact KonL.nil
  | succ n ih => rw [reps_succ,reps_succ]; exact h.append ih
theorem reps_len {α : Type} (n : Nat) (l : List α) : (reps n l).length = n * l.length:=by
  induction n with
  | zero => simp [reps]
  | succ n ih => rw [reps_succ,List.length_append,ih,Nat.succ_mul]; omega
theorem reps_get {α : Type} (n : Nat) (l : List α) (i : Nat) (h : i < n * l.length) : (reps n l)[i]? = l[i % l.length]?:=by
  induction n generalizing i with
  | zero => simp at h
  | succ n ih =>
    rw [reps_succ]
    rw [Nat.succ_mul] at h
    by_cases hi : i < l.length
    · rw [List.getElem?_append_left hi,Nat.mod_eq_of_lt hi]
    · have e1 : i % l.length = (i - l.length) % l.length:=Nat.mod_eq_sub_mod (by omega)
      rw [List.getElem?_append_right (by omega),ih _ (by omega),e1]
theorem sameZs_ok {ds : List D} {vs : List Value} (h : sameZs ds vs = true) : KonL ds vs:=by
  induction ds generalizing vs with
  | nil => cases vs with
    | nil => exact KonL.nil
    | cons _ _ => simp [sameZs] at h
  | cons d ds ih => cases vs with
    | nil => simp [sameZs] at h
    | cons v vs =>
      simp only [sameZs,Bool.and_eq_true] at h
      exact KonL.cons (sameZ_ok h.1) (ih h.2)
theorem zeroOf_ok {t : TypeId} {ds : List D} (h : zeroOf P t = some ds) : ∃ i z,P.info? t = some i∧i.zero = some z∧KonL ds z.cells.toList∧ds.length = i.size:=by
  unfold zeroOf at h
  split at h
  · rename_i ds' i h1 h2
    split at h
    · rename_i z hz
      split at h
      · rename_i hc
        cases h
        exact ⟨i,z,h2,hz,sameZs_ok hc.1,hc.2⟩
      · cases h
    · cases h
  · cases h
theorem KonL.len {ds : List D} {us : List Value} (h : KonL ds us) : ds.length = us.length:=by
  obtain ⟨l,rfl,rfl,_⟩:=h
  rw [erL_len,valL_len]
theorem alc_ok (hr : Rel E st ts a.tmps w) {o : Oper} {t : TypeId} (ho : o.op = .alloc t) {ds : List D} (hz : zeroOf P t = some ds) {d : Nat} (hd : o.dst = some d)
    {call : Oracle} (hs : step call st (.alc d ds) = some st') : Goes P E o a w st':=by
  simp only [step,Option.some.injEq] at hs
  subst hs
  obtain ⟨i,z,h1,h2,⟨l,h3,h4,h5,h6⟩,h7⟩:=zeroOf_ok hz
  have hfr:=hr.fresh hr (kids:=l) (h5 w true) (fun b => by rw [h6]; omega) (w':=w.alloc (.cells z.cells t)) (arr:=z.cells) (e:=t) (lo:=0) (hi:=0) rfl rfl rfl rfl (.inl rfl)
    (fun i v hv => by rw [h4] at hv; simpa using hv) d (k:=.bx ⟨some ⟨w.heap.size,0,none⟩,0,undef⟩) (.inr ⟨rfl,by rw [← valL_len,h4]; simp⟩)
  refine goes_value (v:=.pointer (some ⟨w.heap.size,0,none⟩)) (w':=w.alloc (.cells z.cells t)) ?_ ?_ (ts':=ts.set d (.nd (.bx ⟨some ⟨w.heap.size,0,none⟩,0,undef⟩) l))
  · simp [execOp,ho,Instr.alloc,zeroValue,typeInfo,h1,h2,newVar,newRow]
  · rw [hd]
    have e1 : er (.nd (.bx ⟨some ⟨w.heap.size,0,none⟩,0,undef⟩) l) = T.nd (.bx false) ds:=by rw [er,h3]; rfl
    rw [e1] at hfr
    exact hfr
theorem mks_ok (hr : Rel E st ts a.tmps w) {o : Oper} {t e : TypeId} {x y : Operand} (ho : o.op = .makeSlice t x y) (ht : P.underlying t = some (.slice e)) {es : Nat} (hes : sizeT P e = some es) {ds : List D} (hz : zeroOf P e = some ds)
    (hby : (P.info? e).any (fun i => i.bytes ≤ 4096) = true) {d e1 e2 : Nat} (hd : o.dst = some d) {mx my : MO} (hx : opd e1 x = some mx) (hy : opd e2 y = some my)
    {call : Oracle} (hs : step call st (.mks d es ds mx my) = some st') : Goes P E o a w st':=by
  simp only [step] at hs
  split at hs
  · rename_i n m hn hm
    obtain ⟨k1,hk1⟩:=ev_nat hr hx hn
    obtain ⟨k2,hk2⟩:=ev_nat hr hy hm
    split at hs
    · rename_i hc
      cases hs
      obtain ⟨i,z,h1,h2,hkon,h7⟩:=zeroOf_ok hz
      have hsz : i.size = es:=by simp [sizeT,h1] at hes; exact hes
      have hbytes : i.bytes ≤ 4096:=by simp [h1] at hby; exact hby
      obtain ⟨l,h3,h4,h5,h6⟩:=hkon.reps n
      have hlen:=hkon.len
      rw [h7,hsz] at hlen
      have hm36 : m ≤ 2 ^ 36:=hc.2
      have hrun:=run_make (P:=P) w t e i z ht h1 h2 k1 k2 (n : Int) (m : Int) (by omega) (by omega)
        (by have : i.bytes * m ≤ 4096 * 2 ^ 36:=Nat.mul_le_mul hbytes hm36
            have h9 : ((i.bytes * m : Nat) : Int) ≤ 281474976710656:=by omega
            rwa [Int.natCast_mul] at h9) (by omega)
      simp only [Int.toNat_natCast] at hrun
      have hll : l.length = n * es:=by rw [← valL_len,h4,reps_len,← hlen]
      have hfr:=hr.fresh hr (kids:=l) (h5 w true) (fun b => by rw [h6]; omega) (w':=w.alloc (.cells (madeCells z.cells (m * i.size)) e)) (arr:=madeCells z.cells (m * i.size)) (e:=e) (lo:=0) (hi:=0) rfl rfl rfl rfl (.inl rfl)
        (fun j v hv => by
          have hj:=lt_of_get hv
          rw [valL_len,hll] at hj
          rw [h4,reps_get _ _ _ (by rw [← hlen]; exact hj)] at hv
          have hjm : j < m * i.size:=by
            rw [hsz]
            exact Nat.lt_of_lt_of_le hj (Nat.mul_le_mul_right _ hc.1)
          simp only [madeCells]
          rw [Array.getElem?_map,Array.getElem?_range,if_pos hjm]
          simp only [Option.map_some]
          rw [Array.length_toList,Array.getElem?_toList] at hv
          rw [getElem!_def,hv]) d (k:=.sl ⟨some ⟨w.heap.size,0,none⟩,m,undef⟩ es n) (.inl ⟨m,es,n,rfl,hll,hc.1,by rw [size_madeCells,hsz]; omega⟩)
      refine goes_value (v:=.slice (some ⟨w.heap.size,0,none⟩) n m) (w':=w.alloc (.cells (madeCells z.cells (m * i.size)) e)) ?_ ?_ (ts':=ts.set d (.nd (.sl ⟨some ⟨w.heap.size,0,none⟩,m,undef⟩ es n) l))
      · simp [execOp,ho,hk1,hk2,hrun]
      · rw [hd]
        have e1 : er (.nd (.sl ⟨some ⟨w.heap.size,0,none⟩,m,undef⟩ es n) l) = T.nd (.sl false es n) (reps n ds):=by rw [er,h3]; rfl
        rw [e1] at hfr
        exact hfr
    · cases hs
  · cases hs
theorem cntL_vv (b : Nat) (l : List Value) : cntL b (l.map T.v : List C) = 0:=by
  induction l with
  | nil => rfl
  | cons x xs ih => simp [cntL,cnt,ih]
theorem MemL_vv (w : World) (o : Bool) (l : List Value) : MemL w o (l.map T.v : List C):=by
  induction l with
  | nil => trivial
  | cons x xs ih => exact ⟨trivial,ih⟩
theorem Row.freeze {w : World} {b m k : Nat} (h : Row w b m) {b0 : Nat} (hk : ∀ arr e fr,w.heap[b0]? = some (.cells arr e fr)→k = arr.size) : Row (w.freeze ⟨b0,k,none⟩ 1) b m:=by
  obtain ⟨arr,e,lo,hi,h1,h2,h3⟩:=h
  by_cases hb : b0 = b
  · subst hb
    have:=hk arr e (lo,hi) h1
    subst this
    refine ⟨arr,e,(if lo == hi then (arr.size,arr.size + 1) else (min lo arr.size,max hi (arr.size + 1))).1,(if lo == hi then (arr.size,arr.size + 1) else (min lo arr.size,max hi (arr.size + 1))).2,?_,h2,?_⟩
    · simp only [World.freeze,Nat.one_ne_zero,if_false,Array.getElem?_modify,if_true,h1,Option.map_some]
    · by_cases hl : lo = hi
      · simp [hl]; omega
      · have : (lo == hi) = false:=by simpa using hl
        rw [this]
        simp only [Bool.false_eq_true,if_false]
        right
        omega
  · refine ⟨arr,e,lo,hi,?_,h2,h3⟩
    simp only [World.freeze,Nat.one_ne_zero,if_false,Array.getElem?_modify,if_neg hb,h1]
theorem Cells.freeze {w : World} {a : Addr} {vs : List Value} (h : Cells w a vs) (b0 k : Nat) : Cells (w.freeze ⟨b0,k,none⟩ 1) a vs:=by
  intro i u hu
  have:=h i u hu
  rw [← this]
  simp only [World.cell?,World.freeze]
  simp only [Nat.one_ne_zero,if_false,Array.getElem?_modify]
  by_cases hb : b0 = (a.add i).block
  · rw [if_pos hb]
    cases hx : w.heap[(a.add i).block]? with
    | none => rfl
    | some o => cases o <;> rfl
  · rw [if_neg hb]
theorem K.ok_freeze {w : World} {o : Bool} {vs : List Value} {k : K Dec} (h : k.ok w o vs) {b0 n : Nat} (hk : ∀ arr e fr,w.heap[b0]? = some (.cells arr e fr)→n = arr.size) : k.ok (w.freeze ⟨b0,n,none⟩ 1) o vs:=by
  cases k with
  | sl d es m =>
    obtain ⟨h1,h2,h3,h4⟩:=h
    exact ⟨h1,h2,h3,fun a ha => ⟨(h4 a ha).1.freeze _ _,fun ho hne => ⟨((h4 a ha).2 ho hne).1,((h4 a ha).2 ho hne).2.freeze hk⟩⟩⟩
  | bx d =>
    obtain ⟨a,ha,h1,h2⟩:=h
    exact ⟨a,ha,h1.freeze _ _,fun ho => ⟨(h2 ho).1,(h2 ho).2.freeze hk⟩⟩
  | ag => trivial
  | tu => trivial
  | fn f nf => trivial
mutual
theorem Mem.freeze {w : World} {o : Bool} {b0 n : Nat} (hk : ∀ arr e fr,w.heap[b0]? = some (.cells arr e fr)→n = arr.size) : ∀ {t : C},Mem w o t→Mem (w.freeze ⟨b0,n,none⟩ 1) o t
  | .v _,_ => trivial
  | .hole _,_ => trivial
  | .nd k kids,h => by
    simp only [Mem] at h ⊢
    exact ⟨K.ok_freeze h.1 hk,MemL.freeze hk h.2⟩
theorem MemL.freeze {w : World} {o : Bool} {b0 n : Nat} (hk : ∀ arr e fr,w.heap[b0]? = some (.cells arr e fr)→n = arr.size) : ∀ {l : List C},MemL w o l→MemL (w.freeze ⟨b0,n,none⟩ 1) o l
  | [],_ => trivial
  | t :: ts,h => by
    simp only [MemL] at h ⊢
    exact ⟨Mem.freeze hk h.1,MemL.freeze hk h.2⟩
end
theorem Rel.freeze {tm : Array Value} (h : Rel E st ts tm w) {b0 n : Nat} (hk : ∀ arr e fr,w.heap[b0]? = some (.cells arr e fr)→n = arr.size) (hold : ¬ Old E b0) : Rel E st ts tm (w.freeze ⟨b0,n,none⟩ 1):=by
  have hs : (w.freeze ⟨b0,n,none⟩ 1).heap.size = w.heap.size:=by simp [World.freeze]
  refine ⟨h.lenT,h.lenM,h.slot,fun i t ht => (h.mem i t ht).freeze hk,h.uniq,fun b hb => ⟨(h.dom b hb).1,by rw [hs]; exact (h.dom b hb).2⟩,?_⟩
  have k:=h.keep
  refine ⟨k.os,k.tape,k.output,by rw [hs]; exact k.size,fun b hb hw => ?_,k.low⟩
  rw [← k.block b hb hw]
  have : ¬ b0 = b:=by rintro rfl; exact hold ⟨hb,hw⟩
  simp only [World.freeze,Nat.one_ne_zero,if_false,Array.getElem?_modify,if_neg this]
theorem cvm_ok (hr : Rel E st ts a.tmps w) {o : Oper} {t e : TypeId} {x : Operand} (ho : o.op = .convert t t x) (hut : P.underlying t = some (.slice e)) (hue : P.underlying e = some (.int .u8))
    {d es : Nat} (hd : o.dst = some d) {m : MO} (hm : opd es x = some m) {call : Oracle} (hs : step call st (.cvm d m) = some st') : Goes P E o a w st':=by
  have hv:=ev_ok hr (opd_ok (a:=a) hm)
  simp only [step] at hs
  split at hs
  · rename_i r p hev
    rw [hev] at hv
    split at hs
    · rename_i es' n kids hp
      split at hs
      · rename_i hn
        cases hs
        obtain ⟨t0,s,h1,h2,h3,_⟩:=hr.place hp
        have hv':=hv
        obtain ⟨t1,k,kids',f1,f2,f3⟩:=hv
        rw [h1] at f1; cases f1
        rw [h2] at f2; cases f2
        obtain ⟨dd,ks,he,hks,hna⟩:=er_sl h3
        cases he
        have hm:=Mem_getAt (hr.mem r _ h1) h2
        obtain ⟨aa,haa⟩ : ∃ aa,dd.a = some aa:=by
          cases hda : dd.a with
          | none => rw [hda] at hna; cases hna
          | some aa => exact ⟨aa,rfl⟩
        simp only [Mem] at hm
        obtain ⟨⟨m1,m2,m3,m4⟩,_⟩:=hm
        have hcap : dd.cap ≠ 0:=by omega
        obtain ⟨hspot,hrow⟩:=(m4 aa haa).2 rfl hcap
        obtain ⟨arr,e0,lo,hi,g1,g2,g3⟩:=hrow
        have hold : ¬ Old E aa.block:=by
          refine (hr.dom aa.block ?_).1
          have q1:=cnt_getAt aa.block _ p _ h2
          have q2:=cnt_le_cntL aa.block ts r _ h1
          have q3 : (K.sl dd es' n).own aa.block = 1:=by simp [K.own,hcap,haa]
          simp only [cnt] at q1
          omega
        have hrf:=hr.freeze (b0:=aa.block) (n:=arr.size) (fun arr' e' fr' h' => by rw [g1] at h'; cases h'; rfl) hold
        have hu : a.eval x = .slice (some aa) n dd.cap:=by rw [← f3,val,K.val,haa]
        refine goes_value (v:=a.eval x) (w':=w.freeze ⟨aa.block,arr.size,none⟩ 1) ?_ ?_ (ts':=ts.set d (.v undef))
        · simp only [execOp,ho]
          rw [Sem.run_bind]
          have hsh : w.shape? aa.block = some (e0,arr.size):=by simp [World.shape?,g1]
          have hc : (convert t t (a.eval x)).run P w = .ok (a.eval x) (w.freeze ⟨aa.block,arr.size,none⟩ 1):=by
            rw [hu]
            simp [convert,run_underlying hut,run_underlying hue,markStringish,hsh]
          rw [hc]
          rfl
        · rw [hd]
          exact hrf.set d hv'
      · cases hs
    · cases hs
  · cases hs
theorem cvb_ok (hr : Rel E st ts a.tmps w) {o : Oper} {s t e : TypeId} {x : Operand} (ho : o.op = .convert s t x) (hus : P.underlying s = some .string) (hut : P.underlying t = some (.slice e)) (hue : P.underlying e = some (.int .u8))
    {d es : Nat} (hd : o.dst = some d) {m : MO} (hm : opd es x = some m) {call : Oracle} (hs : step call st (.cvb d m) = some st') : Goes P E o a w st':=by
  simp only [step] at hs
  split at hs
  · rename_i sv hev
    split at hs
    · cases hs
      have hu : a.eval x = .string sv:=ev_sc hr hm hev
      have hrun:=run_bytes_of_string (P:=P) w s t e sv hus hut hue
      have hge:=grownCap_ge w sv.size 0 e
      have hlen : (sv.data.toList.map fun b => Value.int .u8 (b.toNat : Int)).length = sv.size:=by rw [List.length_map,Array.length_toList]; rfl
      have harr : (bytesRow sv (grownCap w sv.size 0 e)).size = grownCap w sv.size 0 e:=by
        unfold bytesRow
        rw [Array.size_append,Array.size_map,Array.size_replicate]
        show sv.size + _ = _
        omega
      have hfr:=hr.fresh hr (kids:=(sv.data.toList.map fun b => Value.int .u8 (b.toNat : Int)).map T.v) (MemL_vv w true _) (fun b => by rw [cntL_vv]; omega)
        (w':=w.drew.alloc (.cells (bytesRow sv (grownCap w sv.size 0 e)) e ((bytesRow sv (grownCap w sv.size 0 e)).size,(bytesRow sv (grownCap w sv.size 0 e)).size + 1)))
        (arr:=bytesRow sv (grownCap w sv.size 0 e)) (e:=e) (lo:=(bytesRow sv (grownCap w sv.size 0 e)).size) (hi:=(bytesRow sv (grownCap w sv.size 0 e)).size + 1) rfl rfl rfl rfl (.inr (Nat.le_refl _))
        (fun j v hv => by
          rw [valL_v] at hv
          have hj:=lt_of_get hv
          rw [hlen] at hj
          unfold bytesRow
          rw [Array.getElem?_append_left (by rw [Array.size_map]; exact hj),Array.getElem?_map]
          rw [List.getElem?_map,Array.getElem?_toList] at hv
          exact hv) d (k:=.sl ⟨some ⟨w.heap.size,0,none⟩,grownCap w sv.size 0 e,undef⟩ 1 sv.size)
        (.inl ⟨_,_,_,rfl,by rw [List.length_map,hlen]; omega,hge,by rw [harr]; omega⟩)
      refine goes_value (v:=.slice (some ⟨w.heap.size,0,none⟩) sv.size (grownCap w sv.size 0 e)) (w':=w.drew.alloc (.cells (bytesRow sv (grownCap w sv.size 0 e)) e ((bytesRow sv (grownCap w sv.size 0 e)).size,(bytesRow sv (grownCap w sv.size 0 e)).size + 1))) ?_ ?_ (ts':=ts.set d (.nd (.sl ⟨some ⟨w.heap.size,0,none⟩,grownCap w sv.size 0 e,undef⟩ 1 sv.size) ((sv.data.toList.map fun b => Value.int .u8 (b.toNat : Int)).map T.v)))
      · simp only [execOp,ho,hu]
        rw [Sem.run_bind,hrun]
        rfl
      · rw [hd]
        have e1 : er (.nd (.sl ⟨some ⟨w.heap.size,0,none⟩,grownCap w sv.size 0 e,undef⟩ 1 sv.size) ((sv.data.toList.map fun b => Value.int .u8 (b.toNat : Int)).map T.v)) = T.nd (.sl false 1 sv.size) (bytesD sv):=by
          rw [er,erL_v,List.map_map]; rfl
        rw [e1] at hfr
        exact hfr
    · cases hs
  · cases hs
def cellsOfC : C→List C
  | .nd .ag kids => kids
  | t => [t]
theorem erL_cellsOf (t : C) : erL (cellsOfC t) = cellsOfD (er t):=by
  cases t with
  | v x => rfl
  | hole d => rfl
  | nd k kids => cases k <;> simp [cellsOfC,cellsOfD,er,K.er,erL]
theorem flat_one {t : C} (h : flatOk (er t) = true) : (val t).oneCell' = true:=by
  cases t with
  | v x => simp only [er,flatOk] at h; simpa [val] using h
  | hole d => simp [er,flatOk] at h
  | nd k kids => cases k <;> simp [er,K.er,flatOk] at h <;> simp [val,K.val,Value.oneCell']
theorem cells_one {v : Value} (h : v.oneCell' = true) : v.cells = #[v]:=by cases v <;> first | rfl | simp [Value.oneCell'] at h
theorem val_cellsOf {t : C} (h : (cellsOfD (er t)).all flatOk = true) : (val t).cells = (valL (cellsOfC t)).toArray:=by
  have key : (∀ kids,t ≠ .nd .ag kids)→(val t).cells = (valL (cellsOfC t)).toArray:=by
    intro hne
    have h1 : cellsOfC t = [t]:=by
      cases t with
      | v x => rfl
      | hole d => rfl
      | nd k kids => cases k <;> first | rfl | exact absurd rfl (hne kids)
    have h2 : cellsOfD (er t) = [er t]:=by rw [← erL_cellsOf,h1]; rfl
    rw [h2] at h
    simp only [List.all_cons,List.all_nil,Bool.and_true] at h
    rw [cells_one (flat_one h),h1]; rfl
  cases t with
  | v x => exact key (by simp)
  | hole d => exact key (by simp)
  | nd k kids =>
    cases k with
    | ag => simp [val,K.val,Value.cells,cellsOfC]
    | _ => exact key (by simp)
theorem Mem_cellsOf {o : Bool} {t : C} (h : Mem w o t) : MemL w o (cellsOfC t):=by
  cases t with
  | v x => exact ⟨h,trivial⟩
  | hole d => exact ⟨h,trivial⟩
  | nd k kids =>
    cases k with
    | ag => exact h.2
    | _ => exact ⟨h,trivial⟩
theorem cnt_cellsOf (b : Nat) (t : C) : cntL b (cellsOfC t) = cnt b t:=by
  cases t with
  | v x => rfl
  | hole d => rfl
  | nd k kids => cases k <;> simp [cellsOfC,cntL,cnt,K.own]
theorem all_one {l : List C} (h : (erL l).all flatOk = true) : ∀ v ∈ valL l,v.oneCell' = true:=by
  intro v hv
  rw [valL_eq] at hv
  obtain ⟨t,ht,rfl⟩:=List.mem_map.1 hv
  rw [erL_eq,List.all_map,List.all_eq_true] at h
  exact flat_one (h t ht)
theorem box_ok (hr : Rel E st ts a.tmps w) {o : Oper} {t : TypeId} {x : Operand} (ho : o.op = .box t x) {d es : Nat} (hd : o.dst = some d) {m : MO} (hm : opd es x = some m)
    {call : Oracle} (hs : step call st (.box d m) = some st') : Goes P E o a w st':=by
  simp only [step] at hs
  cases htk : take st (ev st m) with
  | none => simp [htk] at hs
  | some q =>
    obtain ⟨dd,st1⟩:=q
    simp only [htk] at hs
    split at hs
    · rename_i hfl
      cases hs
      obtain ⟨tt,ts1,h1,h2,h3,h4,h5,h6⟩:=take_ok _ (ev_ok hr (opd_ok (a:=a) hm)) (Evolve.refl _) hr htk
      subst h1
      have hcv:=val_cellsOf hfl
      rw [h2] at hcv
      have hfr:=hr.fresh h4 (kids:=cellsOfC tt) (Mem_cellsOf h3) (fun b => by rw [cnt_cellsOf]; exact h6 b) (w':=w.alloc (.cells (a.eval x).cells t)) (arr:=(a.eval x).cells) (e:=t) (lo:=0) (hi:=0) rfl rfl rfl rfl (.inl rfl)
        (fun i v hv => by rw [hcv]; simpa using hv) d (k:=.bx ⟨some ⟨w.heap.size,0,none⟩,0,undef⟩) (.inr ⟨rfl,by rw [hcv]; simp [valL_len]⟩)
      refine goes_value (v:=.pointer (some ⟨w.heap.size,0,none⟩)) (w':=w.alloc (.cells (a.eval x).cells t)) ?_ ?_ (ts':=ts1.set d (.nd (.bx ⟨some ⟨w.heap.size,0,none⟩,0,undef⟩) (cellsOfC tt)))
      · simp [execOp,ho,Instr.box,newVar,newRow]
      · rw [hd]
        have e1 : er (.nd (.bx ⟨some ⟨w.heap.size,0,none⟩,0,undef⟩) (cellsOfC tt)) = T.nd (.bx false) (cellsOfD (er tt)):=by rw [er,erL_cellsOf]; rfl
        rw [e1] at hfr
        exact hfr
    · cases hs
end
end Go.Mx
namespace Go.Mx
set_option linter.unusedVariables false
set_option linter.unusedSimpArgs false
set_option linter.unusedSectionVars false
open Go
section
variable {P : Program} {E : Env} {st st' : St} {ts : List C} {a : Act} {w : World}
theorem take_set_succ {α : Type} (l : List α) (i : Nat) (v : α) (h : i < l.length) : (l.set i v).take (i + 1) = l.take i ++ [v]:=by
  rw [List.set_eq_take_append_cons_drop,if_pos h,List.take_append]
  have h1 : (l.take i).length = i:=by simp; omega
  rw [h1,List.take_of_length_le (by omega),show i + 1 - i = 1 by omega]
  rfl
theorem set_cells (off : Nat) : ∀ (l : List Value) (k : Nat) (cells : Array Value),off + k + l.length ≤ cells.size →
    (((l.zipIdx k).foldl (fun cs cj => cs.setIfInBounds (off + cj.2) cj.1) cells).toList) = cells.toList.take (off + k) ++ l ++ cells.toList.drop (off + k + l.length)
  | [],k,cells,_ => by simp
  | v :: l,k,cells,h => by
    simp only [List.length_cons] at h
    simp only [List.zipIdx_cons,List.foldl_cons]
    rw [set_cells off l (k + 1) _ (by simp; omega)]
    simp only [Array.toList_setIfInBounds,List.length_cons]
    have hlt : off + k < cells.toList.length:=by simp; omega
    rw [show off + (k + 1) = off + k + 1 by omega,take_set_succ _ _ _ hlt,List.drop_set_of_lt (by omega)]
    simp only [List.append_assoc,List.singleton_append,List.cons_append,List.nil_append]
    rw [show off + k + 1 + l.length = off + k + (l.length + 1) by omega]
theorem layAt_some {α : Type} {cells ds out : List α} {off : Nat} (h : (if off + ds.length ≤ cells.length then some (cells.take off ++ ds ++ cells.drop (off + ds.length)) else none) = some out) :
    off + ds.length ≤ cells.length∧out = cells.take off ++ ds ++ cells.drop (off + ds.length):=by
  split at h
  · rename_i hc; cases h; exact ⟨hc,rfl⟩
  · cases h
theorem MemL_append {o : Bool} {l m : List C} (h : MemL w o l) (k : MemL w o m) : MemL w o (l ++ m):=by
  rw [MemL_iff]
  intro t ht
  rcases List.mem_append.1 ht with ht | ht
  · exact MemL_iff.1 h t ht
  · exact MemL_iff.1 k t ht
theorem erL_append (l m : List C) : erL (l ++ m) = erL l ++ erL m:=by rw [erL_eq,List.map_append,← erL_eq,← erL_eq]
theorem valL_append (l m : List C) : valL (l ++ m) = valL l ++ valL m:=by rw [valL_eq,List.map_append,← valL_eq,← valL_eq]
theorem lay_ok (place : Nat→Option (Nat × Nat)) : ∀ (l : List (Nat × Nat × Nat × C)) (cells : List C) (out : List D),(∀ q ∈ l,place q.1 = some (q.2.1,q.2.2.1)) →
    lay (erL cells) (l.map fun q => (q.2.1,q.2.2.1,er q.2.2.2)) = some out →
    ∃ outC,erL outC = out∧Instr.fill place (valL cells).toArray (l.map fun q => (q.1,val q.2.2.2)) = some (valL outC).toArray∧outC.length = cells.length ∧
      (MemL w true cells→MemL w true (l.map (·.2.2.2))→MemL w true outC)∧∀ b,cntL b outC ≤ cntL b cells + cntL b (l.map (·.2.2.2))
  | [],cells,out,_,h => by
    simp only [List.map_nil,lay,Option.some.injEq] at h
    exact ⟨cells,h,rfl,rfl,fun h _ => h,fun b => by simp [cntL]⟩
  | (i,off,sz,c) :: l,cells,out,hp,h => by
    simp only [List.map_cons,lay] at h
    split at h
    · rename_i hc
      obtain ⟨hsz,hfl⟩:=hc
      cases hl : layAt (erL cells) off (cellsOfD (er c)) with
      | none => simp [hl] at h
      | some cells' =>
        simp only [hl] at h
        obtain ⟨hle,rfl⟩:=layAt_some hl
        rw [← erL_cellsOf] at hle h hsz
        rw [erL_len,erL_len] at hle
        rw [erL_len] at hsz h
        rw [← erL_take,← erL_drop,← erL_append,← erL_append] at h
        obtain ⟨outC,h1,h2,h3,h4,h5⟩:=lay_ok place l _ out (fun q hq => hp q (List.mem_cons_of_mem _ hq)) h
        refine ⟨outC,h1,?_,?_,?_,?_⟩
        · have hpl:=hp (i,off,sz,c) (List.mem_cons_self ..)
          simp only [] at hpl
          have hcv:=val_cellsOf hfl
          have hcs : (val c).cells.size = sz:=by rw [hcv]; simp [valL_len,hsz]
          simp only [List.map_cons,Instr.fill,hpl]
          rw [if_neg (by simp [hcs,valL_len]; omega)]
          rw [← h2]
          congr 1
          apply Array.ext'
          rw [← Array.foldl_toList,Array.toList_zipIdx,hcv]
          have:=set_cells off (valL (cellsOfC c)) 0 (valL cells).toArray (by simp [valL_len]; omega)
          rw [this]
          simp [valL_append,valL_take,valL_drop,valL_len]
        · rw [h3]; simp; omega
        · intro hm hl'
          simp only [List.map_cons,MemL] at hl'
          exact h4 (MemL_append (MemL_append (MemL_take hm _) (Mem_cellsOf hl'.1)) (MemL_drop hm _)) hl'.2
        · intro b
          have:=h5 b
          simp only [List.map_cons,cntL]
          rw [cntL_append,cntL_append,cnt_cellsOf] at this
          have e1:=cntL_take_drop b cells off
          have e2:=cntL_take_drop b (cells.drop off) (cellsOfC c).length
          rw [List.drop_drop] at e2
          omega
    · cases h
theorem partsOf_ok {place : Nat→Option (Nat × Nat × Nat)} : ∀ (parts : List (Nat × Operand)) (ps : List (Nat × Nat × MO)),partsOf place parts = some ps →
    MORelL a.tmps (ps.map (·.2.2)) (parts.map fun q => a.eval q.2)
  | [],ps,h => by simp only [partsOf,Option.some.injEq] at h; subst h; rfl
  | (i,x) :: parts,ps,h => by
    simp only [partsOf] at h
    cases hp : place i with
    | none => simp [hp] at h
    | some q =>
      obtain ⟨off,sz,es⟩:=q
      simp only [hp] at h
      cases hx : opd es x with
      | none => simp [hx] at h
      | some y =>
        simp only [hx] at h
        cases hr : partsOf place parts with
        | none => simp [hr] at h
        | some ys =>
          simp only [hr,Option.some.injEq] at h
          subst h
          exact ⟨_,_,rfl,opd_ok hx,partsOf_ok parts ys hr⟩
theorem parts_ok {place : Nat→Option (Nat × Nat × Nat)} (f : Operand→Value) : ∀ (parts : List (Nat × Operand)) (ps : List (Nat × Nat × MO)) (cs : List C),partsOf place parts = some ps→valL cs = parts.map (fun q => f q.2) →
    ∃ l : List (Nat × Nat × Nat × C),l.map (fun q => (q.1,val q.2.2.2)) = parts.map (fun q => (q.1,f q.2))∧l.map (fun q => (q.2.1,q.2.2.1,er q.2.2.2)) = (ps.zip (erL cs)).map (fun q => (q.1.1,q.1.2.1,q.2)) ∧
      l.map (·.2.2.2) = cs∧∀ q ∈ l,∃ es,place q.1 = some (q.2.1,q.2.2.1,es)
  | [],ps,cs,h,hc => by
    simp only [partsOf,Option.some.injEq] at h
    subst h
    cases cs with
    | nil => exact ⟨[],rfl,rfl,rfl,fun q hq => by simp at hq⟩
    | cons _ _ => simp [valL] at hc
  | (i,x) :: parts,ps,cs,h,hc => by
    simp only [partsOf] at h
    cases hp : place i with
    | none => simp [hp] at h
    | some q =>
      obtain ⟨off,sz,es⟩:=q
      simp only [hp] at h
      cases hx : opd es x with
      | none => simp [hx] at h
      | some y =>
        simp only [hx] at h
        cases hr : partsOf place parts with
        | none => simp [hr] at h
        | some ys =>
          simp only [hr,Option.some.injEq] at h
          subst h
          cases cs with
          | nil => simp [valL] at hc
          | cons c cs =>
            simp only [valL,List.map_cons,List.cons.injEq] at hc
            obtain ⟨l,h1,h2,h3,h4⟩:=parts_ok f parts ys cs hr hc.2
            refine ⟨(i,off,sz,c) :: l,by simp [h1,hc.1],by simp [h2,erL],by simp [h3],?_⟩
            intro q hq
            rcases List.mem_cons.1 hq with rfl | hq
            · exact ⟨es,hp⟩
            · exact h4 q hq
theorem bld_ok (hr : Rel E st ts a.tmps w) {o : Oper} {t : TypeId} {parts : Array (Nat × Operand)} (ho : o.op = .build t parts) {zero : List D} (hz : zeroOf P t = some zero) {place : Nat→Option (Nat × Nat × Nat)} {ps : List (Nat × Nat × MO)}
    (hps : partsOf place parts.toList = some ps)
    (hbuilt : ∀ (place' : Nat→Option (Nat × Nat)),(∀ i off sz es,place i = some (off,sz,es)→place' i = some (off,sz)) →
      ∃ f,P.built t = f∧True)
    (hb : ∃ place' : Nat→Option (Nat × Nat),(∀ i off sz es,place i = some (off,sz,es)→place' i = some (off,sz))∧∀ z,(P.info? t).bind (·.zero) = some z→∀ vs,P.built t vs = Instr.fill place' z.cells vs)
    {d : Nat} (hd : o.dst = some d) {call : Oracle} (hs : step call st (.bld d zero ps) = some st') : Goes P E o a w st':=by
  simp only [step] at hs
  cases htk : takeAll st (ps.map (·.2.2)) with
  | none => simp [htk] at hs
  | some q =>
    obtain ⟨ds,st1⟩:=q
    simp only [htk] at hs
    cases hl : lay zero ((ps.zip ds).map fun q => (q.1.1,q.1.2.1,q.2)) with
    | none => simp [hl] at hs
    | some cells =>
      simp only [hl,Option.some.injEq] at hs
      subst hs
      obtain ⟨cs,ts1,h1,h2,h3,h4,h5,h6⟩:=takeAll_ok _ (partsOf_ok (a:=a) _ _ hps) hr htk
      subst h1
      obtain ⟨l,l1,l2,l3,l4⟩:=parts_ok a.eval _ _ cs hps h2
      obtain ⟨place',p1,p2⟩:=hb
      obtain ⟨ti,z,z1,z2,⟨zc,z3,z4,z5,z6⟩,z7⟩:=zeroOf_ok hz
      rw [← l2,← z3] at hl
      obtain ⟨outC,o1,o2,o3,o4,o5⟩:=lay_ok (w:=w) place' l zc cells (fun q hq => by obtain ⟨es,he⟩:=l4 q hq; exact p1 _ _ _ _ he) hl
      have hfill:=p2 z (by simp [z1,z2]) (parts.map fun (i,x) => (i,a.eval x)).toList
      have hrun:=run_build (P:=P) w t (parts.map fun (i,x) => (i,a.eval x)) (valL outC).toArray (by
        rw [hfill,← o2,z4,l1]
        simp)
      have hset:=h4.setOwn d (t:=.nd .ag outC) ⟨_,_,rfl⟩ ⟨trivial,o4 (z5 w true) (by rw [l3]; exact h3)⟩ (fun b hb => by
        refine moved (t:=.nd .ag outC) hr (fun b => ?_) b hb
        have:=o5 b
        rw [z6,l3] at this
        have:=h6 b
        simp only [cnt,K.own]
        omega)
      refine goes_value (v:=.agg (valL outC).toArray) (w':=w) ?_ ?_ (ts':=ts1.set d (.nd .ag outC))
      · simp only [execOp,ho]
        rw [Sem.run_bind,hrun]
        rfl
      · rw [hd]
        have e1 : er (.nd .ag outC) = T.nd .ag cells:=by rw [er,o1]; rfl
        rw [e1] at hset
        exact hset
theorem fields_mapM : ∀ (fs : List Field),fs.all (fun f => (sizeT P f.type).isSome) = true→∃ places : List (Nat × Nat),fs.mapM (fun f => (P.info? f.type).map fun i => (f.offset,i.size)) = some places ∧
    ∀ (i : Nat) (f : Field) (s : Nat),fs[i]? = some f→sizeT P f.type = some s→places[i]? = some (f.offset,s)
  | [],_ => ⟨[],rfl,fun i f s h => by simp at h⟩
  | f :: fs,h => by
    simp only [List.all_cons,Bool.and_eq_true] at h
    obtain ⟨places,h1,h2⟩:=fields_mapM fs h.2
    obtain ⟨s,hs⟩:=Option.isSome_iff_exists.1 h.1
    have hs':=hs
    unfold sizeT at hs'
    cases hi : P.info? f.type with
    | none => simp [hi] at hs'
    | some i0 =>
      simp [hi] at hs'
      refine ⟨(f.offset,i0.size) :: places,by simp [h1,hi],?_⟩
      intro i f' s' hf hs2
      cases i with
      | zero =>
        simp at hf; subst hf
        rw [hs] at hs2; cases hs2
        simp [hs']
      | succ i => simp at hf; simpa using h2 i f' s' hf hs2
theorem place_struct {t : TypeId} {fs : Array Field} (ht : P.underlying t = some (.struct fs)) (hall : fs.toList.all (fun f => (sizeT P f.type).isSome) = true) :
    ∃ place' : Nat→Option (Nat × Nat),(∀ i off sz es,fieldPl P fs i = some (off,sz,es)→place' i = some (off,sz))∧∀ z,(P.info? t).bind (·.zero) = some z→∀ vs,P.built t vs = Instr.fill place' z.cells vs:=by
  obtain ⟨places,h1,h2⟩:=fields_mapM (P:=P) fs.toList hall
  refine ⟨fun i => places[i]?,?_,?_⟩
  · intro i off sz es hp
    unfold fieldPl at hp
    cases hf : fs[i]? with
    | none => simp [hf] at hp
    | some f =>
      simp only [hf] at hp
      cases hsz : sizeT P f.type with
      | none => simp [hsz] at hp
      | some s =>
        simp only [hsz,Option.some.injEq,Prod.mk.injEq] at hp
        obtain ⟨rfl,rfl,rfl⟩:=hp
        exact h2 i f s (by simpa using hf) hsz
  · intro z hzz vs
    unfold Program.built
    cases hi : P.info? t with
    | none => simp [hi] at hzz
    | some it =>
      simp [hi] at hzz
      simp [ht,hzz,h1]
theorem place_array {t e : TypeId} {n : Nat} (ht : P.underlying t = some (.array n e)) {es k : Nat} (hes : sizeT P e = some es) :
    ∃ place' : Nat→Option (Nat × Nat),(∀ i off sz k',(fun i => some (i * es,es,k)) i = some (off,sz,k')→place' i = some (off,sz))∧∀ z,(P.info? t).bind (·.zero) = some z→∀ vs,P.built t vs = Instr.fill place' z.cells vs:=by
  refine ⟨fun i => some (i * es,es),fun i off sz k hp => by simp only [Option.some.injEq,Prod.mk.injEq] at hp ⊢; exact ⟨hp.1,hp.2.1⟩,?_⟩
  intro z hzz vs
  unfold Program.built
  cases hi : P.info? t with
  | none => simp [hi] at hzz
  | some it =>
    simp [hi] at hzz
    unfold sizeT at hes
    cases hie : P.info? e with
    | none => simp [hie] at hes
    | some ie =>
      simp [hie] at hes
      simp [ht,hzz,hie,hes]
theorem bld_struct (hr : Rel E st ts a.tmps w) {o : Oper} {t : TypeId} {parts : Array (Nat × Operand)} (ho : o.op = .build t parts) {zero : List D} (hz : zeroOf P t = some zero) {fs : Array Field} (ht : P.underlying t = some (.struct fs))
    (hall : fs.toList.all (fun f => (sizeT P f.type).isSome) = true) {ps : List (Nat × Nat × MO)} (hps : partsOf (fieldPl P fs) parts.toList = some ps)
    {d : Nat} (hd : o.dst = some d) {call : Oracle} (hs : step call st (.bld d zero ps) = some st') : Goes P E o a w st' :=
  bld_ok hr ho hz hps (fun _ _ => ⟨_,rfl,trivial⟩) (place_struct ht hall) hd hs
theorem bld_array (hr : Rel E st ts a.tmps w) {o : Oper} {t e : TypeId} {parts : Array (Nat × Operand)} (ho : o.op = .build t parts) {zero : List D} (hz : zeroOf P t = some zero) {n : Nat} (ht : P.underlying t = some (.array n e))
    {es k : Nat} (hes : sizeT P e = some es) {ps : List (Nat × Nat × MO)} (hps : partsOf (fun i => some (i * es,es,k)) parts.toList = some ps)
    {d : Nat} (hd : o.dst = some d) {call : Oracle} (hs : step call st (.bld d zero ps) = some st') : Goes P E o a w st' :=
  bld_ok hr ho hz hps (fun _ _ => ⟨_,rfl,trivial⟩) (place_array ht hes) hd hs
theorem Kon.zv {d : D} {u : Value} (h : Kon d u) : VRel E ts (mkRo d) u:=Kon.ro h
theorem zV_ok {zs : List D} {us : List Value} (h : KonL zs us) : VRelL E ts (zV zs) us:=by
  obtain ⟨l,rfl,rfl,h3,h4⟩:=h
  induction l with
  | nil => rfl
  | cons c l ih =>
    refine ⟨val c,valL l,rfl,Kon.ro ⟨c,rfl,rfl,fun w o => (h3 w o).1,fun b => by have:=h4 b; simp only [cntL] at this; omega⟩,ih (fun w o => (h3 w o).2) fun b => by have:=h4 b; simp only [cntL] at this; omega⟩
theorem VRelL_len : ∀ {xs : List V} {us : List Value},VRelL E ts xs us→xs.length = us.length
  | [],us,h => by simp only [VRelL] at h; subst h; rfl
  | x :: xs,us,h => by obtain ⟨u,us',rfl,_,h2⟩:=h; simp [VRelL_len h2]
theorem VRelL_set : ∀ {xs : List V} {us : List Value} (i : Nat) {x : V} {u : Value},VRelL E ts xs us→VRel E ts x u→VRelL E ts (xs.set i x) (us.set i u)
  | [],us,i,x,u,h,_ => by simp only [VRelL] at h; subst h; rfl
  | y :: xs,us,0,x,u,h,hx => by obtain ⟨u0,us',rfl,_,h2⟩:=h; exact ⟨u,us',rfl,hx,h2⟩
  | y :: xs,us,i + 1,x,u,h,hx => by obtain ⟨u0,us',rfl,h1,h2⟩:=h; exact ⟨u0,us'.set i u,rfl,h1,VRelL_set i h2 hx⟩
theorem bvL_ok (hr : Rel E st ts a.tmps w) {place : Nat→Option (Nat × Nat × Nat)} {place' : Nat→Option (Nat × Nat)} (hp : ∀ i off sz es,place i = some (off,sz,es)→place' i = some (off,sz)) :
    ∀ (parts : List (Nat × Operand)) (ps : List (Nat × Nat × MO)) (cells out : List V) (us : List Value),partsOf place parts = some ps→VRelL E ts cells us→bvL st cells ps = some out →
      ∃ us',Instr.fill place' us.toArray (parts.map fun q => (q.1,a.eval q.2)) = some us'.toArray∧VRelL E ts out us'
  | [],ps,cells,out,us,h,hv,hb => by
    simp only [partsOf,Option.some.injEq] at h
    subst h
    simp only [bvL,Option.some.injEq] at hb
    subst hb
    exact ⟨us,rfl,hv⟩
  | (i,x) :: parts,ps,cells,out,us,h,hv,hb => by
    simp only [partsOf] at h
    cases hpl : place i with
    | none => simp [hpl] at h
    | some q =>
      obtain ⟨off,sz,es⟩:=q
      simp only [hpl] at h
      cases hx : opd es x with
      | none => simp [hx] at h
      | some y =>
        simp only [hx] at h
        cases hrr : partsOf place parts with
        | none => simp [hrr] at h
        | some ys =>
          simp only [hrr,Option.some.injEq] at h
          subst h
          simp only [bvL] at hb
          split at hb
          · rename_i hc
            obtain ⟨rfl,hlt,hone⟩:=hc
            have hev:=ev_ok hr (opd_ok (a:=a) hx)
            have hu : (a.eval x).oneCell' = true:=by
              unfold oneV at hone
              cases hd : rd st (ev st y) with
              | none => simp [hd] at hone
              | some d =>
                simp only [hd] at hone
                obtain ⟨t,t1,t2,_⟩:=rd_ok hr _ hev hd
                rw [← t2]
                exact flat_one (by rw [t1]; exact hone)
            obtain ⟨us',f1,f2⟩:=bvL_ok hr hp parts ys _ out (us.set off (a.eval x)) hrr (VRelL_set off hv hev) hb
            refine ⟨us',?_,f2⟩
            have hlen:=VRelL_len hv
            simp only [List.map_cons,Instr.fill,hp _ _ _ _ hpl]
            rw [cells_one hu,if_neg (by simp; omega)]
            rw [← f1]
            congr 1
            simp
          · cases hb
theorem bv_ok (hr : Rel E st ts a.tmps w) {o : Oper} {t : TypeId} {parts : Array (Nat × Operand)} (ho : o.op = .build t parts) {zero : List D} (hz : zeroOf P t = some zero) {place : Nat→Option (Nat × Nat × Nat)} {ps : List (Nat × Nat × MO)}
    (hps : partsOf place parts.toList = some ps)
    (hb : ∃ place' : Nat→Option (Nat × Nat),(∀ i off sz es,place i = some (off,sz,es)→place' i = some (off,sz))∧∀ z,(P.info? t).bind (·.zero) = some z→∀ vs,P.built t vs = Instr.fill place' z.cells vs)
    {d : Nat} (hd : o.dst = some d) {call : Oracle} (hs : step call st (.bv d zero ps) = some st') : Goes P E o a w st':=by
  simp only [step] at hs
  split at hs
  · rename_i cs hcs
    simp only [Option.some.injEq] at hs
    subst hs
    obtain ⟨place',p1,p2⟩:=hb
    obtain ⟨ti,z,z1,z2,z3,z7⟩:=zeroOf_ok hz
    obtain ⟨us',f1,f2⟩:=bvL_ok hr p1 parts.toList ps (zV zero) cs z.cells.toList hps (zV_ok z3) hcs
    have hfill:=p2 z (by simp [z1,z2]) (parts.map fun (i,x) => (i,a.eval x)).toList
    have hrun:=run_build (P:=P) w t (parts.map fun (i,x) => (i,a.eval x)) us'.toArray (by
      rw [hfill,← f1]
      simp)
    refine goes_value (v:=.agg us'.toArray) (w':=w) ?_ ?_ (ts':=ts.set d (.v undef))
    · simp only [execOp,ho]
      rw [Sem.run_bind,hrun]
      rfl
    · rw [hd]
      exact hr.set d (x:=.vn .ag cs) ⟨us',f2,rfl⟩
  · cases hs
theorem bs_ok (hr : Rel E st ts a.tmps w) {o : Oper} {t e : TypeId} {n : Nat} {parts : Array (Nat × Operand)} (ho : o.op = .buildSlice t n parts) (ht : P.underlying t = some (.slice e)) {es k : Nat} (hes : sizeT P e = some es)
    {zero : List D} (hz : zeroOf' P e (n * es) = some zero) {ps : List (Nat × Nat × MO)} (hps : partsOf (fun i => some (i * es,es,k)) parts.toList = some ps) (hsmall : n * es ≤ 2 ^ 16)
    {d : Nat} (hd : o.dst = some d) {call : Oracle} (hs : step call st (.bs d es n zero ps) = some st') : Goes P E o a w st':=by
  simp only [step] at hs
  cases htk : takeAll st (ps.map (·.2.2)) with
  | none => simp [htk] at hs
  | some q =>
    obtain ⟨ds,st1⟩:=q
    simp only [htk] at hs
    cases hl : lay (reps n zero) ((ps.zip ds).map fun q => (q.1.1,q.1.2.1,q.2)) with
    | none => simp [hl] at hs
    | some cells =>
      simp only [hl,Option.some.injEq] at hs
      subst hs
      obtain ⟨cs,ts1,h1,h2,h3,h4,h5,h6⟩:=takeAll_ok _ (partsOf_ok (a:=a) _ _ hps) hr htk
      subst h1
      obtain ⟨l,l1,l2,l3,l4⟩:=parts_ok a.eval _ _ cs hps h2
      -- the zeros
      have hzz : ∃ zv : Array Value,KonL (reps n zero) (reps n zv.toList)∧(reps n zv.toList).length = n * es∧(madeCells zv (n * es)) = (reps n zv.toList).toArray ∧
          ((n * es = 0∧zv = #[]) ∨ (n * es ≠ 0∧∃ z : Value,zv = z.cells∧(zeroValue e).run P w = .ok z w)):=by
        by_cases h0 : n * es = 0
        · refine ⟨#[],?_,?_,?_,.inl ⟨h0,rfl⟩⟩
          · unfold zeroOf' at hz
            rw [if_pos h0] at hz
            cases hz
            have : (reps n ([] : List D)) = []:=by rw [← List.length_eq_zero_iff,reps_len]; simp
            rw [this]
            have : (reps n (#[] : Array Value).toList) = []:=by rw [← List.length_eq_zero_iff,reps_len]; simp
            rw [this]
            exact KonL.nil
          · rw [reps_len]; simp [h0]
          · have : (reps n (#[] : Array Value).toList) = []:=by rw [← List.length_eq_zero_iff,reps_len]; simp
            rw [this,h0]; simp [madeCells,Array.range_zero']
        · unfold zeroOf' at hz
          rw [if_neg h0] at hz
          obtain ⟨i,z,g1,g2,hkon,g7⟩:=zeroOf_ok hz
          have hsz : i.size = es:=by simp [sizeT,g1] at hes; exact hes
          have hlen:=hkon.len
          rw [g7,hsz] at hlen
          refine ⟨z.cells,hkon.reps n,by rw [reps_len,← hlen],?_,.inr ⟨h0,z,rfl,by simp [zeroValue,typeInfo,g1,g2]⟩⟩
          apply Array.ext_getElem?
          intro j
          simp only [madeCells,Array.getElem?_map,Array.getElem?_range,List.getElem?_toArray]
          by_cases hj : j < n * es
          · rw [if_pos hj,reps_get _ _ _ (by rw [← hlen]; exact hj)]
            simp only [Option.map_some]
            have hes0 : 0 < es:=by
              rcases Nat.eq_zero_or_pos es with h | h
              · rw [h] at h0; simp at h0
              · exact h
            have hjm : j % z.cells.toList.length < z.cells.toList.length:=Nat.mod_lt _ (by rw [← hlen]; exact hes0)
            rw [List.getElem?_eq_getElem hjm]
            congr 1
            simp only [Array.length_toList] at hjm ⊢
            rw [getElem!_pos _ _ (by simpa using hjm)]
            simp
          · rw [if_neg hj,List.getElem?_eq_none (by rw [reps_len,← hlen]; omega)]
            rfl
      obtain ⟨zv,hkon,hlen,hmade,hzrun⟩:=hzz
      obtain ⟨zc,z3,z4,z5,z6⟩:=hkon
      rw [← l2,← z3] at hl
      obtain ⟨outC,o1,o2,o3,o4,o5⟩:=lay_ok (w:=w) (fun i => some (i * es,es)) l zc cells (fun q hq => by obtain ⟨k',he⟩:=l4 q hq; simp only [Option.some.injEq,Prod.mk.injEq] at he ⊢; exact ⟨he.1,he.2.1⟩) hl
      have holen : outC.length = n * es:=by rw [o3,← valL_len,z4,hlen]
      have hfr:=hr.fresh h4 (kids:=outC) (o4 (z5 w true) (by rw [l3]; exact h3)) (fun b => by have:=o5 b; rw [z6,l3] at this; have:=h6 b; omega)
        (w':=w.alloc (.cells (valL outC).toArray e)) (arr:=(valL outC).toArray) (e:=e) (lo:=0) (hi:=0) rfl rfl rfl rfl (.inl rfl)
        (fun i v hv => by simpa using hv) d (k:=.sl ⟨some ⟨w.heap.size,0,none⟩,n,undef⟩ es n) (.inl ⟨n,es,n,rfl,holen,Nat.le_refl _,by simp [valL_len,holen]⟩)
      refine goes_value (v:=.slice (some ⟨w.heap.size,0,none⟩) n n) (w':=w.alloc (.cells (valL outC).toArray e)) ?_ ?_ (ts':=ts1.set d (.nd (.sl ⟨some ⟨w.heap.size,0,none⟩,n,undef⟩ es n) outC))
      · have hfill : Instr.fill (fun i => some (i * es,es)) (madeCells zv (n * es)) (parts.map fun (i,x) => (i,a.eval x)).toList = some (valL outC).toArray:=by
          rw [hmade,← z4,← o2,l1]; simp
        simp only [madeCells] at hfill
        rcases hzrun with ⟨h0,rfl⟩ | ⟨h0,z,rfl,hz'⟩
        · simp only [execOp,ho,Instr.buildSlice,Sem.run_bind,run_underlying ht,Result.andThen_ok,run_sizeOf' hes,Sem.run_ite]
          rw [if_neg (by omega),if_pos h0]
          simp only [Sem.run_pure,Result.andThen_ok,hfill]
          simp [newRow]
        · simp only [execOp,ho,Instr.buildSlice,Sem.run_bind,run_underlying ht,Result.andThen_ok,run_sizeOf' hes,Sem.run_ite]
          rw [if_neg (by omega),if_neg h0]
          simp only [Sem.run_pure,Result.andThen_ok,hz',hfill]
          simp [newRow]
      · rw [hd]
        have e1 : er (.nd (.sl ⟨some ⟨w.heap.size,0,none⟩,n,undef⟩ es n) outC) = T.nd (.sl false es n) cells:=by rw [er,o1]; rfl
        rw [e1] at hfr
        exact hfr
theorem mzc_ok (hr : Rel E st ts a.tmps w) {o : Oper} {t e : TypeId} {parts : Array (Nat × Operand)} (ho : o.op = .buildSlice t 0 parts) (ht : P.underlying t = some (.slice e)) {es k : Nat} (hes : sizeT P e = some es)
    (hps : partsOf (fun i => some (i * es,es,k)) parts.toList = some []) {d : Nat} (hd : o.dst = some d) {call : Oracle} (hs : step call st (.mz d es) = some st') : Goes P E o a w st':=by
  simp only [step,Option.some.injEq] at hs
  subst hs
  have hp : parts = #[]:=by
    cases hl : parts.toList with
    | nil => exact Array.toList_eq_nil_iff.1 hl
    | cons q l =>
      rw [hl] at hps
      obtain ⟨i,x⟩:=q
      simp only [partsOf] at hps
      repeat' split at hps
      all_goals first | (cases hps; done) | simp at hps
  subst hp
  have g : Grew w (w.alloc (.cells #[] e)):=Grew.push rfl rfl rfl rfl
  refine goes_value (v:=.slice (some ⟨w.heap.size,0,none⟩) 0 0) (w':=w.alloc (.cells #[] e)) ?_ ?_ (ts':=ts.set d (.v undef))
  · simp only [execOp,ho,Instr.buildSlice,Sem.run_bind,run_underlying ht,Result.andThen_ok,run_sizeOf' hes,Sem.run_ite]
    rw [if_neg (by omega),if_pos (by omega)]
    simp [newRow,Instr.fill,Array.range_zero']
  · rw [hd]
    exact (hr.grow g).set d (x:=.vn (.sl false es 0) []) ⟨[],rfl,rfl,_,rfl⟩
end
end Go.Mx
