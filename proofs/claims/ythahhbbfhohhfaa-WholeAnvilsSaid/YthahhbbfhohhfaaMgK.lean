import Derived.Test.YthahhbbfhohhfaaMgI
import Derived.ChangeArms
import Derived.ChangeReads
import Derived.DataReads
/-
  Mx,part U: what an argument of plain data reads as: truth values,numbers,strings,slices,structs,arrays.
-/
namespace Go.Mx
set_option linter.unusedVariables false
set_option linter.unusedSimpArgs false
set_option linter.unusedSectionVars false
open Go
inductive TD where
  | bool
  | int (k : IntKind)
  | str
  | sl (e : TD)
  | st (fs : List TD)
  | ar (n : Nat) (e : TD)
mutual
def TD.size : TD→Nat
  | .bool => 1
  | .int _ => 1
  | .str => 1
  | .sl _ => 1
  | .st fs => TD.sizeL fs
  | .ar n e => n * e.size
def TD.sizeL : List TD→Nat
  | [] => 0
  | d :: ds => d.size + TD.sizeL ds
end
mutual
def TD.is (P : Program) (t : TypeId) : TD→Prop
  | .bool => P.underlying t = some .bool
  | .int k => P.underlying t = some (.int k)
  | .str => P.underlying t = some .string
  | .sl e => ∃ te,P.underlying t = some (.slice te)∧e.is P te∧P.cellsOf te = e.size∧0 < e.size
  | .st fs => ∃ fl,P.underlying t = some (.struct fl)∧TD.isL P 0 fl.toList fs∧P.cellsOf t = TD.sizeL fs
  | .ar n e => ∃ te,P.underlying t = some (.array n te)∧e.is P te∧P.cellsOf te = e.size∧P.cellsOf t = n * e.size
def TD.isL (P : Program) (off : Nat) (fl : List Field) : List TD→Prop
  | [] => fl = []
  | d :: ds => ∃ f fl',fl = f :: fl'∧f.offset = off∧d.is P f.type∧P.cellsOf f.type = d.size∧TD.isL P (off + d.size) fl' ds
end
mutual
def TD.rd : TD→List D→Prop
  | .bool,ds => ∃ b,ds = [.v (.bool b)]
  | .int k,ds => ∃ n,(Lit.int k n).wf = true∧ds = [.v (.int k n)]
  | .str,ds => ∃ s : ByteArray,s.size ≤ maxLen∧ds = [.v (.string s)]
  | .sl e,ds => ∃ (b : Bool) (kss : List (List D)),ds = [.nd (.sl b e.size kss.length) kss.flatten]∧(b = true→kss = [])∧kss.length ≤ maxLen∧∀ ks ∈ kss,e.rd ks
  | .st fs,ds => TD.rdL fs ds
  | .ar n e,ds => ∃ dss : List (List D),ds = dss.flatten∧dss.length = n∧∀ d ∈ dss,e.rd d
def TD.rdL : List TD→List D→Prop
  | [],ds => ds = []
  | t :: ts,ds => ∃ d1 d2 : List D,ds = d1 ++ d2∧t.rd d1∧TD.rdL ts d2
end
structure Reads (w : World) (cs : List Value) (l : List C) : Prop where
  val : valL l = cs
  mem : MemL w false l
  lt : ∀ b,cntL b l ≠ 0→b < w.heap.size
theorem Reads.app {w : World} {cs cs' : List Value} {l l' : List C} (h : Reads w cs l) (k : Reads w cs' l') : Reads w (cs ++ cs') (l ++ l'):=by
  refine ⟨by rw [valL_append,h.val,k.val],MemL_append h.mem k.mem,fun b hb => ?_⟩
  rw [cntL_append] at hb
  by_cases hz : cntL b l = 0
  · exact k.lt b (by omega)
  · exact h.lt b hz
theorem Reads.one {w : World} (v : Value) : Reads w [v] [.v v]:=⟨rfl,⟨trivial,trivial⟩,fun b hb => absurd rfl hb⟩
section
variable {H : Type} {enc : TypeId × Value→H} {P : Program} {w : World} {held : Bool}
mutual
theorem trod_rd : ∀ (td : TD) {t : TypeId} {fuel : Nat} {cs : List Value} {x : DataW H × List MemPlace},td.is P t→DataW.trod enc P w 0 (fun _ => true) held fuel t cs = some x→∃ l : List C,Reads w cs l∧td.rd (erL l)
  | .bool,t,fuel,cs,x,hi,h => by
    obtain ⟨b,rfl,_⟩:=DataW.trod_bool hi h
    exact ⟨_,Reads.one _,b,rfl⟩
  | .int k,t,fuel,cs,x,hi,h => by
    obtain ⟨n,rfl,_,hw⟩:=DataW.trod_int hi h
    exact ⟨_,Reads.one _,n,hw,rfl⟩
  | .str,t,fuel,cs,x,hi,h => by
    simp only [TD.is] at hi
    cases fuel with
    | zero => simp [DataW.trod] at h
    | succ n =>
      unfold DataW.trod at h
      rw [hi] at h
      split at h <;> simp_all
      exact ⟨_,Reads.one _,_,h.1,rfl⟩
  | .sl e,t,fuel,cs,x,hi,h => by
    obtain ⟨te,hu,he,hc,hpos⟩:=hi
    rcases DataW.trod_slice hu h with ⟨rfl,_⟩ | ⟨a,len,cap,elems,rest,n,rfl,rfl,_,hb,hl,hm,hlen,hel,hsp,_⟩
    · refine ⟨[.nd (.sl ⟨none,0,undef⟩ e.size 0) []],⟨rfl,⟨⟨⟨by simp [valL],by simp,fun _ => rfl,fun a ha => by cases ha⟩,trivial⟩,trivial⟩,fun b hb => absurd (by simp [cntL,cnt,K.own]) hb⟩,true,[],rfl,fun _ => rfl,by simp,by simp⟩
    · have each : ∀ i,i < cap→∃ l : List C,∃ ci : List Value,w.cells? 0 (a.add (i * e.size)) e.size = some ci∧Reads w ci l∧e.rd (erL l):=by
        intro i hi
        have : ∃ y,(w.cells? 0 (a.add (i * P.cellsOf te)) (P.cellsOf te)).bind (DataW.trod enc P w 0 (fun _ => true) held n te) = some y:=by
          by_cases h1 : i < len
          · rw [hel i h1,List.getElem?_eq_getElem (by omega)]; exact ⟨_,rfl⟩
          · obtain ⟨hrl,hr⟩:=hsp rfl
            have:=hr (i - len) (by omega)
            rw [show len + (i - len) = i by omega,List.getElem?_eq_getElem (by omega)] at this
            exact ⟨_,this⟩
        obtain ⟨y,hy⟩:=this
        rw [hc,Option.bind_eq_some_iff] at hy
        obtain ⟨ci,h1,h2⟩:=hy
        obtain ⟨l,h3,h4⟩:=trod_rd e he h2
        exact ⟨l,ci,h1,h3,h4⟩
      have build : ∀ m,m ≤ len→∃ kss : List (List D),∃ l : List C,kss.length = m∧erL l = kss.flatten∧l.length = m * e.size∧MemL w false l∧(∀ b,cntL b l ≠ 0→b < w.heap.size)∧Cells w a (valL l)∧∀ ks ∈ kss,e.rd ks:=by
        intro m
        induction m with
        | zero => intro _; exact ⟨[],[],rfl,rfl,by simp,trivial,fun b hb => absurd rfl hb,fun i u hu => by simp [valL] at hu,by simp⟩
        | succ m ih =>
          intro hm'
          obtain ⟨kss,l,h1,h2,h3,h4,h5,h6,h7⟩:=ih (by omega)
          obtain ⟨li,ci,g1,g2,g3⟩:=each m (by omega)
          obtain ⟨_,q1,q2⟩:=World.cells?_some g1
          have hli : li.length = e.size:=by rw [← valL_len,g2.val,q1]
          refine ⟨kss ++ [erL li],l ++ li,by simp [h1],by rw [erL_append,h2]; simp,by rw [List.length_append,h3,hli,Nat.succ_mul],MemL_append h4 g2.mem,?_,?_,?_⟩
          · intro b hb
            rw [cntL_append] at hb
            by_cases hz : cntL b l = 0
            · exact g2.lt b (by omega)
            · exact h5 b hz
          · intro i u hu
            rw [valL_append] at hu
            by_cases hlt : i < m * e.size
            · rw [List.getElem?_append_left (by rw [valL_len,h3]; exact hlt)] at hu
              exact h6 i u hu
            · rw [List.getElem?_append_right (by rw [valL_len,h3]; omega),valL_len,h3,g2.val] at hu
              have hlt2:=lt_of_get hu
              have:=q2 (i - m * e.size) (by omega)
              rw [hu,Addr.add_add'] at this
              rwa [show m * e.size + (i - m * e.size) = i by omega] at this
          · intro ks hks
            rcases List.mem_append.1 hks with h | h
            · exact h7 ks h
            · simp only [List.mem_singleton] at h; subst h; exact g3
      obtain ⟨kss,l,h1,h2,h3,h4,h5,h6,h7⟩:=build len (Nat.le_refl _)
      refine ⟨[.nd (.sl ⟨some a,cap,undef⟩ e.size len) l],⟨rfl,⟨⟨⟨by rw [valL_len,h3],hl,by simp,?_⟩,h4⟩,trivial⟩,?_⟩,false,kss,?_,by simp,by omega,h7⟩
      · intro ad had
        cases had
        exact ⟨h6,fun hf => by cases hf⟩
      · intro b hb
        simp only [cntL,cnt,Nat.add_zero] at hb
        by_cases hz : cntL b l = 0
        · rw [hz,Nat.add_zero] at hb
          simp only [K.own] at hb
          split at hb
          · rename_i hcc
            have hab : a.block = b:=by simpa using hcc.2
            obtain ⟨li,ci,g1,g2,g3⟩:=each 0 (by have : cap ≠ 0:=hcc.1; omega)
            obtain ⟨_,q1,q2⟩:=World.cells?_some g1
            have:=q2 0 hpos
            rw [List.getElem?_eq_getElem (by omega)] at this
            have:=cell_lt this
            rw [Addr.add_block,Addr.add_block,hab] at this
            exact this
          · exact absurd rfl hb
        · exact h5 b hz
      · simp [erL,er,K.er,h2,h1]
  | .st fs,t,fuel,cs,x,hi,h => by
    obtain ⟨fl,hu,hfl,hc⟩:=hi
    cases fuel with
    | zero => simp [DataW.trod] at h
    | succ n =>
      rw [DataW.trod_step] at h
      unfold DataW.trodStep at h
      simp only [hu] at h
      split at h
      · rename_i hlen
        simp only [Option.map_eq_some_iff] at h
        obtain ⟨xs,hxs,_⟩:=h
        obtain ⟨l,h1,h2⟩:=trod_rdL fs hfl hxs
        refine ⟨l,?_,h2⟩
        rw [List.drop_zero,← hc,← hlen,List.take_length] at h1
        exact h1
      · cases h
  | .ar m e,t,fuel,cs,x,hi,h => by
    obtain ⟨te,hu,he,hce,hc⟩:=hi
    cases fuel with
    | zero => simp [DataW.trod] at h
    | succ n =>
      rw [DataW.trod_step] at h
      unfold DataW.trodStep at h
      simp only [hu] at h
      split at h
      · rename_i hlen
        simp only [Option.map_eq_some_iff] at h
        obtain ⟨xs,hxs,_⟩:=h
        have build : ∀ q,q ≤ m→∃ dss : List (List D),∃ l : List C,dss.length = q∧erL l = dss.flatten∧Reads w (cs.take (q * e.size)) l∧∀ d ∈ dss,e.rd d:=by
          intro q
          induction q with
          | zero => intro _; exact ⟨[],[],rfl,rfl,⟨by simp [valL],trivial,fun b hb => absurd rfl hb⟩,by simp⟩
          | succ q ih =>
            intro hq
            obtain ⟨dss,l,h1,h2,h3,h4⟩:=ih (by omega)
            have hy:=mapM_some_get hxs q q (by rw [List.getElem?_range (by omega)])
            have hqx : q < xs.length:=by have:=mapM_some_length hxs; simp at this; omega
            rw [List.getElem?_eq_getElem hqx,hce] at hy
            obtain ⟨li,g1,g2⟩:=trod_rd e he hy
            refine ⟨dss ++ [erL li],l ++ li,by simp [h1],by rw [erL_append,h2]; simp,?_,?_⟩
            · rw [Nat.succ_mul,List.take_add]
              exact h3.app g1
            · intro d hd
              rcases List.mem_append.1 hd with h | h
              · exact h4 d h
              · simp only [List.mem_singleton] at h; subst h; exact g2
        obtain ⟨dss,l,h1,h2,h3,h4⟩:=build m (Nat.le_refl _)
        refine ⟨l,?_,dss,h2,h1,h4⟩
        rw [← hc,← hlen,List.take_length] at h3
        exact h3
      · cases h
theorem trod_rdL : ∀ (ts : List TD) {off : Nat} {fl : List Field} {n : Nat} {cs : List Value} {xs : List (DataW H × List MemPlace)},TD.isL P off fl ts →
    fl.mapM (fun f => DataW.trod enc P w 0 (fun _ => true) held n f.type ((cs.drop f.offset).take (P.cellsOf f.type))) = some xs→∃ l : List C,Reads w ((cs.drop off).take (TD.sizeL ts)) l∧TD.rdL ts (erL l)
  | [],off,fl,n,cs,xs,hi,h => ⟨[],⟨by simp [valL,TD.sizeL],trivial,fun b hb => absurd rfl hb⟩,rfl⟩
  | t :: ts,off,fl,n,cs,xs,hi,h => by
    obtain ⟨f,fl',rfl,ho,hf,hc,hr⟩:=hi
    rw [List.mapM_cons] at h
    simp only [bind,Option.bind_eq_some_iff,pure,Option.some.injEq] at h
    obtain ⟨y,hy,ys,hys,_⟩:=h
    obtain ⟨l1,h1,h2⟩:=trod_rd t hf hy
    obtain ⟨l2,h3,h4⟩:=trod_rdL ts hr hys
    refine ⟨l1 ++ l2,?_,erL l1,erL l2,by rw [erL_append],h2,h4⟩
    rw [ho,hc] at h1
    rw [TD.sizeL,List.take_add,List.drop_drop]
    exact h1.app h3
end
theorem ArgOK.of_trod {td : TD} {t : TypeId} (hi : td.is P t) {v : Value} {d : DataW H} {p : List MemPlace} (h : DataW.Trod enc P w 0 (fun _ => true) held t v d p) (hv : v.cells.toList = [v]) :
    ∃ dd : D,ArgOK w v dd∧td.rd [dd]:=by
  obtain ⟨fuel,hf⟩:=h
  rw [hv] at hf
  obtain ⟨l,h1,h2⟩:=trod_rd td hi hf
  have hl : l.length = 1:=by rw [← valL_len,h1.val]; rfl
  obtain ⟨c,rfl⟩:=List.length_eq_one_iff.1 hl
  have hval : val c = v:=by have:=h1.val; simpa [valL] using this
  refine ⟨er c,⟨c,rfl,hval,h1.mem.1,fun b hb => h1.lt b (by simpa [cntL] using hb)⟩,by simpa [erL] using h2⟩
end
end Go.Mx
