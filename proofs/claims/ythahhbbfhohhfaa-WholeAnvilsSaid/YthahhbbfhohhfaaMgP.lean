import Derived.Test.YthahhbbfhohhfaaMgO
import Derived.MapKept
import Derived.BigFrame
/-
  Maps from numbers to true: what is looked up,what is put in.
-/
namespace Go.Mx
set_option linter.unusedVariables false
set_option linter.unusedSimpArgs false
set_option linter.unusedSectionVars false
open Go Go.RowKit
structure MapEs (k : IntKind) (es : Array MapEntry) (clock : Nat) (S : List Int) : Prop where
  key : es.toList.map (·.key) = S.map (Value.int k)
  tru : ∀ e ∈ es.toList,e.val = .bool true
  old : ∀ e ∈ es.toList,e.born < clock
  two : es.toList.Pairwise fun a b => a.born ≠ b.born
  nod : S.Nodup
def MapSet (k : IntKind) (w : World) (r : Nat) (S : List Int) : Prop:=∃ es clock,w.heap[r]? = some (.map es clock)∧MapEs k es clock S
theorem findNow_set {td k : IntKind} (x : Int) : ∀ (l : List MapEntry) (S : List Int) (i : Nat),l.map (·.key) = S.map (Value.int k)→(∀ e ∈ l,e.val = .bool true) →
    (x ∈ S→∃ j,Instr.findNow (.int td) (.int k x) l i = some (some (j,.bool true))∧i ≤ j∧(l[j - i]?.map (·.key)) = some (.int k x))∧(x ∉ S→Instr.findNow (.int td) (.int k x) l i = some none)
  | [],[],i,_,_ => ⟨fun h => (nomatch h),fun _ => rfl⟩
  | [],y :: S,i,h,_ => by simp at h
  | e :: l,[],i,h,_ => by simp at h
  | e :: l,y :: S,i,h,hv => by
    simp only [List.map_cons,List.cons.injEq] at h
    obtain ⟨h1,h2⟩:=h
    have ih:=findNow_set (td:=td) (k:=k) x l S (i + 1) h2 fun e he => hv e (List.mem_cons_of_mem _ he)
    by_cases hx : x = y
    · subst hx
      refine ⟨fun _ => ⟨i,?_,Nat.le_refl _,by simp [h1]⟩,fun hn => absurd (List.mem_cons_self ..) hn⟩
      simp [Instr.findNow,Instr.sameNow,h1,hv e (List.mem_cons_self ..)]
    · have hb : (x == y) = false:=by simpa using hx
      have hs : Instr.findNow (.int td) (.int k x) (e :: l) i = Instr.findNow (.int td) (.int k x) l (i + 1):=by
        simp [Instr.findNow,Instr.sameNow,h1,hb]
      rw [hs]
      refine ⟨fun hm => ?_,fun hn => ih.2 fun hm => hn (List.mem_cons_of_mem _ hm)⟩
      have hm : x ∈ S:=by
        rcases List.mem_cons.1 hm with h | h
        · exact absurd h hx
        · exact h
      obtain ⟨j,j1,j2,j3⟩:=ih.1 hm
      refine ⟨j,j1,by omega,?_⟩
      rw [show j - i = (j - (i + 1)) + 1 by omega,List.getElem?_cons_succ]
      exact j3
section
variable {P : Program} {w : World} {t kt et : TypeId} {td k : IntKind} {r : Nat} {S : List Int}
theorem run_lookup_set (ht : P.underlying t = some (.map kt et)) (hk : P.underlying kt = some (.int td)) (hz : (zeroValue et).run P w = .ok (.bool false) w) (hS : MapSet k w r S) (x : Int) :
    (Instr.lookup t (.map (some r)) (.int k x) false).run P w = .ok (.bool (decide (x ∈ S))) w:=by
  obtain ⟨es,clock,hb,hE⟩:=hS
  have hf:=findNow_set (td:=td) (k:=k) x es.toList S 0 hE.key hE.tru
  have hc : ∀ e,(Instr.checkKey e 10000 kt (.int k x)).run P w = .ok () w:=fun e => by
    rw [show (10000 : Nat) = 9999 + 1 by rfl]
    unfold Instr.checkKey
    simp only [Sem.run_bind,run_underlying hk,Result.andThen]
    rfl
  by_cases hx : x ∈ S
  · obtain ⟨j,hj,_,_⟩:=hf.1 hx
    have h1:=MapKept.run_findKey (w:=w) hk hj
    simp [Instr.lookup,run_underlying ht,MapKept.run_getObj_map hb,hc,h1,hx,Result.andThen]
  · have h1:=MapKept.run_findKey (w:=w) hk (hf.2 hx)
    simp [Instr.lookup,run_underlying ht,MapKept.run_getObj_map hb,hc,h1,hz,hx,Result.andThen]
theorem modify_same (es : Array MapEntry) (i : Nat) (f : MapEntry→MapEntry) (h : ∀ e,es[i]? = some e→f e = e) : es.modify i f = es:=by
  apply Array.ext
  · simp
  · intro j h1 h2
    rw [Array.getElem_modify]
    split
    · rename_i he
      subst he
      exact h _ (Array.getElem?_eq_getElem h2)
    · rfl
structure Put (w w' : World) (r : Nat) : Prop where
  os : w'.os = w.os
  tape : w'.tape = w.tape
  output : w'.output = w.output
  size : w'.heap.size = w.heap.size
  block : ∀ c,c ≠ r→w'.heap[c]? = w.heap[c]?
theorem Put.grown {w' : World} (h : Put w w' r) : w.grownBy w' (some r):=⟨h.os,h.tape,h.output,Nat.le_of_eq h.size.symm,fun c _ hne => h.block c fun e => hne (by rw [e])⟩
theorem run_update_set (ht : P.underlying t = some (.map kt et)) (hk : P.underlying kt = some (.int td)) (hS : MapSet k w r S) (x : Int) :
    ∃ w',(Instr.mapUpdate t (.map (some r)) (.int k x) (.bool true)).run P w = .ok () w'∧MapSet k w' r (if x ∈ S then S else S ++ [x])∧Put w w' r:=by
  obtain ⟨es,clock,hb,hE⟩:=hS
  have hf:=findNow_set (td:=td) (k:=k) x es.toList S 0 hE.key hE.tru
  have hc : ∀ e,(Instr.checkKey e 10000 kt (.int k x)).run P w = .ok () w:=fun e => by
    rw [show (10000 : Nat) = 9999 + 1 by rfl]
    unfold Instr.checkKey
    simp only [Sem.run_bind,run_underlying hk,Result.andThen]
    rfl
  have hput : ∀ o,Put w { w with heap:=w.heap.setIfInBounds r o } r:=fun o => ⟨rfl,rfl,rfl,by simp,fun c hne => by simp [Ne.symm hne]⟩
  by_cases hx : x ∈ S
  · obtain ⟨j,hj,_,hjk⟩:=hf.1 hx
    have h1:=MapKept.run_findKey (w:=w) hk hj
    rw [Nat.sub_zero,Array.getElem?_toList] at hjk
    have hsame : es.modify j (fun e => { e with key:=Value.int k x,val:=.bool true }) = es:=by
      refine modify_same es j _ fun e he => ?_
      have e1 : e.key = .int k x:=by rw [he] at hjk; simpa using hjk
      have e2:=hE.tru e (by rw [Array.mem_toList_iff]; exact Array.mem_of_getElem? he)
      rw [← e1,← e2]
    have hstay : (Instr.keyThatStays (((es[j]?).map (·.key)).getD (.int k x)) (.int k x)).run P w = .ok (.int k x) w:=by
      rw [hjk]
      have hsb : Instr.sameBits 10000 (.int k x) (.int k x) = true:=by
        rw [show (10000 : Nat) = 9999 + 1 by rfl]
        simp [Instr.sameBits]
      simp [Instr.keyThatStays,hsb]
    refine ⟨_,?_,?_,hput (.map es clock)⟩
    · simp [Instr.mapUpdate,run_underlying ht,MapKept.run_getObj_map hb,hc,h1,Result.andThen]
      rw [show (Option.map (fun x => x.key) es[j]?).getD (Value.int k x) = (((es[j]?).map (·.key)).getD (.int k x)) from rfl,hstay]
      simp only [Result.andThen]
      rw [hsame]
      exact MapKept.run_setObj_map _ hb
    · rw [if_pos hx]
      exact ⟨es,clock,(MapKept.heap_set hb).1,hE⟩
  · have h1:=MapKept.run_findKey (w:=w) hk (hf.2 hx)
    refine ⟨_,?_,?_,hput (.map (es.push { key:=.int k x,val:=.bool true,born:=clock }) (clock + 1))⟩
    · simp [Instr.mapUpdate,run_underlying ht,MapKept.run_getObj_map hb,hc,h1,Result.andThen]
      exact MapKept.run_setObj_map _ hb
    · rw [if_neg hx]
      refine ⟨_,_,(MapKept.heap_set hb).1,?_,?_,?_,?_,?_⟩
      · rw [Array.toList_push,List.map_append,List.map_append,hE.key]; rfl
      · intro e he
        rw [Array.toList_push,List.mem_append] at he
        rcases he with h | h
        · exact hE.tru e h
        · simp at h; rw [h]
      · intro e he
        rw [Array.toList_push,List.mem_append] at he
        rcases he with h | h
        · have:=hE.old e h; omega
        · simp at h; rw [h]; simp
      · rw [Array.toList_push,List.pairwise_append]
        refine ⟨hE.two,by simp,fun a ha b hb => ?_⟩
        simp at hb
        rw [hb]
        have:=hE.old a ha
        simp
        omega
      · rw [List.nodup_append]
        exact ⟨hE.nod,by simp,fun a ha b hb => by simp at hb; rintro rfl; exact hx (hb ▸ ha)⟩
theorem run_makeMap_set (k : IntKind) (t : TypeId) : (Instr.makeMap t none).run P w = .ok (.map (some w.heap.size)) (w.alloc (.map #[] 0))∧MapSet k (w.alloc (.map #[] 0)) w.heap.size []:=by
  refine ⟨by simp [Instr.makeMap,Result.andThen],#[],0,heap_new w _,rfl,by simp,by simp,by simp,by simp⟩
end
end Go.Mx
