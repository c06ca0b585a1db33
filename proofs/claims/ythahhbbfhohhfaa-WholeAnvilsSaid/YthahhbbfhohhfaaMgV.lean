import Derived.Test.YthahhbbfhohhfaaMgU
import Derived.Lib.OwnBridge
import Derived.Lib.AppendIntMem
import Derived.Laws.AppendOwn
/-
  Rows of arcs that are owned: what a sort and a Compact leave.
-/
namespace Go.Mx
set_option linter.unusedVariables false
set_option linter.unusedSimpArgs false
set_option linter.unusedSectionVars false
open Go Go.RowKit Go.Lib Go.Sort Go.Proofs
abbrev rowA (d : List (Int × Int)) : List Value:=d.flatMap encA
theorem rowA_len (d : List (Int × Int)) : (rowA d).length = d.length * 2:=by
  induction d with
  | nil => rfl
  | cons x d ih => rw [rowA,List.flatMap_cons,List.length_append,ih,encA_len,List.length_cons]; omega
theorem rowA_get : ∀ (d : List (Int × Int)) (j : Nat),j < d.length * 2→(rowA d)[j]? = some (encA d.toArray[j / 2]!)[j % 2]!
  | [],_,h => by simp at h
  | x :: d,0,_ => rfl
  | x :: d,1,_ => rfl
  | x :: d,j + 2,h => by
    have ih:=rowA_get d j (by simp at h; omega)
    have e : (rowA (x :: d))[j + 2]? = (rowA d)[j]?:=rfl
    rw [e,ih,show (j + 2) / 2 = j / 2 + 1 by omega,show (j + 2) % 2 = j % 2 by omega]
    simp
theorem row_flat (d : List (Int × Int)) : flatK encA 2 d.toArray = (rowA d).toArray:=by
  refine ext_get! (by rw [size_flatK]; simp only [List.size_toArray]; rw [rowA_len]) fun t ht => ?_
  have ht' : t < d.length * 2:=by simpa using ht
  rw [get_flatK _ _ _ t (by simpa using ht')]
  have:=rowA_get d t ht'
  rw [getElem!_pos (rowA d).toArray t (by simp only [List.size_toArray]; rw [rowA_len]; exact ht')]
  rw [List.getElem?_eq_getElem (by rw [rowA_len]; exact ht')] at this
  simpa using (Option.some.inj this).symm
theorem own_cells {w : World} {base e g n cap : Nat} {xs : List Value} {sz : Nat} (h : w.ownsRow base e sz (.slice (some ⟨g,0,none⟩) n cap) n xs) :
    base ≤ g∧n ≤ cap∧cap ≤ maxLen∧∃ cur,w.heap[g]? = some (.cells cur e (0,0))∧cur.size = cap * sz∧cur.toList.take (n * sz) = xs:=by
  rcases h.2 with ⟨h0,_⟩ | ⟨g',cap',cur,e0,hb,hg,hn,hm,hs,ht⟩
  · cases h0
  · injection e0 with e1 _ e3
    injection e1 with e1
    injection e1 with e1
    subst e1 e3
    exact ⟨hb,hn,hm,cur,hg,hs,ht⟩
theorem own_holds {w : World} {base e g cap : Nat} {d : List (Int × Int)} (h : w.ownsRow base e 2 (.slice (some ⟨g,0,none⟩) d.length cap) d.length (rowA d)) : HoldsK encA 2 w g 0 d.toArray:=by
  obtain ⟨hb,hn,hm,cur,hg,hs,ht⟩:=own_cells h
  intro j hj
  rw [row_flat] at hj ⊢
  have hj' : j < d.length * 2:=by rw [← rowA_len]; simpa using hj
  have hjc : j < cur.size:=by omega
  have e1 : (rowA d)[j]? = some cur[j]:=by
    rw [← ht,List.getElem?_take,if_pos hj']
    simp [hjc]
  constructor
  · rw [Nat.zero_add]
    simp only [World.cell?,hg]
    rw [Array.getElem?_eq_getElem hjc,getElem!_pos _ j hj]
    rw [List.getElem?_eq_getElem (by rw [rowA_len]; exact hj')] at e1
    simp only [id_eq,List.getElem_toArray]
    exact congrArg some (Option.some.inj e1).symm
  · rw [Nat.zero_add]
    simp [World.frozen?,hg]
theorem put_heap {w : World} {g q e : Nat} {F cur : Array Value} {os : Array Obj} (hg : w.heap[g]? = some (.cells cur e (0,0))) :
    (grow (putRow id (Sort.ahead w q) g 0 F) os).heap[g]? = some (.cells (Go.Sort.putCells id 0 F cur) e (0,0)):=by
  have hl:=lt_of_block hg
  rw [Sort.heap_grow_old _ _ (by rw [Go.Sort.size_putRow]; exact hl)]
  simp [putRow,mapBlock,Sort.ahead,Array.getElem?_modify,hg,onCells]
theorem own_put {w : World} {base g cap e q : Nat} {cur : Array Value} {d : List (Int × Int)} {os : Array Obj} (hb : base ≤ g) (hg : w.heap[g]? = some (.cells cur e (0,0))) (hs : cur.size = cap * 2) (hd : d.length ≤ cap) (hm : cap ≤ maxLen) (m : Nat) (hmd : m ≤ d.length) :
    (grow (putRowK encA 2 (Sort.ahead w q) g 0 d.toArray) os).ownsRow base e 2 (.slice (some ⟨g,0,none⟩) m cap) m (rowA (d.take m)):=by
  unfold putRowK
  rw [row_flat]
  have hl : (rowA (d.take m)).length = m * 2:=by rw [rowA_len,List.length_take]; omega
  refine ⟨hl,.inr ⟨g,cap,Go.Sort.putCells id 0 (rowA d).toArray cur,rfl,hb,put_heap hg,by omega,hm,by simpa [Go.Sort.putCells] using hs,?_⟩⟩
  have e1 : rowA (d.take m) = (rowA d).take (m * 2):=by
    have h1 : rowA d = rowA (d.take m) ++ rowA (d.drop m):=by rw [← List.flatMap_append,List.take_append_drop]
    have h2 : (rowA (d.take m) ++ rowA (d.drop m)).take (m * 2) = rowA (d.take m):=List.take_left' hl
    rw [h1,h2]
  rw [e1]
  apply List.ext_getElem?
  intro j
  rw [List.getElem?_take,List.getElem?_take]
  split
  · rename_i hj
    have hjc : j < cur.size:=by omega
    have hjd : j < (rowA d).length:=by rw [rowA_len]; omega
    rw [Array.getElem?_toList]
    simp only [Go.Sort.putCells,Array.getElem?_mapIdx,Array.getElem?_eq_getElem hjc,Option.map_some]
    rw [if_pos (by simp only [List.size_toArray]; omega),List.getElem?_eq_getElem hjd]
    simp only [Nat.sub_zero,id_eq]
    rw [getElem!_pos _ j (by simpa using hjd)]
    simp
  · rfl
theorem below_put {w0 w : World} {B g q : Nat} {d : Array (Int × Int)} {os : Array Obj} (h : Below B w0 w) (hg : B ≤ g) (hB : B ≤ w.heap.size) : Below B w0 (grow (putRowK encA 2 (Sort.ahead w q) g 0 d) os):=by
  have h1:=below_putRow (enc:=id) (q:=q) (d:=flatK encA 2 d) h hg
  have h2:=Lib.below_grow B (putRow id (Sort.ahead w q) g 0 (flatK encA 2 d)) (by rw [Go.Sort.size_putRow]; exact hB) 0 os
  exact h1.trans h2
end Go.Mx
namespace Go.Mx
set_option linter.unusedVariables false
set_option linter.unusedSimpArgs false
set_option linter.unusedSectionVars false
open Go Go.RowKit Go.Lib Go.Sort Go.Proofs
def encP (p : Int × Int × Int) : List Value:=[.int .i64 p.1,.int .i64 p.2.1,.int .i64 p.2.2]
abbrev rowP (ps : List (Int × Int × Int)) : List Value:=ps.flatMap encP
def arcsD (ps : List (Int × Int × Int)) : List (Int × Int):=compactUpTo (srtA (ps.map (·.2)).toArray) (srtA (ps.map (·.2)).toArray).size
theorem srtA_size (d : Array (Int × Int)) : (srtA d).size = d.size:=by simp [srtA]
theorem compactUpTo_len (d : Array (Int × Int)) (m : Nat) : (compactUpTo d m).length ≤ m:=by
  unfold compactUpTo
  rw [List.length_map]
  exact Nat.le_trans (List.length_filter_le _ _) (by simp)
theorem arcsD_len (ps : List (Int × Int × Int)) : (arcsD ps).length ≤ ps.length:=by
  unfold arcsD
  refine Nat.le_trans (compactUpTo_len _ _) ?_
  rw [srtA_size]; simp
theorem arcsD_nil : arcsD [] = []:=by simp [arcsD,srtA,compactUpTo]
theorem arcsD_nil_iff {ps : List (Int × Int × Int)} (h : arcsD ps = []) : ps = []:=by
  apply Classical.byContradiction
  intro hp
  have hl : 0 < ps.length:=List.length_pos_iff.2 hp
  have hs : (srtA (ps.map (·.2)).toArray).size = ps.length:=by rw [srtA_size]; simp
  unfold arcsD compactUpTo at h
  rw [hs] at h
  have h1:=List.map_eq_nil_iff.1 h
  have h2 : 0 ∈ (List.range ps.length).filter (keeps (srtA (ps.map (·.2)).toArray)):=List.mem_filter.2 ⟨List.mem_range.2 hl,keeps_lt_one _ 0 (by omega)⟩
  rw [h1] at h2
  simp at h2
theorem rowP_get : ∀ (d : List (Int × Int × Int)) (i : Nat) (p : Int × Int × Int),d[i]? = some p→(rowP d)[i * 3]? = some (.int .i64 p.1)∧(rowP d)[i * 3 + 1]? = some (.int .i64 p.2.1)∧(rowP d)[i * 3 + 2]? = some (.int .i64 p.2.2)
  | [],i,p,h => by simp at h
  | x :: d,0,p,h => by cases h; exact ⟨rfl,rfl,rfl⟩
  | x :: d,i + 1,p,h => by
    have ih:=rowP_get d i p h
    rw [show (i + 1) * 3 = i * 3 + 3 by omega]
    exact ih
theorem compact37_none (a : Option Addr) (cap : Nat) (w : World) : Calls Try.prog 37 #[.slice a 0 cap] w fun e w' => e = .returned (.slice a 0 cap)∧w' = w:=by
  go_enter Try.func37,Try.ntmps37
  go_wp2_with fail
  go_ret
  exact ⟨rfl,rfl⟩
theorem own_blk {w : World} {base e sz n : Nat} {v : Value} {xs : List Value} (h : w.ownsRow base e sz v n xs) {j : Nat} (hj : v.ownBlock = some j) : base ≤ j:=by
  rcases h.2 with ⟨rfl,_⟩ | ⟨g',cap',cur,rfl,hb,_⟩
  · cases hj
  · cases hj; exact hb
theorem rowP_succ {ps : List (Int × Int × Int)} {i : Nat} {p : Int × Int × Int} (h : ps[i]? = some p) : rowA ((ps.take (i + 1)).map (·.2)) = rowA ((ps.take i).map (·.2)) ++ [.int .i64 p.2.1,.int .i64 p.2.2]:=by
  rw [List.take_add_one,h]
  simp [encA]
theorem info43 : (Try.prog.info? 43).map (fun i => (i.zero,i.size,i.bytes)) = some (some (.agg #[.int .i64 0,.int .i64 0]),2,16):=by kernel_rfl
set_option maxHeartbeats 2000000 in
set_option maxRecDepth 100000 in
theorem arcs16 (lv pv : Value) (base : Nat) (ps : List (Int × Int × Int)) (w : World) (hps : ps.length ≤ 1000) (h : w.ownsRow base 74 3 pv ps.length (rowP ps)) :
    Calls Try.prog 16 #[.agg #[lv,pv]] w fun e w' => ∃ v,e = .returned v∧w'.ownsRow w.heap.size 43 2 v (arcsD ps).length (rowA (arcsD ps))∧Below w.heap.size w w'∧(arcsD ps = []→v = .slice none 0 0):=by
  obtain ⟨pa,pc,rfl,hcell⟩ : ∃ pa pc,pv = .slice pa ps.length pc∧∀ i p,ps[i]? = some p→∃ g,g < w.heap.size∧pa = some ⟨g,0,none⟩∧w.cell? ⟨g,i * 3,none⟩ = some (.int .i64 p.1)∧w.cell? ⟨g,i * 3 + 1,none⟩ = some (.int .i64 p.2.1)∧w.cell? ⟨g,i * 3 + 2,none⟩ = some (.int .i64 p.2.2):=by
    rcases h.2 with ⟨rfl,h0⟩ | ⟨g,cap,cur,rfl,hb,hg,hn,hm,hs,ht⟩
    · exact ⟨none,0,by rw [h0],fun i p hp => by rw [List.length_eq_zero_iff.1 h0] at hp; simp at hp⟩
    · refine ⟨_,cap,rfl,fun i p hp => ⟨g,lt_of_block hg,rfl,?_⟩⟩
      have hi : i < ps.length:=(List.getElem?_eq_some_iff.1 hp).1
      have key : ∀ j u,j < ps.length * 3→(rowP ps)[j]? = some u→w.cell? ⟨g,j,none⟩ = some u:=by
        intro j u hj hu
        rw [← ht,List.getElem?_take,if_pos hj] at hu
        simp only [World.cell?,hg]
        simpa using hu
      obtain ⟨h1,h2,h3⟩:=rowP_get ps i p hp
      exact ⟨key _ _ (by omega) h1,key _ _ (by omega) h2,key _ _ (by omega) h3⟩
  obtain ⟨i0,hi,hz0,hz1,hz2⟩:=info_parts info43
  have HC:=Lib.hid hcell
  clear h hcell
  go_enter Try.func16,Try.ntmps16
  go_wp2_with fail
  go_loopg [3,9] ps.length (fun r v s9 wr => ∃ i : Nat,i + r = ps.length∧s9 = .int .i64 i∧wr.ownsRow w.heap.size 43 2 v i (rowA ((ps.take i).map (·.2)))∧Below w.heap.size w wr∧(i = 0→v = .slice none 0 0))
  case atStart => exact ⟨0,by omega,rfl,⟨rfl,.inl ⟨rfl,rfl⟩⟩,(Below.refl _ _).alloc (Nat.le_refl _) _,fun _ => rfl⟩
  case round =>
    obtain ⟨i,hir,rfl,hown,hbel,hnl⟩:=hrel
    have HNl:=Lib.hid hnl
    clear hnl
    have HO:=Lib.hid hown
    have HB:=Lib.hid hbel
    clear hown hbel
    by_cases hlt : i < ps.length
    · obtain ⟨p,hp⟩ : ∃ p,ps[i]? = some p:=⟨_,List.getElem?_eq_getElem hlt⟩
      obtain ⟨g,hg,hpa,c1,c2,c3⟩:=HC.out i p hp
      obtain ⟨p1,p2,p3⟩:=p
      have cc1 : wr.cell? ⟨g,i * 3,none⟩ = some (.int .i64 p1):=cell_later ((HB.out)) c1
      have cc2 : wr.cell? ⟨g,i * 3 + 1,none⟩ = some (.int .i64 p2):=cell_later HB.out c2
      have cc3 : wr.cell? ⟨g,i * 3 + 2,none⟩ = some (.int .i64 p3):=cell_later HB.out c3
      have HP:=Lib.hid hp
      subst hpa
      clear c1 c2 c3 hp
      obtain ⟨W2,hW2⟩ : ∃ W2,W2 = (wr.alloc (.cells #[.int .i64 p1,.int .i64 p2,.int .i64 p3] 74)).alloc (.cells #[.int .i64 p2,.int .i64 p3] 43):=⟨_,rfl⟩
      have z2 : W2.heap.size = wr.heap.size + 2:=by rw [hW2]; simp
      have HO2 : Hid (W2.ownsRow w.heap.size 43 2 u3 i (rowA ((ps.take i).map (·.2)))):=by rw [Hid,hW2]; exact (HO.out.alloc _).alloc _
      have HN : Hid (∀ j u,([Value.int .i64 p2,.int .i64 p3] : List Value)[j]? = some u→W2.cell? ((⟨wr.heap.size + 1,0,none⟩ : Addr).add j) = some u):=by
        intro j u hu
        have hz : (wr.alloc (.cells #[.int .i64 p1,.int .i64 p2,.int .i64 p3] 74)).heap.size = wr.heap.size + 1:=by simp
        have hb : W2.heap[wr.heap.size + 1]? = some (.cells #[.int .i64 p2,.int .i64 p3] 43 (0,0)):=by rw [hW2,← hz]; exact heap_new _ _
        rw [Addr.add_lit,Nat.zero_add]
        simp only [World.cell?,hb]
        simpa using hu
      have HB2 : Hid (Below w.heap.size w W2):=by rw [Hid,hW2]; exact (HB.out.alloc HB.out.size _).alloc (by have:=HB.out.size; simp; omega) _
      have hsz:=HB.out.size
      go_wp2_with (rw [← hW2]; at_builtin; refine wpList_append_own _ rfl (.tmp 13) (.tmp 19) 25 rfl w.heap.size 43 i0 (.agg #[.int .i64 0,.int .i64 0]) 2 16 Try.underlying25 hi hz0 hz1 hz2 rfl (by decide) _ i _ rfl HO2.out ⟨wr.heap.size + 1,0,none⟩ 1 1 [.int .i64 p2,.int .i64 p3] rfl rfl HN.out (by simp [Value.oneCell']) (by unfold maxLen; omega) (by omega) (by omega) ?_; intro v' w3 hown' hgrow _; have HO3:=Lib.hid hown'; have HG3:=Lib.hid hgrow; clear hown' hgrow)
      have HB3 : Hid (Below w.heap.size w w3):=HB2.out.grown HG3.out (by omega) (fun j hj => own_blk HO2.out hj)
      have hw:=wrap_succ (i:=i) (by omega)
      go_roundg (gk - 1)
      case measure => omega
      case rel =>
        refine ⟨i + 1,by omega,by go_num,?_,HB3.out,fun h => absurd h (by omega)⟩
        have:=HO3.out
        rwa [← rowP_succ HP.out] at this
    · obtain rfl : i = ps.length:=by omega
      have HO1 : Hid (wr.ownsRow w.heap.size 43 2 u3 ps.length (rowA (ps.map (·.2)))):=by have:=HO.out; rwa [List.take_length] at this
      by_cases hz : ps.length = 0
      · have hnil : ps = []:=List.length_eq_zero_iff.1 hz
        subst hnil
        obtain rfl : u3 = .slice none 0 0:=HNl.out rfl
        go_wp2_with (first
          | (go_at_call 33; refine (sort33_none _ _ _).mono ?_; rintro e w' ⟨rfl,rfl⟩)
          | (go_at_call 37; refine (compact37_none _ _ _).mono ?_; rintro e w' ⟨rfl,rfl⟩))
        go_ret
        exact ⟨_,rfl,by rw [arcsD_nil]; exact HO1.out,HB.out,fun _ => rfl⟩
      · obtain ⟨g3,cap3,rfl⟩ : ∃ g3 cap3,u3 = .slice (some ⟨g3,0,none⟩) ps.length cap3:=by
          rcases HO1.out.2 with ⟨e,e2⟩ | ⟨g',cap',cur,e0,hb,hg,hn,hm,hs,ht⟩
          · omega
          · exact ⟨_,_,e0⟩
        have hq : (ps.map (·.2)).length = ps.length:=by simp
        have HO2:=HO1.out
        rw [← hq] at HO2
        have hH:=own_holds HO2
        obtain ⟨hb,hn,hm,cur,hgc,hcs,hct⟩:=own_cells HO2
        have hs33:=sort33 g3 cap3 (ps.map (·.2)).toArray wr hH (lt_of_block hgc) (by simp; omega)
        have HC37 : Hid (∀ n os,Calls Try.prog 37 #[.slice (some ⟨g3,0,none⟩) ps.length cap3] (sortWorldK encA 2 wr g3 0 n (srtA (ps.map (·.2)).toArray) os) fun e w' => ∃ v,e = .returned v∧w'.ownsRow w.heap.size 43 2 v (arcsD ps).length (rowA (arcsD ps))∧Below w.heap.size w w'):=by
          intro n os
          have hsz : (srtA (ps.map (·.2)).toArray).size = ps.length:=by rw [srtA_size]; simp
          have hH2:=holdsK_sortWorldK_c encA 2 wr g3 0 _ (srtA (ps.map (·.2)).toArray) n os hH (lt_of_block hgc) (by rw [srtA_size])
          have:=compactA_arr g3 cap3 (srtA (ps.map (·.2)).toArray) _ hH2 (by omega) (by omega)
          rw [hsz] at this
          refine this.mono ?_
          rintro e w' ⟨rfl,q,rfl⟩
          have hce : compactUpTo (srtA (ps.map (·.2)).toArray) ps.length = arcsD ps:=by rw [arcsD,hsz]
          rw [hce]
          have hlen:=arcsD_len ps
          have hh : (sortWorldK encA 2 wr g3 0 n (srtA (ps.map (·.2)).toArray) os).heap[g3]? = some (.cells (Go.Sort.putCells id 0 (flatK encA 2 (srtA (ps.map (·.2)).toArray)) cur) 43 (0,0)):=put_heap hgc
          have h1:=own_put (q:=q) (os:=#[]) (d:=arcsD ps ++ List.replicate (ps.length - (arcsD ps).length) (0,0)) hb hh (by simpa [Go.Sort.putCells] using hcs) (by simp; omega) hm (arcsD ps).length (by simp)
          rw [grow_empty,List.take_left' rfl] at h1
          have h2:=below_put (q:=q) (os:=#[]) (d:=(arcsD ps ++ List.replicate (ps.length - (arcsD ps).length) (0,0)).toArray) (below_put (q:=n) (os:=os) (d:=srtA (ps.map (·.2)).toArray) HB.out hb (by have:=HB.out.size; exact this)) hb (by
            have:=size_sortWorldK_c encA 2 wr g3 0 n (srtA (ps.map (·.2)).toArray) os
            have h3:=HB.out.size
            exact Nat.le_trans h3 this)
          rw [grow_empty] at h2
          exact ⟨_,rfl,h1,h2⟩
        have hs33':=hs33
        rw [show (ps.map (·.2)).toArray.size = ps.length by simp] at hs33'
        have HS:=Lib.hid hs33'
        clear hs33 hs33' hH HO2 hgc hct hcs hq
        go_wp2_with (first
          | (go_at_call 33; refine HS.out.mono ?_; rintro e w' ⟨rfl,n,os,rfl⟩)
          | (go_at_call 37; refine (HC37.out _ _).mono ?_; rintro e w' ⟨v,rfl,hv1,hv2⟩; have HV:=Lib.hid (And.intro hv1 hv2); clear hv1 hv2))
        go_ret
        exact ⟨_,rfl,HV.out.1,HV.out.2,fun h => absurd (by rw [arcsD_nil_iff h]; rfl) hz⟩
end Go.Mx
