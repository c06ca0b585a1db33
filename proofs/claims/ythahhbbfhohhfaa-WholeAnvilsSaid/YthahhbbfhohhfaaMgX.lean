import Derived.Test.YthahhbbfhohhfaaMgW
import Derived.Laws.ResultCell
import Derived.Deep.RegionHeld3
import Derived.Test.YthahhbbfhohhfaaMgT
import Derived.Test.YthahhbbfhohhfaaMgR
import Derived.Test.YthahhbbfhohhfaaMgM
/-
  precedence.gather,by hand.
-/
namespace Go.Mx
set_option linter.unusedVariables false
set_option linter.unusedSimpArgs false
set_option linter.unusedSectionVars false
open Go Go.RowKit Go.Lib Go.Sort
def pcS (s : Int) (L : List (Int × Int)) : List (Int × Int × Int):=L.map fun a => (s,a.1,a.2)
def psS (l : List Spc) : Nat→List (Int × Int × Int)
  | 0 => []
  | s + 1 => psS l s ++ pcS s (beA l s l.length)
def pcC (l : List Spc) (cs : List (Int × Int)) : List (Int × Int × Int):=cs.map fun c => (2,plN l c.1,plN l c.2)
def misB (l : List Spc) (c : Int × Int) : Bool:=decide (plN l c.1 < 0) || decide (plN l c.2 < 0)
def samB (l : List Spc) (c : Int × Int) : Bool:=plN l c.1 == plN l c.2
def gatE (l : List Spc) (cs : List (Int × Int)) : Int:=if chkE l = 0 then if cs.any (misB l) = true then 7 else if cs.any (samB l) = true then 1 else 0 else chkE l
def gatP (l : List Spc) (cs : List (Int × Int)) : List (Int × Int × Int):=psS l 2 ++ pcC l cs
theorem pcS_succ {s : Int} {L : List (Int × Int)} {i : Nat} (hi : i < L.length) : pcS s (L.take (i + 1)) = pcS s (L.take i) ++ [(s,(nth L (0,0) i).1,(nth L (0,0) i).2)]:=by
  unfold pcS
  rw [take_succ_nth (0,0) hi,List.map_append]
  rfl
theorem pcC_succ {l : List Spc} {L : List (Int × Int)} {i : Nat} (hi : i < L.length) : pcC l (L.take (i + 1)) = pcC l (L.take i) ++ [(2,plN l (nth L (0,0) i).1,plN l (nth L (0,0) i).2)]:=by
  unfold pcC
  rw [take_succ_nth (0,0) hi,List.map_append]
  rfl
theorem pcS_len (s : Int) (L : List (Int × Int)) : (pcS s L).length = L.length:=by simp [pcS]
theorem pcC_len (l : List Spc) (L : List (Int × Int)) : (pcC l L).length = L.length:=by simp [pcC]
theorem psS_len (l : List Spc) (hl : l.length ≤ 7) : ∀ s,(psS l s).length ≤ s * 49
  | 0 => by simp [psS]
  | s + 1 => by
    have h1:=psS_len l hl s
    have h2:=beA_len l s l.length
    have h3 : l.length * l.length ≤ 7 * 7:=Nat.mul_le_mul hl hl
    simp only [psS,List.length_append,pcS_len]
    omega
theorem info74 : (Go.Proofs.Try.prog.info? 74).map (fun i => (i.zero,i.size,i.bytes)) = some (some (.agg #[.int .i64 0,.int .i64 0,.int .i64 0]),3,24):=by kernel_rfl
def NoA (a : Option Addr) (bE : Nat) (lv : Value) (w : World) : Prop:=∀ pv,w.heap[bE]? = some (.cells #[lv,pv] 46 (0,0))→∀ x,a = some x→pv.ownBlock ≠ some x.block
theorem arcs_app {a : Option Addr} {A : List (Int × Int)} {bE : Nat} {lv pv v' : Value} {wr W2 w3 : World} (hA : ArcsAt a A wr) (hX : ∀ x,a = some x→0 < A.length→bE < x.block) (hA0 : 0 < A.length) (hb : Below wr.heap.size wr W2) (hg : W2.grownBy w3 pv.ownBlock) (hpv : W2.heap[bE]? = some (.cells #[lv,pv] 46 (0,0)))
    (hn : ∀ x,a = some x→pv.ownBlock ≠ some x.block) (hv : v'.ownBlock = pv.ownBlock ∨ v'.ownBlock = some W2.heap.size) (he : (w3.setCell ⟨bE,1,none⟩ v').heap[bE]? = some (.cells #[lv,v'] 46 (0,0))) :
    ArcsAt a A (w3.setCell ⟨bE,1,none⟩ v')∧NoA a bE lv (w3.setCell ⟨bE,1,none⟩ v'):=by
  have hz : (w3.setCell ⟨bE,1,none⟩ v').heap.size = w3.heap.size:=by simp [World.setCell]
  refine ⟨hA.keep (by rw [hz]; exact Nat.le_trans hb.size hg.size) fun x hx hl => ?_,fun pv' hp x hx => ?_⟩
  · have h1:=hX x hx hA0
    rw [Below.heap_setCell _ _ _ _ (by show x.block ≠ bE; omega),hg.block _ (Nat.lt_of_lt_of_le hl hb.size) (fun e => hn x hx e.symm),hb.block _ hl]
  · rw [he] at hp
    simp only [Option.some.injEq,Obj.cells.injEq,Array.mk.injEq,List.cons.injEq,and_true,true_and] at hp
    obtain ⟨i0,h0⟩ : ∃ i,i < A.length:=⟨0,hA0⟩
    obtain ⟨y,h1,h2,_⟩:=hA i0 h0
    rw [hx] at h1
    cases h1
    rw [blk_add] at h2
    rw [← hp]
    rcases hv with h3 | h3
    · rw [h3]; exact hn x hx
    · rw [h3]
      have:=hb.size
      intro e
      have:=Option.some.inj e
      omega
theorem own_slice {w : World} {base e sz n : Nat} {v : Value} {xs : List Value} (h : w.ownsRow base e sz v n xs) : ∃ a n' c,v = .slice a n' c:=by
  rcases h.2 with ⟨rfl,_⟩ | ⟨g,cap,cur,rfl,_⟩
  · exact ⟨_,_,_,rfl⟩
  · exact ⟨_,_,_,rfl⟩
theorem store3_later {W : World} {b o g : Nat} {v x y z : Value} (h : W.cell? ⟨b,o,none⟩ = some v) (hne : b ≠ g) : (((W.setCell ⟨g,0,none⟩ x).setCell ⟨g,1,none⟩ y).setCell ⟨g,2,none⟩ z).cell? ⟨b,o,none⟩ = some v:=by
  rw [cell_keep (w:=W)]
  · exact h
  · rw [Below.heap_setCell _ _ _ _ hne,Below.heap_setCell _ _ _ _ hne,Below.heap_setCell _ _ _ _ hne]
theorem store3_heap {W : World} {g : Nat} {a b c x y z : Value} {t : TypeId} (h : W.heap[g]? = some (.cells #[a,b,c] t (0,0))) : (((W.setCell ⟨g,0,none⟩ x).setCell ⟨g,1,none⟩ y).setCell ⟨g,2,none⟩ z).heap[g]? = some (.cells #[x,y,z] t (0,0)):=by
  simp [World.setCell,Array.getElem?_modify,h]
theorem store3_below {B : Nat} {w0 W : World} {g : Nat} {x y z : Value} (h : Below B w0 W) (hg : B ≤ g) : Below B w0 (((W.setCell ⟨g,0,none⟩ x).setCell ⟨g,1,none⟩ y).setCell ⟨g,2,none⟩ z):=((h.setCell hg _).setCell hg _).setCell hg _
theorem drew_size (w : World) : w.drew.heap.size = w.heap.size:=rfl
theorem alloc_later {w : World} {a : Addr} {v : Value} (o : Obj) (h : w.cell? a = some v) : (w.alloc o).cell? a = some v:=cell_later ((Below.refl _ _).alloc (Nat.le_refl _) _) h
theorem z_facts {W : World} {g : Nat} {x y z : Value} {t : TypeId} (h : W.heap[g]? = some (.cells #[x,y,z] t (0,0))) : W.cell? ⟨g,0,none⟩ = some x∧W.cell? ⟨g,1,none⟩ = some y∧W.cell? ⟨g,2,none⟩ = some z∧W.frozen? ⟨g,0,none⟩ = false∧W.frozen? ⟨g,1,none⟩ = false∧W.frozen? ⟨g,2,none⟩ = false:=by
  simp [World.cell?,World.frozen?,h]
theorem res15 (tmps : Array Value) (w : World) (g : Nat) (cs : Array Value) (hp : tmps.getD 4 undef = .pointer (some ⟨g,0,none⟩)) (hg : w.heap[g]? = some (.cells cs 46 (0,0))) (hs : cs.size = 2) :
    (results Go.Proofs.Try.f15 tmps).run Go.Proofs.Try.prog w = .ok (.tuple #[.agg cs,tmps.getD 5 undef]) w:=by
  have hp' : tmps[4]?.getD undef = .pointer (some ⟨g,0,none⟩):=by simpa using hp
  rw [results_cell_tmp (p:=4) (u:=5) (ty:=46) rfl]
  simp [hp',asAddr,Result.andThen,run_loadVar_row w g 46 46 cs (0,0) _ hg Go.Proofs.Try.underlying46 rfl (by rw [hs]; kernel_rfl)]
theorem store2 {w : World} {g : Nat} {x y : Value} {t : TypeId} (a b : Value) (h : w.heap[g]? = some (.cells #[x,y] t (0,0))) : ((w.setCell ⟨g,0,none⟩ a).setCell ⟨g,1,none⟩ b).heap[g]? = some (.cells #[a,b] t (0,0)):=by
  simp [World.setCell,Array.getElem?_modify,h]
set_option maxHeartbeats 4000000 in
set_option maxRecDepth 100000 in
theorem gather_any (b b' : Bool) (l : List Spc) (cs : List (Int × Int)) (hl : l.length ≤ 7) (hcs : cs.length ≤ 6) (w : World) (lv cv : Value) (ha : ArgOK w lv (sP b l)) (hc : ArgOK w cv (sa b' cs)) :
    Calls Go.Proofs.Try.prog 15 #[lv,cv] w fun e w' => (∃ x1 x2 x3 y1 y2 y3,e = .returned (.tuple #[.agg #[.slice x1 x2 x3,.slice y1 y2 y3],.int .i64 (gatE l cs)])∧(gatE l cs = 0→w'.ownsRow w.heap.size 74 3 (.slice y1 y2 y3) (gatP l cs).length (rowP (gatP l cs))))∧Below w.heap.size w w':=by
  obtain ⟨la,lcap,hlv,_,_,_⟩:=spc_tree ha
  have HA:=Lib.hid ha
  obtain ⟨tc,ht1,ht2,ht3,ht4⟩:=hc
  obtain ⟨ca,ccap,hcv,_,hcc⟩:=arc_tree ht1 ht3 ht4
  rw [ht2] at hcv
  have HC:=Lib.hid (show ArcsAt ca cs w from hcc)
  clear ha ht1 ht2 ht3 ht4 hcc
  subst hlv hcv
  obtain ⟨i0,hi,hz0,hz1,hz2⟩:=info_parts info74
  go_enter Go.Proofs.Try.func15,Go.Proofs.Try.ntmps15
  go_wp2_with fail
  obtain ⟨wA,hwA⟩ : ∃ wA,wA = w.alloc (.cells #[.slice none 0 0,.slice none 0 0] 46):=⟨_,rfl⟩
  have hbA : Below w.heap.size w wA:=by rw [hwA]; exact (Below.refl _ _).alloc (Nat.le_refl _) _
  have hzA : wA.heap.size = w.heap.size + 1:=by rw [hwA]; simp
  have eA : wA.heap[w.heap.size]? = some (.cells #[.slice none 0 0,.slice none 0 0] 46 (0,0)):=by rw [hwA]; exact heap_new _ _
  rw [← hwA]
  have HAA : Hid (ArgOK wA (.slice la l.length lcap) (sP b l)):=by
    obtain ⟨t,q1,q2,q3,q4⟩:=HA.out
    exact ⟨t,q1,q2,q3.same fun c hc => hbA.block c (q4 c hc),fun c hc => Nat.lt_of_lt_of_le (q4 c hc) hbA.size⟩
  refine (chk_any b l wA _ HAA.out).mono ?_
  rintro e w1 ⟨rfl,hb1⟩
  have hB1 : Below w.heap.size w w1:=hbA.trans (hb1.mono (by omega))
  have e1 : w1.heap[w.heap.size]? = some (.cells #[.slice none 0 0,.slice none 0 0] 46 (0,0)):=by rw [hb1.block _ (by omega)]; exact eA
  have hl1:=lt_of_block e1
  clear hwA hbA hzA eA hb1
  by_cases hck : chkE l = 0
  · rw [hck]
    have hr7 : ((l.length : Nat) : Int) ≤ 24:=by omega
    have hr6 : ((cs.length : Nat) : Int) ≤ 64:=by omega
    have HA1 : Hid (ArgOK w1 (.slice la l.length lcap) (sP b l)):=by
      obtain ⟨t,q1,q2,q3,q4⟩:=HA.out
      exact ⟨t,q1,q2,q3.same fun c hc => hB1.block c (q4 c hc),fun c hc => Nat.lt_of_lt_of_le (q4 c hc) hB1.size⟩
    have HC1 : Hid (ArcsAt ca cs w1):=HC.out.keep hB1.size fun x hx hl => hB1.block _ hl
    have HG1 : Hid (GTW w (.slice la l.length lcap) w.heap.size w1.heap.size [] (w1.alloc (.cells #[.slice la l.length lcap,.slice none 0 0] 46))) :=
      ⟨hB1.alloc hB1.size _,by rw [Below.heap_alloc _ _ _ hl1]; exact e1,.slice none 0 0,heap_new _ _,rfl,.inl ⟨rfl,rfl⟩⟩
    have HB1:=Lib.hid hB1
    clear e1 hB1
    go_wp2_with fail
    go_loopg [34] 2 (fun r s34 wr => ∃ s : Nat,s + r = 2∧s34 = .int .i64 s∧GTW w (.slice la l.length lcap) w.heap.size w1.heap.size (psS l s) wr)
    case atStart => exact ⟨0,rfl,rfl,HG1.out⟩
    case round =>
      obtain ⟨s,hs,rfl,hG⟩:=hrel
      have HG:=Lib.hid hG
      clear hG HG1
      by_cases hlt : s < 2
      · have hso : (s : Int) = 0 ∨ (s : Int) = 1:=by omega
        have HAr : Hid (ArgOK wr (.slice la l.length lcap) (sP b l)):=by
          obtain ⟨t,q1,q2,q3,q4⟩:=HA.out
          exact ⟨t,q1,q2,q3.same fun c hc => HG.out.below.block c (q4 c hc),fun c hc => Nat.lt_of_lt_of_le (q4 c hc) HG.out.below.size⟩
        have hw:=wrap_succ (i:=s) (by omega)
        have hbE : w1.heap.size < wr.heap.size:=by
          obtain ⟨pv,h1,_⟩:=HG.out.ev
          exact lt_of_block h1
        go_wp2_with fail
        refine (before_calls (by omega) hck HAr.out s hso).mono ?_
        rintro e w2 ⟨⟨a,cap,rfl,hx,hA⟩,hb2⟩
        have HX : Hid (∀ x,a = some x→0 < (beA l s l.length).length→w1.heap.size < x.block):=fun x h1 h2 => by have:=hx x h1 h2; omega
        have HAc : Hid (ArcsAt a (beA l s l.length) w2):=hA
        have HG2 : Hid (GTW w (.slice la l.length lcap) w.heap.size w1.heap.size (psS l s) w2):=HG.out.later hb2
        have HN2 : Hid (0 < (beA l s l.length).length→NoA a w1.heap.size (.slice la l.length lcap) w2):=fun hp0 pv hpv x hxa he => by
          obtain ⟨pv',h1,h2⟩:=HG.out.ev
          have h3 : w2.heap[w1.heap.size]? = _:=hb2.block _ (lt_of_block h1)
          rw [h1,hpv] at h3
          simp only [Option.some.injEq,Obj.cells.injEq,Array.mk.injEq,List.cons.injEq,and_true,true_and] at h3
          subst h3
          obtain ⟨cur,h4⟩:=own_elem h2 he
          have:=lt_of_block h4
          have:=hx x hxa hp0
          omega
        have hAl : (beA l s l.length).length ≤ 49:=by
          have h1:=beA_len l s l.length
          have h2 : l.length * l.length ≤ 7 * 7:=Nat.mul_le_mul hl hl
          omega
        have hpl:=psS_len l hl s
        clear hx hA hb2 HAr HG
        obtain ⟨A,hAe⟩ : ∃ A,beA l s l.length = A:=⟨_,rfl⟩
        have HAe:=Lib.hid hAe
        rw [hAe] at HX HAc HN2 hAl ⊢
        clear hAe
        obtain ⟨go,hgo⟩ : ∃ go,go = gk:=⟨gk,rfl⟩
        subst hgo
        go_wp2_with fail
        go_loopg [45] A.length (fun r s45 wr => ∃ i : Nat,i + r = A.length∧s45 = .int .i64 i∧GTW w (.slice la l.length lcap) w.heap.size w1.heap.size (psS l s ++ pcS s (A.take i)) wr∧ArcsAt a A wr∧(0 < A.length→NoA a w1.heap.size (.slice la l.length lcap) wr))
        case atStart => exact ⟨0,by omega,rfl,by simpa [pcS] using HG2.out,HAc.out,HN2.out⟩
        case round =>
          obtain ⟨i,hi',rfl,hG,hAr,hN⟩:=hrel
          have HGr:=Lib.hid hG
          have HAr:=Lib.hid hAr
          have HNr:=Lib.hid hN
          clear hG hAr hN HG2 HAc HN2
          by_cases hlti : i < A.length
          · obtain ⟨x,rfl,hxb,c1,c2⟩:=HAr.out i hlti
            obtain ⟨⟨a1,a2⟩,hnth⟩ : ∃ p,nth A (0,0) i = p:=⟨_,rfl⟩
            rw [hnth] at c1 c2
            have HNth:=Lib.hid hnth
            obtain ⟨pv,hpv,hown⟩:=HGr.out.ev
            have lE:=lt_of_block hpv
            obtain ⟨W1,hW1⟩ : ∃ W1,W1 = wr.alloc (.cells #[.int .i64 a1,.int .i64 a2] 43):=⟨_,rfl⟩
            obtain ⟨W2,hW2⟩ : ∃ W2,W2 = W1.alloc (.cells #[.int .i64 (s : Int),.int .i64 a1,.int .i64 a2] 74):=⟨_,rfl⟩
            have hz1' : W1.heap.size = wr.heap.size + 1:=by rw [hW1]; simp
            have HbW : Hid (Below wr.heap.size wr W2):=by rw [Hid,hW2,hW1]; exact ((Below.refl _ _).alloc (Nat.le_refl _) _).alloc (by simp) _
            have HO2 : Hid (W2.ownsRow w.heap.size 74 3 pv (psS l s ++ pcS s (A.take i)).length (rowP (psS l s ++ pcS s (A.take i)))):=by rw [Hid,hW2,hW1]; exact (hown.alloc _).alloc _
            have HPV2 : Hid (W2.heap[w1.heap.size]? = some (.cells #[.slice la l.length lcap,pv] 46 (0,0))):=(HbW.out.block _ lE).trans hpv
            have HGW2 : Hid (GTW w (.slice la l.length lcap) w.heap.size w1.heap.size (psS l s ++ pcS s (A.take i)) W2):=HGr.out.later HbW.out
            have HN : Hid (∀ j u,([Value.int .i64 (s : Int),.int .i64 a1,.int .i64 a2] : List Value)[j]? = some u→W2.cell? ((⟨W1.heap.size,0,none⟩ : Addr).add j) = some u):=by
              intro j u hu
              have hb : W2.heap[W1.heap.size]? = some (.cells #[.int .i64 (s : Int),.int .i64 a1,.int .i64 a2] 74 (0,0)):=by rw [hW2]; exact heap_new _ _
              rw [Addr.add_lit,Nat.zero_add]
              simp only [World.cell?,hb]
              simpa using hu
            have cE : W1.cell? ⟨w1.heap.size,1,none⟩ = some pv:=by
              have : W1.heap[w1.heap.size]? = some (.cells #[.slice la l.length lcap,pv] 46 (0,0)):=by rw [hW1,Below.heap_alloc _ _ _ lE]; exact hpv
              simp [World.cell?,this]
            have b1 : W1.heap[wr.heap.size]? = some (.cells #[.int .i64 a1,.int .i64 a2] 43 (0,0)):=by rw [hW1]; exact heap_new _ _
            have cA0 : W1.cell? ⟨wr.heap.size,0,none⟩ = some (.int .i64 a1):=by simp [World.cell?,b1]
            have cA1 : W1.cell? ⟨wr.heap.size,1,none⟩ = some (.int .i64 a2):=by simp [World.cell?,b1]
            have hlen : (psS l s ++ pcS s (A.take i)).length ≤ 147:=by
              rw [List.length_append,pcS_len,List.length_take]; omega
            have hsz : w.heap.size ≤ W2.heap.size:=HGW2.out.below.size
            have hw:=wrap_succ (i:=i) (by omega)
            have HB1':=Lib.hid HB1.out.size
            clear b1 hpv hown hxb hnth
            rw [hW1] at cE cA0 cA1
            go_wp2_with (first
              | (rw [← hW1,← hW2]; at_builtin; refine wpList_append_at rfl (.tmp 50) (.tmp 57) 44 rfl w.heap.size 74 i0 (.agg #[.int .i64 0,.int .i64 0,.int .i64 0]) 3 24 Go.Proofs.Try.underlying44 hi hz0 hz1 hz2 rfl (by decide) pv _ _ rfl HO2.out ⟨W1.heap.size,0,none⟩ 1 1 (by decide) [.int .i64 (s : Int),.int .i64 a1,.int .i64 a2] (by rw [hz1']; rfl) rfl HN.out (by simp [Value.oneCell']) (by unfold maxLen; omega) (by omega) hsz ?_; intro v' w3 hown' hgrow hwh; obtain ⟨hG',cS,fS,hS'⟩:=HGW2.out.app (p:=((s : Int),a1,a2)) (Nat.le_of_lt hl1) (Nat.ne_of_lt hl1) HPV2.out hgrow HO2.out hown'; have HG':=Lib.hid hG'; have HS':=Lib.hid hS'; have HGr':=Lib.hid hgrow; have HWh:=Lib.hid hwh; obtain ⟨a3,n3,c3,rfl⟩:=own_slice hown'; clear hown' hgrow hwh hG' hS')
              | fail)
            have hp0 : 0 < A.length:=by omega
            have hNx:=HNr.out hp0 pv (by have:=HPV2.out; rwa [HbW.out.block _ lE] at this)
            have HAp:=Lib.hid (arcs_app HAr.out HX.out hp0 HbW.out HGr'.out HPV2.out hNx HWh.out HS'.out)
            go_roundg (gk - 1)
            case measure => omega
            case rel => exact ⟨i + 1,by omega,by go_num,by rw [pcS_succ hlti,HNth.out,← List.append_assoc]; exact HG'.out,HAp.out.1,fun _ => HAp.out.2⟩
          · obtain rfl : i = A.length:=by omega
            go_wp2_with fail
            go_roundg (go - 1)
            case measure => omega
            case rel =>
              refine ⟨s + 1,by omega,by go_num,?_⟩
              have:=HGr.out
              rw [List.take_length] at this
              rw [psS,HAe.out]
              exact this
      · obtain rfl : s = 2:=by omega
        have HG2:=HG
        clear HG
        have HAall : Hid (∀ W,Below w.heap.size w W→ArgOK W (.slice la l.length lcap) (sP b l)):=fun W hW => by
          obtain ⟨t,q1,q2,q3,q4⟩:=HA.out
          exact ⟨t,q1,q2,q3.same fun c hc => hW.block c (q4 c hc),fun c hc => Nat.lt_of_lt_of_le (q4 c hc) hW.size⟩
        go_wp2_with fail
        go_loopg [13,64] cs.length (fun r s13 s64 wr => ∃ i : Nat,i + r = cs.length∧s64 = .int .i64 i∧s13 = .bool ((cs.take i).any (samB l))∧(∀ j,j < i→misB l (nth cs (0,0) j) = false)∧GTW w (.slice la l.length lcap) w.heap.size w1.heap.size (psS l 2 ++ pcC l (cs.take i)) wr)
        case atStart => exact ⟨0,by omega,rfl,by simp,fun j hj => absurd hj (Nat.not_lt_zero _),by simpa [pcC] using HG2.out⟩
        case round =>
          obtain ⟨i,hi',rfl,rfl,hmis,hG⟩:=hrel
          have HMi:=Lib.hid hmis
          have HGr:=Lib.hid hG
          clear hmis hG HG2
          by_cases hlti : i < cs.length
          · obtain ⟨x,rfl,hxb,c1,c2⟩:=HC.out i hlti
            obtain ⟨⟨a1,a2⟩,hnth⟩ : ∃ p,nth cs (0,0) i = p:=⟨_,rfl⟩
            rw [hnth] at c1 c2
            have HNth:=Lib.hid hnth
            have c1' : wr.cell? (x.add (i * 2)) = some (.int .i64 a1):=cell_later HGr.out.below c1
            have c2' : wr.cell? ⟨(x.add (i * 2)).block,(x.add (i * 2)).off + 1,none⟩ = some (.int .i64 a2):=cell_later HGr.out.below c2
            obtain ⟨pv,hpv,hown⟩:=HGr.out.ev
            have lE:=lt_of_block hpv
            have hwz:=HGr.out.below.size
            have hw:=wrap_succ (i:=i) (by omega)
            clear hpv hown hxb hnth c1 c2
            go_wp2_with fail
            obtain ⟨wB,hwB⟩ : ∃ wB,wB = wr.alloc (.cells #[.int .i64 a1,.int .i64 a2] 65):=⟨_,rfl⟩
            have bB : wB.heap[wr.heap.size]? = some (.cells #[.int .i64 a1,.int .i64 a2] 65 (0,0)):=by rw [hwB]; exact heap_new _ _
            have lB:=lt_of_block bB
            have cB0 : wB.cell? ⟨wr.heap.size,0,none⟩ = some (.int .i64 a1):=by simp [World.cell?,bB]
            have cB1 : wB.cell? ⟨wr.heap.size,1,none⟩ = some (.int .i64 a2):=by simp [World.cell?,bB]
            have HGB : Hid (GTW w (.slice la l.length lcap) w.heap.size w1.heap.size (psS l 2 ++ pcC l (cs.take i)) wB):=by
              have h1 : Below wr.heap.size wr wB:=by rw [hwB]; exact (Below.refl _ _).alloc (Nat.le_refl _) _
              exact HGr.out.later h1
            have HPall : Hid (∀ W id,Below wB.heap.size wB W→Calls Go.Proofs.Try.prog 32 #[.slice la l.length lcap,.int .i64 id] W fun e w' => e = .returned (.int .i64 (plN l id))∧Below W.heap.size W w'):=fun W id hW => place_calls (by omega) (HAall.out W (HGB.out.below.trans (hW.mono HGB.out.below.size))) id
            obtain ⟨q1,hq1⟩ : ∃ q,plN l a1 = q:=⟨_,rfl⟩
            obtain ⟨q2,hq2⟩ : ∃ q,plN l a2 = q:=⟨_,rfl⟩
            have HQ1:=Lib.hid hq1
            have HQ2:=Lib.hid hq2
            rw [← hwB]
            clear hwB c1' c2' bB HGr
            go_cut [16] from 65 to 100 (fun s16 wx => ∃ bz,s16 = .pointer (some ⟨bz,0,none⟩)∧wx.heap[bz]? = some (.cells #[.int .i64 2,.int .i64 q1,.int .i64 q2] 74 (0,0))∧Below wB.heap.size wB wx)
            case first =>
              have HBc : Below wB.heap.size wB wB.drew:=(Below.refl _ _).drew
              have hz6:=HBc.size
              have cD0:=alloc_later (w:=wB.drew) (.cells #[.int .i64 0,.int .i64 0,.int .i64 0] 74) cB0
              have cD1:=alloc_later (w:=wB.drew) (.cells #[.int .i64 0,.int .i64 0,.int .i64 0] 74) cB1
              go_region_held3 (fun W => W.cell? ⟨wr.heap.size,0,none⟩ = some (.int .i64 a1)∧W.cell? ⟨wr.heap.size,1,none⟩ = some (.int .i64 a2)) (first | exact ⟨cB0,cB1⟩ | exact ⟨alloc_later _ cB0,alloc_later _ cB1⟩ | exact ⟨store3_later cB0 (by omega),store3_later cB1 (by omega)⟩ | exact ⟨store3_later (alloc_later _ cB0) (by omega),store3_later (alloc_later _ cB1) (by omega)⟩) (first
                | (go_at_call 32; refine (HPall.out _ _ HBc).mono ?_; rintro e w' ⟨rfl,hb⟩; have HBc:=HBc.trans (hb.mono HBc.size); have cB0:=cell_later hb cB0; have cB1:=cell_later hb cB1; have hz5 : wr.heap.size < w'.heap.size:=cell_lt cB0; have hz6:=HBc.size; have zB:=(hb.block _ (lt_of_block zB)).trans zB; obtain ⟨z0,z1,z2,z3,z4,z5⟩:=z_facts zB; clear hb)
                | (go_at_call 32; refine (HPall.out _ _ HBc).mono ?_; rintro e w' ⟨rfl,hb⟩; have HBc:=HBc.trans (hb.mono HBc.size); have cB0:=cell_later hb cB0; have cB1:=cell_later hb cB1; have hz5 : wr.heap.size < w'.heap.size:=cell_lt cB0; have hz6:=HBc.size; have cZ0:=alloc_later (.cells #[.int .i64 0,.int .i64 0,.int .i64 0] 74) cB0; have cZ1:=alloc_later (.cells #[.int .i64 0,.int .i64 0,.int .i64 0] 74) cB1; clear hb)
                | (go_at_call 32; refine (HPall.out _ _ (HBc.alloc HBc.size _)).mono ?_; rintro e w' ⟨rfl,hb⟩; have zB:=(hb.block _ (lt_of_block (heap_new _ _))).trans (heap_new _ _); (try rw [drew_size] at zB); obtain ⟨z0,z1,z2,z3,z4,z5⟩:=z_facts zB; have cB0:=cell_later hb (cell_later ((Below.refl _ _).alloc (Nat.le_refl _) _) cB0); have cB1:=cell_later hb (cell_later ((Below.refl _ _).alloc (Nat.le_refl _) _) cB1); have hz5 : wr.heap.size < w'.heap.size:=cell_lt cB0; have HBc:=(HBc.alloc HBc.size _).trans (hb.mono (HBc.alloc HBc.size _).size); have hz6:=HBc.size; clear hb))
              all_goals go_wp2_with fail
              all_goals
                go_meet
                case rel =>
                  first
                    | exact ⟨_,rfl,heap_new _ _,HBc.alloc HBc.size _⟩
                    | exact ⟨_,rfl,store3_heap zB,store3_below HBc (by omega)⟩
            case rest =>
              obtain ⟨bz,rfl,hbz,hbc⟩:=hcut
              have HGc:=Lib.hid (HGB.out.later hbc)
              obtain ⟨z0,z1,z2,z3,z4,z5⟩:=z_facts hbz
              have HBz:=Lib.hid hbz
              clear hbc cB0 cB1 HPall hbz
              by_cases hq : q1 < 0 ∨ q2 < 0
              · have HE : Hid (gatE l cs = 7):=by
                  have : cs.any (misB l) = true:=by
                    rw [List.any_eq_true]
                    refine ⟨nth cs (0,0) i,nth_mem (0,0) hlti,?_⟩
                    rw [HNth.out,misB,HQ1.out,HQ2.out]
                    simpa using hq
                  rw [Hid,gatE,if_pos hck,if_pos this]
                have HR:=HGc.out.r
                have r1 : wc.cell? ⟨w.heap.size,0,none⟩ = some (.slice none 0 0):=by simp [World.cell?,HR]
                have r2 : wc.cell? ⟨w.heap.size,1,none⟩ = some (.slice none 0 0):=by simp [World.cell?,HR]
                have r3 : wc.frozen? ⟨w.heap.size,0,none⟩ = false:=by simp [World.frozen?,HR]
                have r4 : wc.frozen? ⟨w.heap.size,1,none⟩ = false:=by simp [World.frozen?,HR]
                have HR2:=Lib.hid (store2 (.slice none 0 0) (.slice none 0 0) HR)
                clear HR
                by_cases hqa : q1 < 0
                · go_wp2_with fail
                  refine bodyPost_ret (res15 _ _ _ _ rfl HR2.out rfl) rfl ⟨⟨none,0,0,none,0,0,by rw [HE.out]; rfl,fun h0 => by rw [HE.out] at h0; cases h0⟩,(HGc.out.below.setCell (Nat.le_refl _) _).setCell (Nat.le_refl _) _⟩
                · have hqb : q2 < 0:=by omega
                  go_wp2_with fail
                  refine bodyPost_ret (res15 _ _ _ _ rfl HR2.out rfl) rfl ⟨⟨none,0,0,none,0,0,by rw [HE.out]; rfl,fun h0 => by rw [HE.out] at h0; cases h0⟩,(HGc.out.below.setCell (Nat.le_refl _) _).setCell (Nat.le_refl _) _⟩
              · have hqa : 0 ≤ q1:=by omega
                have hqb : 0 ≤ q2:=by omega
                have HMi2 : Hid (∀ j,j < i + 1→misB l (nth cs (0,0) j) = false):=fun j hj => by
                  by_cases e : j = i
                  · subst e
                    rw [HNth.out,misB,HQ1.out,HQ2.out]
                    simp; omega
                  · exact HMi.out j (by omega)
                have HSm : Hid ((cs.take (i + 1)).any (samB l) = ((cs.take i).any (samB l) || (q1 == q2))):=by
                  rw [Hid,take_succ_nth (0,0) hlti,List.any_append,HNth.out]
                  simp [samB,HQ1.out,HQ2.out]
                obtain ⟨pv,hpv,hown⟩:=HGc.out.ev
                have lE:=lt_of_block hpv
                have cE : wc.cell? ⟨w1.heap.size,1,none⟩ = some pv:=by simp [World.cell?,hpv]
                obtain ⟨W2,hW2⟩ : ∃ W2,W2 = wc.alloc (.cells #[.int .i64 2,.int .i64 q1,.int .i64 q2] 74):=⟨_,rfl⟩
                have HbW : Hid (Below wc.heap.size wc W2):=by rw [Hid,hW2]; exact (Below.refl _ _).alloc (Nat.le_refl _) _
                have HO2 : Hid (W2.ownsRow w.heap.size 74 3 pv (psS l 2 ++ pcC l (cs.take i)).length (rowP (psS l 2 ++ pcC l (cs.take i)))):=by rw [Hid,hW2]; exact hown.alloc _
                have HPV2 : Hid (W2.heap[w1.heap.size]? = some (.cells #[.slice la l.length lcap,pv] 46 (0,0))):=(HbW.out.block _ lE).trans hpv
                have HGW2 : Hid (GTW w (.slice la l.length lcap) w.heap.size w1.heap.size (psS l 2 ++ pcC l (cs.take i)) W2):=HGc.out.later HbW.out
                have HN : Hid (∀ j u,([Value.int .i64 2,.int .i64 q1,.int .i64 q2] : List Value)[j]? = some u→W2.cell? ((⟨wc.heap.size,0,none⟩ : Addr).add j) = some u):=by
                  intro j u hu
                  have hb : W2.heap[wc.heap.size]? = some (.cells #[.int .i64 2,.int .i64 q1,.int .i64 q2] 74 (0,0)):=by rw [hW2]; exact heap_new _ _
                  rw [Addr.add_lit,Nat.zero_add]
                  simp only [World.cell?,hb]
                  simpa using hu
                have hlen : (psS l 2 ++ pcC l (cs.take i)).length ≤ 147:=by
                  have:=psS_len l hl 2
                  rw [List.length_append,pcC_len,List.length_take]; omega
                have hsz : w.heap.size ≤ W2.heap.size:=HGW2.out.below.size
                have hqe : (q1 == q2) = decide (q1 = q2):=by rw [Bool.eq_iff_iff]; simp
                generalize (cs.take i).any (samB l) = sm at *
                clear hpv hown
                cases sm
                all_goals
                  go_wp2_with (first
                    | (rw [← hW2]; at_builtin; refine wpList_append_at rfl (.tmp 95) (.tmp 97) 44 rfl w.heap.size 74 i0 (.agg #[.int .i64 0,.int .i64 0,.int .i64 0]) 3 24 Go.Proofs.Try.underlying44 hi hz0 hz1 hz2 rfl (by decide) pv _ _ rfl HO2.out ⟨wc.heap.size,0,none⟩ 1 1 (by decide) [.int .i64 2,.int .i64 q1,.int .i64 q2] rfl rfl HN.out (by simp [Value.oneCell']) (by unfold maxLen; omega) (by omega) hsz ?_; intro v' w3 hown' hgrow hwh; obtain ⟨hG',cS,fS,hS'⟩:=HGW2.out.app (p:=(2,q1,q2)) (Nat.le_of_lt hl1) (Nat.ne_of_lt hl1) HPV2.out hgrow HO2.out hown'; have HG':=Lib.hid hG'; obtain ⟨a3,n3,c3,rfl⟩:=own_slice hown'; clear hown' hgrow hwh hG' hS')
                    | fail)
                all_goals
                  go_roundg (gk - 1)
                  case measure => omega
                  case rel => exact ⟨i + 1,by omega,by go_num,by rw [HSm.out,hqe]; rfl,HMi2.out,by rw [pcC_succ hlti,HNth.out,HQ1.out,HQ2.out,← List.append_assoc]; exact HG'.out⟩
          · obtain rfl : i = cs.length:=by omega
            have HSm : Hid ((cs.take cs.length).any (samB l) = cs.any (samB l)):=by rw [Hid,List.take_length]
            have HNm : Hid (cs.any (misB l) = false):=by
              rw [Hid,List.any_eq_false]
              intro y hy
              obtain ⟨j,hj,rfl⟩:=List.getElem_of_mem hy
              have:=HMi.out j hj
              rw [nth_get (0,0) hj] at this
              simpa using this
            have HGc : Hid (GTW w (.slice la l.length lcap) w.heap.size w1.heap.size (gatP l cs) wr):=by
              have:=HGr.out
              rwa [List.take_length] at this
            rw [HSm.out]
            obtain ⟨sm,hsm⟩ : ∃ sm,cs.any (samB l) = sm:=⟨_,rfl⟩
            have HE : Hid (gatE l cs = if sm = true then 1 else 0):=by rw [Hid,gatE,if_pos hck,HNm.out,hsm]; simp
            rw [hsm]
            have HR:=HGc.out.r
            have r1 : wr.cell? ⟨w.heap.size,0,none⟩ = some (.slice none 0 0):=by simp [World.cell?,HR]
            have r2 : wr.cell? ⟨w.heap.size,1,none⟩ = some (.slice none 0 0):=by simp [World.cell?,HR]
            have r3 : wr.frozen? ⟨w.heap.size,0,none⟩ = false:=by simp [World.frozen?,HR]
            have r4 : wr.frozen? ⟨w.heap.size,1,none⟩ = false:=by simp [World.frozen?,HR]
            obtain ⟨pv,hpv,hown⟩:=HGc.out.ev
            have c1 : wr.cell? ⟨w1.heap.size,0,none⟩ = some (.slice la l.length lcap):=by simp [World.cell?,hpv]
            have c2 : wr.cell? ⟨w1.heap.size,1,none⟩ = some pv:=by simp [World.cell?,hpv]
            have HRs:=Lib.hid HR
            have HOw:=Lib.hid hown
            clear HR hpv hown hsm
            cases sm
            · obtain ⟨a3,n3,c3,rfl⟩:=own_slice HOw.out
              have HR2:=Lib.hid (store2 (.slice la l.length lcap) (.slice a3 n3 c3) HRs.out)
              have HOe : Hid (((wr.setCell ⟨w.heap.size,0,none⟩ (.slice la l.length lcap)).setCell ⟨w.heap.size,1,none⟩ (.slice a3 n3 c3)).ownsRow w.heap.size 74 3 (.slice a3 n3 c3) (gatP l cs).length (rowP (gatP l cs))):=by
                refine own_kept HOw.out fun g hg _ => ?_
                have hne : g ≠ w.heap.size:=fun e => by
                  subst e
                  obtain ⟨cur,h1⟩:=own_elem HOw.out hg
                  rw [HRs.out] at h1
                  cases h1
                rw [Below.heap_setCell _ _ _ _ hne,Below.heap_setCell _ _ _ _ hne]
              go_wp2_with fail
              exact bodyPost_ret (res15 _ _ _ _ rfl HR2.out rfl) rfl ⟨⟨la,l.length,lcap,a3,n3,c3,by rw [HE.out]; rfl,fun _ => HOe.out⟩,(HGc.out.below.setCell (Nat.le_refl _) _).setCell (Nat.le_refl _) _⟩
            · have HR2:=Lib.hid (store2 (.slice none 0 0) (.slice none 0 0) HRs.out)
              go_wp2_with fail
              exact bodyPost_ret (res15 _ _ _ _ rfl HR2.out rfl) rfl ⟨⟨none,0,0,none,0,0,by rw [HE.out]; rfl,fun h0 => by rw [HE.out] at h0; cases h0⟩,(HGc.out.below.setCell (Nat.le_refl _) _).setCell (Nat.le_refl _) _⟩
  · have HE : Hid (gatE l cs = chkE l):=by rw [Hid,gatE,if_neg hck]
    have hne : (chkE l != 0) = true:=by simpa using hck
    have c1 : w1.cell? ⟨w.heap.size,0,none⟩ = some (.slice none 0 0):=by simp [World.cell?,e1]
    have c2 : w1.cell? ⟨w.heap.size,1,none⟩ = some (.slice none 0 0):=by simp [World.cell?,e1]
    have f1 : w1.frozen? ⟨w.heap.size,0,none⟩ = false:=by simp [World.frozen?,e1]
    have f2 : w1.frozen? ⟨w.heap.size,1,none⟩ = false:=by simp [World.frozen?,e1]
    have HB:=Lib.hid hB1
    have e1':=e1
    clear hB1 e1
    have HR:=Lib.hid (store2 (.slice none 0 0) (.slice none 0 0) e1')
    go_wp2_with fail
    refine bodyPost_ret (res15 _ _ _ _ rfl HR.out rfl) rfl ⟨⟨none,0,0,none,0,0,by rw [HE.out]; rfl,fun h0 => absurd (h0.symm.trans HE.out).symm hck⟩,(HB.out.setCell (Nat.le_refl _) _).setCell (Nat.le_refl _) _⟩
end Go.Mx
namespace Go.Mx
set_option linter.unusedVariables false
set_option linter.unusedSimpArgs false
set_option linter.unusedSectionVars false
open Go Go.RowKit Go.Lib Go.Sort
def bldA (l : List Spc) (cs : List (Int × Int)) : List (Int × Int):=if gatE l cs = 0 then arcsD (gatP l cs) else []
theorem gatP_len (l : List Spc) (cs : List (Int × Int)) (hl : l.length ≤ 7) (hcs : cs.length ≤ 6) : (gatP l cs).length ≤ 147:=by
  have:=psS_len l hl 2
  rw [gatP,List.length_append,pcC_len]
  omega
theorem bldA_len (l : List Spc) (cs : List (Int × Int)) (hl : l.length ≤ 7) (hcs : cs.length ≤ 6) : (bldA l cs).length ≤ 147:=by
  unfold bldA
  split
  · exact Nat.le_trans (arcsD_len _) (gatP_len l cs hl hcs)
  · simp
theorem kids_rowA : ∀ l : List (Int × Int),erL ((rowA l).map T.v : List C) = gk eA l
  | [] => rfl
  | x :: l => by
    have ih:=kids_rowA l
    show er (T.v (.int .i64 x.1)) :: er (T.v (.int .i64 x.2)) :: erL ((rowA l).map T.v) = T.v (.int .i64 x.1) :: T.v (.int .i64 x.2) :: gk eA l
    rw [ih]; rfl
theorem own_arcs {w w' : World} {v : Value} {a : List (Int × Int)} (h : w'.ownsRow w.heap.size 43 2 v a.length (rowA a)) (hn : a = []→v = .slice none 0 0) : ∃ t,val t = v∧er t = sa (decide (a.length = 0)) a∧FreshT w w' t:=by
  rcases h.2 with ⟨rfl,h0⟩ | ⟨g,cap,cur,rfl,hb,hh,hnc,_,hc,ht⟩
  · have:=List.length_eq_zero_iff.1 h0
    subst this
    refine ⟨.nd (.sl ⟨none,0,undef⟩ 2 0) [],rfl,rfl,⟨⟨by simp [valL],by simp,fun _ => rfl,fun a ha => by cases ha⟩,trivial⟩,fun b => ⟨by simp [cnt,K.own,cntL],fun h => absurd (by simp [cnt,K.own,cntL]) h⟩⟩
  · have hval : valL ((rowA a).map T.v : List C) = rowA a:=valL_v _
    have hz : decide (a.length = 0) = false:=by
      rw [decide_eq_false_iff_not]
      intro h0
      have:=hn (List.length_eq_zero_iff.1 h0)
      cases this
    refine ⟨.nd (.sl ⟨some ⟨g,0,none⟩,cap,undef⟩ 2 a.length) ((rowA a).map T.v),rfl,?_,⟨⟨⟨?_,hnc,by simp,?_⟩,MemL_v _ _ _⟩,fun b => ?_⟩⟩
    · rw [hz,er,kids_rowA]; rfl
    · rw [hval,rowA_len]
    · intro x hx
      cases hx
      refine ⟨fun i u hu => ?_,fun _ _ => ⟨rfl,cur,43,0,0,hh,(by show 0 + cap * 2 ≤ cur.size; omega),.inl rfl⟩⟩
      rw [hval,← ht,List.getElem?_take] at hu
      split at hu
      · rw [Addr.add_lit,Nat.zero_add]
        simp only [World.cell?,hh]
        simpa using hu
      · cases hu
    · have hcn : cntL b ((rowA a).map T.v : List C) = 0:=cntL_v b _
      simp only [cnt,hcn,Nat.add_zero,K.own]
      split
      · rename_i hx
        have hx2 : g = b:=by simpa using hx.2
        subst hx2
        exact ⟨Nat.le_refl _,fun _ => ⟨hb,lt_of_block hh⟩⟩
      · exact ⟨by omega,fun h => absurd rfl h⟩
set_option maxHeartbeats 2000000 in
set_option maxRecDepth 100000 in
theorem build_any (b b' : Bool) (l : List Spc) (cs : List (Int × Int)) (hl : l.length ≤ 7) (hcs : cs.length ≤ 6) (w : World) (lv cv : Value) (ha : ArgOK w lv (sP b l)) (hc : ArgOK w cv (sa b' cs)) :
    Calls Go.Proofs.Try.prog 5 #[lv,cv] w fun e w' => (∃ v,e = .returned (.tuple #[v,.int .i64 (gatE l cs)])∧w'.ownsRow w.heap.size 43 2 v (bldA l cs).length (rowA (bldA l cs))∧(bldA l cs = []→v = .slice none 0 0))∧Below w.heap.size w w':=by
  have hG:=gather_any b b' l cs hl hcs w lv cv ha hc
  have hpl:=gatP_len l cs hl hcs
  clear ha hc
  go_enter Go.Proofs.Try.func5,Go.Proofs.Try.ntmps5
  go_wp2_with fail
  refine hG.mono ?_
  rintro e w1 ⟨⟨x1,x2,x3,y1,y2,y3,rfl,ho⟩,hb1⟩
  by_cases he : gatE l cs = 0
  · have hb2 : Below w.heap.size w (w1.alloc (.cells #[.slice x1 x2 x3,.slice y1 y2 y3] 46)):=hb1.alloc hb1.size _
    have h16:=arcs16 (.slice x1 x2 x3) (.slice y1 y2 y3) w.heap.size (gatP l cs) (w1.alloc (.cells #[.slice x1 x2 x3,.slice y1 y2 y3] 46)) (by omega) ((ho he).alloc _)
    have HE : Hid (bldA l cs = arcsD (gatP l cs)):=by rw [Hid,bldA,if_pos he]
    have hz : w.heap.size ≤ (w1.alloc (.cells #[.slice x1 x2 x3,.slice y1 y2 y3] 46)).heap.size:=hb2.size
    have HB:=Lib.hid hb2
    have H16:=Lib.hid h16
    have HZ:=Lib.hid hz
    rw [he]
    clear hb2 h16 hz hG ho hb1
    go_wp2_with fail
    refine H16.out.mono ?_
    rintro e w2 ⟨v,rfl,ho2,hb2,hn2⟩
    have HN2:=Lib.hid hn2
    clear hn2
    have HO2:=Lib.hid ho2
    have HB2:=Lib.hid hb2
    clear ho2 hb2
    go_wp2_with fail
    go_ret2
    refine ⟨⟨v,by rw [he]; rfl,?_,fun h => HN2.out (by rw [← HE.out]; exact h)⟩,HB.out.trans (HB2.out.mono HZ.out)⟩
    rw [HE.out]
    refine ⟨HO2.out.1,?_⟩
    rcases HO2.out.2 with h | ⟨g,cap,cur,h1,h2,h3⟩
    · exact .inl h
    · exact .inr ⟨g,cap,cur,h1,Nat.le_trans HZ.out h2,h3⟩
  · have hne : (gatE l cs != 0) = true:=by simpa using he
    have HE : Hid (bldA l cs = []):=by rw [Hid,bldA,if_neg he]
    have HB : Hid (Below w.heap.size w (w1.alloc (.cells #[.slice x1 x2 x3,.slice y1 y2 y3] 46))):=hb1.alloc hb1.size _
    clear hG ho hb1
    go_wp2_with fail
    go_ret2
    exact ⟨⟨_,rfl,by rw [HE.out]; exact ⟨rfl,.inl ⟨rfl,rfl⟩⟩,fun _ => rfl⟩,HB.out⟩
end Go.Mx
namespace Go.Mx
set_option linter.unusedVariables false
set_option linter.unusedSimpArgs false
set_option linter.unusedSectionVars false
open Go Go.RowKit
theorem grow_ext {g h : Nat→Nat} {n : Nat} (e : ∀ i,i < n→g i = h i) : ∀ (k v : Nat) (S best : List Nat),v + k ≤ n→(∀ u ∈ S,u < n)→growL g k v S best = growL h k v S best
  | 0,_,_,_,_,_ => rfl
  | k + 1,v,S,best,hv,hS => by
    have hc : S.any (fun u => cmpB g u v) = S.any (fun u => cmpB h u v):=by
      rw [Bool.eq_iff_iff,List.any_eq_true,List.any_eq_true]
      have hx : ∀ u ∈ S,cmpB g u v = cmpB h u v:=fun u hu => by
        unfold cmpB
        rw [e u (hS u hu),e v (by omega)]
      constructor
      · rintro ⟨u,h1,h2⟩
        exact ⟨u,h1,by rw [← hx u h1]; exact h2⟩
      · rintro ⟨u,h1,h2⟩
        exact ⟨u,h1,by rw [hx u h1]; exact h2⟩
    unfold growL
    rw [hc]
    have hS' : ∀ u ∈ S ++ [v],u < n:=fun u hu => by
      rcases List.mem_append.1 hu with h | h
      · exact hS u h
      · rw [List.mem_singleton.1 h]; omega
    rw [grow_ext e k (v + 1) (S ++ [v]) _ (by omega) hS']
    exact grow_ext e k (v + 1) S _ (by omega) hS
theorem antL_ext {g h : Nat→Nat} {n : Nat} (e : ∀ i,i < n→g i = h i) : antL g n = antL h n:=grow_ext e n 0 [] [] (by omega) (by simp)
theorem gkI_inj (k : IntKind) : ∀ {l m : List Int},gk (eI k) l = gk (eI k) m→l = m
  | [],[],_ => rfl
  | [],y :: m,h => by have h : ([] : List D) = T.v (.int k y) :: gk (eI k) m:=h; cases h
  | x :: l,[],h => by have h : T.v (.int k x) :: gk (eI k) l = ([] : List D):=h; cases h
  | x :: l,y :: m,h => by
    have h : T.v (.int k x) :: gk (eI k) l = T.v (.int k y) :: gk (eI k) m:=h
    simp only [List.cons.injEq,T.v.injEq,Value.int.injEq,true_and] at h
    rw [h.1,gkI_inj k h.2]
theorem gkA_inj : ∀ {l m : List (Int × Int)},gk eA l = gk eA m→l = m
  | [],[],_ => rfl
  | [],y :: m,h => by have h : ([] : List D) = T.v (.int .i64 y.1) :: T.v (.int .i64 y.2) :: gk eA m:=h; cases h
  | x :: l,[],h => by have h : T.v (.int .i64 x.1) :: T.v (.int .i64 x.2) :: gk eA l = ([] : List D):=h; cases h
  | x :: l,y :: m,h => by
    have h : T.v (.int .i64 x.1) :: T.v (.int .i64 x.2) :: gk eA l = T.v (.int .i64 y.1) :: T.v (.int .i64 y.2) :: gk eA m:=h
    simp only [List.cons.injEq,T.v.injEq,Value.int.injEq,true_and] at h
    rw [gkA_inj h.2.2,Prod.ext h.1 h.2.1]
theorem su6_inj {n m : Nat} {g h : Nat→Nat} (e : su6 n g = su6 m h) : n = m∧∀ i,i < n→g i = h i:=by
  have e2 : zr n g = zr m h:=gkI_inj .u64 (T.nd.inj e).2
  have h1 : n = m:=by
    have:=congrArg List.length e2
    simpa using this
  subst h1
  refine ⟨rfl,fun i hi => ?_⟩
  have:=congrArg (fun l => nth l 0 i) e2
  simp only [zr_nth n _ hi] at this
  omega
def BR (f : FuncId) (ds : List D) (d : D) : Prop :=
  (f = 18∧∃ n g,n ≤ 12∧(∀ i,g i < 2 ^ 64)∧ds = [su6 n g]∧d = soE (antL g n)) ∨
  (f = 7∧∃ b n a,a.length ≤ 1000∧ds = [nI n,sa b a]∧d = chD n a) ∨
  (f = 13∧∃ b n a k,a.length ≤ 1000∧ds = [nI n,sa b a,nI k]∧d = stD n a k) ∨
  (f = 5∧∃ b b' l cs,l.length ≤ 7∧cs.length ≤ 6∧ds = [sP b l,sa b' cs]∧d = .nd .tu [sa (decide ((bldA l cs).length = 0)) (bldA l cs),nI (gatE l cs)])
theorem sa_inj {b c : Bool} {l m : List (Int × Int)} (e : sa b l = sa c m) : l = m:=gkA_inj (T.nd.inj e).2
theorem BR_fun {f : FuncId} {ds : List D} {d d' : D} (h : BR f ds d) (h' : BR f ds d') : d = d':=by
  rcases h with ⟨h0,n,g,h1,h2,h3,h4⟩ | ⟨h0,b,n,a,h1,h2,h3⟩ | ⟨h0,b,n,a,k,h1,h2,h3⟩ | ⟨h0,b,b2,l,cs,h1,h2,h3,h4⟩ <;>
    rcases h' with ⟨k0,n',g',k1,k2,k3,k4⟩ | ⟨k0,b',n',a',k1,k2,k3⟩ | ⟨k0,b',n',a',k',k1,k2,k3⟩ | ⟨k0,b',b2',l',cs',k1,k2,k3,k4⟩ <;> try (exfalso; rw [h0] at k0; exact absurd k0 (by decide))
  · rw [h3] at k3
    simp only [List.cons.injEq,and_true] at k3
    obtain ⟨rfl,e⟩:=su6_inj k3
    rw [h4,k4,antL_ext e]
  · rw [h2] at k2
    simp only [List.cons.injEq,and_true,T.v.injEq,Value.int.injEq,true_and] at k2
    obtain ⟨rfl,e⟩:=k2
    rw [h3,k3,sa_inj e]
  · rw [h2] at k2
    simp only [List.cons.injEq,and_true,T.v.injEq,Value.int.injEq,true_and] at k2
    obtain ⟨rfl,e,rfl⟩:=k2
    rw [h3,k3,sa_inj e]
  · rw [h3] at k3
    simp only [List.cons.injEq,and_true] at k3
    obtain ⟨e1,e2⟩:=k3
    rw [h4,k4,sP_inj e1,sa_inj e2]
open Classical in
noncomputable def baseA : Oracle:=fun f ds => if h : ∃ d,BR f ds d then some (Classical.choose h) else none
open Classical in
theorem baseA_at {f : FuncId} {ds : List D} {d : D} (h : BR f ds d) : baseA f ds = some d:=by
  have hx : ∃ d,BR f ds d:=⟨d,h⟩
  unfold baseA
  rw [dif_pos hx,BR_fun (Classical.choose_spec hx) h]
open Classical in
theorem baseA_br {f : FuncId} {ds : List D} {d : D} (h : baseA f ds = some d) : BR f ds d:=by
  unfold baseA at h
  split at h
  · rename_i hx
    cases h
    exact Classical.choose_spec hx
  · cases h
theorem ent43 : Enters Go.Proofs.Try.prog 18:=⟨_,_,Go.Proofs.Try.func18,by kernel_rfl,rfl⟩
theorem ent29 : Enters Go.Proofs.Try.prog 7:=⟨_,_,Go.Proofs.Try.func7,by kernel_rfl,rfl⟩
theorem ent5 : Enters Go.Proofs.Try.prog 5:=⟨_,_,Go.Proofs.Try.func5,by kernel_rfl,rfl⟩
theorem ent15 : Enters Go.Proofs.Try.prog 13:=⟨_,_,Go.Proofs.Try.func13,by kernel_rfl,rfl⟩
theorem baseA_ok : BaseOK Go.Proofs.Try.prog Glob.none baseA:=by
  intro f ds d hlt h
  rcases baseA_br h with ⟨rfl,n,g,h1,h2,h3,h4⟩ | ⟨rfl,b,n,a,h1,h2,h3⟩ | ⟨rfl,b,n,a,k,h1,h2,h3⟩ | ⟨rfl,b,b2,ls,cs,h1,h2,h3,h4⟩
  · refine ⟨ent43,fun l w hg he hm hb => ?_⟩
    subst h3
    match l,he,hm,hb with
    | [t],he,hm,hb =>
      simp only [erL,List.cons.injEq,and_true] at he
      have:=anti_any n g h1 h2 w t he hm.1 (fun c hc => hb c (by simpa [cntL] using hc))
      rw [h4]
      exact this
    | [],he,_,_ => simp [erL] at he
    | _ :: _ :: _,he,_,_ => simp [erL] at he
  · refine ⟨ent29,fun l w hg he hm hb => ?_⟩
    subst h2
    match l,he,hm,hb with
    | [tn,t],he,hm,hb =>
      simp only [erL,List.cons.injEq,and_true] at he
      obtain ⟨e1,e2⟩:=he
      have e1:=er_eq_v e1
      subst e1
      have:=chains_any b n a h1 w (val t) ⟨t,e2,rfl,hm.2.1,fun c hc => hb c (by simp only [cntL,cnt]; omega)⟩
      rw [h3]
      exact this
    | [],he,_,_ => simp [erL] at he
    | [_],he,_,_ => simp [erL] at he
    | _ :: _ :: _ :: _,he,_,_ => simp [erL] at he
  · refine ⟨ent15,fun l w hg he hm hb => ?_⟩
    subst h2
    match l,he,hm,hb with
    | [tn,t,tk],he,hm,hb =>
      simp only [erL,List.cons.injEq,and_true] at he
      obtain ⟨e1,e2,e3⟩:=he
      have e1:=er_eq_v e1
      have e3:=er_eq_v e3
      subst e1 e3
      have:=streams_any b n a h1 w (val t) ⟨t,e2,rfl,hm.2.1,fun c hc => hb c (by simp only [cntL,cnt]; omega)⟩ k
      rw [h3]
      exact this
    | [],he,_,_ => simp [erL] at he
    | [_],he,_,_ => simp [erL] at he
    | [_,_],he,_,_ => simp [erL] at he
    | _ :: _ :: _ :: _ :: _,he,_,_ => simp [erL] at he
  · refine ⟨ent5,fun l w hg he hm hb => ?_⟩
    subst h3
    match l,he,hm,hb with
    | [t1,t2],he,hm,hb =>
      simp only [erL,List.cons.injEq,and_true] at he
      obtain ⟨e1,e2⟩:=he
      refine (build_any b b2 ls cs h1 h2 w (val t1) (val t2) ⟨t1,e1,rfl,hm.1,fun c hc => hb c (by simp only [cntL]; omega)⟩ ⟨t2,e2,rfl,hm.2.1,fun c hc => hb c (by simp only [cntL]; omega)⟩).mono ?_
      rintro e w' ⟨⟨v,rfl,ho,hn⟩,hbl⟩
      obtain ⟨t,hv,ht,hf⟩:=own_arcs ho hn
      subst hv
      refine ⟨.nd .tu [t,.v (.int .i64 (gatE ls cs))],by simp [val,valL,K.val],?_,hbl,⟨⟨trivial,hf.mem,trivial,trivial⟩,fun c => ?_⟩⟩
      · rw [h4]
        simp only [er,erL,ht]
        rfl
      · have:=hf.own c
        simp only [cnt,cntL,K.own,Nat.add_zero,Nat.zero_add]
        exact this
    | [],he,_,_ => simp [erL] at he
    | [_],he,_,_ => simp [erL] at he
    | _ :: _ :: _ :: _,he,_,_ => simp [erL] at he
noncomputable abbrev S (n : Nat) : Oracle:=semB baseA tbl 6000 n
theorem sA : Sy S:=syB baseA
theorem s18 (k : Nat) {n : Nat} {g : Nat→Nat} (hn : n ≤ 12) (hg : ∀ i,g i < 2 ^ 64) : S (k + 1) 18 [su6 n g] = some (soE (antL g n)):=by
  rw [S,semB_base rfl (by decide)]; exact baseA_at (.inl ⟨rfl,n,g,hn,hg,rfl,rfl⟩)
theorem s7 (k : Nat) (b : Bool) (n : Int) (a : List (Int × Int)) (hl : a.length ≤ 1000) : S (k + 1) 7 [nI n,sa b a] = some (chD n a):=by
  rw [S,semB_base rfl (by decide)]; exact baseA_at (.inr (.inl ⟨rfl,b,n,a,hl,rfl,rfl⟩))
theorem s13 (k : Nat) (b : Bool) (n : Int) (a : List (Int × Int)) (hl : a.length ≤ 1000) (m : Int) : S (k + 1) 13 [nI n,sa b a,nI m] = some (stD n a m):=by
  rw [S,semB_base rfl (by decide)]; exact baseA_at (.inr (.inr (.inl ⟨rfl,b,n,a,m,hl,rfl,rfl⟩)))
theorem s5 (k : Nat) (b b' : Bool) (l : List Spc) (cs : List (Int × Int)) (hl : l.length ≤ 7) (hc : cs.length ≤ 6) : S (k + 1) 5 [sP b l,sa b' cs] = some (.nd .tu [sa (decide ((bldA l cs).length = 0)) (bldA l cs),nI (gatE l cs)]):=by
  rw [S,semB_base rfl (by decide)]; exact baseA_at (.inr (.inr (.inr ⟨rfl,b,b',l,cs,hl,hc,rfl,rfl⟩)))
theorem s21 (k : Nat) (n : Nat) (g : Nat→Nat) (hg : ∀ i,g i < 2 ^ 64) (i j : Nat) (hi : i < n) (hj : j < 64) : S (k + 1) 21 [su6 n g,nI i,nI j] = some (.v (.bool ((g i).testBit j))):=by rw [sA _ _ _ c21 rfl rfl]; exact f21 _ _ n g hg i j hi hj
theorem s17 (k : Nat) (b : Bool) (n : Int) (a : List (Int × Int)) (hl : a.length ≤ 1000) : S (k + 4) 17 [nI n,sa b a] = some (ckD n a):=u33 sA k b n a hl
theorem s6 (k : Nat) (b : Bool) (n : Int) (a : List (Int × Int)) (hl : a.length ≤ 1000) : S (k + 5) 6 [nI n,sa b a] = some (if ckE n a = 0 then .nd .tu [nI (antL (ordG n a) n.toNat).length,nI 0] else .nd .tu [nI 0,nI (ckE n a)]):=by
  rw [sA _ _ _ c6 rfl rfl]
  have:=f6 (S (k + 4)) 6000 b ((antL (ordG n a) n.toNat).length == 0) n a (zl (antL (ordG n a) n.toNat)) (s17 k b n a hl) (fun he => s18 (k + 3) (by obtain ⟨m,rfl,h,_⟩:=ck_ok he; omega) (ord_lt he))
  rw [zl_len] at this
  exact this
theorem s8 (k : Nat) (b : Bool) (n : Int) (a : List (Int × Int)) (hl : a.length ≤ 1000) : S (k + 5) 8 [nI n,sa b a] = some (if ckE n a = 0 then .nd .tu [soE (antL (ordG n a) n.toNat),nI 0] else .nd .tu [si true [],nI (ckE n a)]):=by
  rw [sA _ _ _ c8 rfl rfl]
  exact f8 (S (k + 4)) 6000 b ((antL (ordG n a) n.toNat).length == 0) n a (zl (antL (ordG n a) n.toNat)) (s17 k b n a hl) (fun he => s18 (k + 3) (by obtain ⟨m,rfl,h,_⟩:=ck_ok he; omega) (ord_lt he))
theorem s46 (k : Nat) (b : Bool) (n : Int) (a : List (Int × Int)) (hl : a.length ≤ 1000) : S (k + 2) 46 [nI n,sa b a] = some (ordD n a):=by
  rw [sA _ _ _ c46 rfl rfl]; exact f46 _ _ (by decide) b n a hl (u46 sA k) (u44 sA k b n a hl)
theorem s22 (k : Nat) (b : Bool) (n : Int) (a : List (Int × Int)) (hl : a.length ≤ 1000) : S (k + 3) 22 [nI n,sa b a] = some (levelsD n a):=by
  rw [sA _ _ _ c22 rfl rfl]; exact f22 _ _ (by decide) b n a hl (u46 sA (k + 1)) (s46 k b n a hl) fun hv => u54 sA (k + 1) b n a hv hl
theorem lev_ok {n : Int} {a : List (Int × Int)} (he : ckE n a = 0) : levelsD n a = .nd .tu [lz n.toNat (levR (natA a) n.toNat),nI 0]:=by
  obtain ⟨m,rfl,h12,hv,hac⟩:=ck_ok he
  rw [levels_same,levelsR,if_pos hv,if_pos hac]
theorem s26 (k : Nat) (b : Bool) (n : Int) (a : List (Int × Int)) (hl : a.length ≤ 1000) (i j : Int) : S (k + 3) 26 [nI n,sa b a,nI i,nI j] = some (.v (.bool (reachZ n a i j))):=by
  rw [sA _ _ _ c26 rfl rfl]; exact f26 _ _ b n a hl i j (u44 sA (k + 1) b n a hl) (u46 sA (k + 1)) (u45 sA k)
end Go.Mx
namespace Go.Mx
set_option linter.unusedVariables false
set_option linter.unusedSimpArgs false
set_option linter.unusedSectionVars false
open Go
def befR : List Nat→List Nat→Prop
  | x :: l,y :: m => x < y ∨ (x = y∧befR l m)
  | _,_ => False
theorem befR_irr : ∀ l,¬ befR l l
  | [] => id
  | x :: l => fun h => by
    rcases h with h | h
    · omega
    · exact befR_irr l h.2
theorem befR_trans : ∀ {l m o : List Nat},befR l m→befR m o→befR l o
  | x :: l,y :: m,z :: o,h1,h2 => by
    rcases h1 with h1 | ⟨rfl,h1⟩ <;> rcases h2 with h2 | ⟨rfl,h2⟩
    · exact .inl (by omega)
    · exact .inl h1
    · exact .inl h2
    · exact .inr ⟨rfl,befR_trans h1 h2⟩
  | [],_,_,h,_ => h.elim
  | _ :: _,[],_,h,_ => h.elim
  | _ :: _,_ :: _,[],_,h => h.elim
theorem befR_app : ∀ (S : List Nat) {v w : Nat} (l m : List Nat),v < w→befR (S ++ v :: l) (S ++ w :: m)
  | [],_,_,_,_,h => .inl h
  | x :: S,_,_,l,m,h => .inr ⟨rfl,befR_app S l m h⟩
structure AcL (R : Nat→Nat→Bool) (n : Nat) (l : List Nat) : Prop where
  asc : l.Pairwise (· < ·)
  anti : l.Pairwise fun u v => R u v = false∧R v u = false
  lt : ∀ v ∈ l,v < n
def Best (R : Nat→Nat→Bool) (n : Nat) (l : List Nat) : Prop:=AcL R n l∧(∀ m,AcL R n m→m.length ≤ l.length)∧∀ m,AcL R n m→m.length = l.length→¬ befR m l
theorem cmp_iff (g : Nat→Nat) (u v : Nat) : cmpB g u v = false ↔ Rb g u v = false∧Rb g v u = false:=by
  unfold cmpB Rb
  exact Bool.or_eq_false_iff
theorem grow_spec (g : Nat→Nat) (n : Nat) : ∀ (k v : Nat) (S best : List Nat),v + k = n→AcL (Rb g) n S→(∀ u ∈ S,u < v)→S.length ≤ best.length →
    (growL g k v S best = best ∨ ∃ e,growL g k v S best = S ++ e∧e ≠ []∧AcL (Rb g) n (S ++ e)∧(∀ x ∈ e,v ≤ x)∧best.length < (growL g k v S best).length) ∧
    ∀ e,e ≠ []→(∀ x ∈ e,v ≤ x)→AcL (Rb g) n (S ++ e)→(S ++ e).length ≤ (growL g k v S best).length∧((S ++ e).length = (growL g k v S best).length→best.length < (growL g k v S best).length→¬ befR (S ++ e) (growL g k v S best))
  | 0,v,S,best,hv,hS,hSv,hb => by
    refine ⟨.inl rfl,fun e he hx ha => ?_⟩
    exfalso
    obtain ⟨x,t,rfl⟩:=List.exists_cons_of_ne_nil he
    have h1:=hx x (by simp)
    have h2:=ha.lt x (by simp)
    omega
  | k + 1,v,S,best,hv,hS,hSv,hb => by
    unfold growL
    have hvn : v < n:=by omega
    by_cases hany : S.any (fun u => cmpB g u v) = true
    · rw [if_pos hany]
      obtain ⟨h1,h2⟩:=grow_spec g n k (v + 1) S best (by omega) hS (fun u hu => by have:=hSv u hu; omega) hb
      refine ⟨?_,fun e he hx ha => ?_⟩
      · rcases h1 with h1 | ⟨e,e1,e2,e3,e4,e5⟩
        · exact .inl h1
        · exact .inr ⟨e,e1,e2,e3,fun x hx => by have:=e4 x hx; omega,e5⟩
      · refine h2 e he (fun x hxe => ?_) ha
        have:=hx x hxe
        rcases Nat.lt_or_ge v x with h | h
        · exact h
        · exfalso
          obtain rfl : x = v:=by omega
          obtain ⟨u,hu1,hu2⟩:=List.any_eq_true.1 hany
          have:=(List.pairwise_append.1 ha.anti).2.2 u hu1 x hxe
          rw [(cmp_iff g u x).2 this] at hu2
          cases hu2
    · rw [if_neg hany]
      have hS' : AcL (Rb g) n (S ++ [v]):=by
        refine ⟨List.pairwise_append.2 ⟨hS.asc,by simp,fun u hu x hx => ?_⟩,List.pairwise_append.2 ⟨hS.anti,by simp,fun u hu x hx => ?_⟩,fun x hx => ?_⟩
        · rw [List.mem_singleton.1 hx]; exact hSv u hu
        · rw [List.mem_singleton.1 hx]
          refine (cmp_iff g u v).1 ?_
          cases hc : cmpB g u v with
          | false => rfl
          | true => exact absurd (List.any_eq_true.2 ⟨u,hu,hc⟩) hany
        · rcases List.mem_append.1 hx with h | h
          · exact hS.lt x h
          · rw [List.mem_singleton.1 h]; exact hvn
      have hS'v : ∀ u ∈ S ++ [v],u < v + 1:=fun u hu => by
        rcases List.mem_append.1 hu with h | h
        · have:=hSv u h; omega
        · rw [List.mem_singleton.1 h]; omega
      have hlen : (S ++ [v]).length = S.length + 1:=by simp
      have hup : (up (S ++ [v]) best = S ++ [v]∧best.length < (S ++ [v]).length) ∨ (up (S ++ [v]) best = best∧(S ++ [v]).length ≤ best.length):=by
        unfold up
        by_cases h : best.length < (S ++ [v]).length
        · exact .inl ⟨if_pos h,h⟩
        · exact .inr ⟨if_neg h,by omega⟩
      have hup1 : (S ++ [v]).length ≤ (up (S ++ [v]) best).length∧best.length ≤ (up (S ++ [v]) best).length:=by
        rcases hup with ⟨h1,h2⟩ | ⟨h1,h2⟩ <;> rw [h1] <;> omega
      obtain ⟨i1,i2⟩:=grow_spec g n k (v + 1) (S ++ [v]) (up (S ++ [v]) best) (by omega) hS' hS'v hup1.1
      generalize growL g k (v + 1) (S ++ [v]) (up (S ++ [v]) best) = b' at *
      generalize up (S ++ [v]) best = best1 at *
      have hb1 : best1.length ≤ b'.length:=by
        rcases i1 with rfl | ⟨e,_,_,_,_,h⟩
        · exact Nat.le_refl _
        · omega
      obtain ⟨j1,j2⟩:=grow_spec g n k (v + 1) S b' (by omega) hS (fun u hu => by have:=hSv u hu; omega) (by omega)
      generalize growL g k (v + 1) S b' = r at *
      have hbr : b'.length ≤ r.length:=by
        rcases j1 with rfl | ⟨e,_,_,_,_,h⟩
        · exact Nat.le_refl _
        · omega
      have hr : b'.length = r.length→r = b':=fun h => by
        rcases j1 with h1 | ⟨e,_,_,_,_,h1⟩
        · exact h1
        · omega
      -- a larger one in b' begins with S and v
      have hbig : best.length < b'.length→∃ t,b' = S ++ v :: t∧AcL (Rb g) n (S ++ v :: t)∧∀ x ∈ t,v ≤ x:=fun h => by
        rcases i1 with h1 | ⟨e,e1,e2,e3,e4,e5⟩
        · rcases hup with ⟨h2,h3⟩ | ⟨h2,h3⟩
          · exact ⟨[],by rw [h1,h2],hS',by simp⟩
          · rw [h1,h2] at h; omega
        · refine ⟨e,by rw [e1]; simp,by simpa using e3,fun x hx => by have:=e4 x hx; omega⟩
      refine ⟨?_,fun e he hx ha => ?_⟩
      · rcases j1 with h1 | ⟨e,e1,e2,e3,e4,e5⟩
        · by_cases hbb : best.length < b'.length
          · obtain ⟨t,t1,t2,t3⟩:=hbig hbb
            refine .inr ⟨v :: t,by rw [h1,t1],by simp,t2,fun x hx => ?_,by rw [h1]; exact hbb⟩
            rcases List.mem_cons.1 hx with rfl | h
            · exact Nat.le_refl _
            · exact t3 x h
          · left
            rw [h1]
            rcases i1 with h2 | ⟨e,_,_,_,_,h2⟩
            · rcases hup with ⟨h3,h4⟩ | ⟨h3,h4⟩
              · rw [h2,h3] at hbb; omega
              · rw [h2,h3]
            · omega
        · exact .inr ⟨e,e1,e2,e3,fun x hx => by have:=e4 x hx; omega,by omega⟩
      · obtain ⟨x,t,rfl⟩:=List.exists_cons_of_ne_nil he
        have hxv:=hx x (by simp)
        have hasc:=(List.pairwise_append.1 ha.asc).2.1
        rw [List.pairwise_cons] at hasc
        by_cases hxe : x = v
        · subst hxe
          have hl : S ++ x :: t = (S ++ [x]) ++ t:=by simp
          by_cases ht : t = []
          · subst ht
            refine ⟨by rw [hl]; simp only [List.append_nil]; omega,fun h1 h2 => ?_⟩
            have hb'r : b'.length = r.length:=by omega
            have hrb:=hr hb'r
            have hb1b : b' = best1:=by
              rcases i1 with h3 | ⟨e,_,_,_,_,h3⟩
              · exact h3
              · omega
            rcases hup with ⟨h3,h4⟩ | ⟨h3,h4⟩
            · rw [hrb,hb1b,h3]
              exact befR_irr _
            · rw [hrb,hb1b,h3] at h2
              omega
          · have i2':=i2 t ht (fun y hy => hasc.1 y hy) (by rw [← hl]; exact ha)
            rw [← hl] at i2'
            refine ⟨by omega,fun h1 h2 => ?_⟩
            have hb'r : b'.length = r.length:=by omega
            have hrb:=hr hb'r
            rw [hrb]
            by_cases hbb : best1.length < b'.length
            · exact i2'.2 (by omega) hbb
            · exfalso
              have htl : 0 < t.length:=List.length_pos_iff.2 ht
              have hb1b : b' = best1:=by
                rcases i1 with h3 | ⟨e,_,_,_,_,h3⟩
                · exact h3
                · omega
              rcases hup with ⟨h3,h4⟩ | ⟨h3,h4⟩
              · have : (S ++ x :: t).length = (S ++ [x]).length + t.length:=by rw [hl,List.length_append]
                rw [hb1b,h3] at hb'r
                omega
              · rw [hrb,hb1b,h3] at h2
                omega
        · have hvx : v < x:=by omega
          have j2':=j2 (x :: t) he (fun y hy => by
            rcases List.mem_cons.1 hy with rfl | h
            · exact hvx
            · have:=hasc.1 y h; omega) ha
          refine ⟨j2'.1,fun h1 h2 => ?_⟩
          by_cases hbb : b'.length < r.length
          · exact j2'.2 h1 hbb
          · have hrb:=hr (by omega)
            obtain ⟨s,s1,_,_⟩:=hbig (by rw [← hrb]; exact h2)
            rw [hrb,s1]
            intro h
            exact befR_irr _ (befR_trans h (befR_app S s t hvx))
theorem antL_best (g : Nat→Nat) (n : Nat) : Best (Rb g) n (antL g n):=by
  have hnil : AcL (Rb g) n []:=⟨by simp,by simp,by simp⟩
  obtain ⟨h1,h2⟩:=grow_spec g n n 0 [] [] (by omega) hnil (by simp) (Nat.le_refl _)
  unfold antL
  refine ⟨?_,fun m hm => ?_,fun m hm he => ?_⟩
  · rcases h1 with h1 | ⟨e,e1,_,e3,_⟩
    · rw [h1]; exact hnil
    · rw [e1]; exact e3
  · by_cases h : m = []
    · subst h; exact Nat.zero_le _
    · have:=(h2 m h (by simp) (by simpa using hm)).1
      simpa using this
  · by_cases h : m = []
    · subst h
      intro hb
      exact hb
    · have:=(h2 m h (by simp) (by simpa using hm)).2
      have hpos : 0 < m.length:=List.length_pos_iff.2 h
      simp only [List.nil_append,List.length_nil] at this
      exact this he (by omega)
theorem memL_asc (n s : Nat) : (memL n s).Pairwise (· < ·):=List.Pairwise.sublist List.filter_sublist List.pairwise_lt_range
end Go.Mx
namespace Go.Mx
set_option linter.unusedVariables false
set_option linter.unusedSimpArgs false
set_option linter.unusedSectionVars false
open Go
structure Good' (p : Nat→Nat→Bool) (n : Nat) (L : List (List Nat)) : Prop where
  ne : ∀ c ∈ L,c ≠ []
  nod : L.flatten.Nodup
  lt : ∀ v ∈ L.flatten,v < n
  len : L.flatten.length = n
  con : ∀ c ∈ L,∀ i,0 < i→i < c.length→p (nth c 0 (i - 1)) (nth c 0 i) = true
theorem seen_bit (s : Nat) (l : List Int) (v : Nat) : ∀ i,i ≤ l.length→((seenN s l i).testBit v = true ↔ s.testBit v = true ∨ ∃ k,k < i∧(nth l 0 k).toNat = v)
  | 0,_ => by
    show s.testBit v = true ↔ _
    constructor
    · exact .inl
    · rintro (h | ⟨k,h,_⟩)
      · exact h
      · omega
  | i + 1,hi => by
    rw [seenN_succ s (by omega),Nat.testBit_or,Bool.or_eq_true,seen_bit s l v i (by omega),pw_bit]
    constructor
    · rintro ((h | ⟨k,h1,h2⟩) | h)
      · exact .inl h
      · exact .inr ⟨k,by omega,h2⟩
      · exact .inr ⟨i,by omega,by simpa using h⟩
    · rintro (h | ⟨k,h1,h2⟩)
      · exact .inl (.inl h)
      · by_cases e : k = i
        · subst e; exact .inr (by simpa using h2)
        · exact .inl (.inr ⟨k,by omega,h2⟩)
theorem zl_toNat {l : List Int} (h : ∀ x ∈ l,0 ≤ x) : zl (l.map Int.toNat) = l:=by
  unfold zl
  rw [List.map_map]
  conv => rhs; rw [← List.map_id l]
  apply List.map_congr_left
  intro x hx
  have:=h x hx
  show ((x.toNat : Nat) : Int) = x
  omega
theorem badL_iff (p : Nat→Nat→Bool) (n s : Nat) (l : List Int) : badL p n s l = false ↔ ∃ c : List Nat,l = zl c∧c.Nodup∧(∀ v ∈ c,v < n∧s.testBit v = false)∧∀ i,0 < i→i < c.length→p (nth c 0 (i - 1)) (nth c 0 i) = true:=by
  unfold badL
  rw [any_range]
  constructor
  · intro h
    have hb : ∀ i,i < l.length→0 ≤ nth l 0 i∧nth l 0 i < n∧(seenN s l i).testBit (nth l 0 i).toNat = false∧(0 < i→p (nth l 0 (i - 1)).toNat (nth l 0 i).toNat = true):=fun i hi => bad_not (by simpa using h i hi)
    have hz : zl (l.map Int.toNat) = l:=zl_toNat fun x hx => by
      obtain ⟨i,hi,rfl⟩:=List.getElem_of_mem hx
      have:=(hb i hi).1
      rwa [nth_get 0 hi] at this
    have hn : ∀ i,nth (l.map Int.toNat) 0 i = (nth l 0 i).toNat:=fun i => nth_map Int.toNat l 0 i
    refine ⟨l.map Int.toNat,hz.symm,?_,?_,?_⟩
    · unfold List.Nodup
      rw [List.pairwise_iff_getElem]
      intro i j hi hj hij e
      simp only [List.length_map] at hi hj
      have h1:=(hb j hj).2.2.1
      have h2:=(seen_bit s l (nth l 0 j).toNat j (by omega)).2 (.inr ⟨i,hij,by
        simp only [List.getElem_map] at e
        rw [nth_get 0 hi,nth_get 0 hj]; exact e⟩)
      rw [h1] at h2
      cases h2
    · intro v hv
      obtain ⟨x,hx,rfl⟩:=List.mem_map.1 hv
      obtain ⟨i,hi,rfl⟩:=List.getElem_of_mem hx
      obtain ⟨g1,g2,g3,_⟩:=hb i hi
      rw [nth_get 0 hi] at g1 g2 g3
      refine ⟨by omega,?_⟩
      cases hs : s.testBit (l[i]).toNat with
      | false => rfl
      | true =>
        have:=(seen_bit s l (l[i]).toNat i (by omega)).2 (.inl hs)
        rw [g3] at this
        cases this
    · intro i h0 hi
      rw [hn,hn]
      exact (hb i (by simpa using hi)).2.2.2 h0
  · rintro ⟨c,rfl,h1,h2,h3⟩ i hi
    rw [zl_len] at hi
    have hc:=h2 _ (nth_mem 0 hi)
    have hbit : (seenN s (zl c) i).testBit (nth c 0 i) = false:=by
      cases hb : (seenN s (zl c) i).testBit (nth c 0 i) with
      | false => rfl
      | true =>
        rcases (seen_bit s (zl c) (nth c 0 i) i (by rw [zl_len]; omega)).1 hb with h | ⟨k,hk,h⟩
        · rw [hc.2] at h; cases h
        · exfalso
          rw [zl_nth] at h
          simp only [Int.toNat_natCast] at h
          rw [nth_get 0 hi,nth_get 0 (show k < c.length by omega)] at h
          unfold List.Nodup at h1
          rw [List.pairwise_iff_getElem] at h1
          exact h1 k i (by omega) hi hk h
    show badV p n (seenN s (zl c) i) (zl c) i = _
    unfold badV
    rw [zl_nth,zl_nth]
    simp only [Int.toNat_natCast]
    rw [hbit]
    have c1 : ¬ ((nth c 0 i : Nat) : Int) < 0:=by omega
    have c2 : ¬ (n : Int) ≤ ((nth c 0 i : Nat) : Int):=by have:=hc.1; omega
    by_cases h0 : 0 < i
    · rw [h3 i h0 hi]
      simp [c1,c2]
    · simp [c1,c2,h0]
theorem seen_zl (s : Nat) (c : List Nat) (v : Nat) : (seenN s (zl c) (zl c).length).testBit v = true ↔ s.testBit v = true ∨ v ∈ c:=by
  rw [seen_bit s (zl c) v _ (Nat.le_refl _)]
  constructor
  · rintro (h | ⟨k,h1,h2⟩)
    · exact .inl h
    · rw [zl_len] at h1
      rw [zl_nth] at h2
      simp only [Int.toNat_natCast] at h2
      exact .inr (by rw [← h2]; exact nth_mem 0 h1)
  · rintro (h | h)
    · exact .inl h
    · obtain ⟨k,hk,rfl⟩:=List.getElem_of_mem h
      refine .inr ⟨k,by rw [zl_len]; exact hk,?_⟩
      rw [zl_nth,nth_get 0 hk]
      simp
theorem badC_iff (p : Nat→Nat→Bool) (n : Nat) (cs : List (Bool × List Int)) : ∀ j,j ≤ cs.length→((∀ k,k < j→badC p n cs k = false) ↔ ∃ L : List (List Nat),(cs.take j).map (·.2) = L.map zl∧(∀ c ∈ L,c ≠ [])∧L.flatten.Nodup∧(∀ v ∈ L.flatten,v < n) ∧
    (∀ c ∈ L,∀ i,0 < i→i < c.length→p (nth c 0 (i - 1)) (nth c 0 i) = true)∧∀ v,(seenC cs j).testBit v = true ↔ v ∈ L.flatten)
  | 0,_ => by
    constructor
    · intro _
      exact ⟨[],by simp,by simp,by simp,by simp,by simp,by simp [seenC]⟩
    · intro _ k hk
      omega
  | j + 1,hj => by
    have ih:=badC_iff p n cs j (by omega)
    have hjl : j < cs.length:=by omega
    have htake : (cs.take (j + 1)).map (·.2) = (cs.take j).map (·.2) ++ [(nth cs (true,[]) j).2]:=by
      rw [take_succ_nth (true,[]) hjl,List.map_append]
      rfl
    have hsc:=seenC_succ hjl
    rw [hsc,htake]
    constructor
    · intro h
      obtain ⟨L,l1,l2,l3,l4,l5,l6⟩:=ih.1 fun k hk => h k (by omega)
      have hb:=h j (by omega)
      simp only [badC,Bool.or_eq_false_iff,decide_eq_false_iff_not] at hb
      obtain ⟨c,c1,c2,c3,c4⟩:=(badL_iff p n _ _).1 hb.2
      have hfl : (L ++ [c]).flatten = L.flatten ++ c:=by simp
      refine ⟨L ++ [c],?_,fun x hx => ?_,?_,?_,fun x hx => ?_,fun v => ?_⟩
      · rw [l1,List.map_append,c1]; rfl
      · rcases List.mem_append.1 hx with h | h
        · exact l2 x h
        · rw [List.mem_singleton.1 h]
          rintro rfl
          apply hb.1
          rw [c1]; rfl
      · rw [hfl,List.nodup_append]
        refine ⟨l3,c2,fun x hx y hy e => ?_⟩
        subst e
        have:=(l6 x).2 hx
        rw [(c3 x hy).2] at this
        cases this
      · intro v hv
        rw [hfl] at hv
        rcases List.mem_append.1 hv with h | h
        · exact l4 v h
        · exact (c3 v h).1
      · rcases List.mem_append.1 hx with h | h
        · exact l5 x h
        · rw [List.mem_singleton.1 h]
          exact c4
      · rw [c1,seen_zl,hfl,List.mem_append,l6]
    · rintro ⟨L',l1,l2,l3,l4,l5,l6⟩
      have hne : L' ≠ []:=by
        rintro rfl
        simp at l1
      obtain ⟨L,c,rfl⟩ : ∃ L c,L' = L ++ [c]:=⟨L'.dropLast,L'.getLast hne,(List.dropLast_concat_getLast hne).symm⟩
      have hfl : (L ++ [c]).flatten = L.flatten ++ c:=by simp
      rw [List.map_append] at l1
      obtain ⟨m1,m2⟩:=List.append_inj' l1 (by simp)
      have hcl : (nth cs (true,[]) j).2 = zl c:=by simpa using m2
      rw [hfl,List.nodup_append] at l3
      have hsc6 : ∀ v,(seenC cs j).testBit v = true→v ∈ L.flatten ∨ v ∈ c:=fun v hv => by
        have:=(l6 v).1 (by rw [hcl,seen_zl]; exact .inl hv)
        rw [hfl] at this
        exact List.mem_append.1 this
      -- what has been seen before
      have key : ∀ i,i ≤ j→∀ v,(seenC cs i).testBit v = true ↔ v ∈ (L.take i).flatten:=by
        intro i
        induction i with
        | zero => intro _ v; simp [seenC]
        | succ i ihi =>
          intro hi v
          have hil : i < cs.length:=by omega
          have hLl : L.length = j:=by
            have:=congrArg List.length m1
            simp only [List.length_map,List.length_take] at this
            omega
          have hiL : i < L.length:=by omega
          have hrow : (nth cs (true,[]) i).2 = zl (nth L [] i):=by
            have : nth ((cs.take j).map (·.2)) [] i = nth (L.map zl) [] i:=congrArg (fun l => nth l [] i) m1
            rw [nth_get (d:=([] : List Int)) (by simp; omega),nth_get (d:=([] : List Int)) (by simp; omega)] at this
            simp only [List.getElem_map,List.getElem_take] at this
            rw [nth_get (true,[]) hil,nth_get [] hiL]
            exact this
          rw [seenC_succ hil,hrow,seen_zl,ihi (by omega),take_succ_nth [] hiL,List.flatten_append,List.mem_append]
          simp
      have hLl : L.length = j:=by
        have:=congrArg List.length m1
        simp only [List.length_map,List.length_take] at this
        omega
      have keyj:=key j (Nat.le_refl _)
      rw [← hLl,List.take_length] at keyj
      rw [hLl] at keyj
      have hprev:=ih.2 ⟨L,m1,fun x hx => l2 x (List.mem_append.2 (.inl hx)),l3.1,fun v hv => l4 v (by rw [hfl]; exact List.mem_append.2 (.inl hv)),fun x hx => l5 x (List.mem_append.2 (.inl hx)),keyj⟩
      intro k hk
      by_cases e : k = j
      · subst e
        unfold badC
        rw [hcl,Bool.or_eq_false_iff]
        refine ⟨?_,(badL_iff p n _ _).2 ⟨c,rfl,l3.2.1,fun v hv => ⟨l4 v (by rw [hfl]; exact List.mem_append.2 (.inr hv)),?_⟩,l5 c (by simp)⟩⟩
        · have:=l2 c (by simp)
          rw [zl_len]
          simpa using this
        · cases hb : (seenC cs k).testBit v with
          | false => rfl
          | true => exact absurd rfl (l3.2.2 v ((keyj v).1 hb) v hv)
      · exact hprev k (by omega)
theorem pop_list {s : Nat} {l : List Nat} (h : ∀ v,s.testBit v = true ↔ v ∈ l) (hn : l.Nodup) (hl : ∀ v ∈ l,v < 12) : pop s = l.length:=by
  unfold pop
  apply Nat.le_antisymm
  · refine nod_sub _ _ (nod_filter _ List.nodup_range) fun v hv => ?_
    exact (h v).1 (List.mem_filter.1 hv).2
  · refine nod_sub _ _ hn fun v hv => ?_
    exact List.mem_filter.2 ⟨List.mem_range.2 (hl v hv),(h v).2 hv⟩
theorem isC_iff {p : Nat→Nat→Bool} {n : Nat} (hn : n ≤ 12) (cs : List (Bool × List Int)) : isC p n cs = true ↔ ∃ L : List (List Nat),cs.map (·.2) = L.map zl∧Good' p n L:=by
  have key:=badC_iff p n cs cs.length (Nat.le_refl _)
  rw [List.take_length] at key
  have hany : (List.range cs.length).any (badC p n cs) = false ↔ ∀ k,k < cs.length→badC p n cs k = false:=by
    rw [any_range]
  unfold isC
  rw [Bool.and_eq_true,Bool.not_eq_true',hany,key,beq_iff_eq]
  constructor
  · rintro ⟨⟨L,l1,l2,l3,l4,l5,l6⟩,h⟩
    refine ⟨L,l1,l2,l3,l4,?_,l5⟩
    rw [← h]
    exact (pop_list l6 l3 fun v hv => by have:=l4 v hv; omega).symm
  · rintro ⟨L,l1,h⟩
    have hh:=h
    obtain ⟨g1,g2,g3,g4,g5⟩:=hh
    have hbad:=(badC_iff p n cs cs.length (Nat.le_refl _))
    rw [List.take_length] at hbad
    -- what is seen,by the lists one after the other
    have kk : ∀ i,i ≤ cs.length→∀ v,(seenC cs i).testBit v = true ↔ v ∈ (L.take i).flatten:=by
      intro i
      have hLl : L.length = cs.length:=by
        have:=congrArg List.length l1
        simpa using this.symm
      induction i with
      | zero => intro _ v; simp [seenC]
      | succ i ihi =>
        intro hi v
        have hil : i < cs.length:=by omega
        have hiL : i < L.length:=by omega
        have hrow : (nth cs (true,[]) i).2 = zl (nth L [] i):=by
          have : nth (cs.map (·.2)) [] i = nth (L.map zl) [] i:=congrArg (fun l => nth l [] i) l1
          rw [nth_get (d:=([] : List Int)) (by simp; omega),nth_get (d:=([] : List Int)) (by simp; omega)] at this
          simp only [List.getElem_map] at this
          rw [nth_get (true,[]) hil,nth_get [] hiL]
          exact this
        rw [seenC_succ hil,hrow,seen_zl,ihi (by omega),take_succ_nth [] hiL,List.flatten_append,List.mem_append]
        simp
    have hLl : L.length = cs.length:=by
      have:=congrArg List.length l1
      simpa using this.symm
    have kkl:=kk cs.length (Nat.le_refl _)
    rw [← hLl,List.take_length,hLl] at kkl
    refine ⟨⟨L,l1,g1,g2,g3,g5,kkl⟩,?_⟩
    rw [pop_list kkl g2 fun v hv => by have:=g3 v hv; omega]
    exact g4
end Go.Mx
namespace Go.Mx
set_option linter.unusedVariables false
set_option linter.unusedSimpArgs false
set_option linter.unusedSectionVars false
open Go
section
variable {R : Nat→Nat→Bool} {n : Nat}
theorem con_pair (hR : PO R n) : ∀ {c : List Nat},(∀ i,0 < i→i < c.length→R (nth c 0 (i - 1)) (nth c 0 i) = true)→c.Pairwise fun u v => R u v = true
  | [],_ => .nil
  | [x],_ => by simp
  | x :: y :: c,h => by
    have ih:=con_pair hR (c:=y :: c) fun i h0 hi => by
      have:=h (i + 1) (by omega) (by simpa using hi)
      have e1 : nth (x :: y :: c) 0 (i + 1) = nth (y :: c) 0 i:=rfl
      have e2 : nth (x :: y :: c) 0 (i + 1 - 1) = nth (y :: c) 0 (i - 1):=by
        obtain ⟨j,rfl⟩ : ∃ j,i = j + 1:=⟨i - 1,by omega⟩
        rfl
      rwa [e1,e2] at this
    have hxy : R x y = true:=h 1 (by omega) (by simp)
    refine List.pairwise_cons.2 ⟨fun z hz => ?_,ih⟩
    rcases List.mem_cons.1 hz with rfl | hz
    · exact hxy
    · exact hR.tr x y z hxy ((List.pairwise_cons.1 ih).1 z hz)
theorem chain_one {c s : List Nat} (hR : PO R n) (hc : c.Pairwise fun u v => R u v = true) (hs : AcL R n s) : (c.filter fun v => s.contains v).length ≤ 1:=by
  have hf : (c.filter fun v => s.contains v).Pairwise fun u v => R u v = true:=List.Pairwise.sublist List.filter_sublist hc
  have hm : ∀ v ∈ c.filter fun v => s.contains v,v ∈ s:=fun v hv => List.contains_iff_mem.1 (List.mem_filter.1 hv).2
  generalize c.filter (fun v => s.contains v) = f at *
  match f,hf,hm with
  | [],_,_ => simp
  | [_],_,_ => simp
  | x :: y :: f,hf,hm =>
    exfalso
    have hxy : R x y = true:=(List.pairwise_cons.1 hf).1 y (by simp)
    have hx:=hm x (by simp)
    have hy:=hm y (by simp)
    have hne : x ≠ y:=fun e => by
      subst e
      rw [hR.irr] at hxy
      cases hxy
    obtain ⟨i,hi,rfl⟩:=List.getElem_of_mem hx
    obtain ⟨j,hj,rfl⟩:=List.getElem_of_mem hy
    have ha:=List.pairwise_iff_getElem.1 hs.anti
    rcases Nat.lt_trichotomy i j with h | h | h
    · have:=(ha i j hi hj h).1
      rw [this] at hxy; cases hxy
    · subst h; exact hne rfl
    · have:=(ha j i hj hi h).2
      rw [this] at hxy; cases hxy
theorem AcL.nod {s : List Nat} (h : AcL R n s) : s.Nodup:=List.Pairwise.imp (fun h => Nat.ne_of_lt h) h.asc
theorem flat_sum (f : Nat→Bool) : ∀ L : List (List Nat),(L.flatten.filter f).length = (L.map fun c => (c.filter f).length).sum
  | [] => rfl
  | c :: L => by
    rw [List.flatten_cons,List.filter_append,List.length_append,flat_sum f L]
    rfl
theorem Good'.all {p : Nat→Nat→Bool} {L : List (List Nat)} (h : Good' p n L) {v : Nat} (hv : v < n) : v ∈ L.flatten :=
  nod_all h.nod (fun x hx => List.mem_range.2 (h.lt x hx)) (by rw [List.length_range,h.len]; exact Nat.le_refl _) v (List.mem_range.2 hv)
theorem Good'.sum {L : List (List Nat)} (h : Good' R n L) {s : List Nat} (hs : AcL R n s) : (L.map fun c => (c.filter fun v => s.contains v).length).sum = s.length:=by
  rw [← flat_sum]
  apply Nat.le_antisymm
  · refine nod_sub _ _ (nod_filter _ h.nod) fun v hv => List.contains_iff_mem.1 (List.mem_filter.1 hv).2
  · refine nod_sub _ _ hs.nod fun v hv => List.mem_filter.2 ⟨h.all (hs.lt v hv),List.contains_iff_mem.2 hv⟩
theorem sum_le : ∀ {l : List Nat},(∀ x ∈ l,x ≤ 1)→l.sum ≤ l.length
  | [],_ => Nat.le_refl _
  | x :: l,h => by
    have:=sum_le (l:=l) fun y hy => h y (by simp [hy])
    have:=h x (by simp)
    simp only [List.sum_cons,List.length_cons]
    omega
theorem sum_one : ∀ {l : List Nat},(∀ x ∈ l,x ≤ 1)→l.length ≤ l.sum→∀ x ∈ l,x = 1
  | [],_,_,x,hx => by cases hx
  | y :: l,h,hs,x,hx => by
    have h1:=sum_le (l:=l) fun z hz => h z (by simp [hz])
    have h2:=h y (by simp)
    simp only [List.sum_cons,List.length_cons] at hs
    rcases List.mem_cons.1 hx with rfl | hx
    · omega
    · exact sum_one (l:=l) (fun z hz => h z (by simp [hz])) (by omega) x hx
theorem Good'.ge (hR : PO R n) {L : List (List Nat)} (h : Good' R n L) {s : List Nat} (hs : AcL R n s) : s.length ≤ L.length:=by
  rw [← h.sum hs]
  have:=sum_le (l:=L.map fun c => (c.filter fun v => s.contains v).length) fun x hx => by
    obtain ⟨c,hc,rfl⟩:=List.mem_map.1 hx
    exact chain_one hR (con_pair hR (h.con c hc)) hs
  simpa using this
theorem Good'.each (hR : PO R n) {L : List (List Nat)} (h : Good' R n L) {s : List Nat} (hs : AcL R n s) (he : L.length = s.length) : ∀ c ∈ L,(c.filter fun v => s.contains v).length = 1:=by
  intro c hc
  have hle : ∀ x ∈ L.map fun c => (c.filter fun v => s.contains v).length,x ≤ 1:=fun x hx => by
    obtain ⟨c,hc,rfl⟩:=List.mem_map.1 hx
    exact chain_one hR (con_pair hR (h.con c hc)) hs
  exact sum_one hle (by rw [h.sum hs,List.length_map,he]; exact Nat.le_refl _) _ (List.mem_map.2 ⟨c,hc,rfl⟩)
variable {l F : Nat→Option Nat} {mu : Nat→Nat} (ht : Typ R n l) (hFl : ∀ v u,F v = some u ↔ l u = some v) (hmu : ∀ v u,R v u = true→mu u < mu v)
include ht hFl hmu
theorem F_lt {v u : Nat} (h : F v = some u) : mu u < mu v:=hmu v u (ht.typ u v ((hFl v u).1 h)).2.2
theorem chF_next : ∀ (k : Nat) (o : Option Nat),mO mu o ≤ k→∀ x u,x ∈ chF F k o→F x = some u→u ∈ chF F k o
  | 0,_,_,x,u,hx,_ => by simp [chF] at hx
  | k + 1,none,_,x,u,hx,_ => by simp [chF] at hx
  | k + 1,some v,hk,x,u,hx,hu => by
    have hm : mO mu (F v) ≤ k:=by
      have hk' : mu v ≤ k:=by simpa [mO] using hk
      cases hv : F v with
      | none => simp [mO]
      | some w => have:=F_lt ht hFl hmu hv; simp only [mO]; omega
    simp only [chF,List.mem_cons] at hx ⊢
    rcases hx with rfl | hx
    · refine .inr ?_
      rw [hu]
      cases k with
      | zero => rw [hu] at hm; simp [mO] at hm
      | succ k => simp [chF]
    · exact .inr (chF_next k (F v) hm x u hx hu)
omit ht hFl hmu in
theorem chF_prev : ∀ (k : Nat) (o : Option Nat) (u : Nat),u ∈ chF F k o→o = some u ∨ ∃ x,x ∈ chF F k o∧F x = some u
  | 0,_,u,hu => by simp [chF] at hu
  | k + 1,none,u,hu => by simp [chF] at hu
  | k + 1,some v,u,hu => by
    simp only [chF,List.mem_cons] at hu ⊢
    rcases hu with rfl | hu
    · exact .inl rfl
    · rcases chF_prev k (F v) u hu with h | ⟨x,h1,h2⟩
      · exact .inr ⟨v,.inl rfl,h⟩
      · exact .inr ⟨x,.inr h1,h2⟩
theorem chF_con : ∀ (k : Nat) (o : Option Nat) (i : Nat),0 < i→i < (chF F k o).length→R (nth (chF F k o) 0 (i - 1)) (nth (chF F k o) 0 i) = true
  | 0,_,i,_,hi => by simp [chF] at hi
  | k + 1,none,i,_,hi => by simp [chF] at hi
  | k + 1,some v,i,h0,hi => by
    simp only [chF] at hi ⊢
    obtain ⟨j,rfl⟩ : ∃ j,i = j + 1:=⟨i - 1,by omega⟩
    have e1 : nth (v :: chF F k (F v)) 0 (j + 1) = nth (chF F k (F v)) 0 j:=rfl
    rw [e1]
    have hj : j < (chF F k (F v)).length:=by simpa using hi
    cases j with
    | zero =>
      show R v _ = true
      cases k with
      | zero => simp [chF] at hj
      | succ k =>
        cases hv : F v with
        | none => rw [hv] at hj; simp [chF] at hj
        | some u =>
          show R v u = true
          exact (ht.typ u v ((hFl v u).1 hv)).2.2
    | succ j => exact chF_con k (F v) (j + 1) (by omega) hj
abbrev chV (F : Nat→Option Nat) (mu : Nat→Nat) (v : Nat) : List Nat:=chF F (mu v + 1) (some v)
omit ht hFl hmu in
theorem chV_me (v : Nat) : v ∈ chV F mu v:=by simp [chF]
theorem chV_same : ∀ (m u v w : Nat),(∀ x,mu x ≤ m + mu u)→l v = none→l w = none→u ∈ chV F mu v→u ∈ chV F mu w→v = w
  | m,u,v,w,hm,hv,hw,h1,h2 => by
    rcases chF_prev _ _ u h1 with h3 | ⟨x,h3,h4⟩
    · have e3 : v = u:=Option.some.inj h3
      rcases chF_prev _ _ u h2 with h5 | ⟨y,_,h6⟩
      · have e5 : w = u:=Option.some.inj h5
        rw [e3,e5]
      · rw [e3,(hFl y u).1 h6] at hv; cases hv
    · rcases chF_prev _ _ u h2 with h5 | ⟨y,h5,h6⟩
      · have e5 : w = u:=Option.some.inj h5
        rw [e5,(hFl x u).1 h4] at hw; cases hw
      · have hxy : x = y:=by
          have a:=(hFl x u).1 h4
          have b:=(hFl y u).1 h6
          rw [a] at b
          cases b
          rfl
        subst hxy
        have hlt:=F_lt ht hFl hmu h4
        match m with
        | 0 => have:=hm x; omega
        | m + 1 => exact chV_same m x v w (fun z => by have:=hm z; omega) hv hw h3 h5
theorem chV_has (hmn : ∀ v,mu v ≤ n) : ∀ (m u : Nat),u < n→n ≤ m + mu u→∃ v,v < n∧l v = none∧u ∈ chV F mu v
  | m,u,hu,hm => by
    cases hlu : l u with
    | none => exact ⟨u,hu,hlu,chV_me u⟩
    | some x =>
      have hx:=ht.typ u x hlu
      have hlt:=hmu x u hx.2.2
      match m with
      | 0 => have:=hmn x; omega
      | m + 1 =>
        obtain ⟨v,v1,v2,v3⟩:=chV_has hmn m x hx.2.1 (by omega)
        exact ⟨v,v1,v2,chF_next ht hFl hmu _ _ (by simp [mO]) x u v3 ((hFl x u).2 hlu)⟩
theorem chV_lt {v u : Nat} (hv : v < n) (hu : u ∈ chV F mu v) : u < n:=by
  rcases chF_prev _ _ u hu with h | ⟨x,_,h⟩
  · cases h; exact hv
  · exact (ht.typ u x ((hFl x u).1 h)).1
theorem chL_good (hR : PO R n) (hmn : ∀ v,mu v ≤ n) : Good' R n (chL l F mu n):=by
  have hmem : ∀ c ∈ chL l F mu n,∃ v,v < n∧l v = none∧c = chV F mu v:=fun c hc => by
    unfold chL at hc
    obtain ⟨v,hv,rfl⟩:=List.mem_map.1 hc
    obtain ⟨h1,h2⟩:=List.mem_filter.1 hv
    exact ⟨v,List.mem_range.1 h1,by simpa using h2,rfl⟩
  have hcon : ∀ c ∈ chL l F mu n,∀ i,0 < i→i < c.length→R (nth c 0 (i - 1)) (nth c 0 i) = true:=fun c hc => by
    obtain ⟨v,_,_,rfl⟩:=hmem c hc
    exact chF_con ht hFl hmu _ _
  have hnod : (chL l F mu n).flatten.Nodup:=by
    unfold List.Nodup
    rw [List.pairwise_flatten]
    refine ⟨fun c hc => ?_,?_⟩
    · refine List.Pairwise.imp (fun {x y} h e => ?_) (con_pair hR (hcon c hc))
      subst e
      rw [hR.irr] at h
      cases h
    · unfold chL
      rw [List.pairwise_map]
      refine List.Pairwise.imp_of_mem (fun {v w} hv hw hne x hx y hy e => ?_) (nod_filter _ List.nodup_range)
      subst e
      obtain ⟨h1,h2⟩:=List.mem_filter.1 hv
      obtain ⟨h3,h4⟩:=List.mem_filter.1 hw
      exact hne (chV_same ht hFl hmu n x v w (fun z => by have:=hmn z; omega) (by simpa using h2) (by simpa using h4) hx hy)
  have hlt : ∀ v ∈ (chL l F mu n).flatten,v < n:=fun u hu => by
    obtain ⟨c,hc,hu⟩:=List.mem_flatten.1 hu
    obtain ⟨v,h1,_,rfl⟩:=hmem c hc
    exact chV_lt ht hFl hmu h1 hu
  refine ⟨fun c hc => ?_,hnod,hlt,?_,hcon⟩
  · obtain ⟨v,_,_,rfl⟩:=hmem c hc
    exact List.ne_nil_of_mem (chV_me v)
  · apply Nat.le_antisymm
    · have:=nod_sub _ (List.range n) hnod fun v hv => List.mem_range.2 (hlt v hv)
      simpa using this
    · have:=nod_sub (List.range n) (chL l F mu n).flatten List.nodup_range fun u hu => by
        obtain ⟨v,h1,h2,h3⟩:=chV_has ht hFl hmu hmn n u (List.mem_range.1 hu) (by omega)
        refine List.mem_flatten.2 ⟨chV F mu v,?_,h3⟩
        unfold chL
        exact List.mem_map.2 ⟨v,List.mem_filter.2 ⟨List.mem_range.2 h1,by rw [h2]; rfl⟩,rfl⟩
      simpa using this
end
theorem chs_good {n : Int} {a : List (Int × Int)} (h : ckE n a = 0) : Good' (oR n a) n.toNat (chs n a):=by
  obtain ⟨k,rfl,_,hv,hac⟩:=ck_ok h
  have hpo:=oR_po hv hac
  have hk:=kuh_inv (oR k a) (k : Int).toNat (k : Int).toNat (Nat.le_refl _)
  exact chL_good hk.typ (fwO_iff hk.typ) (fun v u hvu => muR_lt hpo hvu) hpo (muR_le _ _)
theorem chs_len {n : Int} {a : List (Int × Int)} (h : ckE n a = 0) : (chs n a).length = (antL (ordG n a) n.toNat).length:=by
  have hg:=chs_good h
  obtain ⟨k,rfl,_,hv,hac⟩:=ck_ok h
  have hpo:=oR_po hv hac
  have hb:=antL_best (ordG k a) (k : Int).toNat
  apply Nat.le_antisymm
  · obtain ⟨S,s1,s2,s3,s4⟩:=dilworth (oR k a) (k : Int).toNat
    have hlen : (chs k a).length = ((List.range (k : Int).toNat).filter fun v => (kuhN k a v).isNone).length:=by
      unfold chs chL
      rw [List.length_map]
    have hsp:=filt_split (fun u => (kuhN k a u).isSome) (List.range (k : Int).toNat)
    have hnn : ((List.range (k : Int).toNat).filter fun x => !(kuhN k a x).isSome) = (List.range (k : Int).toNat).filter fun v => (kuhN k a v).isNone:=by
      apply List.filter_congr
      intro v _
      cases kuhN k a v <;> rfl
    rw [hnn,List.length_range] at hsp
    -- the members in their order
    have hac' : AcL (oR k a) (k : Int).toNat (memL (k : Int).toNat (mkM (fun v => S.contains v) (k : Int).toNat)):=by
      have hm : ∀ v,v ∈ memL (k : Int).toNat (mkM (fun v => S.contains v) (k : Int).toNat)→v ∈ S:=fun v hv => by
        rw [mem_memL,mkM_bit] at hv
        simp only [Bool.and_eq_true,List.contains_iff_mem] at hv
        exact hv.2.2
      refine ⟨memL_asc _ _,?_,fun v hv => (mem_memL.1 hv).1⟩
      refine List.Pairwise.imp_of_mem (fun {u v} hu hv _ => ?_) (memL_asc (k : Int).toNat (mkM (fun v => S.contains v) (k : Int).toNat))
      exact ⟨by simpa using s3 u (hm u hu) v (hm v hv),by simpa using s3 v (hm v hv) u (hm u hu)⟩
    have h1:=hb.2.1 _ hac'
    have h2:=nod_sub S (memL (k : Int).toNat (mkM (fun v => S.contains v) (k : Int).toNat)) s1 fun v hv => by
      rw [mem_memL,mkM_bit]
      simp only [Bool.and_eq_true,decide_eq_true_eq,List.contains_iff_mem]
      exact ⟨s2 v hv,s2 v hv,hv⟩
    have s4' : (k : Int).toNat ≤ S.length + ((List.range (k : Int).toNat).filter fun u => (kuhN k a u).isSome).length:=s4
    omega
  · exact hg.ge hpo hb.1
end Go.Mx
namespace Go.Mx
set_option linter.unusedVariables false
set_option linter.unusedSimpArgs false
set_option linter.unusedSectionVars false
open Go
structure LvO (R : Nat→Nat→Bool) (n : Nat) (lv : Nat→Nat) : Prop where
  up : ∀ u v,R u v = true→lv u < lv v
  at' : ∀ v,lv v = 0 ∨ ∃ u,R u v = true∧lv u + 1 = lv v
abbrev lvR (n : Int) (a : List (Int × Int)) : Nat→Nat:=levR (natA a) n.toNat
abbrev hgt (n : Int) (a : List (Int × Int)) : Nat:=maxN (levO n a) n.toNat
theorem lev_lvO {n : Int} {a : List (Int × Int)} (h : ckE n a = 0) : LvO (oR n a) n.toNat (lvR n a)∧∀ v,lvR n a v ≤ n.toNat:=by
  obtain ⟨k,rfl,h12,hv,hac⟩:=ck_ok h
  obtain ⟨k',hk',_,ha,hp⟩:=valid_nat hv
  obtain rfl : k = k':=by omega
  have hp' : ∀ p ∈ natA a,p.1 < k∧p.2 < k:=fun p h => ⟨(hp p h).1,(hp p h).2.1⟩
  have hne : ∀ p ∈ natA a,p.1 ≠ p.2:=fun p h => (hp p h).2.2
  have hirr : ∀ i,i < k→(warr (nextG (natA a)) k i).testBit i = false:=fun i hi => by
    have:=acy_irr hac (i:=i) (by simpa using hi)
    simpa [rea] using this
  obtain ⟨l,hl⟩:=order_of_acyclic hp' hirr k [] (fun pr v po e => by
    have:=congrArg List.length e
    simp at this) (by simp) (by simp)
  have hord : IsOrd k (natA a) l:=ordR_is (by simpa [ordR] using hl)
  have hLev:=lev_all hne hord.good l.length (Nat.le_refl _)
  rw [List.take_length] at hLev
  have heq : ∀ u,lvR k a u = levP (nextG (natA a)) l u:=fun u => by
    have:=lev_eq hne hp' hord u
    simpa [lvR] using this
  have hup : ∀ f t,(f,t) ∈ natA a→lvR k a f < lvR k a t:=fun f t ht => by
    rw [heq,heq]
    exact hLev.up f t ht (hord.all (hp' _ ht).1)
  refine ⟨⟨fun u v huv => ?_,fun v => ?_⟩,fun v => ?_⟩
  · rw [oR_iff hv hac] at huv
    refine warr_ind (nextG (natA a)) (fun i j => lvR k a i < lvR k a j) (fun i j h => ?_) (fun i w j h1 h2 => Nat.lt_trans h1 h2) _ u v huv
    rw [next_bit] at h
    exact hup i j (List.contains_iff_mem.1 h)
  · rw [heq]
    rcases hLev.at' v with h | ⟨f,_,hf,hfe⟩
    · exact .inl h
    · refine .inr ⟨f,?_,by rw [heq,hfe]⟩
      rw [oR_iff hv hac]
      refine warr_mono _ _ f v ?_
      rw [next_bit]
      exact List.contains_iff_mem.2 hf
  · rw [heq]
    have:=levP_le (nextG (natA a)) l v
    rw [hord.len] at this
    simpa using this
section
variable {R : Nat→Nat→Bool} {n : Nat} {lv : Nat→Nat}
theorem LvO.le (h : LvO R n lv) {t : Nat→Nat} (ht : ∀ u v,R u v = true→t u < t v) : ∀ (k v : Nat),lv v ≤ k→lv v ≤ t v
  | 0,v,hk => by omega
  | k + 1,v,hk => by
    rcases h.at' v with h0 | ⟨u,h1,h2⟩
    · omega
    · have:=LvO.le h ht k u (by omega)
      have:=ht u v h1
      omega
theorem LvO.height (h : LvO R n lv) {k r : Nat} (hs : Sch R n k r) : maxN (fun v => lv v + 1) n ≤ r:=by
  obtain ⟨t,t1,t2,_⟩:=hs
  refine maxN_le _ fun v hv => ?_
  have:=h.le t2 (lv v) v (Nat.le_refl _)
  have:=t1 v hv
  omega
theorem lvl_mem {lv : Nat→Nat} {n i v : Nat} : v ∈ lvl lv n i ↔ v < n∧lv v = i:=by simp [lvl]
theorem lvl_asc (lv : Nat→Nat) (n i : Nat) : (lvl lv n i).Pairwise (· < ·):=List.Pairwise.sublist List.filter_sublist List.pairwise_lt_range
theorem LvO.anti (h : LvO R n lv) (i : Nat) : AcL R n (lvl lv n i):=by
  refine ⟨lvl_asc _ _ _,?_,fun v hv => (lvl_mem.1 hv).1⟩
  refine List.Pairwise.imp_of_mem (fun {u v} hu hv _ => ?_) (lvl_asc lv n i)
  have h1:=(lvl_mem.1 hu).2
  have h2:=(lvl_mem.1 hv).2
  constructor
  · cases hr : R u v with
    | false => rfl
    | true => have:=h.up u v hr; omega
  · cases hr : R v u with
    | false => rfl
    | true => have:=h.up v u hr; omega
theorem LvO.sch (h : LvO R n lv) {k : Nat} (hk : ∀ l,AcL R n l→l.length ≤ k) : Sch R n k (maxN (fun v => lv v + 1) n) :=
  ⟨lv,fun _ hv => maxN_ge (fun v => lv v + 1) hv,h.up,fun i => hk _ (h.anti i)⟩
theorem Sch.mono {k k' r : Nat} (h : Sch R n k r) (hk : k ≤ k') : Sch R n k' r:=by
  obtain ⟨t,t1,t2,t3⟩:=h
  exact ⟨t,t1,t2,fun i => Nat.le_trans (t3 i) hk⟩
theorem Sch.sub {R' : Nat→Nat→Bool} {k r : Nat} (h : Sch R' n k r) (hR : ∀ u v,R u v = true→R' u v = true) : Sch R n k r:=by
  obtain ⟨t,t1,t2,t3⟩:=h
  exact ⟨t,t1,fun u v huv => t2 u v (hR u v huv),t3⟩
theorem Sch.size {k r : Nat} (h : Sch R n k r) : n ≤ r * k:=by
  obtain ⟨t,t1,t2,t3⟩:=h
  have key : ∀ i,((List.range n).filter fun v => decide (t v < i)).length ≤ i * k:=by
    intro i
    induction i with
    | zero =>
      rw [List.filter_eq_nil_iff.2 (by simp)]
      simp
    | succ i ih =>
      have hsp:=filter_or (fun v => decide (t v < i)) (fun v => t v == i) (fun x hx => by
        have h1:=of_decide_eq_true hx.1
        have h2:=eq_of_beq hx.2
        omega) (List.range n)
      have he : ((List.range n).filter fun v => decide (t v < i + 1)) = (List.range n).filter fun v => decide (t v < i) || t v == i:=by
        apply List.filter_congr
        intro v _
        rw [Bool.eq_iff_iff]
        simp only [decide_eq_true_eq,Bool.or_eq_true,beq_iff_eq]
        omega
      rw [he,hsp,Nat.succ_mul]
      have:=t3 i
      unfold lvl at this
      omega
  have h:=key r
  have he : ((List.range n).filter fun v => decide (t v < r)) = List.range n:=by
    rw [List.filter_eq_self]
    intro v hv
    simpa using t1 v (List.mem_range.1 hv)
  rw [he,List.length_range] at h
  exact h
theorem ac_n {l : List Nat} (h : AcL R n l) : l.length ≤ n:=by
  have:=nod_sub l (List.range n) h.nod fun v hv => List.mem_range.2 (h.lt v hv)
  simpa using this
end
abbrev wid (n : Int) (a : List (Int × Int)) : Nat:=(antL (ordG n a) n.toNat).length
noncomputable abbrev str (n : Int) (a : List (Int × Int)) (k : Nat) : Nat:=stA (bfN n a) n.toNat k
section
variable {n : Int} {a : List (Int × Int)} (h : ckE n a = 0)
include h
theorem dg_po : PO (oR n a) n.toNat:=by
  obtain ⟨k,rfl,h12,hv,hac⟩:=ck_ok h
  exact oR_po hv hac
theorem dg_12 : n.toNat ≤ 12∧0 ≤ n:=by
  obtain ⟨k,rfl,h12,hv,hac⟩:=ck_ok h
  simp only [Int.toNat_natCast]
  omega
theorem dg_bf : BF (bfN n a) (oR n a) n.toNat:=by
  have:=bfK_bf (dg_po h)
  exact ⟨fun v hv u => this.bit v hv u⟩
theorem str_sch {k : Nat} (hk : 1 ≤ k) : Sch (oR n a) n.toNat k (str n a k)∧∀ r,Sch (oR n a) n.toNat k r→str n a k ≤ r:=stA_sch (dg_po h) (dg_bf h) (dg_12 h).1 hk
theorem str_le {k : Nat} (hk : 1 ≤ k) : str n a k ≤ n.toNat:=(stA_spec (dg_po h) (dg_bf h) (dg_12 h).1 hk).2.2
theorem hgt_le {k r : Nat} (hs : Sch (oR n a) n.toNat k r) : hgt n a ≤ r:=(lev_lvO h).1.height hs
theorem hgt_sch {k : Nat} (hk : wid n a ≤ k) : Sch (oR n a) n.toNat k (hgt n a):=(lev_lvO h).1.sch fun l hl => Nat.le_trans ((antL_best (ordG n a) n.toNat).2.1 l hl) hk
theorem wid_n : wid n a ≤ n.toNat:=ac_n (antL_best (ordG n a) n.toNat).1
theorem str_ge_h {k : Nat} (hk : 1 ≤ k) : hgt n a ≤ str n a k:=hgt_le h (str_sch h hk).1
theorem str_n {k : Nat} (hk : 1 ≤ k) : n.toNat ≤ str n a k * k:=(str_sch h hk).1.size
theorem str_one : str n a 1 = n.toNat:=by
  have h1:=str_le h (k:=1) (by omega)
  have h2:=str_n h (k:=1) (by omega)
  omega
theorem str_wide {k : Nat} (hk : 1 ≤ k) (hw : wid n a ≤ k) : str n a k = hgt n a:=Nat.le_antisymm ((str_sch h hk).2 _ (hgt_sch h hw)) (str_ge_h h hk)
end
end Go.Mx
namespace Go.Mx
set_option linter.unusedVariables false
set_option linter.unusedSimpArgs false
set_option linter.unusedSectionVars false
open Go
abbrev bV (b : Bool) : D:=.v (.bool b)
theorem s10 (k : Nat) (b : Bool) (n : Int) (a : List (Int × Int)) (hl : a.length ≤ 1000) : S (k + 5) 10 [nI n,sa b a] = some (if ckE n a = 0 then .nd .tu [rdG (lvR n a) n.toNat,nI 0] else .nd .tu [gsl eII true [],nI (ckE n a)]):=by
  rw [sA _ _ _ c10 rfl rfl]
  by_cases he : ckE n a = 0
  · refine f10 _ _ (by decide) b n a (lvR n a) (fun i => by have:=(lev_lvO he).2 i; have:=(dg_12 he).1; omega) (s17 k b n a hl) fun he => ?_
    rw [s22 (k + 1) b n a hl,lev_ok he]
  · have:=f10 (S (k + 4)) 6000 (by decide) b n a (fun _ => 0) (fun i => by omega) (s17 k b n a hl) fun h => absurd h he
    rw [if_neg he] at this ⊢
    exact this
theorem s9 (k : Nat) (b : Bool) (n : Int) (a : List (Int × Int)) (hl : a.length ≤ 1000) : S (k + 6) 9 [nI n,sa b a] = some (if ckE n a = 0 then .nd .tu [nI (hgt n a : Nat),nI 0] else .nd .tu [nI 0,nI (ckE n a)]):=by
  rw [sA _ _ _ c9 rfl rfl]
  have:=f9 (S (k + 5)) 6000 b n a _ _ (s10 k b n a hl)
  rw [rdR_len] at this
  exact this
theorem s14 (k : Nat) (b c : Bool) (n : Int) (a : List (Int × Int)) (hl : a.length ≤ 1000) (cs : List (Bool × List Int)) (hc : cs.length ≤ 900) (hx : ∀ c ∈ cs,c.2.length ≤ 900) :
    S (k + 5) 14 [nI n,sa b a,gsl eII c cs] = some (bV (if ckE n a = 0 then isC (oR n a) n.toNat cs else false)):=by
  rw [sA _ _ _ c14 rfl rfl]
  exact f14 _ _ (by decide) b c n a cs hc hx (s17 k b n a hl) (fun x hx => u38 sA (k + 2) x hx) fun he u v hu hv => s21 (k + 3) n.toNat (ordG n a) (ord_lt he) u v hu (by have:=(dg_12 he).1; omega)
end Go.Mx
namespace Go.Mx
set_option linter.unusedVariables false
set_option linter.unusedSimpArgs false
set_option linter.unusedSectionVars false
open Go
def opR (g : Nat→Nat→Bool) (i m : Nat) : List (Int × Int):=((List.range m).filter fun t => g i (i + 1 + t)).map fun t => ((i : Int),((i + 1 + t : Nat) : Int))
theorem opR_succ (g : Nat→Nat→Bool) (i m : Nat) : opR g i (m + 1) = if g i (i + 1 + m) = true then opR g i m ++ [((i : Int),((i + 1 + m : Nat) : Int))] else opR g i m:=by
  unfold opR
  rw [List.range_succ,List.filter_append,List.map_append]
  by_cases h : g i (i + 1 + m) = true <;> simp [h]
theorem opR_len (g : Nat→Nat→Bool) (i m : Nat) : (opR g i m).length ≤ m:=by
  unfold opR
  rw [List.length_map]
  have:=List.length_filter_le (fun t => g i (i + 1 + t)) (List.range m)
  rwa [List.length_range] at this
def opA (g : Nat→Nat→Bool) (n : Nat) : Nat→List (Int × Int)
  | 0 => []
  | i + 1 => opA g n i ++ opR g i (n - 1 - i)
theorem opA_len (g : Nat→Nat→Bool) (n : Nat) : ∀ i,(opA g n i).length ≤ i * n
  | 0 => by simp [opA]
  | i + 1 => by
    have h1:=opA_len g n i
    have h2:=opR_len g i (n - 1 - i)
    simp only [opA,List.length_append]
    rw [Nat.add_mul]; omega
theorem loop12_1 (call : Oracle) (fuel : Nat) (n : Nat) (hn : n ≤ 20) (b : Bool) (a : List (Int × Int)) (r : Nat→Nat→Bool) (h26 : ∀ i j : Nat,i < n→j < n→call 26 [nI n,sa b a,nI i,nI j] = some (.v (.bool (r i j))))
    (l0 : List (Int × Int)) (hl0 : l0.length ≤ 500) (i : Nat) (hi : i < n) (fu : Nat) (hfu : 1000 < fu) (st : St)
    (h0 : drops st h12_1 = L12_1 (ii n) (.ro (sa b a)) (.own (sa (decide (l0.length = 0)) l0)) (ii i) (ii (i + 1)) (ii n) (ii i)) :
    run.loopN (run call fuel b12_1) fu st = some (.ex 2,X12_2 (ii n) (.ro (sa b a)) (.own (sa (decide ((l0 ++ opR (fun x y => !r x y && !r y x) i (n - 1 - i)).length = 0)) (l0 ++ opR (fun x y => !r x y && !r y x) i (n - 1 - i)))) (ii n) (ii i)):=by
  refine loop_cnt call fuel h12_1 _ (n - 1 - i) (fun m => L12_1 (ii n) (.ro (sa b a)) (.own (sa (decide ((l0 ++ opR (fun x y => !r x y && !r y x) i m).length = 0)) (l0 ++ opR (fun x y => !r x y && !r y x) i m))) (ii i) (ii ((i + 1 + m : Nat) : Int)) (ii n) (ii i))
    (.ex 2,X12_2 (ii n) (.ro (sa b a)) (.own (sa (decide ((l0 ++ opR (fun x y => !r x y && !r y x) i (n - 1 - i)).length = 0)) (l0 ++ opR (fun x y => !r x y && !r y x) i (n - 1 - i)))) (ii n) (ii i)) (by simp) ?_ ?_ fu st (by rw [h0]; simp [opR]) (by omega)
  · intro m hm
    have hwr : IntKind.i64.wrap (((i + 1 + m : Nat) : Int) + 1) = ((i + 1 + (m + 1) : Nat) : Int):=by rw [wrap_eq (by unfold I64; omega)]; omega
    have hlt : ((i + 1 + m : Nat) : Int) < (n : Int):=by omega
    have e1:=h26 i (i + 1 + m) hi (by omega)
    have e2:=h26 (i + 1 + m) i (by omega) hi
    have hlen:=opR_len (fun x y => !r x y && !r y x) i m
    have hlm : (l0 ++ opR (fun x y => !r x y && !r y x) i m).length + 1 ≤ most:=by rw [List.length_append]; unfold most; omega
    rw [opR_succ]
    generalize opR (fun x y => !r x y && !r y x) i m = R at *
    generalize i + 1 + m = k at *
    generalize i + 1 + (m + 1) = k' at *
    by_cases h1 : r i k = true
    · simp only [h1,Bool.not_true,Bool.false_and,Bool.false_eq_true,if_false]
      rw [h1] at e1
      generalize decide ((l0 ++ R).length = 0) = z at *
      generalize l0 ++ R = L at *
      simp (config:={maxSteps:=2000000}) [hwr,hlt,e1]
    · have h1' : r i k = false:=by simpa using h1
      rw [h1'] at e1
      by_cases h2 : r k i = true
      · simp only [h1',h2,Bool.not_true,Bool.and_false,Bool.false_eq_true,if_false]
        rw [h2] at e2
        generalize decide ((l0 ++ R).length = 0) = z at *
        generalize l0 ++ R = L at *
        simp (config:={maxSteps:=2000000}) [hwr,hlt,e1,e2]
      · have h2' : r k i = false:=by simpa using h2
        rw [h2'] at e2
        simp only [h1',h2',Bool.not_false,Bool.and_self,if_true]
        have hz : decide ((l0 ++ (R ++ [((i : Int),(k : Int))])).length = 0) = false:=by simp
        rw [hz,← List.append_assoc]
        generalize decide ((l0 ++ R).length = 0) = z at *
        generalize l0 ++ R = L at *
        simp (config:={maxSteps:=2000000}) [hwr,hlt,e1,e2,hlm]
  · have hk : i + 1 + (n - 1 - i) = n:=by omega
    rw [hk]
    generalize decide ((l0 ++ opR (fun x y => !r x y && !r y x) i (n - 1 - i)).length = 0) = z
    generalize l0 ++ opR (fun x y => !r x y && !r y x) i (n - 1 - i) = L
    simp
theorem loop12_0 (call : Oracle) (fuel : Nat) (hF : 1000 < fuel) (n : Nat) (hn : n ≤ 20) (b : Bool) (a : List (Int × Int)) (r : Nat→Nat→Bool) (h26 : ∀ i j : Nat,i < n→j < n→call 26 [nI n,sa b a,nI i,nI j] = some (.v (.bool (r i j))))
    (fu : Nat) (hfu : 1000 < fu) (st : St) (h0 : drops st h12_0 = L12_0 (ii n) (.ro (sa b a)) (.own (sa true [])) (ii n) (ii 0)) :
    run.loopN (run call fuel b12_0) fu st = some (.ex 0,X12_0 (.own (sa (decide ((opA (fun x y => !r x y && !r y x) n n).length = 0)) (opA (fun x y => !r x y && !r y x) n n)))):=by
  refine loop_cnt call fuel h12_0 _ n (fun i => L12_0 (ii n) (.ro (sa b a)) (.own (sa (decide ((opA (fun x y => !r x y && !r y x) n i).length = 0)) (opA (fun x y => !r x y && !r y x) n i))) (ii n) (ii i))
    (.ex 0,X12_0 (.own (sa (decide ((opA (fun x y => !r x y && !r y x) n n).length = 0)) (opA (fun x y => !r x y && !r y x) n n)))) (by simp) ?_ ?_ fu st (by rw [h0]; simp [opA]) (by omega)
  · intro i hi
    have hwr : IntKind.i64.wrap ((i : Int) + 1) = (i : Int) + 1:=wrap_eq (by unfold I64; omega)
    have hl:=opA_len (fun x y => !r x y && !r y x) n i
    have hin : i * n ≤ 20 * 20:=Nat.mul_le_mul (by omega) (by omega)
    have hL:=loop12_1 call fuel n hn b a r h26 (opA (fun x y => !r x y && !r y x) n i) (by omega) i hi fuel hF
    have ho : opA (fun x y => !r x y && !r y x) n (i + 1) = opA (fun x y => !r x y && !r y x) n i ++ opR (fun x y => !r x y && !r y x) i (n - 1 - i):=rfl
    rw [ho]
    clear ho hl hin h26
    generalize opA (fun x y => !r x y && !r y x) n i ++ opR (fun x y => !r x y && !r y x) i (n - 1 - i) = L2 at *
    generalize decide (L2.length = 0) = z2 at *
    generalize opA (fun x y => !r x y && !r y x) n i = L1 at *
    generalize decide (L1.length = 0) = z1 at *
    simp (config:={maxSteps:=2000000}) [hi,hwr]
    rw [hL _ (by simp)]
    simp (config:={maxSteps:=2000000}) [hwr]
  · generalize opA (fun x y => !r x y && !r y x) n n = L
    generalize decide (L.length = 0) = z
    simp
theorem f25 (call : Oracle) (fuel : Nat) (b : Bool) (n c e : Int) (a : List (Int × Int)) (h11 : call 11 [nI n,sa b a] = some (.nd .tu [nI c,nI e])) : callF call fuel c25 [nI n,sa b a] = some (.nd .tu [nI c,nI e]):=by
  rw [callF_tab call fuel c25 K25 _ (by exact Nat.le_of_ble_eq_true rfl) (by exact Nat.le_of_ble_eq_true rfl)]
  simp [c25,K25,h11]
theorem f12 (call : Oracle) (fuel : Nat) (hF : 1000 < fuel) (n : Nat) (hn : n ≤ 20) (b : Bool) (a : List (Int × Int)) (c : Int) (r : Nat→Nat→Bool) (h26 : ∀ i j : Nat,i < n→j < n→call 26 [nI n,sa b a,nI i,nI j] = some (.v (.bool (r i j))))
    (h25 : call 25 [nI n,sa b a] = some (.nd .tu [nI c,nI 0])) :
    callF call fuel c12 [nI n,sa b a] = some (.nd .tu [sa (decide ((opA (fun x y => !r x y && !r y x) n n).length = 0)) (opA (fun x y => !r x y && !r y x) n n),nI 0]):=by
  rw [callF_tab call fuel c12 K12 _ (by exact Nat.le_of_ble_eq_true rfl) (by exact Nat.le_of_ble_eq_true rfl)]
  have hL:=loop12_0 call fuel hF n hn b a r h26 fuel hF
  generalize opA (fun x y => !r x y && !r y x) n n = L at *
  generalize decide (L.length = 0) = z at *
  simp (config:={maxSteps:=2000000}) [c12,K12,h25]
  rw [hL _ (by simp; rfl)]
  simp
end Go.Mx
namespace Go.Mx
set_option linter.unusedVariables false
set_option linter.unusedSimpArgs false
set_option linter.unusedSectionVars false
open Go
theorem f3e (call : Oracle) (fuel : Nat) {α β : Type} (e : En α) (e' : En β) (bl bc z : Bool) (ls : List α) (cs : List β) (k er : Int) (he : ¬ er = 0) (hl : ¬ 7 < (ls.length : Int)) (hc : ¬ 6 < (cs.length : Int)) (h4 : call 4 [] = some (.v (.bool true)))
    (h5 : call 5 [gsl e bl ls,gsl e' bc cs] = some (.nd .tu [sa z [],nI er])) : callF call fuel c3 [gsl e bl ls,gsl e' bc cs,.v (.int .u8 k)] = some (.v (.bool true)):=by
  rw [callF_tab call fuel c3 K3 _ (by exact Nat.le_of_ble_eq_true rfl) (by exact Nat.le_of_ble_eq_true rfl)]
  simp (config:={maxSteps:=4000000}) [c3,K3,h4,hl,hc,h5,he]
theorem f3w (call : Oracle) (fuel : Nat) {α β : Type} (e : En α) (e' : En β) (bl bc : Bool) (ls : List α) (cs : List β) (k : Int) (h : 7 < (ls.length : Int) ∨ 6 < (cs.length : Int)) (h4 : call 4 [] = some (.v (.bool true))) :
    callF call fuel c3 [gsl e bl ls,gsl e' bc cs,.v (.int .u8 k)] = some (.v (.bool true)):=by
  rw [callF_tab call fuel c3 K3 _ (by exact Nat.le_of_ble_eq_true rfl) (by exact Nat.le_of_ble_eq_true rfl)]
  by_cases hl : 7 < (ls.length : Int)
  · simp (config:={maxSteps:=4000000}) [c3,K3,h4,hl]
  · have hc : 6 < (cs.length : Int):=by omega
    simp (config:={maxSteps:=4000000}) [c3,K3,h4,hl,hc]
theorem f3x (call : Oracle) (fuel : Nat) {α β : Type} (e : En α) (e' : En β) (bl bc z : Bool) (ls : List α) (cs : List β) (a : List (Int × Int)) (k f : Int) (hf : ¬ f = 0) (hl : ¬ 7 < (ls.length : Int)) (hc : ¬ 6 < (cs.length : Int)) (h4 : call 4 [] = some (.v (.bool true)))
    (h5 : call 5 [gsl e bl ls,gsl e' bc cs] = some (.nd .tu [sa z a,nI 0])) (h6 : call 6 [nI ls.length,sa z a] = some (.nd .tu [nI 0,nI f])) : callF call fuel c3 [gsl e bl ls,gsl e' bc cs,.v (.int .u8 k)] = some (.v (.bool true)):=by
  rw [callF_tab call fuel c3 K3 _ (by exact Nat.le_of_ble_eq_true rfl) (by exact Nat.le_of_ble_eq_true rfl)]
  simp (config:={maxSteps:=4000000}) [c3,K3,h4,hl,hc,h5,h6,hf]
set_option maxHeartbeats 2000000 in
theorem f3 (call : Oracle) (fuel : Nat) {α β : Type} (e : En α) (e' : En β) (bl bc z : Bool) (ls : List α) (cs : List β) (a : List (Int × Int)) (k0 r k : Int) (hl : ¬ 7 < (ls.length : Int)) (hc : ¬ 6 < (cs.length : Int)) (h4 : call 4 [] = some (.v (.bool true)))
    (hk0 : IntKind.i64.wrap k0 = k0) (hr : k0.tmod 12 = r) (hwr : IntKind.i64.wrap r = r) (hk : IntKind.i64.wrap (1 + r) = k)
    (h5 : call 5 [gsl e bl ls,gsl e' bc cs] = some (.nd .tu [sa z a,nI 0])) (w h st cnt : Int) (h6 : call 6 [nI ls.length,sa z a] = some (.nd .tu [nI w,nI 0]))
    (zc zr zf zo : Bool) (ch rd : List (Bool × List Int)) (fr : List Int) (op : List (Int × Int)) (h7 : call 7 [nI ls.length,sa z a] = some (.nd .tu [gsl eII zc ch,nI 0])) (h8 : call 8 [nI ls.length,sa z a] = some (.nd .tu [si zf fr,nI 0]))
    (h9 : call 9 [nI ls.length,sa z a] = some (.nd .tu [nI h,nI 0])) (h10 : call 10 [nI ls.length,sa z a] = some (.nd .tu [gsl eII zr rd,nI 0])) (h11 : call 11 [nI ls.length,sa z a] = some (.nd .tu [nI cnt,nI 0])) (h12 : call 12 [nI ls.length,sa z a] = some (.nd .tu [sa zo op,nI 0]))
    (h13 : call 13 [nI ls.length,sa z a,nI k] = some (.nd .tu [nI st,nI 0])) (h14 : call 14 [nI ls.length,sa z a,gsl eII zc ch] = some (.v (.bool true)))
    (p1 : (ch.length : Int) = w) (p2 : (fr.length : Int) = w) (p3 : (rd.length : Int) = h) (p4 : (cnt == 1) = decide (w ≤ 1)) (p5 : ((op.length : Int) == 0) = decide (w ≤ 1)) (p6 : h ≤ st) (hsk : IntKind.i64.wrap (st * k) = st * k) (p7 : (ls.length : Int) ≤ st * k) (p8 : k < w ∨ st = h) :
    callF call fuel c3 [gsl e bl ls,gsl e' bc cs,.v (.int .u8 k0)] = some (.v (.bool true)):=by
  rw [callF_tab call fuel c3 K3 _ (by exact Nat.le_of_ble_eq_true rfl) (by exact Nat.le_of_ble_eq_true rfl)]
  have q4 : (cnt = 1) = (w ≤ 1):=by
    have:=p4; rw [Bool.eq_iff_iff,beq_iff_eq,decide_eq_true_eq] at this; exact propext this
  have q5 : ((op.length : Int) = 0) = (w ≤ 1):=by
    have:=p5; rw [Bool.eq_iff_iff,beq_iff_eq,decide_eq_true_eq] at this; exact propext this
  simp (config:={maxSteps:=8000000}) [c3,K3,h4,hl,hc,h5,h6,h7,h8,h9,h10,h11,h12,hk0,hr,hwr,hk,h13,h14,p1,p2,p3,p4,p5,p6,hsk,p7,p8]
  intro _
  omega
end Go.Mx
namespace Go.Mx
set_option linter.unusedVariables false
set_option linter.unusedSimpArgs false
set_option linter.unusedSectionVars false
open Go
def TotA (R : Nat→Nat→Bool) (n : Nat) : Prop:=∀ u v,u < n→v < n→u ≠ v→R u v = true ∨ R v u = true
theorem wid_one (g : Nat→Nat) (n : Nat) : (antL g n).length ≤ 1 ↔ TotA (Rb g) n:=by
  obtain ⟨h1,h2,_⟩:=antL_best g n
  constructor
  · intro h u v hu hv huv
    by_cases h3 : Rb g u v = true
    · exact .inl h3
    · by_cases h4 : Rb g v u = true
      · exact .inr h4
      · exfalso
        have h3' : Rb g u v = false:=by simpa using h3
        have h4' : Rb g v u = false:=by simpa using h4
        rcases Nat.lt_or_gt_of_ne huv with hlt | hlt
        · have:=h2 [u,v] ⟨by simp [hlt],by simp [h3',h4'],by simp [hu,hv]⟩
          simp at this; omega
        · have:=h2 [v,u] ⟨by simp [hlt],by simp [h3',h4'],by simp [hu,hv]⟩
          simp at this; omega
  · intro h
    obtain ⟨q1,q2,q3⟩:=h1
    generalize antL g n = l at *
    match l,q1,q2,q3 with
    | [],_,_,_ => simp
    | [_],_,_,_ => simp
    | u :: v :: l,q1,q2,q3 =>
      exfalso
      rw [List.pairwise_cons] at q1 q2
      have hlt:=q1.1 v (by simp)
      have hin:=q2.1 v (by simp)
      rcases h u v (q3 u (by simp)) (q3 v (by simp)) (by omega) with h | h
      · rw [hin.1] at h; cases h
      · rw [hin.2] at h; cases h
theorem opR_nil (g : Nat→Nat→Bool) (i m : Nat) : opR g i m = [] ↔ ∀ t,t < m→g i (i + 1 + t) = false:=by
  unfold opR
  rw [List.map_eq_nil_iff,List.filter_eq_nil_iff]
  exact ⟨fun h t ht => by simpa using h t (List.mem_range.2 ht),fun h t ht => by simp [h t (List.mem_range.1 ht)]⟩
theorem opA_nil (g : Nat→Nat→Bool) (n : Nat) : ∀ i,opA g n i = [] ↔ ∀ x,x < i→∀ y,x < y→y < n→g x y = false
  | 0 => by simp [opA]
  | i + 1 => by
    simp only [opA,List.append_eq_nil_iff]
    rw [opA_nil g n i,opR_nil]
    constructor
    · rintro ⟨h1,h2⟩ x hx y hxy hy
      by_cases he : x = i
      · subst he
        have:=h2 (y - x - 1) (by omega)
        rwa [show x + 1 + (y - x - 1) = y by omega] at this
      · exact h1 x (by omega) y hxy hy
    · intro h
      exact ⟨fun x hx y hxy hy => h x (by omega) y hxy hy,fun t ht => h i (by omega) _ (by omega) (by omega)⟩
theorem open_nil (r : Nat→Nat→Bool) (n : Nat) : opA (fun x y => !r x y && !r y x) n n = [] ↔ TotA r n:=by
  rw [opA_nil]
  constructor
  · intro h u v hu hv huv
    rcases Nat.lt_or_gt_of_ne huv with hlt | hlt
    · have:=h u hu v hlt hv
      cases h1 : r u v with
      | true => exact .inl rfl
      | false => simp [h1] at this; exact .inr this
    · have:=h v hv u hlt hu
      cases h1 : r v u with
      | true => exact .inr rfl
      | false => simp [h1] at this; exact .inl this
  · intro h x hx y hxy hy
    rcases h x y hx hy (by omega) with h1 | h1 <;> simp [h1]
end Go.Mx
namespace Go.Mx.Q
set_option linter.unusedVariables false
set_option linter.unusedSimpArgs false
set_option linter.unusedSectionVars false
open Go Go.Mx
theorem z38 (k : Nat) (b : Bool) (n : Int) (a : List (Int × Int)) (hl : a.length ≤ 1000) : Go.Mx.S (k + 1) 38 [nV n,sa b a] = some (bV (validB n a)):=by
  rw [Go.Mx.S,semB_succ (mf:=c38) rfl]; exact f38 _ _ (by decide) b n a hl
theorem z48 (k : Nat) : Bit28 (Go.Mx.S (k + 1)):=by
  intro s t hs ht
  rw [Go.Mx.S,semB_succ (mf:=c48) rfl]; exact f48 _ _ s t hs ht
theorem z47 (k : Nat) (b : Bool) (n : Int) (a : List (Int × Int)) (hv : validB n a = true) (hl : a.length ≤ 1000) : Go.Mx.S (k + 1) 47 [nV n,sa b a] = some (su n.toNat (nextG (natA a))):=by
  obtain ⟨m,rfl,hm,ha,hp⟩:=valid_nat hv
  have:=f47 (Go.Mx.S k) 6000 (by decide) b m hm (natA a) (fun p h => ⟨(hp p h).1,(hp p h).2.1⟩) (by simpa [natA] using hl)
  rw [← ha] at this
  rw [Go.Mx.S,semB_succ (mf:=c47) rfl]; exact this
theorem z50 (k : Nat) : Reach31 (Go.Mx.S (k + 2)):=by
  intro b n a hv hl
  obtain ⟨m,rfl,hm,ha,hp⟩:=valid_nat hv
  have h29:=z47 k b m a hv hl
  have:=f50 (Go.Mx.S (k + 1)) 6000 (by decide) b m hm (natA a) (fun p h => ⟨(hp p h).1,(hp p h).2.1⟩) (z48 k) (by rw [← ha]; exact h29)
  rw [← ha] at this
  rw [Go.Mx.S,semB_succ (mf:=c50) rfl]; exact this
theorem z62 (k : Nat) (n : Nat) (g : Nat→Nat) (hn : n ≤ 24) (hg : ∀ i,g i < 2 ^ 32) : Go.Mx.S (k + 2) 62 [su n g] = some (bV (!(List.range n).any (fun i => (g i).testBit i))):=by
  rw [Go.Mx.S,semB_succ (mf:=c62) rfl]; exact f62 _ _ (by decide) n hn g hg (z48 k)
theorem z39 (k : Nat) (b : Bool) (n : Int) (a : List (Int × Int)) (hl : a.length ≤ 1000) : Go.Mx.S (k + 3) 39 [nV n,sa b a] = some (bV (acyB n a)):=by
  rw [Go.Mx.S,semB_succ (mf:=c39) rfl]; exact f39 _ _ b n a hl (z38 (k + 1) b n a hl) (z50 k) (fun m g hm hg => z62 k m g hm hg)
theorem z23 (k : Nat) (b : Bool) (n : Int) (a : List (Int × Int)) (hl : a.length ≤ 1000) : Go.Mx.S (k + 4) 23 [nV n,sa b a] = some (nV (chkI n a)):=by
  rw [Go.Mx.S,semB_succ (mf:=c23) rfl]; exact f23 _ _ b n a (z38 (k + 2) b n a hl) (z39 k b n a hl)
theorem z49 (k : Nat) {n : Nat} {a : NA} (h : GoodA n a) (c d : Bool) (w : List Int) (s v : Nat) (hs : s < pw n) (hv : v < n) : Go.Mx.S (k + 1) 49 [tbD n c d (zr n (needG a)) w,nV s,nV v] = some (bV (rdy a s v)):=by
  rw [Go.Mx.S,semB_succB (mf:=c49) rfl]; exact f49 _ _ n a c d w s v h.hn hv hs h.ha
theorem z24 (k : Nat) {n : Nat} {a : NA} (h : GoodA n a) (b : Bool) : Go.Mx.S (k + 2) 24 [nV n,sa b (arcsZ a)] = some (tbW n a):=by
  rw [Go.Mx.S,semB_succ (mf:=c24) rfl]; exact f24 _ _ (by decide) n h.hn a h.hl h.ha b (z49 k h false false)
theorem z11 (k : Nat) (b : Bool) (n : Int) (a : List (Int × Int)) (hl : a.length ≤ 1000) : Go.Mx.S (k + 5) 11 [nV n,sa b a] = some (ctD n.toNat (natA a) (chkI n a)):=by
  have h:=z23 k b n a hl
  rw [Go.Mx.S,semB_succ (mf:=c11) rfl]
  by_cases he : chkI n a = 0
  · obtain ⟨m,rfl,h1,h2,_⟩:=chk_ok he hl
    have:=f11 (Go.Mx.S (k + 4)) 6000 m b (natA a) (chkI m a) (by rw [← h1]; exact h) (fun _ => z24 (k + 2) h2 b)
    rw [← h1] at this
    exact this
  · rw [ctD_err _ _ he]; exact f14e _ _ n b a _ he h
end Go.Mx.Q
/-
  WholeAnvils: what chapters 23 and 31 call the same.
-/
namespace Go.Mx
set_option linter.unusedVariables false
set_option linter.unusedSimpArgs false
set_option linter.unusedSectionVars false
open Go
theorem br_valid : Q.validB = validB:=by
  funext n a
  unfold Q.validB validB
  rfl
theorem br_nat : Q.natA = natA:=rfl
theorem br_warr (g : Nat→Nat) : ∀ k,Q.warr g k = warr g k
  | 0 => rfl
  | k + 1 => by
    funext i
    show Q.stp (Q.warr g k) k i = stp (warr g k) k i
    rw [br_warr g k]
    rfl
theorem br_next : Q.nextG = nextG:=rfl
theorem br_rea (n : Int) (a : List (Int × Int)) : Q.rea n a = rea n a:=br_warr _ _
theorem br_acy (n : Int) (a : List (Int × Int)) : Q.acyB n a = acyB n a:=by
  unfold Q.acyB acyB
  rw [br_valid,br_rea]
end Go.Mx
namespace Go.Mx
set_option linter.unusedVariables false
set_option linter.unusedSimpArgs false
set_option linter.unusedSectionVars false
open Go
theorem mem_flat_len {c : List Nat} : ∀ {L : List (List Nat)},c ∈ L→c.length ≤ L.flatten.length
  | d :: L,h => by
    rw [List.flatten_cons,List.length_append]
    rcases List.mem_cons.1 h with rfl | h
    · omega
    · have:=mem_flat_len h
      omega
def TotR (n : Nat) (a : List (Int × Int)) : Prop:=∀ u v,u < n→v < n→u ≠ v→(rea n a u).testBit v = true ∨ (rea n a v).testBit u = true
theorem tot_wid (n : Nat) (a : List (Int × Int)) : (antL (ordG n a) n).length ≤ 1 ↔ TotR n a:=by
  rw [wid_one]
  have hb : ∀ u v,u < n→v < n→u ≠ v→Rb (ordG n a) u v = (rea n a u).testBit v:=by
    intro u v hu hv huv
    have:=oR_bit n a u v
    rw [Int.toNat_natCast] at this
    rw [show Rb (ordG n a) u v = oR n a u v from rfl,this]
    simp [pL,hu,hv,huv]
  constructor
  · intro h u v hu hv huv
    have:=h u v hu hv huv
    rwa [hb u v hu hv huv,hb v u hv hu (fun e => huv e.symm)] at this
  · intro h u v hu hv huv
    rw [hb u v hu hv huv,hb v u hv hu (fun e => huv e.symm)]
    exact h u v hu hv huv
theorem tot_open (n : Nat) (a : List (Int × Int)) (hv : validB n a = true) : opA (fun x y => !reachZ n a x y && !reachZ n a y x) n n = [] ↔ TotR n a:=by
  rw [open_nil (fun x y : Nat => reachZ n a x y)]
  have hb : ∀ u v : Nat,u < n→v < n→reachZ n a u v = (rea n a u).testBit v:=by
    intro u v hu hv'
    unfold reachZ
    have e1 : (0 : Int) ≤ (u : Int):=by omega
    have e2 : (u : Int) < (n : Int):=by omega
    have e3 : (0 : Int) ≤ (v : Int):=by omega
    have e4 : (v : Int) < (n : Int):=by omega
    simp [hv,e2,e4]
  constructor
  · intro h u v hu hv' huv
    have this : reachZ n a u v = true ∨ reachZ n a v u = true:=h u v hu hv' huv
    rwa [hb u v hu hv',hb v u hv' hu] at this
  · intro h u v hu hv' huv
    show reachZ n a u v = true ∨ reachZ n a v u = true
    rw [hb u v hu hv',hb v u hv' hu]
    exact h u v hu hv' huv
theorem tot_cnt (n : Nat) (a : List (Int × Int)) (hv : validB n a = true) (hac : acyB n a = true) : Q.wyG n (Q.natA a) 0 = 1 ↔ TotR n a:=by
  have hq : Q.validB n a = true:=by rw [br_valid]; exact hv
  obtain ⟨m,hm,_,_,hp⟩:=Q.valid_nat hq
  obtain rfl : n = m:=by omega
  have hac' : Q.Acy n (Q.natA a):=by
    have:=Q.acy_of (n:=n) (a:=a) (by rw [br_acy]; exact hac)
    exact this
  rw [Q.one_iff (fun p h => ⟨(hp p h).1,(hp p h).2.1⟩) hac']
  have hb : ∀ u v,Q.Rc n (Q.natA a) u v ↔ (rea n a u).testBit v = true:=by
    intro u v
    unfold Q.Rc
    rw [br_warr,br_next,br_nat]
    unfold rea
    rw [Int.toNat_natCast]
  simp only [hb]
  exact Iff.rfl
end Go.Mx
namespace Go.Mx
set_option linter.unusedVariables false
set_option linter.unusedSimpArgs false
set_option linter.unusedSectionVars false
open Go
theorem z25 (k : Nat) (b : Bool) (n : Int) (a : List (Int × Int)) (hl : a.length ≤ 1000) (c e : Int) (h : S (k + 5) 11 [nI n,sa b a] = some (.nd .tu [nI c,nI e])) : S (k + 6) 25 [nI n,sa b a] = some (.nd .tu [nI c,nI e]):=by
  rw [sA _ _ _ c25 rfl rfl]; exact f25 _ _ b n c e a h
theorem z12 (k n : Nat) (hn : n ≤ 20) (b : Bool) (a : List (Int × Int)) (hl : a.length ≤ 1000) (c : Int) (h : S (k + 5) 11 [nI n,sa b a] = some (.nd .tu [nI c,nI 0])) :
    S (k + 7) 12 [nI n,sa b a] = some (.nd .tu [sa (decide ((opA (fun x y => !reachZ n a x y && !reachZ n a y x) n n).length = 0)) (opA (fun x y => !reachZ n a x y && !reachZ n a y x) n n),nI 0]):=by
  rw [sA _ _ _ c12 rfl rfl]
  exact f12 _ _ (by decide) n hn b a c (fun x y : Nat => reachZ n a x y) (fun i j _ _ => s26 (k + 3) b n a hl i j) (z25 k b n a hl c 0 h)
theorem awake4 (k : Nat) (h6 : S (k + 5) 6 [nI 3,sa false [(0,2),(1,2)]] = some (.nd .tu [nI 2,nI 0])) (h13 : S (k + 5) 13 [nI 3,sa false [(0,2),(1,2)],nI 1] = some (.nd .tu [nI 3,nI 0])) : S (k + 6) 4 [] = some (.v (.bool true)):=by
  rw [sA _ _ _ c4 rfl rfl,callF_tab _ _ c4 K4 _ (by exact Nat.le_of_ble_eq_true rfl) (by exact Nat.le_of_ble_eq_true rfl)]
  change S (k + 5) 6 [nI 3,.nd (.sl false 2 2) [nI 0,nI 2,nI 1,nI 2]] = _ at h6
  change S (k + 5) 13 [nI 3,.nd (.sl false 2 2) [nI 0,nI 2,nI 1,nI 2],nI 1] = _ at h13
  simp (config:={maxSteps:=4000000}) [c4,K4,h6,h13]
theorem anv (j : Nat) {α β : Type} (e : En α) (e' : En β) (bl bc z : Bool) (ls : List α) (cs : List β) (a : List (Int × Int)) (hla : a.length ≤ 1000) (k0 er : Int) (hk0 : 0 ≤ k0∧k0 < 256) (her : er = 0 ∨ a = []) (h4 : S (j + 8) 4 [] = some (.v (.bool true)))
    (h5 : S (j + 8) 5 [gsl e bl ls,gsl e' bc cs] = some (.nd .tu [sa z a,nI er])) :
    S (j + 9) 3 [gsl e bl ls,gsl e' bc cs,.v (.int .u8 k0)] = some (.v (.bool true)):=by
  rw [sA _ _ _ c3 rfl rfl]
  by_cases hw : 7 < (ls.length : Int) ∨ 6 < (cs.length : Int)
  · exact f3w _ _ e e' bl bc ls cs k0 hw h4
  have hl : ¬ 7 < (ls.length : Int):=fun h => hw (.inl h)
  have hc : ¬ 6 < (cs.length : Int):=fun h => hw (.inr h)
  by_cases he : er = 0
  · subst he
    have h6:=s6 (j + 3) z ls.length a hla
    by_cases hck : ckE ls.length a = 0
    · rw [if_pos hck] at h6
      obtain ⟨n,hn,h12,hv,hac⟩:=ck_ok hck
      obtain rfl : n = ls.length:=by omega
      have hwn:=wid_n hck
      rw [Int.toNat_natCast] at hwn h6
      have hwn' : (antL (ordG ls.length a) ls.length).length ≤ ls.length:=by
        have:=hwn
        rwa [wid,Int.toNat_natCast] at this
      have h7:=s7 (j + 7) z ls.length a hla
      rw [show chD ls.length a = _ from if_pos hck] at h7
      have h8:=s8 (j + 3) z ls.length a hla
      rw [if_pos hck,Int.toNat_natCast] at h8
      have h9:=s9 (j + 2) z ls.length a hla
      rw [if_pos hck] at h9
      have h10:=s10 (j + 3) z ls.length a hla
      rw [if_pos hck,Int.toNat_natCast] at h10
      have hchk : Q.chkI ls.length a = 0:=by
        unfold Q.chkI
        rw [br_valid,br_acy,hv,hac]
        simp
        omega
      have h11:=Q.z11 (j + 3) z ls.length a hla
      rw [hchk,Q.ctD_ok,Int.toNat_natCast] at h11
      have h11':=Q.z11 (j + 1) z ls.length a hla
      rw [hchk,Q.ctD_ok,Int.toNat_natCast] at h11'
      have h12':=z12 (j + 1) ls.length (by omega) z a hla _ h11'
      have hmod : 0 ≤ k0 % 12∧k0 % 12 < 12:=by omega
      obtain ⟨k,hk⟩ : ∃ k : Nat,1 + k0 % 12 = (k : Int):=⟨(1 + k0 % 12).toNat,by omega⟩
      have h13:=s13 (j + 7) z ls.length a hla k
      rw [show stD ls.length a k = _ from if_pos hck,if_pos (by omega),Int.toNat_natCast,Int.toNat_natCast] at h13
      have hsl:=str_le (k:=k) hck (by omega)
      have hs1:=str_ge_h (k:=k) hck (by omega)
      have hs2:=str_n (k:=k) hck (by omega)
      have hs3:=fun hwk => str_wide (k:=k) hck (by omega) hwk
      rw [Int.toNat_natCast] at hsl hs2
      have hgood:=chs_good hck
      have hcl:=chs_len hck
      rw [Int.toNat_natCast] at hcl
      have hcs : ∀ c ∈ (chs ls.length a).map rowC,c.2.length ≤ 900:=by
        intro c hc'
        obtain ⟨y,hy,rfl⟩:=List.mem_map.1 hc'
        show (zl y).length ≤ 900
        rw [zl_len]
        have:=mem_flat_len hy
        rw [hgood.len] at this
        omega
      have h14:=s14 (j + 3) z ((chs ls.length a).length == 0) ls.length a hla ((chs ls.length a).map rowC) (by rw [List.length_map,hcl]; omega) hcs
      rw [if_pos hck,(isC_iff (dg_12 hck).1 _).2 ⟨chs ls.length a,by rw [List.map_map]; rfl,hgood⟩] at h14
      have t1:=tot_wid ls.length a
      have t2:=tot_open ls.length a hv
      have t3:=tot_cnt ls.length a hv hac
      have hp : str ls.length a k * k ≤ 7 * 12:=Nat.mul_le_mul (by omega) (by omega)
      have hstr : str ls.length a k = stA (bfN ls.length a) ls.length k:=by rw [str,Int.toNat_natCast]
      rw [hstr] at hsl hs1 hs2 hp
      refine f3 _ _ e e' bl bc z ls cs a k0 (k0 % 12) k hl hc h4 (wrap_eq (by unfold I64; omega)) (Int.tmod_eq_emod_of_nonneg hk0.1) (wrap_eq (by unfold I64; omega)) (by rw [hk]; exact wrap_eq (by unfold I64; omega)) h5 _ _ _ _ h6 _ _ _ _ _ _ _ _ h7 h8 h9 h10 h11 h12' h13 h14 ?_ ?_ ?_ ?_ ?_ ?_ ?_ ?_ ?_
      · rw [List.length_map,hcl]
      · rw [zl_len]
      · rw [rdR_len]; rfl
      · rw [Bool.eq_iff_iff,beq_iff_eq,decide_eq_true_eq]
        constructor
        · intro h
          have:=t1.2 (t3.1 (by omega))
          omega
        · intro h
          have:=t3.2 (t1.1 (by omega))
          omega
      · rw [Bool.eq_iff_iff,beq_iff_eq,decide_eq_true_eq]
        constructor
        · intro h
          have:=t1.2 (t2.1 (List.length_eq_zero_iff.1 (by omega)))
          omega
        · intro h
          have:=t2.2 (t1.1 (by omega))
          rw [this]; rfl
      · omega
      · rw [← Int.natCast_mul]; exact wrap_eq (by unfold I64; omega)
      · rw [← Int.natCast_mul]; omega
      · by_cases hlt : k < (antL (ordG ls.length a) ls.length).length
        · left; omega
        · right
          have:=hs3 (by rw [wid,Int.toNat_natCast]; omega)
          rw [hstr] at this
          omega
    · rw [if_neg hck] at h6
      exact f3x _ _ e e' bl bc z ls cs a k0 _ hck hl hc h4 h5 h6
  · rcases her with h | rfl
    · exact absurd h he
    · exact f3e _ _ e e' bl bc z ls cs k0 er he hl hc h4 h5
end Go.Mx
namespace Go.Mx
set_option linter.unusedVariables false
set_option linter.unusedSimpArgs false
set_option linter.unusedSectionVars false
open Go
theorem awk (k : Nat) : S (k + 6) 4 [] = some (.v (.bool true)):=by
  have hck : ckE 3 [(0,2),(1,2)] = 0:=by decide +kernel
  have hw : (antL (ordG 3 [(0,2),(1,2)]) (3 : Int).toNat).length = 2:=by decide +kernel
  have h6:=s6 k false 3 [(0,2),(1,2)] (by decide)
  rw [if_pos hck,hw] at h6
  have h13:=s13 (k + 4) false 3 [(0,2),(1,2)] (by decide) 1
  rw [show stD 3 [(0,2),(1,2)] 1 = _ from if_pos hck,if_pos (by omega)] at h13
  have hs : stA (bfN 3 [(0,2),(1,2)]) (3 : Int).toNat (1 : Int).toNat = 3:=str_one hck
  rw [hs] at h13
  exact awake4 k h6 h13
end Go.Mx
namespace Go.Mx
set_option linter.unusedVariables false
set_option linter.unusedSimpArgs false
set_option linter.unusedSectionVars false
open Go
abbrev tdArcs : TD:=.sl (.st [.int .i64,.int .i64])
theorem rd_pair {ds : List D} (h : (TD.st [.int .i64,.int .i64]).rd ds) : ∃ x : Int × Int,ds = [nI x.1,nI x.2]∧I64 x.1∧I64 x.2:=by
  obtain ⟨d1,d2,rfl,⟨x,hx,rfl⟩,d3,d4,rfl,⟨y,hy,rfl⟩,rfl⟩:=h
  exact ⟨(x,y),rfl,wf_i64 hx,wf_i64 hy⟩
theorem rd_arcs {d : D} (h : tdArcs.rd [d]) : ∃ b a,d = sa b a∧∀ p ∈ a,I64 p.1∧I64 p.2:=by
  obtain ⟨b,kss,h1,_,_,h2⟩:=h
  have : ∀ kss : List (List D),(∀ ks ∈ kss,(TD.st [.int .i64,.int .i64]).rd ks)→∃ a : List (Int × Int),kss.flatten = gk eA a∧a.length = kss.length∧∀ p ∈ a,I64 p.1∧I64 p.2:=by
    intro kss
    induction kss with
    | nil => intro _; exact ⟨[],rfl,rfl,by simp⟩
    | cons ks kss ih =>
      intro h
      obtain ⟨a,e1,e2,e3⟩:=ih fun k hk => h k (List.mem_cons_of_mem _ hk)
      obtain ⟨x,rfl,hx⟩:=rd_pair (h ks (List.mem_cons_self ..))
      refine ⟨x :: a,by rw [List.flatten_cons,e1]; rfl,by simp [e2],?_⟩
      intro p hp
      rcases List.mem_cons.1 hp with rfl | hp
      · exact hx
      · exact e3 p hp
  obtain ⟨a,e1,e2,e3⟩:=this kss h2
  refine ⟨b,a,?_,e3⟩
  rw [e1,← e2] at h1
  exact (List.cons.inj h1).1
end Go.Mx
namespace Go.Mx
set_option linter.unusedVariables false
set_option linter.unusedSimpArgs false
set_option linter.unusedSectionVars false
open Go
theorem rd_spc1 {ds : List D} (h : (TD.st [.int .i64,.int .i64,.int .i64,.int .i64,.int .i64,.int .i64,.int .i64]).rd ds) : ∃ x : Spc,ds = ePc.enc x∧I64 x.a∧I64 x.b∧I64 x.c∧I64 x.d∧I64 x.e∧I64 x.f∧I64 x.g:=by
  obtain ⟨_,_,rfl,⟨x1,h1,rfl⟩,_,_,rfl,⟨x2,h2,rfl⟩,_,_,rfl,⟨x3,h3,rfl⟩,_,_,rfl,⟨x4,h4,rfl⟩,_,_,rfl,⟨x5,h5,rfl⟩,_,_,rfl,⟨x6,h6,rfl⟩,_,_,rfl,⟨x7,h7,rfl⟩,rfl⟩:=h
  exact ⟨⟨x1,x2,x3,x4,x5,x6,x7⟩,rfl,wf_i64 h1,wf_i64 h2,wf_i64 h3,wf_i64 h4,wf_i64 h5,wf_i64 h6,wf_i64 h7⟩
theorem rd_spcs {d : D} (h : (TD.sl (.st [.int .i64,.int .i64,.int .i64,.int .i64,.int .i64,.int .i64,.int .i64])).rd [d]) : ∃ b l,d = gsl ePc b l∧∀ x ∈ l,I64 x.a∧I64 x.b∧I64 x.c∧I64 x.d∧I64 x.e∧I64 x.f∧I64 x.g:=by
  obtain ⟨b,kss,h1,_,_,h2⟩:=h
  have : ∀ kss : List (List D),(∀ ks ∈ kss,(TD.st [.int .i64,.int .i64,.int .i64,.int .i64,.int .i64,.int .i64,.int .i64]).rd ks)→∃ l : List Spc,kss.flatten = gk ePc l∧l.length = kss.length∧∀ x ∈ l,I64 x.a∧I64 x.b∧I64 x.c∧I64 x.d∧I64 x.e∧I64 x.f∧I64 x.g:=by
    intro kss
    induction kss with
    | nil => intro _; exact ⟨[],rfl,rfl,by simp⟩
    | cons ks kss ih =>
      intro h
      obtain ⟨a,e1,e2,e3⟩:=ih fun k hk => h k (List.mem_cons_of_mem _ hk)
      obtain ⟨x,rfl,hx⟩:=rd_spc1 (h ks (List.mem_cons_self ..))
      refine ⟨x :: a,by rw [List.flatten_cons,e1]; rfl,by simp [e2],?_⟩
      intro p hp
      rcases List.mem_cons.1 hp with rfl | hp
      · exact hx
      · exact e3 p hp
  obtain ⟨a,e1,e2,e3⟩:=this kss h2
  refine ⟨b,a,?_,e3⟩
  rw [e1,← e2] at h1
  exact (List.cons.inj h1).1
end Go.Mx
namespace Go.Mx
set_option linter.unusedVariables false
set_option linter.unusedSimpArgs false
set_option linter.unusedSectionVars false
open Go Go.RowKit
theorem wf_u8n {n : Int} (h : (Lit.int .u8 n).wf = true) : 0 ≤ n∧n < 256:=by
  have h1 : IntKind.u8.min ≤ n∧n ≤ IntKind.u8.max:=by simpa [Lit.wf] using h
  have e1 : IntKind.u8.min = 0:=by decide
  have e2 : IntKind.u8.max = 255:=by decide
  rw [e1,e2] at h1
  omega
theorem topA (b b' : Bool) (l : List Spc) (cs : List (Int × Int)) (k0 : Int) (hk0 : 0 ≤ k0∧k0 < 256) : S 20 3 [sP b l,sa b' cs,.v (.int .u8 k0)] = some (.v (.bool true)):=by
  by_cases hw : 7 < (l.length : Int) ∨ 6 < (cs.length : Int)
  · rw [sA _ _ _ c3 rfl rfl]
    exact f3w _ _ ePc eA b b' l cs k0 hw (awk 13)
  · have hl : l.length ≤ 7:=by omega
    have hc : cs.length ≤ 6:=by omega
    have hla:=bldA_len l cs hl hc
    refine anv 11 ePc eA b b' _ l cs (bldA l cs) (by omega) k0 (gatE l cs) hk0 ?_ (awk 13) (s5 18 b b' l cs hl hc)
    by_cases he : gatE l cs = 0
    · exact .inl he
    · exact .inr (by rw [bldA,if_neg he])
end Go.Mx
