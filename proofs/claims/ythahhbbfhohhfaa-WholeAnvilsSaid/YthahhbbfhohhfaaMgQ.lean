import Derived.Test.YthahhbbfhohhfaaMgP
import Derived.Test.YthahhbbfhohhfaaMgL
import Derived.Deep.QuietTactic
import Derived.BigQuiet
import Derived.StillTailTactics
/-
  Anvils: a vertex looks for a goal of its own (a closure that calls itself),by hand.
-/
namespace Go.Mx
set_option linter.unusedVariables false
set_option linter.unusedSimpArgs false
set_option linter.unusedSectionVars false
open Go Go.RowKit
def Rb (g : Nat→Nat) (i j : Nat) : Bool:=(g i).testBit j
theorem prec_calls {n : Nat} {g : Nat→Nat} {w : World} {ov : Value} (hn : n ≤ 12) (hg : ∀ i,g i < 2 ^ 64) (i j : Nat) (hi : i < n) (hj : j < n) (ho : ArgOK w ov (su6 n g)) :
    Calls Go.Proofs.Try.prog 21 #[ov,.int .i64 (i : Int),.int .i64 (j : Int)] w fun e w' => e = .returned (.bool (Rb g i j))∧Below w.heap.size w w' :=
  calls_sem tbl_ok (t36 0 n g hg i j hi (by omega)) (.cons ho (.cons (.sc w _) (.cons (.sc w _) (.nil w))))
def ldZ (l : Nat→Option Nat) (u : Nat) : Int:=match l u with | none => -1 | some x => (x : Int)
def ldA (l : Nat→Option Nat) (n : Nat) : Array Value:=((List.range n).map fun u => Value.int .i64 (ldZ l u)).toArray
theorem ldA_get (l : Nat→Option Nat) {n u : Nat} (h : u < n) : (ldA l n)[u]? = some (.int .i64 (ldZ l u)):=by simp [ldA,h]
theorem ldA_set (l : Nat→Option Nat) (n u v : Nat) : (ldA l n).setIfInBounds u (.int .i64 (v : Int)) = ldA (ldB l u v) n:=by
  apply Array.ext
  · simp [ldA]
  · intro i h1 h2
    have hi : i < n:=by simpa [ldA] using h2
    have e : (ldA (ldB l u v) n)[i] = .int .i64 (ldZ (ldB l u v) i):=by simp [ldA]
    rw [e,Array.getElem_setIfInBounds (by simpa [ldA] using hi)]
    split
    · rename_i hu
      subst hu
      simp [ldZ,ldB]
    · rename_i hu
      have : ldZ (ldB l u v) i = ldZ l i:=by simp [ldZ,ldB,Ne.symm hu]
      rw [this]
      simp [ldA]
structure FW (bN bO bL bF bS n : Nat) (g : Nat→Nat) (l : Nat→Option Nat) (w : World) : Prop where
  num : w.heap[bN]? = some (.cells #[.int .i64 (n : Int)] 3 (0,0))
  ord : ∃ t,w.heap[bO]? = some (.cells #[val t] 51 (0,0))∧er t = su6 n g∧Mem w false t∧∀ c,cnt c t ≠ 0→c < bO
  var : w.heap[bL]? = some (.cells #[.slice (some ⟨bS,0,none⟩) n n] 34 (0,0))
  row : w.heap[bS]? = some (.cells (ldA l n) 3 (0,0))
  self : w.heap[bF]? = some (.cells #[.func (.func 20) #[] #[.pointer (some ⟨bN,0,none⟩),.pointer (some ⟨bO,0,none⟩),.pointer (some ⟨bL,0,none⟩),.pointer (some ⟨bF,0,none⟩)]] 56 (0,0))
  low : ∀ u x,l u = some x→x < n
structure FO (bN bO bL bF bS : Nat) : Prop where
  a : bN < bO
  b : bO < bS
  c : bS < bL
  d : bL < bF
structure G2 (w w' : World) (r s : Nat) : Prop where
  os : w'.os = w.os
  tape : w'.tape = w.tape
  output : w'.output = w.output
  size : w.heap.size ≤ w'.heap.size
  block : ∀ c,c < w.heap.size→c ≠ r→c ≠ s→w'.heap[c]? = w.heap[c]?
theorem G2.refl (w : World) (r s : Nat) : G2 w w r s:=⟨rfl,rfl,rfl,Nat.le_refl _,fun _ _ _ _ => rfl⟩
theorem G2.trans {a b c : World} {r s : Nat} (h : G2 a b r s) (k : G2 b c r s) : G2 a c r s :=
  ⟨k.os.trans h.os,k.tape.trans h.tape,k.output.trans h.output,Nat.le_trans h.size k.size,fun i hi h1 h2 => (k.block i (Nat.lt_of_lt_of_le hi h.size) h1 h2).trans (h.block i hi h1 h2)⟩
theorem G2.below {a b : World} {r s : Nat} (h : Below a.heap.size a b) : G2 a b r s:=⟨h.os,h.tape,h.output,h.size,fun i hi _ _ => h.block i hi⟩
theorem G2.put {a b : World} {r s : Nat} (h : Put a b s) : G2 a b r s:=⟨h.os,h.tape,h.output,Nat.le_of_eq h.size.symm,fun i _ _ h2 => h.block i h2⟩
theorem G2.store {a : World} {r s u : Nat} (v : Value) : G2 a (a.setCell ⟨r,u,none⟩ v) r s:=⟨rfl,rfl,rfl,by simp [World.setCell],fun i _ h1 _ => Below.heap_setCell _ _ _ _ h1⟩
section
variable {bN bO bL bF bS n : Nat} {g : Nat→Nat} {l : Nat→Option Nat} {w w' : World}
theorem FW.lt (h : FW bN bO bL bF bS n g l w) : bF < w.heap.size:=lt_of_block h.self
theorem FW.below (h : FW bN bO bL bF bS n g l w) (o : FO bN bO bL bF bS) (hb : ∀ c,c ≤ bF→w'.heap[c]? = w.heap[c]?) : FW bN bO bL bF bS n g l w':=by
  have o1:=o.a; have o2:=o.b; have o3:=o.c; have o4:=o.d
  obtain ⟨t,h1,h2,h3,h4⟩:=h.ord
  exact ⟨by rw [hb _ (by omega)]; exact h.num,⟨t,by rw [hb _ (by omega)]; exact h1,h2,h3.same fun c hc => hb c (by have:=h4 c hc; omega),h4⟩,by rw [hb _ (by omega)]; exact h.var,by rw [hb _ (by omega)]; exact h.row,by rw [hb _ (by omega)]; exact h.self,h.low⟩
theorem FW.store (h : FW bN bO bL bF bS n g l w) (o : FO bN bO bL bF bS) (u v : Nat) (hu : u < n) (hv : v < n) : FW bN bO bL bF bS n g (ldB l u v) (w.setCell ⟨bS,u,none⟩ (.int .i64 (v : Int))):=by
  have o1:=o.a; have o2:=o.b; have o3:=o.c; have o4:=o.d
  have hb : ∀ c,c ≠ bS→(w.setCell ⟨bS,u,none⟩ (.int .i64 (v : Int))).heap[c]? = w.heap[c]?:=fun c hc => Below.heap_setCell _ _ _ _ hc
  obtain ⟨t,h1,h2,h3,h4⟩:=h.ord
  refine ⟨by rw [hb _ (by omega)]; exact h.num,⟨t,by rw [hb _ (by omega)]; exact h1,h2,h3.same fun c hc => hb c (by have:=h4 c hc; omega),h4⟩,by rw [hb _ (by omega)]; exact h.var,?_,by rw [hb _ (by omega)]; exact h.self,?_⟩
  · have hrow:=h.row
    have hlt : bS < w.heap.size:=lt_of_block hrow
    have h' : w.heap[bS] = .cells (ldA l n) 3 (0,0):=by rw [Array.getElem?_eq_getElem hlt] at hrow; exact Option.some.inj hrow
    show (w.heap.modify bS _)[bS]? = _
    rw [Array.getElem?_eq_getElem (by simpa using hlt),Array.getElem_modify_self,h']
    simp only [ldA_set]
    rfl
  · intro x y hxy
    unfold ldB at hxy
    split at hxy
    · cases hxy; exact hv
    · exact h.low x y hxy
end
theorem FW.cell {bN bO bL bF bS n : Nat} {g : Nat→Nat} {l : Nat→Option Nat} {w : World} (h : FW bN bO bL bF bS n g l w) {u : Nat} (hu : u < n) : w.cell? ⟨bS,u,none⟩ = some (.int .i64 (ldZ l u)):=by
  have h1:=h.row
  have h2:=ldA_get l hu
  simp only [World.cell?,h1]
  simpa using h2
theorem FW.free {bN bO bL bF bS n : Nat} {g : Nat→Nat} {l : Nat→Option Nat} {w : World} (h : FW bN bO bL bF bS n g l w) (u : Nat) : w.frozen? ⟨bS,u,none⟩ = false:=by
  have h1:=h.row
  simp [World.frozen?,h1]
def TrOK (S : List Int) (t : Nat→Bool) : Prop:=∀ u : Nat,decide ((u : Int) ∈ S) = t u
theorem TrOK.add {S : List Int} {t : Nat→Bool} (h : TrOK S t) {u : Nat} (hu : t u = false) : TrOK (if (u : Int) ∈ S then S else S ++ [(u : Int)]) (trB t u):=by
  have hn : (u : Int) ∉ S:=by simpa [hu] using h u
  rw [if_neg hn]
  intro x
  have:=h x
  unfold trB
  by_cases hx : x = u
  · subst hx; simp
  · have : (x : Int) ≠ (u : Int):=by omega
    rw [← h x]
    simp [hx,this]
section
variable {P : Program} {ops : Array Oper} {rest : List Oper} {o : Oper} {a : Act} {w : World} {Q : Exit→Act→World→Prop}
theorem wpList_lookup_set (hw : Region.wanted o (yielded ops a.tmps) = true) (m x : Operand) (t kt et : TypeId) (hop : o.op = .lookup t m x false) (td k : IntKind) (ht : P.underlying t = some (.map kt et)) (hk : P.underlying kt = some (.int td)) (hz : (zeroValue et).run P w = .ok (.bool false) w)
    (r : Nat) (S : List Int) (hm : a.eval m = .map (some r)) (hS : MapSet k w r S) (y : Int) (hx : a.eval x = .int k y) (b : Bool) (hb : decide (y ∈ S) = b) (h : wpList P ops Q rest (a.put o.dst (.bool b)) w) : wpList P ops Q (o :: rest) a w:=by
  refine BigFrame.wpList_want hw fun K hK => ?_
  have:=run_lookup_set ht hk hz hS y
  rw [hb] at this
  unfold Oper.wp
  simp [execOp,hop,hm,hx,this,Result.andThen]
  exact hK _ _ h
theorem wpList_update_set (hg : o.guard = none) (hd : o.dst = none) (m x v : Operand) (t kt et : TypeId) (hop : o.op = .mapUpdate t m x v) (td k : IntKind) (ht : P.underlying t = some (.map kt et)) (hk : P.underlying kt = some (.int td))
    (r : Nat) (S : List Int) (hm : a.eval m = .map (some r)) (hS : MapSet k w r S) (y : Int) (hx : a.eval x = .int k y) (hv : a.eval v = .bool true)
    (h : ∀ w',MapSet k w' r (if y ∈ S then S else S ++ [y])→Put w w' r→wpList P ops Q rest a w') : wpList P ops Q (o :: rest) a w:=by
  refine wpList_plain hg fun K hK => ?_
  obtain ⟨w',h1,h2,h3⟩:=run_update_set ht hk hS y
  unfold Oper.wp
  simp [execOp,hop,hm,hx,hv,h1,Result.andThen]
  have e : a.put o.dst undef = a:=by rw [hd]; rfl
  refine hK _ _ ?_
  rw [e]
  exact h w' h2 h3
end
theorem zero4 (w : World) : (zeroValue 4).run Go.Proofs.Try.prog w = .ok (.bool false) w:=by kernel_rfl
theorem MapSet.same {k : IntKind} {w w' : World} {r : Nat} {S : List Int} (h : MapSet k w r S) (hb : w'.heap[r]? = w.heap[r]?) : MapSet k w' r S:=by
  obtain ⟨es,c,h1,h2⟩:=h
  exact ⟨es,c,by rw [hb]; exact h1,h2⟩
theorem MapSet.lt {k : IntKind} {w : World} {r : Nat} {S : List Int} (h : MapSet k w r S) : r < w.heap.size:=by
  obtain ⟨es,c,h1,h2⟩:=h
  exact lt_of_block h1
theorem ent50 : Enters Go.Proofs.Try.prog 20:=⟨_,_,Go.Proofs.Try.func20,by kernel_rfl,rfl⟩
def FPost (bN bO bL bF bS bM n : Nat) (g : Nat→Nat) (w : World) (r : Bool × FS) (e : Ending) (w' : World) : Prop :=
  e = .returned (.bool r.1)∧FW bN bO bL bF bS n g r.2.ld w'∧(∃ S,MapSet .i64 w' bM S∧TrOK S r.2.tr)∧G2 w w' bS bM
set_option maxHeartbeats 1000000 in
theorem follow_any (bN bO bL bF bS bM n : Nat) (g : Nat→Nat) (hn : n ≤ 12) (hg : ∀ i,g i < 2 ^ 64) (o : FO bN bO bL bF bS) (hM : bF < bM) (f : Nat) : ∀ (v : Nat) (s : FS) (w : World),untr n s.tr < f→v < n→FW bN bO bL bF bS n g s.ld w→(∃ S,MapSet .i64 w bM S∧TrOK S s.tr) →
    Calls Go.Proofs.Try.prog 20 #[.int .i64 (v : Int),.map (some bM),.pointer (some ⟨bN,0,none⟩),.pointer (some ⟨bO,0,none⟩),.pointer (some ⟨bL,0,none⟩),.pointer (some ⟨bF,0,none⟩)] w (FPost bN bO bL bF bS bM n g w (fol (Rb g) n f v s)):=by
  induction f with
  | zero => intro v s w h; omega
  | succ f ih =>
    intro v s w huf hv hW hT
    have HI:=Lib.hid ih
    clear ih
    have HW:=Lib.hid hW
    have HT:=Lib.hid hT
    have cN:=cell_of_one hW.num
    clear hW hT
    go_enter Go.Proofs.Try.func20,Go.Proofs.Try.ntmps20
    go_wp2_with fail
    go_loopg [11] n (fun k p wr => ∃ (u : Nat) (s' : FS),u + k = n∧p = .int .i64 (u : Int)∧untr n s'.tr ≤ f∧FW bN bO bL bF bS n g s'.ld wr∧(∃ S,MapSet .i64 wr bM S∧TrOK S s'.tr)∧G2 w wr bS bM∧folIn (fol (Rb g) n f) (Rb g) n v k s' = fol (Rb g) n (f + 1) v s)
    case atStart => exact ⟨0,s,by omega,rfl,by omega,HW.out,HT.out,.refl _ _ _,rfl⟩
    case round =>
      obtain ⟨u,s',hu,rfl,hun,hWr,hTr,hG2,hF⟩:=hrel
      have HF:=Lib.hid hF
      have HWr:=Lib.hid hWr
      have HTr:=Lib.hid hTr
      have HO : Hid (∃ t,wr.cell? ⟨bO,0,none⟩ = some (val t)∧∃ a c,val t = .slice a n c∧ArgOK wr (.slice a n c) (su6 n g)):=by
        obtain ⟨t,h1,h2,h3,h4⟩:=hWr.ord
        obtain ⟨a,c,e1,_⟩:=int_tree h2 h3
        rw [zr_len] at e1
        exact ⟨t,cell_of_one h1,a,c,e1,t,h2,e1,h3,fun c hc => by have:=h4 c hc; have:=hWr.lt; have:=o.b; have:=o.c; have:=o.d; omega⟩
      obtain ⟨tO,cO,oa,oc,e1,hO⟩:=HO.out
      rw [e1] at cO
      clear e1 hF hWr hTr HO
      by_cases hlt : u < n
      · obtain ⟨k,rfl⟩ : ∃ k,gk = k + 1:=⟨gk - 1,by omega⟩
        have hnu : n - (k + 1) = u:=by omega
        have HF' : Hid ((if !Rb g v u || s'.tr u then folIn (fol (Rb g) n f) (Rb g) n v k s'
            else match s'.ld u with
              | none => (true,⟨ldB s'.ld u v,trB s'.tr u⟩)
              | some x => match fol (Rb g) n f x ⟨s'.ld,trB s'.tr u⟩ with
                | (true,s2) => (true,⟨ldB s2.ld u v,s2.tr⟩)
                | (false,s2) => folIn (fol (Rb g) n f) (Rb g) n v k s2) = fol (Rb g) n (f + 1) v s):=by
          have:=HF.out
          rw [folIn,hnu] at this
          exact this
        clear HF hnu
        have hw:=wrap_succ (i:=u) (by omega)
        go_wp2_with fail
        refine (prec_calls hn hg v u hv hlt hO).mono ?_
        rintro e w1 ⟨rfl,hbel⟩
        have hW1:=HWr.out.below o (w':=w1) fun c hc => hbel.block c (by have:=HWr.out.lt; omega)
        have HW1:=Lib.hid hW1
        have hT1 : ∃ S,MapSet .i64 w1 bM S∧TrOK S s'.tr:=by
          obtain ⟨S,h1,h2⟩:=HTr.out
          exact ⟨S,h1.same (hbel.block _ h1.lt),h2⟩
        have hg1 : G2 w w1 bS bM:=hG2.trans (.below hbel)
        obtain ⟨S,hS,hSt⟩:=hT1
        have HS:=Lib.hid hS
        have HSt:=Lib.hid hSt
        have HB:=Lib.hid hbel
        clear hW1 hS hSt cO hO HWr HTr hbel hG2
        cases hR : Rb g v u with
        | false =>
          have HF1 : Hid (folIn (fol (Rb g) n f) (Rb g) n v k s' = fol (Rb g) n (f + 1) v s):=by
            have:=HF'.out
            rw [hR] at this
            simpa [Hid] using this
          clear HF' hR
          go_wp2_with fail
          go_roundg k
          case measure => omega
          case rel => exact ⟨u + 1,s',by omega,by go_num,hun,HW1.out,⟨S,HS.out,HSt.out⟩,hg1,HF1.out⟩
        | true =>
          cases ht : s'.tr u with
          | true =>
            have HF1 : Hid (folIn (fol (Rb g) n f) (Rb g) n v k s' = fol (Rb g) n (f + 1) v s):=by
              have:=HF'.out
              rw [hR,ht] at this
              simpa [Hid] using this
            have HL : Hid (decide ((u : Int) ∈ S) = true):=by rw [Hid,HSt.out u,ht]
            clear HF' hR ht
            go_wp2_with (first | (at_lookup; refine wpList_lookup_set (by simp [Region.wanted,yielded]) (.tmp 20) (.tmp 21) 57 3 4 rfl .i64 .i64 Go.Proofs.Try.underlying57 Go.Proofs.Try.underlying3 (zero4 _) bM S rfl HS.out (u : Int) rfl true HL.out ?_) | fail)
            go_roundg k
            case measure => omega
            case rel => exact ⟨u + 1,s',by omega,by go_num,hun,HW1.out,⟨S,HS.out,HSt.out⟩,hg1,HF1.out⟩
          | false =>
            have hl2 : untr n (trB s'.tr u) < untr n s'.tr:=untr_lt hlt ht
            have HL : Hid (decide ((u : Int) ∈ S) = false):=by rw [Hid,HSt.out u,ht]
            go_wp2_with (first
              | (at_lookup; refine wpList_lookup_set (by simp [Region.wanted,yielded]) (.tmp 20) (.tmp 21) 57 3 4 rfl .i64 .i64 Go.Proofs.Try.underlying57 Go.Proofs.Try.underlying3 (zero4 _) bM S rfl HS.out (u : Int) rfl false HL.out ?_)
              | (at_mapUpdate; refine wpList_update_set rfl rfl (.tmp 24) (.tmp 25) (.const (.bool true)) 57 3 4 rfl .i64 .i64 Go.Proofs.Try.underlying57 Go.Proofs.Try.underlying3 bM S rfl HS.out (u : Int) rfl rfl ?_; intro w2 hS2 hput)
              | fail)
            have hW2:=HW1.out.below o (w':=w2) fun c hc => hput.block c (by omega)
            have hg2 : G2 w w2 bS bM:=hg1.trans (.put hput)
            have hT2 : ∃ S,MapSet .i64 w2 bM S∧TrOK S (trB s'.tr u):=⟨_,hS2,HSt.out.add ht⟩
            have cL2:=cell_of_one hW2.var
            have cF2:=cell_of_one hW2.self
            have cS2 : w2.cell? ⟨bS,u,none⟩ = some (.int .i64 (ldZ s'.ld u)):=by
              have h1:=hW2.row
              have h2:=ldA_get s'.ld hlt
              simp only [World.cell?,h1]
              simpa using h2
            have fS2 : w2.frozen? ⟨bS,u,none⟩ = false:=by
              have h1:=hW2.row
              simp [World.frozen?,h1]
            have HW2:=Lib.hid hW2
            have HT2:=Lib.hid hT2
            clear hW2 hT2 hS2 hput HL
            cases hl : s'.ld u with
            | none =>
              have HF1 : Hid ((true,(⟨ldB s'.ld u v,trB s'.tr u⟩ : FS)) = fol (Rb g) n (f + 1) v s):=by
                have:=HF'.out
                rw [hR,ht,hl] at this
                simpa [Hid] using this
              rw [show ldZ s'.ld u = -1 by rw [ldZ,hl]] at cS2
              clear HF' hR ht hl
              have hd : decide ((-1 : Int) < 0) = true:=rfl
              go_quiet (fail)
              go_wp2_with fail
              have HQ : Hid (FW bN bO bL bF bS n g (ldB s'.ld u v) ((w2.drewN nq).setCell ⟨bS,u,none⟩ (.int .i64 (v : Int)))∧(∃ S,MapSet .i64 ((w2.drewN nq).setCell ⟨bS,u,none⟩ (.int .i64 (v : Int))) bM S∧TrOK S (trB s'.tr u))∧G2 w ((w2.drewN nq).setCell ⟨bS,u,none⟩ (.int .i64 (v : Int))) bS bM):=by
                have q1 : FW bN bO bL bF bS n g s'.ld (w2.drewN nq):=HW2.out.below o fun c _ => rfl
                obtain ⟨S',q2,q3⟩:=HT2.out
                refine ⟨q1.store o u v hlt hv,⟨S',q2.same (Below.heap_setCell _ _ _ _ (by have:=o.c; have:=o.d; show bM ≠ bS; omega)),q3⟩,hg2.trans (G2.trans (b:=w2.drewN nq) ⟨rfl,rfl,rfl,Nat.le_refl _,fun _ _ _ _ => rfl⟩ (.store _))⟩
              go_ret
              rw [← HF1.out]
              exact ⟨rfl,HQ.out.1,HQ.out.2.1,HQ.out.2.2⟩
            | some x =>
              have hx:=HW2.out.low u x hl
              rw [show ldZ s'.ld u = (x : Int) by rw [ldZ,hl]] at cS2
              cases hr : fol (Rb g) n f x ⟨s'.ld,trB s'.tr u⟩ with
              | mk b s2 =>
              have HC : Hid (∀ wq,G2 w2 wq bS bM→FW bN bO bL bF bS n g s'.ld wq→(∃ S,MapSet .i64 wq bM S∧TrOK S (trB s'.tr u))→Calls Go.Proofs.Try.prog 20 #[.int .i64 (x : Int),.map (some bM),.pointer (some ⟨bN,0,none⟩),.pointer (some ⟨bO,0,none⟩),.pointer (some ⟨bL,0,none⟩),.pointer (some ⟨bF,0,none⟩)] wq
                  fun e w' => e = .returned (.bool b)∧FW bN bO bL bF bS n g s2.ld w'∧(∃ S,MapSet .i64 w' bM S∧TrOK S s2.tr)∧G2 w w' bS bM):=by
                intro wq q1 q2 q3
                have:=HI.out x ⟨s'.ld,trB s'.tr u⟩ wq (by show untr n (trB s'.tr u) < f; omega) hx q2 q3
                rw [hr] at this
                refine this.mono ?_
                rintro e w' ⟨h1,h2,h3,h4⟩
                exact ⟨h1,h2,h3,(hg2.trans q1).trans h4⟩
              have hd : decide ((x : Int) < 0) = false:=by simp
              have HD : Hid (G2 w2 w2.drew bS bM∧FW bN bO bL bF bS n g s'.ld w2.drew∧∃ S,MapSet .i64 w2.drew bM S∧TrOK S (trB s'.tr u)):=by
                obtain ⟨S',q1,q2⟩:=HT2.out
                exact ⟨.below (.drew (.refl _ _)),HW2.out.below o fun c _ => rfl,S',q1.same rfl,q2⟩
              have htr : ∀ u',s'.tr u' = true→s2.tr u' = true→True:=fun _ _ _ => trivial
              have hun2 : b = false→untr n s2.tr ≤ f:=fun hb => by
                subst hb
                obtain ⟨A,_,a2⟩:=fol_fail (Rb g) n f x _ s2 (by show untr n (trB s'.tr u) < f; omega) hr
                exact Nat.le_trans (untr_mono fun y hy => a2.mono y (by simp [trB,hy])) hun
              have HF2 : Hid ((match (b,s2) with
                | (true,s2) => (true,(⟨ldB s2.ld u v,s2.tr⟩ : FS))
                | (false,s2) => folIn (fol (Rb g) n f) (Rb g) n v k s2) = fol (Rb g) n (f + 1) v s):=by
                have:=HF'.out
                rw [hR,ht,hl] at this
                simp only [Bool.not_true,Bool.or_false,Bool.false_eq_true,if_false,hr] at this
                exact this
              clear htr HF' hR ht hl hr
              have hlM : bM ≠ bS:=by have:=o.c; have:=o.d; omega
              cases b with
              | true =>
                clear hun2
                go_region_law (refine step_calls (by simp [Region.wanted,yielded]) (.tmp 32) #[.tmp 36,.tmp 37] #[3,57] rfl 20 #[.pointer (some ⟨bN,0,none⟩),.pointer (some ⟨bO,0,none⟩),.pointer (some ⟨bL,0,none⟩),.pointer (some ⟨bF,0,none⟩)] #[.int .i64 (x : Int),.map (some bM),.pointer (some ⟨bN,0,none⟩),.pointer (some ⟨bO,0,none⟩),.pointer (some ⟨bL,0,none⟩),.pointer (some ⟨bF,0,none⟩)] rfl rfl ent50 (HC.out w2.drew HD.out.1 HD.out.2.1 HD.out.2.2) ?_; rintro e w3 ⟨rfl,h1,h2,h3⟩; have cL3:=cell_of_one h1.var; have cS3:=h1.cell hlt; have fS3:=h1.free u; have H1:=Lib.hid h1; have H2:=Lib.hid h2; have H3:=Lib.hid h3; clear h1 h2 h3; refine ⟨_,rfl,?_⟩)
                all_goals
                  go_wp2_with fail
                  have HQ : Hid (FW bN bO bL bF bS n g (ldB s2.ld u v) (w3.setCell ⟨bS,u,none⟩ (.int .i64 (v : Int)))∧(∃ S,MapSet .i64 (w3.setCell ⟨bS,u,none⟩ (.int .i64 (v : Int))) bM S∧TrOK S s2.tr)∧G2 w (w3.setCell ⟨bS,u,none⟩ (.int .i64 (v : Int))) bS bM):=by
                    obtain ⟨S',q2,q3⟩:=H2.out
                    exact ⟨H1.out.store o u v hlt hv,⟨S',q2.same (Below.heap_setCell _ _ _ _ hlM),q3⟩,H3.out.trans (.store _)⟩
                  go_ret
                  rw [← HF2.out]
                  exact ⟨rfl,HQ.out.1,HQ.out.2.1,HQ.out.2.2⟩
              | false =>
                have hun3:=hun2 rfl
                clear hun2
                go_region_law (refine step_calls (by simp [Region.wanted,yielded]) (.tmp 32) #[.tmp 36,.tmp 37] #[3,57] rfl 20 #[.pointer (some ⟨bN,0,none⟩),.pointer (some ⟨bO,0,none⟩),.pointer (some ⟨bL,0,none⟩),.pointer (some ⟨bF,0,none⟩)] #[.int .i64 (x : Int),.map (some bM),.pointer (some ⟨bN,0,none⟩),.pointer (some ⟨bO,0,none⟩),.pointer (some ⟨bL,0,none⟩),.pointer (some ⟨bF,0,none⟩)] rfl rfl ent50 (HC.out w2.drew HD.out.1 HD.out.2.1 HD.out.2.2) ?_; rintro e w3 ⟨rfl,h1,h2,h3⟩; have H1:=Lib.hid h1; have H2:=Lib.hid h2; have H3:=Lib.hid h3; clear h1 h2 h3; refine ⟨_,rfl,?_⟩)
                all_goals
                  go_wp2_with fail
                  go_roundg k
                  case measure => omega
                  case rel => exact ⟨u + 1,s2,by omega,by go_num,hun3,H1.out,H2.out,H3.out,HF2.out⟩
      · obtain rfl : gk = 0:=by omega
        go_wp2_with fail
        go_ret
        have:=HF.out
        rw [folIn] at this
        rw [← this]
        exact ⟨rfl,HWr.out,HTr.out,hG2⟩
end Go.Mx
