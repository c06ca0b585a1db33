import Derived.Test.YthahhbbfhohhfaaMgM
import Derived.WalkKit
import Derived.Deep.LoopGhost
import Derived.Deep.RegionLawGrows
import Derived.OneCell
import Derived.Deep.DeepCutAuto
import Derived.Deep.CutBlock
import Derived.Lib.Hide
import Derived.Deep.AppendLies
import Derived.WalkSpells
/-
  Anvils: the antichains that grow (a closure that calls itself),by hand.
-/
namespace Go.Mx
set_option linter.unusedVariables false
set_option linter.unusedSimpArgs false
set_option linter.unusedSectionVars false
open Go Go.RowKit
noncomputable abbrev S0 (n : Nat) : Oracle:=sem tbl 6000 n
theorem t36 (k n : Nat) (g : Nat→Nat) (hg : ∀ i,g i < 2 ^ 64) (i j : Nat) (hi : i < n) (hj : j < 64) : S0 (k + 1) 21 [su6 n g,.v (.int .i64 (i : Int)),.v (.int .i64 (j : Int))] = some (.v (.bool ((g i).testBit j))):=by
  rw [S0,sem_succ (mf:=c21) rfl]; exact f21 _ _ n g hg i j hi hj
theorem t60 (k n : Nat) (hn : n ≤ 12) (g : Nat→Nat) (hg : ∀ i,g i < 2 ^ 64) (u v : Nat) (hu : u < n) (hv : v < n) : S0 (k + 2) 44 [.v (.int .i64 (u : Int)),boO n g,boI v] = some (.v (.bool (cmpB g u v))):=by
  rw [S0,sem_succ (mf:=c44) rfl]; exact f44 _ _ n g u v (t36 k n g hg u v hu (by omega)) (t36 k n g hg v u hv (by omega))
theorem t59 (k n : Nat) (hn : n ≤ 12) (g : Nat→Nat) (hg : ∀ i,g i < 2 ^ 64) (b : Bool) (S : List Nat) (hS : ∀ u ∈ S,u < n) (hl : S.length ≤ 900) (v : Nat) (hv : v < n) : S0 (k + 4) 43 [si b (zl S),clo60 n g v] = some (.v (.bool (S.any fun u => cmpB g u v))):=by
  rw [S0,sem_succ (mf:=c43) rfl]
  refine f43 _ _ b n g S v ?_
  rw [sem_succ (mf:=c64) rfl]
  exact f64 _ _ (by decide) b n g S hl v fun u hu => t60 k n hn g hg u v (hS u hu) hv
theorem t58 (k : Nat) (l : List Int) (hl : l.length ≤ 900) : S0 (k + 1) 42 [si false l] = some (si false l):=by
  rw [S0,sem_succ (mf:=c42) rfl]; exact f42 _ _ l hl
theorem ArgOK.box {w : World} {u : Value} {d : D} {b : Nat} (hc : w.cell? ⟨b,0,none⟩ = some u) (h : ArgOK w u d) : ArgOK w (.pointer (some ⟨b,0,none⟩)) (.nd (.bx false) [d]):=by
  obtain ⟨t,h1,h2,h3,h4⟩:=h
  refine ⟨.nd (.bx ⟨some ⟨b,0,none⟩,0,undef⟩) [t],by simp [er,erL,h1,K.er],rfl,⟨⟨_,rfl,?_,fun h => by cases h⟩,h3,trivial⟩,?_⟩
  · intro i v hv
    simp only [valL,h2] at hv
    cases i with
    | zero => simp at hv; subst hv; simpa [Addr.add] using hc
    | succ i => simp at hv
  · intro c hb
    simp only [cnt,cntL,K.own] at hb
    by_cases hz : cnt c t = 0
    · simp only [hz] at hb
      split at hb
      · rename_i hx
        simp at hx
        subst hx
        exact cell_lt hc
      · simp at hb
    · exact h4 c hz
theorem ArgOK.fn0 {w : World} {us : List Value} {ds : List D} (f : Fn) (h : ArgsOK w us ds) : ArgOK w (.func f #[] us.toArray) (.nd (.fn f 0) ds):=by
  obtain ⟨l,h1,h2,h3,h4⟩:=h
  refine ⟨.nd (.fn f 0) l,by simp [er,h1,K.er],by simp [val,h2,K.val],⟨trivial,h3⟩,fun b hb => h4 b ?_⟩
  simpa [cnt,K.own] using hb
section
variable {n : Nat} {g : Nat→Nat} {w : World} {sv ov : Value} {bO bV : Nat}
theorem has_calls (hn : n ≤ 12) (hg : ∀ i,g i < 2 ^ 64) (b : Bool) (S : List Nat) (hS : ∀ u ∈ S,u < n) (hl : S.length ≤ 900) (v : Nat) (hv : v < n) (hs : ArgOK w sv (si b (zl S)))
    (hO : w.cell? ⟨bO,0,none⟩ = some ov) (ho : ArgOK w ov (su6 n g)) (hV : w.cell? ⟨bV,0,none⟩ = some (.int .i64 (v : Int))) :
    Calls Go.Proofs.Try.prog 43 #[sv,.func (.func 44) #[] #[.pointer (some ⟨bO,0,none⟩),.pointer (some ⟨bV,0,none⟩)]] w fun e w' => e = .returned (.bool (S.any fun u => cmpB g u v))∧Below w.heap.size w w' :=
  calls_sem tbl_ok (t59 0 n hn g hg b S hS hl v hv) (.cons hs (.cons (.fn0 _ (.cons (.box hO ho) (.cons (.box hV (.sc w _)) (.nil w)))) (.nil w)))
theorem clone_calls (l : List Int) (hl : l.length ≤ 900) (hs : ArgOK w sv (si false l)) :
    Calls Go.Proofs.Try.prog 42 #[sv] w fun e w' => ∃ t,e = .returned (val t)∧er t = si false l∧Below w.heap.size w w'∧FreshT w w' t:=by
  obtain ⟨t,h1,h2,h3,h4⟩:=hs
  have:=((sem_ok (g:=Glob.none) tbl_ok 6000 1).reg 42 _ _ (by decide) (t58 0 l hl)).2 [t] w (Glob.none_at w) (by simp [erL,h1]) ⟨h3,trivial⟩ (fun b hb => h4 b (by simpa [cntL] using hb))
  simpa [valL,h2] using this
end
def up (S best : List Nat) : List Nat:=if best.length < S.length then S else best
def growL (g : Nat→Nat) : Nat→Nat→List Nat→List Nat→List Nat
  | 0,_,_,best => best
  | k + 1,v,S,best => growL g k (v + 1) S (if S.any (fun u => cmpB g u v) = true then best else growL g k (v + 1) (S ++ [v]) (up (S ++ [v]) best))
structure GW (bL bO bG n : Nat) (g : Nat→Nat) (best : List Nat) (w : World) : Prop where
  big : ∃ t,w.heap[bL]? = some (.cells #[val t] 34 (0,0))∧er t = si (best.length == 0) (zl best)∧Mem w true t∧∀ c,cnt c t ≤ 1∧(cnt c t ≠ 0→bG < c∧c < w.heap.size)
  ord : ∃ t,w.heap[bO]? = some (.cells #[val t] 51 (0,0))∧er t = su6 n g∧Mem w false t∧∀ c,cnt c t ≠ 0→c < bL
  self : w.heap[bG]? = some (.cells #[.func (.func 41) #[] #[.pointer (some ⟨bL,0,none⟩),.pointer (some ⟨bO,0,none⟩),.pointer (some ⟨bG,0,none⟩)]] 83 (0,0))
theorem tree_sl {α : Type} {e : En α} {b : Bool} {l : List α} {t : C} (h : er t = gsl e b l) : ∃ d kids,t = .nd (.sl d e.es l.length) kids∧d.a.isNone = b∧erL kids = gk e l:=by
  cases t with
  | v x => simp [er,gsl] at h
  | hole d => simp [er,gsl] at h
  | nd k kids =>
    cases k with
    | sl d es n =>
      simp only [er,K.er,gsl,T.nd.injEq,K.sl.injEq] at h
      obtain ⟨⟨h1,rfl,rfl⟩,h2⟩:=h
      exact ⟨d,kids,rfl,h1,h2⟩
    | bx d => simp [er,K.er,gsl] at h
    | ag => simp [er,K.er,gsl] at h
    | tu => simp [er,K.er,gsl] at h
    | fn f nf => simp [er,K.er,gsl] at h
theorem kids_val {k : IntKind} : ∀ {kids : List C} {l : List Int},erL kids = gk (eI k) l→valL kids = l.map (Value.int k)
  | [],[],_ => rfl
  | [],x :: l,h => by simp [erL,gk,eI] at h
  | t :: ts,[],h => by simp [erL,gk] at h
  | t :: ts,x :: l,h => by
    have h' : er t :: erL ts = T.v (.int k x) :: gk (eI k) l:=h
    injection h' with h1 h2
    have e : t = .v (.int k x):=by
      cases t with
      | v y => simp only [er,T.v.injEq] at h1; rw [h1]
      | hole d => simp [er] at h1
      | nd k kids => simp [er] at h1
    subst e
    simp only [valL,val,List.map_cons,kids_val h2]
theorem int_tree {k : IntKind} {b : Bool} {l : List Int} {w : World} {o : Bool} {t : C} (h : er t = gsl (eI k) b l) (hm : Mem w o t) :
    ∃ a cap,val t = .slice a l.length cap∧l.length ≤ cap∧(a = none→cap = 0)∧(a.isNone = b)∧∀ x,a = some x→∀ j u,(l.map (Value.int k))[j]? = some u→w.cell? (x.add j) = some u:=by
  obtain ⟨d,kids,rfl,h1,h2⟩:=tree_sl h
  have hv:=kids_val h2
  obtain ⟨m1,m2,m3,m4⟩:=hm.1
  refine ⟨d.a,d.cap,rfl,m2,m3,h1,fun x hx j u hu => ?_⟩
  rw [hv] at m4
  exact (m4 x hx).1 j u hu
theorem cntL_ints {k : IntKind} (c : Nat) : ∀ {kids : List C} {l : List Int},erL kids = gk (eI k) l→cntL c kids = 0
  | [],[],_ => rfl
  | [],x :: l,h => by simp [erL,gk,eI] at h
  | t :: ts,[],h => by simp [erL,gk] at h
  | t :: ts,x :: l,h => by
    have h' : er t :: erL ts = T.v (.int k x) :: gk (eI k) l:=h
    injection h' with h1 h2
    have e : t = .v (.int k x):=by
      cases t with
      | v y => simp only [er,T.v.injEq] at h1; rw [h1]
      | hole d => simp [er] at h1
      | nd k kids => simp [er] at h1
    subst e
    simp only [cntL,cnt,cntL_ints c h2]
theorem own_tree {w : World} {base e : Nat} {k : IntKind} {v : Value} {l : List Int} (h : w.ownsRow base e 1 v l.length (l.map (Value.int k))) (hl : 0 < l.length) :
    ∃ t a cap,val t = v∧v = .slice (some a) l.length cap∧er t = gsl (eI k) false l∧Mem w false t∧∀ c,cnt c t ≠ 0→base ≤ c∧c < w.heap.size:=by
  obtain ⟨h1,h2⟩:=h
  rcases h2 with ⟨_,h0⟩ | ⟨g,cap,cur,rfl,hb,hh,hn,_,hc,ht⟩
  · omega
  · have hkids : ∀ l : List Int,erL (l.map fun x => (T.v (Value.int k x) : C)) = gk (eI k) l:=by
      intro l
      induction l with
      | nil => rfl
      | cons x l ih => show er (T.v (Value.int k x)) :: erL _ = T.v (.int k x) :: gk (eI k) l; rw [ih]; rfl
    have hval:=kids_val (hkids l)
    refine ⟨.nd (.sl ⟨some ⟨g,0,none⟩,cap,undef⟩ 1 l.length) (l.map fun x => T.v (Value.int k x)),_,_,rfl,rfl,?_,⟨⟨?_,hn,by simp,?_⟩,?_⟩,?_⟩
    · rw [er,hkids]; rfl
    · rw [hval]; simp
    · intro a ha
      cases ha
      refine ⟨fun i u hu => ?_,fun hf => by cases hf⟩
      rw [hval,← ht,List.getElem?_take] at hu
      split at hu
      · have hadd : (⟨g,0,none⟩ : Addr).add i = ⟨g,i,none⟩:=by unfold Addr.add; split <;> simp_all
        rw [hadd]
        simp only [World.cell?,hh]
        simpa using hu
      · cases hu
    · have : ∀ l : List Int,MemL w false (l.map fun x => (T.v (Value.int k x) : C)):=by
        intro l
        induction l with
        | nil => trivial
        | cons x l ih => exact ⟨trivial,ih⟩
      exact this l
    · intro c hne
      rw [cnt,cntL_ints c (hkids l)] at hne
      simp only [K.own,Nat.add_zero] at hne
      split at hne
      · rename_i hx
        simp at hx
        obtain ⟨_,rfl⟩:=hx
        exact ⟨hb,lt_of_block hh⟩
      · exact absurd rfl hne
theorem Mem.grown {w w' : World} {o : Bool} {t : C} {row : Option Nat} (h : Mem w o t) (hg : w.grownBy w' row) (hc : ∀ c,cnt c t ≠ 0→c < w.heap.size∧some c ≠ row) : Mem w' o t :=
  h.same fun b hb => hg.block b (hc b hb).1 (hc b hb).2
theorem below_grown {w w' : World} (h : Below w.heap.size w w') (row : Option Nat) : w.grownBy w' row:=⟨h.os,h.tape,h.output,h.size,fun k hk _ => h.block k hk⟩
theorem grown_trans {a b c : World} {row : Option Nat} (h : a.grownBy b row) (k : b.grownBy c row) : a.grownBy c row :=
  ⟨k.os.trans h.os,k.tape.trans h.tape,k.output.trans h.output,Nat.le_trans h.size k.size,fun i hi hne => (k.block i (Nat.lt_of_lt_of_le hi h.size) hne).trans (h.block i hi hne)⟩
theorem grown_none {a b : World} (h : a.grownBy b none) : Below a.heap.size a b:=⟨h.os,h.tape,h.output,h.size,fun k hk => h.block k hk (by simp)⟩
theorem below_trans {a b c : World} (h : Below a.heap.size a b) (k : Below b.heap.size b c) : Below a.heap.size a c:=h.trans (k.mono h.size)
theorem heap_new (w : World) (o : Obj) : (w.alloc o).heap[w.heap.size]? = some o:=by
  show (w.heap.push o)[w.heap.size]? = _
  simp
theorem GW.below {bL bO bG n : Nat} {g : Nat→Nat} {best : List Nat} {w w' : World} (h : GW bL bO bG n g best w) (hOL : bO < bL) (hb : Below w.heap.size w w') : GW bL bO bG n g best w':=by
  obtain ⟨⟨t,h1,h2,h3,h4⟩,⟨tO,k1,k2,k3,k4⟩,h5⟩:=h
  have l1:=lt_of_block h1
  refine ⟨⟨t,by rw [hb.block _ l1]; exact h1,h2,h3.same fun c hc => hb.block c ((h4 c).2 hc).2,fun c => ⟨(h4 c).1,fun hc => ⟨((h4 c).2 hc).1,Nat.lt_of_lt_of_le ((h4 c).2 hc).2 hb.size⟩⟩⟩,
    ⟨tO,by rw [hb.block _ (by omega)]; exact k1,k2,k3.same fun c hc => hb.block c (by have:=k4 c hc; omega),k4⟩,by rw [hb.block _ (lt_of_block h5)]; exact h5⟩
theorem GW.store {bL bO bG n : Nat} {g : Nat→Nat} {best S : List Nat} {w w' : World} {t : C} (h : GW bL bO bG n g best w) (hOL : bO < bL) (hLG : bL < bG) (hb : Below w.heap.size w w') (hp : 0 < S.length) (he : er t = si false (zl S)) (hf : FreshT w w' t) :
    GW bL bO bG n g S (w'.setCell ⟨bL,0,none⟩ (val t))∧w.grownBy (w'.setCell ⟨bL,0,none⟩ (val t)) (some bL):=by
  have hs:=h.below hOL hb
  obtain ⟨⟨t0,h1,h2,h3,h4⟩,⟨tO,k1,k2,k3,k4⟩,h5⟩:=hs
  have l5 : bG < w.heap.size:=lt_of_block h.self
  have blk : ∀ c,c ≠ bL→(w'.setCell ⟨bL,0,none⟩ (val t)).heap[c]? = w'.heap[c]?:=fun c hc => Below.heap_setCell _ _ _ _ hc
  have own : ∀ c,cnt c t ≠ 0→w.heap.size ≤ c∧c < w'.heap.size:=fun c hc => (hf.own c).2 hc
  have hz : (w'.setCell ⟨bL,0,none⟩ (val t)).heap.size = w'.heap.size:=by simp [World.setCell]
  refine ⟨⟨⟨t,one_setCell h1,by rw [he,show (S.length == 0) = false from beq_eq_false_iff_ne.2 (by omega)],hf.mem.same fun c hc => blk c ?_,fun c => ⟨(hf.own c).1,fun hc => ?_⟩⟩,⟨tO,by rw [blk _ (by omega)]; exact k1,k2,k3.same fun c hc => blk c ?_,k4⟩,by rw [blk _ (by omega)]; exact h5⟩,
    ⟨hb.os,hb.tape,hb.output,by rw [hz]; exact hb.size,fun k hk hne => by rw [blk k (fun e => hne (by rw [e]))]; exact hb.block k hk⟩⟩
  · have:=own c hc; omega
  · have:=own c hc; rw [hz]; omega
  · have:=k4 c hc; omega
theorem step_calls {P : Program} {ops : Array Oper} {o : Oper} {a : Act} {w : World} {K : Act→World→Prop} {Q : Exit→Act→World→Prop} {E : Prop} (hw : Region.wanted o (yielded ops a.tmps) = true) (x : Operand) (xs : Array Operand) (ty : Array TypeId)
    (hop : o.op = .call { callee:=.value x,args:=xs,argTypes:=ty }) (f : FuncId) (caps args : Array Value) (hx : a.eval x = .func (.func f) #[] caps) (ha : xs.toList.map a.eval ++ caps.toList = args.toList)
    (hent : Enters P f) {Post : Ending→World→Prop} (hc : Calls P f args w Post) (hk : ∀ e w',Post e w'→∃ v,e = .returned v∧K (a.put o.dst v) w') :
    if Region.wanted o (yielded ops a.tmps) = true then Oper.wp P o a w K Q else E:=by
  rw [if_pos hw]
  have hex : execOp a.eval o = callFunc f args:=by
    unfold execOp
    simp only [hop,resolve,hx,Deferred.ofValue,pure_bind,invoke]
    congr 1
    apply Array.toList_inj.1
    rw [← ha]
    simp
  unfold Oper.wp
  rw [hex,run_enter hent,Oper.upon_enter]
  refine hc.mono ?_
  intro e w' h
  obtain ⟨v,rfl,hK⟩:=hk _ _ h
  exact hK
theorem ent57 : Enters Go.Proofs.Try.prog 41:=⟨_,_,Go.Proofs.Try.func41,by kernel_rfl,rfl⟩
theorem info3 : (Go.Proofs.Try.prog.info? 3).map (fun i => (i.zero,i.size,i.bytes)) = some (some (.int .i64 0),1,8):=by kernel_rfl
set_option maxHeartbeats 1000000 in
theorem grow_any (bL bO bG n : Nat) (g : Nat→Nat) (hn : n ≤ 12) (hg : ∀ i,g i < 2 ^ 64) (hOL : bO < bL) (hLG : bL < bG) (k : Nat) : ∀ (f : Nat) (S best : List Nat) (w : World) (sv : Value) (ts : C) (b : Bool),f + k = n→S.length ≤ f→(∀ u ∈ S,u < n)→val ts = sv →
    er ts = si b (zl S)→Mem w false ts→(∀ c,cnt c ts ≠ 0→bG < c∧c < w.heap.size)→GW bL bO bG n g best w →
    Calls Go.Proofs.Try.prog 41 #[sv,.int .i64 (f : Int),.pointer (some ⟨bL,0,none⟩),.pointer (some ⟨bO,0,none⟩),.pointer (some ⟨bG,0,none⟩)] w fun e w' =>
      e = .returned (.tuple #[])∧GW bL bO bG n g (growL g k f S (up S best)) w'∧w.grownBy w' (some bL):=by
  induction k using Nat.strongRecOn with
  | _ k ih =>
  rintro f S best w sv ts b hfk hSf hSn rfl h1 h3 h4 hW
  have hmf : ∀ (fn : Fn) (first cap : Array Value) (w : World),(Instr.makeFunc fn first cap).run Go.Proofs.Try.prog w = .ok (.func fn first cap) w:=fun _ _ _ _ => rfl
  have HI:=Lib.hid ih
  clear ih
  have HW:=Lib.hid hW
  obtain ⟨⟨t,hL,ht,hm,hb⟩,⟨tO,hO,htO,hmo,hbo⟩,hG⟩:=hW
  have cL:=cell_of_one hL
  have fL:=free_of_one hL
  have cO:=cell_of_one hO
  have cG:=cell_of_one hG
  clear hL hO hG
  obtain ⟨sa',scap,e1,e2,e3,e4,e5⟩:=int_tree h1 h3
  obtain ⟨la,lcap,g1,g2,g3,g4,g5⟩:=int_tree ht hm
  rw [zl_len] at e1 e2 g1 g2
  rw [e1]
  rw [g1] at cL
  have HS : Hid (best.length < S.length→ArgOK w (.slice sa' S.length scap) (si false (zl S))):=fun hlt => by
    refine ⟨ts,?_,e1,h3,fun c hc => (h4 c hc).2⟩
    have : b = false:=by
      cases b with
      | false => rfl
      | true =>
        have hn : sa' = none:=by simpa using e4
        have:=e3 hn
        omega
    rw [h1,this]
  have hS900 : (zl S).length ≤ 900:=by rw [zl_len]; omega
  have HE : Hid (val ts = Value.slice sa' S.length scap∧(sa' = none→scap = 0)∧er ts = si b (zl S)):=⟨e1,e3,h1⟩
  clear e1 e3 e4 e5 g1 g3 g4 g5 ht hm hb htO hmo hbo h1
  go_enter Go.Proofs.Try.func41,Go.Proofs.Try.ntmps41
  go_upto_if 12 with fail
  go_cut [] from 12 to 14 (fun wx => GW bL bO bG n g (up S best) wx∧w.grownBy wx (some bL))
  case first =>
    go_wp2_with fail
    · have hlt : best.length < S.length:=by assumption
      refine (clone_calls (zl S) hS900 (HS.out hlt)).mono ?_
      rintro e w1 ⟨t1,rfl,he,hbel,hfr⟩
      have f1 : w1.frozen? ⟨bL,0,none⟩ = false:=by rw [hbel.frozen (p:=⟨bL,0,none⟩) (cell_lt cL)]; exact fL
      have c1 : w1.cell? ⟨bL,0,none⟩ = some (.slice la best.length lcap):=by rw [hbel.cell (p:=⟨bL,0,none⟩) (cell_lt cL)]; exact cL
      have hst:=HW.out.store hOL hLG hbel (by omega) he hfr
      obtain ⟨a1,cap1,q1,_⟩:=int_tree he hfr.mem
      rw [zl_len] at q1
      rw [q1] at hst ⊢
      have HST:=Lib.hid hst
      clear hst q1
      have hup : up S best = S:=if_pos hlt
      go_wp2_with fail
      go_meet
      case rel =>
        rw [hup]
        exact HST.out
    · have hlt : ¬ best.length < S.length:=by assumption
      have hup : up S best = best:=if_neg hlt
      go_meet
      case rel =>
        rw [hup]
        exact ⟨HW.out,.refl _ _⟩
  case rest =>
    obtain ⟨hW1,hgr⟩:=hcut
    have l4:=lt_of_block hW1.self
    clear cL fL cO cG HW
    go_wp2_with fail
    go_loopg [7] k (fun r p wr => ∃ (v : Nat) (bv : Nat) (best' : List Nat),v + r = n∧f ≤ v∧p = .pointer (some ⟨bv,0,none⟩)∧bG < bv∧wr.heap[bv]? = some (.cells #[.int .i64 (v : Int)] 3 (0,0))∧GW bL bO bG n g best' wr∧w.grownBy wr (some bL)∧growL g r v S best' = growL g k f S (up S best))
    case atStart =>
      exact ⟨f,wc.heap.size,up S best,hfk,Nat.le_refl _,rfl,l4,heap_new _ _,hW1.below hOL ((Below.refl _ _).alloc (Nat.le_refl _) _),grown_trans hgr (below_grown ((Below.refl _ _).alloc (Nat.le_refl _) _) _),rfl⟩
    case round =>
      obtain ⟨v,bv,best',hv,hfv,rfl,hbv,cV,hWr,hgr',hG⟩:=hrel
      have HG:=Lib.hid hG
      have HWr:=Lib.hid hWr
      have HV:=Lib.hid cV
      clear hG hW1 hgr
      have l5:=lt_of_block hWr.self
      have l6:=lt_of_block cV
      obtain ⟨tO',hO',htO',hmo',hbo'⟩:=hWr.ord
      have cO':=cell_of_one hO'
      have cG':=cell_of_one hWr.self
      have cV':=cell_of_one cV
      clear hO' hWr cV
      obtain ⟨oa,ocap,o1,_⟩:=int_tree htO' hmo'
      rw [zr_len] at o1
      rw [o1] at cO'
      by_cases hlt : v < n
      · have l7 : bO < wr.heap.size:=by omega
        have l8 : ∀ c,cnt c ts ≠ 0→c < wr.heap.size:=fun c hc => Nat.lt_of_lt_of_le (h4 c hc).2 hgr'.size
        have m5 : Mem wr false ts:=Mem.grown h3 hgr' fun c hc => ⟨(h4 c hc).2,fun e => by have:=(h4 c hc).1; cases e; omega⟩
        have HA : Hid (ArgOK wr (.slice sa' S.length scap) (si b (zl S))):=⟨ts,HE.out.2.2,HE.out.1,m5,l8⟩
        have HO : Hid (ArgOK wr (.slice oa n ocap) (su6 n g)):=⟨tO',htO',o1,hmo',fun c hc => by have:=hbo' c hc; omega⟩
        clear htO' hmo' hbo' o1
        obtain ⟨r,rfl⟩ : ∃ r,gk = r + 1:=⟨gk - 1,by omega⟩
        have HB : Hid (bO < wr.heap.size∧bG < bv):=⟨l7,hbv⟩
        go_upto_block 1 with fail
        go_cut [] from 22 to 38 (fun wx => GW bL bO bG n g (if (S.any fun u => cmpB g u v) = true then best' else growL g r (v + 1) (S ++ [v]) (up (S ++ [v]) best')) wx∧wr.grownBy wx (some bL))
        case first =>
          go_wp2_with fail
          refine (has_calls hn hg b S hSn (by omega) v hlt HA.out cO' HO.out cV').mono ?_
          rintro e w1 ⟨rfl,hbel⟩
          have cG1:=cell_later hbel cG'
          have cV1:=cell_later hbel cV'
          have HW1:=Lib.hid (HWr.out.below hOL hbel)
          have m6 : Mem w1 false ts:=m5.same fun c hc => hbel.block c (l8 c hc)
          have z1:=hbel.size
          clear cO' cG' cV' HA HO HWr HV
          by_cases hc : (S.any fun u => cmpB g u v) = true
          · rw [hc]
            have HC':=Lib.hid hc
            clear hc
            go_wp2_with fail
            go_meet
            case rel =>
              rw [if_pos HC'.out]
              exact ⟨HW1.out,below_grown hbel _⟩
          · rw [show (S.any fun u => cmpB g u v) = false by simpa using hc]
            have HC':=Lib.hid hc
            clear hc
            obtain ⟨i0,hi,hz0,hz1,hz2⟩:=info_parts info3
            have HN : Hid (sa' = none→S.length = 0∧S.length = 0):=fun h => by have:=HE.out.2.1 h; omega
            have HL : Hid (((zl S).map (Value.int .i64)).length = S.length * 1):=by simp [Hid]
            have HC : Hid (∀ b,sa' = some b→∀ j u,((zl S).map (Value.int .i64))[j]? = some u→((w1.alloc (.cells #[.int .i64 (v : Int)] 3)).drew).cell? (b.add j) = some u):=by
              intro b' hb' j u hu
              obtain ⟨a',cap',q1,_,_,_,q5⟩:=int_tree HE.out.2.2 (m6.same (w':=(w1.alloc (.cells #[.int .i64 (v : Int)] 3)).drew) fun c hc => (((Below.refl w1.heap.size w1).alloc (Nat.le_refl _) _).drew).block c (by have:=l8 c hc; omega))
              have:=HE.out.1.symm.trans q1
              simp only [Value.slice.injEq] at this
              exact q5 b' (this.1 ▸ hb') j u hu
            have HM : Hid (∀ j u,[Value.int .i64 (v : Int)][j]? = some u→((w1.alloc (.cells #[.int .i64 (v : Int)] 3)).drew).cell? ((⟨w1.heap.size,0,none⟩ : Addr).add j) = some u):=by
              intro j u hu
              exact World.news_of_block (w:=(w1.alloc (.cells #[.int .i64 (v : Int)] 3)).drew) (heap_new w1 _) j u hu
            have HX : Hid (∀ (v' : Value) (w2 : World),w2.ownsRow ((w1.alloc (.cells #[.int .i64 (v : Int)] 3)).drew).heap.size 3 1 v' (S.length + 1) ((zl S).map (Value.int .i64) ++ [.int .i64 (v : Int)])→((w1.alloc (.cells #[.int .i64 (v : Int)] 3)).drew).grownBy w2 none →
                ∃ tn a cap,val tn = v'∧v' = .slice (some a) (S.length + 1) cap∧er tn = si false (zl (S ++ [v]))∧Mem w2 false tn∧(∀ c,cnt c tn ≠ 0→bG < c∧c < w2.heap.size)∧Below w1.heap.size w1 w2):=by
              intro v' w2 hown hgrow
              have e0 : (zl S).map (Value.int .i64) ++ [Value.int .i64 (v : Int)] = (zl (S ++ [v])).map (Value.int .i64):=by simp [zl]
              have e1 : (zl (S ++ [v])).length = S.length + 1:=by simp
              rw [e0,← e1] at hown
              obtain ⟨tn,a,cap,p1,p2,p3,p4,p5⟩:=own_tree hown (by omega)
              have hb2 : Below w1.heap.size w1 w2:=(((Below.refl w1.heap.size w1).alloc (Nat.le_refl _) _).drew).trans ((grown_none hgrow).mono (by simp))
              have z2 : w1.heap.size + 1 = ((w1.alloc (.cells #[.int .i64 (v : Int)] 3)).drew).heap.size:=by simp
              exact ⟨tn,a,cap,p1,by rw [p2,e1],p3,p4,fun c hc => ⟨by have:=(p5 c hc).1; omega,(p5 c hc).2⟩,hb2⟩
            have hSl : (S ++ [v]).length ≤ v + 1:=by simp; omega
            have hSs : ∀ u ∈ S ++ [v],u < n:=by
              intro u hu
              rcases List.mem_append.1 hu with h | h
              · exact hSn u h
              · simp at h; omega
            have HBl:=Lib.hid hbel
            go_wp2_with fail
            have hw:=wrap_succ (i:=v) (by omega)
            have cV1a : (w1.alloc (.cells #[.int .i64 (v : Int)] 3)).cell? ⟨bv,0,none⟩ = some (.int .i64 (v : Int)):=cell_later ((Below.refl w1.heap.size w1).alloc (Nat.le_refl _) _) cV1
            have cG1a : (w1.alloc (.cells #[.int .i64 (v : Int)] 3)).cell? ⟨bG,0,none⟩ = _:=cell_later ((Below.refl w1.heap.size w1).alloc (Nat.le_refl _) _) cG1
            go_region_law (first
              | (refine step_append_grows rfl (.tmp 32) (.tmp 34) 34 rfl 3 i0 (.int .i64 0) 1 8 Go.Proofs.Try.underlying34 hi hz0 hz1 hz2 rfl (by decide) sa' S.length S.length ((zl S).map (Value.int .i64)) rfl HN.out HL.out HC.out ⟨w1.heap.size,0,none⟩ 1 1 [.int .i64 (v : Int)] rfl rfl HM.out (by simp [Value.oneCell']) (by omega) (by unfold maxLen; omega) (by omega) ?_; intro v' w2 hown hgrow; obtain ⟨tn,na,ncap,n1,rfl,n3,n4,n5,n6⟩:=HX.out v' w2 hown hgrow; clear hown hgrow; have N1:=Lib.hid n1; have cG2:=cell_later n6 cG1; have cV2:=cell_later n6 cV1; clear n1)
              | (refine step_calls (by simp [Region.wanted]) (.tmp 26) #[.tmp 35,.tmp 37] #[34,3] rfl 41 #[.pointer (some ⟨bL,0,none⟩),.pointer (some ⟨bO,0,none⟩),.pointer (some ⟨bG,0,none⟩)] #[.slice (some na) (S.length + 1) ncap,.int .i64 ((v + 1 : Nat) : Int),.pointer (some ⟨bL,0,none⟩),.pointer (some ⟨bO,0,none⟩),.pointer (some ⟨bG,0,none⟩)] rfl rfl ent57 (HI.out r (by omega) (v + 1) (S ++ [v]) best' _ _ tn false (by omega) hSl hSs N1.out n3 n4 n5 (HW1.out.below hOL n6)) ?_; rintro e w3 ⟨rfl,hW3,hg3⟩; have HR : Hid (GW bL bO bG n g (growL g r (v + 1) (S ++ [v]) (up (S ++ [v]) best')) w3∧wr.grownBy w3 (some bL)):=⟨hW3,grown_trans (below_grown (below_trans HBl.out n6) _) hg3⟩; clear hW3 hg3; refine ⟨_,rfl,?_⟩))
            all_goals (go_wp2_with fail)
            all_goals (go_meet; case rel => (rw [if_neg HC'.out]; exact HR.out))
        case rest =>
          obtain ⟨hWc,hgc⟩:=hcut
          have cVc : wc.cell? ⟨bv,0,none⟩ = some (.int .i64 (v : Int)):=cell_of_one (t:=3) (by rw [hgc.block bv l6 (fun e => by cases e; omega)]; exact HV.out)
          have HWc:=Lib.hid hWc
          have zc:=hgc.size
          have hw:=wrap_succ (i:=v) (by omega)
          clear hWc
          go_wp2_with fail
          go_roundg r
          case measure => omega
          case rel => exact ⟨v + 1,wc.heap.size,_,by omega,by omega,rfl,by omega,heap_new _ _,HWc.out.below hOL ((Below.refl _ _).alloc (Nat.le_refl _) _),grown_trans (grown_trans hgr' hgc) (below_grown ((Below.refl _ _).alloc (Nat.le_refl _) _) _),HG.out⟩
      · obtain rfl : gk = 0:=by omega
        go_wp2_with fail
        go_end0
        exact ⟨rfl,by rw [← HG.out]; exact HWr.out,hgr'⟩
end Go.Mx
