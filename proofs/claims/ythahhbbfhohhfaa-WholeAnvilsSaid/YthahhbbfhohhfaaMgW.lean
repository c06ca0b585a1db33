import Derived.Test.YthahhbbfhohhfaaMgT
import Derived.Test.YthahhbbfhohhfaaMgV
/-
  The memory of gather: the evidence that grows.
-/
namespace Go.Mx
set_option linter.unusedVariables false
set_option linter.unusedSimpArgs false
set_option linter.unusedSectionVars false
open Go Go.RowKit Go.Lib Go.Sort
theorem own_kept {w w' : World} {base e sz n : Nat} {v : Value} {xs : List Value} (h : w.ownsRow base e sz v n xs) (hk : ∀ g,v.ownBlock = some g→g < w.heap.size→w'.heap[g]? = w.heap[g]?) : w'.ownsRow base e sz v n xs:=by
  refine ⟨h.1,?_⟩
  rcases h.2 with h2 | ⟨g,cap,cur,rfl,h3,h4,h5⟩
  · exact .inl h2
  · exact .inr ⟨g,cap,cur,rfl,h3,by rw [hk g rfl (lt_of_block h4)]; exact h4,h5⟩
theorem own_elem {w : World} {base e sz n g : Nat} {v : Value} {xs : List Value} (h : w.ownsRow base e sz v n xs) (hv : v.ownBlock = some g) : ∃ cur,w.heap[g]? = some (.cells cur e (0,0)):=by
  rcases h.2 with ⟨rfl,_⟩ | ⟨g',cap,cur,rfl,h3,h4,h5⟩
  · cases hv
  · cases hv; exact ⟨cur,h4⟩
structure GTW (w : World) (lv : Value) (bR bE : Nat) (ps : List (Int × Int × Int)) (wr : World) : Prop where
  below : Below w.heap.size w wr
  r : wr.heap[bR]? = some (.cells #[.slice none 0 0,.slice none 0 0] 46 (0,0))
  ev : ∃ pv,wr.heap[bE]? = some (.cells #[lv,pv] 46 (0,0))∧wr.ownsRow w.heap.size 74 3 pv ps.length (rowP ps)
variable {w wr : World} {lv : Value} {bR bE : Nat} {ps : List (Int × Int × Int)}
theorem GTW.later {w2 : World} (h : GTW w lv bR bE ps wr) (hb : Below wr.heap.size wr w2) : GTW w lv bR bE ps w2:=by
  obtain ⟨h1,h2,pv,h3,h4⟩:=h
  exact ⟨h1.trans (hb.mono h1.size),by rw [hb.block _ (lt_of_block h2)]; exact h2,pv,by rw [hb.block _ (lt_of_block h3)]; exact h3,own_kept h4 fun g _ hl => hb.block g hl⟩
theorem GTW.app {W2 w3 : World} {pv v' : Value} {p : Int × Int × Int} (hbE : w.heap.size ≤ bE) (hRE : bR ≠ bE) (h : GTW w lv bR bE ps W2) (hpv : W2.heap[bE]? = some (.cells #[lv,pv] 46 (0,0))) (hg : W2.grownBy w3 pv.ownBlock) (hown : W2.ownsRow w.heap.size 74 3 pv ps.length (rowP ps))
    (ho : w3.ownsRow w.heap.size 74 3 v' (ps.length + 1) (rowP ps ++ [.int .i64 p.1,.int .i64 p.2.1,.int .i64 p.2.2])) : GTW w lv bR bE (ps ++ [p]) (w3.setCell ⟨bE,1,none⟩ v')∧w3.cell? ⟨bE,1,none⟩ = some pv∧w3.frozen? ⟨bE,1,none⟩ = false∧(w3.setCell ⟨bE,1,none⟩ v').heap[bE]? = some (.cells #[lv,v'] 46 (0,0)):=by
  have ne : ∀ c a,W2.heap[c]? = some (.cells a 46 (0,0))→some c ≠ pv.ownBlock:=fun c a hc hne => by
    obtain ⟨cur,h1⟩:=own_elem hown hne.symm
    rw [hc] at h1
    cases h1
  have e3 : w3.heap[bE]? = some (.cells #[lv,pv] 46 (0,0)):=by rw [hg.block bE (lt_of_block hpv) (ne _ _ hpv)]; exact hpv
  have eR : w3.heap[bR]? = some (.cells #[.slice none 0 0,.slice none 0 0] 46 (0,0)):=by rw [hg.block bR (lt_of_block h.r) (ne _ _ h.r)]; exact h.r
  have hz:=h.below.size
  have b3 : Below w.heap.size w w3:=h.below.grown hg hz (fun j hj => own_blk hown hj)
  have eS : (w3.setCell ⟨bE,1,none⟩ v').heap[bE]? = some (.cells #[lv,v'] 46 (0,0)):=by
    have hl:=lt_of_block e3
    show (w3.heap.modify bE _)[bE]? = _
    rw [Array.getElem?_modify,if_pos rfl,e3]
    rfl
  refine ⟨⟨b3.setCell hbE _,by rw [Below.heap_setCell _ _ _ _ hRE]; exact eR,v',eS,?_⟩,by simp [World.cell?,e3],by simp [World.frozen?,e3],eS⟩
  have e1 : (ps ++ [p]).length = ps.length + 1:=by simp
  have e2 : rowP (ps ++ [p]) = rowP ps ++ [.int .i64 p.1,.int .i64 p.2.1,.int .i64 p.2.2]:=by rw [rowP,List.flatMap_append]; rfl
  rw [e1,e2]
  refine own_kept ho fun g hg' _ => Below.heap_setCell _ _ _ _ fun e => ?_
  subst e
  obtain ⟨cur,h1⟩:=own_elem ho hg'
  rw [e3] at h1
  cases h1
end Go.Mx
namespace Go.Mx
set_option linter.unusedVariables false
set_option linter.unusedSimpArgs false
set_option linter.unusedSectionVars false
open Go Go.RowKit
theorem gkP_inj : ∀ {l m : List Spc},gk ePc l = gk ePc m→l = m
  | [],[],_ => rfl
  | [],y :: m,h => by have h : ([] : List D) = T.v (.int .i64 y.a) :: _:=h; cases h
  | x :: l,[],h => by have h : T.v (.int .i64 x.a) :: _ = ([] : List D):=h; cases h
  | x :: l,y :: m,h => by
    have h : T.v (.int .i64 x.a) :: T.v (.int .i64 x.b) :: T.v (.int .i64 x.c) :: T.v (.int .i64 x.d) :: T.v (.int .i64 x.e) :: T.v (.int .i64 x.f) :: T.v (.int .i64 x.g) :: gk ePc l = T.v (.int .i64 y.a) :: T.v (.int .i64 y.b) :: T.v (.int .i64 y.c) :: T.v (.int .i64 y.d) :: T.v (.int .i64 y.e) :: T.v (.int .i64 y.f) :: T.v (.int .i64 y.g) :: gk ePc m:=h
    simp only [List.cons.injEq,T.v.injEq,Value.int.injEq,true_and] at h
    obtain ⟨h1,h2,h3,h4,h5,h6,h7,h8⟩:=h
    rw [gkP_inj h8]
    cases x; cases y
    simp only at h1 h2 h3 h4 h5 h6 h7
    subst h1 h2 h3 h4 h5 h6 h7
    rfl
theorem sP_inj {b c : Bool} {l m : List Spc} (e : sP b l = sP c m) : l = m:=gkP_inj (T.nd.inj e).2
def B30 (f : FuncId) (ds : List D) (d : D) : Prop:=f = 30∧∃ b l,ds = [sP b l]∧d = nI (chkE l)
open Classical in
noncomputable def base30 : Oracle:=fun f ds => if h : ∃ d,B30 f ds d then some (Classical.choose h) else none
open Classical in
theorem base30_at (b : Bool) (l : List Spc) : base30 30 [sP b l] = some (nI (chkE l)):=by
  have hx : ∃ d,B30 30 [sP b l] d:=⟨_,rfl,b,l,rfl,rfl⟩
  unfold base30
  rw [dif_pos hx]
  obtain ⟨_,b',l',h1,h2⟩:=Classical.choose_spec hx
  simp only [List.cons.injEq,and_true] at h1
  rw [h2,sP_inj h1]
open Classical in
theorem base30_ok : BaseOK Go.Proofs.Try.prog Glob.none base30:=by
  intro f ds d hlt h
  unfold base30 at h
  split at h
  · rename_i hx
    cases h
    obtain ⟨hf,b,l,h1,h2⟩:=Classical.choose_spec hx
    rw [h2]
    subst hf
    refine ⟨⟨_,_,Go.Proofs.Try.func30,by kernel_rfl,rfl⟩,fun ls w hg he hm hb => ?_⟩
    rw [h1] at he
    match ls,he,hm,hb with
    | [t],he,hm,hb =>
      simp only [erL,List.cons.injEq,and_true] at he
      refine (chk_any b l w (val t) ⟨t,he,rfl,hm.1,fun c hc => hb c (by simpa [cntL] using hc)⟩).mono ?_
      rintro e w' ⟨rfl,hb'⟩
      exact ⟨.v (.int .i64 (chkE l)),rfl,rfl,hb',⟨trivial,fun b => ⟨by simp [cnt],fun h => absurd rfl h⟩⟩⟩
    | [],he,_,_ => simp [erL] at he
    | _ :: _ :: _,he,_,_ => simp [erL] at he
  · cases h
noncomputable abbrev SG (n : Nat) : Oracle:=semB base30 B.tbl 6000 n
theorem SG_ok (n : Nat) : CallsOK Go.Proofs.Try.prog Glob.none (SG n):=semB_ok base30_ok B.tbl_ok 6000 n
theorem g68 (k : Nat) (p : Spc) (o : Int) : SG (k + 1) 68 [agP p,nI o] = some (.nd .tu [nI (sdP p o).1,nI (sdP p o).2]):=by
  rw [SG,semB_succ (mf:=B.c68) rfl]; exact b68 _ _ p o
theorem g56 (k : Nat) (s t : Spc) (o : Int) : SG (k + 2) 56 [agP s,agP t,nI o] = some (.v (.bool (beB s t o))):=by
  rw [SG,semB_succ (mf:=B.c56) rfl]; exact b56 _ _ s t o fun p => g68 k p o
theorem g55 (k : Nat) (s t : Spc) (o : Int) : SG (k + 3) 55 [agQ s,agQ t,boZ o] = some (.v (.bool (beB s t o))):=by
  rw [SG,semB_succ (mf:=B.c55) rfl]; exact b55 _ _ s t o (g56 k s t o)
theorem g54 (k : Nat) (b : Bool) (l : List Spc) (hn : l.length ≤ 20) (o : Int) : SG (k + 4) 54 [sP b l,cl55 o] = some (sa (decide ((beA l o l.length).length = 0)) (beA l o l.length)):=by
  rw [SG,semB_succ (mf:=B.c54) rfl]; exact b54 _ _ (by decide) b l hn o fun s t => g55 k s t o
theorem g31 (k : Nat) (b : Bool) (l : List Spc) (hn : l.length ≤ 20) (o : Int) (ho : o = 0 ∨ o = 1) (hc : chkE l = 0) : SG (k + 5) 31 [sP b l,nI o] = some (.nd .tu [sa (decide ((beA l o l.length).length = 0)) (beA l o l.length),nI 0]):=by
  rw [SG,semB_succ (mf:=B.c31) rfl]
  refine b31 _ _ b l o ho ?_ _ _ (g54 k b l hn o)
  rw [semB_base rfl (by decide),base30_at,hc]
theorem g58 (k : Nat) (s : Spc) (id : Int) : SG (k + 1) 58 [agQ s,boZ id] = some (.v (.bool (decide (s.a = id)))):=by
  rw [SG,semB_succ (mf:=B.c58) rfl]; exact b58 _ _ s id
theorem g57 (k : Nat) (b : Bool) (l : List Spc) (hn : l.length ≤ 900) (id : Int) : SG (k + 2) 57 [sP b l,cl58 id] = some (nI (plN l id)):=by
  rw [SG,semB_succ (mf:=B.c57) rfl]; exact b57 _ _ (by decide) b l hn id fun s => g58 k s id
theorem g32 (k : Nat) (b : Bool) (l : List Spc) (hn : l.length ≤ 900) (id : Int) : SG (k + 3) 32 [sP b l,nI id] = some (nI (plN l id)):=by
  rw [SG,semB_succ (mf:=B.c32) rfl]; exact b32 _ _ b l id _ (g57 k b l hn id)
theorem place_calls {b : Bool} {l : List Spc} {w : World} {lv : Value} (hn : l.length ≤ 900) (ha : ArgOK w lv (sP b l)) (id : Int) :
    Calls Go.Proofs.Try.prog 32 #[lv,.int .i64 id] w fun e w' => e = .returned (.int .i64 (plN l id))∧Below w.heap.size w w' :=
  calls_semB base30_ok B.tbl_ok (by decide) (g32 0 b l hn id) (Glob.none_at w) (.cons ha (.cons (.sc w _) (.nil w)))
theorem gkA_val : ∀ {kids : List C} {l : List (Int × Int)},erL kids = gk eA l→valL kids = rowA l
  | kids,[],h => by
    cases kids with
    | nil => rfl
    | cons t ts => simp [erL,gk] at h
  | kids,p :: l,h => by
    have h' : erL kids = T.v (.int .i64 p.1) :: T.v (.int .i64 p.2) :: gk eA l:=h
    match kids,h' with
    | t1 :: t2 :: ts,h' =>
      simp only [erL,List.cons.injEq] at h'
      obtain ⟨h1,h2,h8⟩:=h'
      rw [er_eq_v h1,er_eq_v h2]
      simp only [valL,val,gkA_val h8]
      rfl
    | [],h' => simp [erL] at h'
    | [_],h' => simp [erL] at h'
theorem arc_tree {b : Bool} {l : List (Int × Int)} {w : World} {o : Bool} {t : C} (h1 : er t = sa b l) (h3 : Mem w o t) (h4 : ∀ c,cnt c t ≠ 0→c < w.heap.size) :
    ∃ a cap,val t = .slice a l.length cap∧(∀ x,a = some x→0 < l.length→cnt x.block t ≠ 0)∧∀ i,i < l.length→∃ x,a = some x∧(x.add (i * 2)).block < w.heap.size∧w.cell? (x.add (i * 2)) = some (.int .i64 (nth l (0,0) i).1)∧w.cell? ⟨(x.add (i * 2)).block,(x.add (i * 2)).off + 1,none⟩ = some (.int .i64 (nth l (0,0) i).2):=by
  obtain ⟨d,kids,rfl,h5,h6⟩:=tree_sl h1
  have hv:=gkA_val h6
  obtain ⟨m1,m2,m3,m4⟩:=h3.1
  have hn : d.a = none→l = []:=fun hn => List.length_eq_zero_iff.1 (by have:=m3 hn; omega)
  refine ⟨d.a,d.cap,rfl,fun x hx hl => ?_,fun i hi => ?_⟩
  · have : (K.sl d 2 l.length).own x.block = 1:=by
      simp only [K.own]
      rw [if_pos ⟨by omega,by rw [hx]; rfl⟩]
    show (K.sl d eA.es l.length).own x.block + _ ≠ 0
    have e : (K.sl d eA.es l.length).own x.block = 1:=this
    omega
  cases hda : d.a with
  | none => have:=hn hda; subst this; simp at hi
  | some x =>
    have hc:=(m4 x hda).1
    rw [hv] at hc
    have g : ∀ c,c < 2→(rowA l)[i * 2 + c]? = some (encA (nth l (0,0) i))[c]!:=fun c hc => by
      rw [rowA_get l (i * 2 + c) (by omega),show (i * 2 + c) / 2 = i by omega,show (i * 2 + c) % 2 = c by omega]
      simp [nth,hi]
    have c0:=hc (i * 2 + 0) _ (g 0 (by omega))
    have c1:=hc (i * 2 + 1) _ (g 1 (by omega))
    exact ⟨x,rfl,cell_lt c0,c0,by rw [← add_pos _ (by omega),Addr.add_add]; exact c1⟩
theorem before_calls {b : Bool} {l : List Spc} {w : World} {lv : Value} (hn : l.length ≤ 20) (hc : chkE l = 0) (ha : ArgOK w lv (sP b l)) (o : Int) (ho : o = 0 ∨ o = 1) :
    Calls Go.Proofs.Try.prog 31 #[lv,.int .i64 o] w fun e w' => (∃ a cap,e = .returned (.tuple #[.slice a (beA l o l.length).length cap,.int .i64 0])∧(∀ x,a = some x→0 < (beA l o l.length).length→w.heap.size ≤ x.block) ∧
      ∀ i,i < (beA l o l.length).length→∃ x,a = some x∧(x.add (i * 2)).block < w'.heap.size∧w'.cell? (x.add (i * 2)) = some (.int .i64 (nth (beA l o l.length) (0,0) i).1)∧w'.cell? ⟨(x.add (i * 2)).block,(x.add (i * 2)).off + 1,none⟩ = some (.int .i64 (nth (beA l o l.length) (0,0) i).2))∧Below w.heap.size w w':=by
  obtain ⟨t,h1,h2,h3,h4⟩:=ha
  have:=((SG_ok 5).reg 31 _ _ (by decide) (g31 0 b l hn o ho hc)).2 [t,.v (.int .i64 o)] w (Glob.none_at w) (by simp [erL,h1,er]) ⟨h3,trivial,trivial⟩ (fun b hb => h4 b (by simpa [cntL,cnt] using hb))
  rw [show (valL [t,.v (.int .i64 o)]).toArray = #[lv,.int .i64 o] by simp [valL,h2,val]] at this
  refine this.mono ?_
  rintro e w' ⟨t',rfl,he,hb,hf⟩
  obtain ⟨t1,rfl,hs⟩:=tu2 he
  obtain ⟨a,cap,e1,e2,e3⟩:=arc_tree hs hf.mem.2.1 (fun c hc => ((hf.own c).2 (by simp only [cnt,cntL]; omega)).2)
  refine ⟨⟨a,cap,?_,fun x hx hl => ((hf.own x.block).2 (by have:=e2 x hx hl; simp only [cnt,cntL]; omega)).1,e3⟩,hb⟩
  show Ending.returned (Value.tuple (valL [t1,.v _]).toArray) = _
  rw [valL,valL,valL,e1]
  rfl
end Go.Mx
namespace Go.Mx
set_option linter.unusedVariables false
set_option linter.unusedSimpArgs false
set_option linter.unusedSectionVars false
open Go Go.RowKit Go.Lib Go.Sort
section
variable {P : Program}
theorem append_where (w : World) (base t ty e : Nat) (i : TypeInfo) (z : Value) (size bytes : Nat) (ht : P.underlying t = some (.slice e)) (hi : P.info? e = some i) (hz : i.zero = some z) (hsize : i.size = size) (hby : i.bytes = bytes)
    (v : Value) (n : Nat) (xs : List Value) (hown : w.ownsRow base e size v n xs) (ad : Addr) (m c : Nat) (hm : 0 < m) (news : List Value) (hl : news.length = m * size) (hnews : ∀ j u,news[j]? = some u→w.cell? (ad.add j) = some u) (h1 : ∀ u ∈ news,u.oneCell' = true)
    (h63 : n + m ≤ maxLen) (hbytes : (n + m) * bytes ≤ 140737488355328) (v' : Value) (w' : World)
    (hr : (Builtin.append_ #[t,t] ty #[v,.slice (some ad) m c]).run P w = .ok v' w') : v'.ownBlock = v.ownBlock ∨ v'.ownBlock = some w.heap.size:=by
  have hsmall : n + m ≤ 9223372036854775807:=by simp only [maxLen] at h63; omega
  subst hsize hby
  rcases hown.2 with ⟨rfl,rfl⟩ | ⟨g,cap,cur,rfl,hbg,hg,hnc,hcm,hcs,htake⟩
  · have hq:=run_append_nil (P:=P) w t ty e i z ht hi hz ad m c news hl hnews (by omega) (by omega) (by have hb:=hbytes; simp only [Nat.zero_add] at hb; omega)
    rw [hq] at hr
    cases hr
    exact .inr rfl
  · by_cases hroom : n + m ≤ cap
    · have hfit : n * i.size + news.length ≤ cur.size:=by rw [hl,hcs,← Nat.add_mul]; exact Nat.mul_le_mul_right _ hroom
      rw [run_append_room (P:=P) w t ty e i ht hi g n cap cur hg ad m c news hl hnews h1 hroom hfit] at hr
      cases hr
      exact .inl rfl
    · rw [run_append_grow (P:=P) w t ty e i z ht hi hz ⟨g,0,none⟩ n cap xs hown.1 (hown.cells (g:=g) rfl) ad m c news hl hnews (by omega) (by omega) (growslice_fits (by omega) hbytes)] at hr
      cases hr
      exact .inr rfl
theorem wpList_append_at {w : World} {ops : Array Oper} {rest : List Oper} {o : Oper} {a : Act} {Q : Exit→Act→World→Prop} (hgd : o.guard = none) (s x : Operand) (t : TypeId)
    (ho : o.op = .call { callee:=.builtin .append,args:=#[s,x],argTypes:=#[t,t] })
    (base : Nat) (e : TypeId) (i : TypeInfo) (z : Value) (size bytes : Nat) (ht : P.underlying t = some (.slice e)) (hi : P.info? e = some i) (hz : i.zero = some z)
    (hsize : i.size = size) (hby : i.bytes = bytes) (hzs : z.cells.size = size) (hsz : 0 < size)
    (v : Value) (n : Nat) (xs : List Value) (hs : a.eval s = v) (hown : w.ownsRow base e size v n xs)
    (ad : Addr) (m c : Nat) (hm : 0 < m) (news : List Value) (hx : a.eval x = .slice (some ad) m c) (hl : news.length = m * size) (hnews : ∀ j u,news[j]? = some u→w.cell? (ad.add j) = some u) (h1 : ∀ u ∈ news,u.oneCell' = true)
    (h63 : n + m ≤ maxLen) (hbytes : (n + m) * bytes ≤ 140737488355328) (hbase : base ≤ w.heap.size)
    (h : ∀ v' w',w'.ownsRow base e size v' (n + m) (xs ++ news)→w.grownBy w' v.ownBlock→(v'.ownBlock = v.ownBlock ∨ v'.ownBlock = some w.heap.size)→wpList P ops Q rest (a.put o.dst v') w') : wpList P ops Q (o :: rest) a w:=by
  refine wpList_plain hgd fun _ hK => ?_
  obtain ⟨v',w',hr,h2,h3,_⟩:=run_append_own (P:=P) w base t o.type e i z size bytes ht hi hz hsize hby hzs hsz v n xs hown ad m c news hl hnews h1 h63 hbytes hbase
  have hw:=append_where (P:=P) w base t o.type e i z size bytes ht hi hz hsize hby v n xs hown ad m c hm news hl hnews h1 h63 hbytes v' w' hr
  unfold Oper.wp execOp
  simp only [ho,resolve,invoke,builtin,Sem.run_bind,Sem.run_pure,Result.andThen_ok,List.map_toArray,List.map_cons,List.map_nil,hs,hx,hr]
  exact hK _ _ (h v' w' h2 h3 hw)
end
def ArcsAt (a : Option Addr) (L : List (Int × Int)) (w : World) : Prop:=∀ i,i < L.length→∃ x,a = some x∧(x.add (i * 2)).block < w.heap.size∧w.cell? (x.add (i * 2)) = some (.int .i64 (nth L (0,0) i).1)∧w.cell? ⟨(x.add (i * 2)).block,(x.add (i * 2)).off + 1,none⟩ = some (.int .i64 (nth L (0,0) i).2)
theorem cell_keep {w w' : World} {x : Addr} (h : w'.heap[x.block]? = w.heap[x.block]?) : w'.cell? x = w.cell? x:=by simp [World.cell?,h]
theorem blk_add (a : Addr) (n : Nat) : (a.add n).block = a.block:=by unfold Addr.add; split <;> rfl
theorem ArcsAt.keep {a : Option Addr} {L : List (Int × Int)} {w w' : World} (h : ArcsAt a L w) (hz : w.heap.size ≤ w'.heap.size) (hk : ∀ x,a = some x→x.block < w.heap.size→w'.heap[x.block]? = w.heap[x.block]?) : ArcsAt a L w':=fun i hi => by
  obtain ⟨x,h1,h2,h3,h4⟩:=h i hi
  rw [blk_add] at h2
  have e:=hk x h1 h2
  exact ⟨x,h1,by rw [blk_add]; omega,(cell_keep (w:=w) (w':=w') (x:=x.add (i * 2)) (by rw [blk_add]; exact e)).trans h3,(cell_keep (w:=w) (w':=w') (x:=⟨(x.add (i * 2)).block,(x.add (i * 2)).off + 1,none⟩) (by simpa [blk_add] using e)).trans h4⟩
end Go.Mx
