import Derived.Test.YthahhbbfhohhfaaMgQ
import Derived.KernelRfl
import Derived.Laws.CopyOwn
import Derived.OwnWalk
import Derived.Laws.EntriesVeiled
import Derived.Test.YthahhbbfhohhfaaMgJ
import Derived.Test.YthahhbbfhohhfaaMgM
/-
  slices.Repeat of one number,by hand.
-/
namespace Go.Mx
set_option linter.unusedVariables false
set_option linter.unusedSimpArgs false
set_option linter.unusedSectionVars false
open Go Go.RowKit
theorem t61_0 : S0 3 45 [.v (.int .u64 1),.v (.int .u64 0)] = some (.nd .tu [.v (.int .u64 0),.v (.int .u64 0)]):=by kernel_rfl
theorem t61_1 : S0 3 45 [.v (.int .u64 1),.v (.int .u64 1)] = some (.nd .tu [.v (.int .u64 0),.v (.int .u64 1)]):=by kernel_rfl
theorem t61_2 : S0 3 45 [.v (.int .u64 1),.v (.int .u64 2)] = some (.nd .tu [.v (.int .u64 0),.v (.int .u64 2)]):=by kernel_rfl
theorem t61_3 : S0 3 45 [.v (.int .u64 1),.v (.int .u64 3)] = some (.nd .tu [.v (.int .u64 0),.v (.int .u64 3)]):=by kernel_rfl
theorem t61_4 : S0 3 45 [.v (.int .u64 1),.v (.int .u64 4)] = some (.nd .tu [.v (.int .u64 0),.v (.int .u64 4)]):=by kernel_rfl
theorem t61_5 : S0 3 45 [.v (.int .u64 1),.v (.int .u64 5)] = some (.nd .tu [.v (.int .u64 0),.v (.int .u64 5)]):=by kernel_rfl
theorem t61_6 : S0 3 45 [.v (.int .u64 1),.v (.int .u64 6)] = some (.nd .tu [.v (.int .u64 0),.v (.int .u64 6)]):=by kernel_rfl
theorem t61_7 : S0 3 45 [.v (.int .u64 1),.v (.int .u64 7)] = some (.nd .tu [.v (.int .u64 0),.v (.int .u64 7)]):=by kernel_rfl
theorem t61_8 : S0 3 45 [.v (.int .u64 1),.v (.int .u64 8)] = some (.nd .tu [.v (.int .u64 0),.v (.int .u64 8)]):=by kernel_rfl
theorem t61_9 : S0 3 45 [.v (.int .u64 1),.v (.int .u64 9)] = some (.nd .tu [.v (.int .u64 0),.v (.int .u64 9)]):=by kernel_rfl
theorem t61_10 : S0 3 45 [.v (.int .u64 1),.v (.int .u64 10)] = some (.nd .tu [.v (.int .u64 0),.v (.int .u64 10)]):=by kernel_rfl
theorem t61_11 : S0 3 45 [.v (.int .u64 1),.v (.int .u64 11)] = some (.nd .tu [.v (.int .u64 0),.v (.int .u64 11)]):=by kernel_rfl
theorem t61_12 : S0 3 45 [.v (.int .u64 1),.v (.int .u64 12)] = some (.nd .tu [.v (.int .u64 0),.v (.int .u64 12)]):=by kernel_rfl
theorem t61 : ∀ n : Nat,n ≤ 12→S0 3 45 [.v (.int .u64 1),.v (.int .u64 (n : Int))] = some (.nd .tu [.v (.int .u64 0),.v (.int .u64 (n : Int))])
  | 0,_ => t61_0
  | 1,_ => t61_1
  | 2,_ => t61_2
  | 3,_ => t61_3
  | 4,_ => t61_4
  | 5,_ => t61_5
  | 6,_ => t61_6
  | 7,_ => t61_7
  | 8,_ => t61_8
  | 9,_ => t61_9
  | 10,_ => t61_10
  | 11,_ => t61_11
  | 12,_ => t61_12
  | n + 13,h => absurd h (by omega)
theorem mul_calls (n : Nat) (hn : n ≤ 12) (w : World) : Calls Go.Proofs.Try.prog 45 #[.int .u64 1,.int .u64 (n : Int)] w fun e w' => e = .returned (.tuple #[.int .u64 0,.int .u64 (n : Int)])∧Below w.heap.size w w':=by
  have:=((sem_ok (g:=Glob.none) tbl_ok 6000 3).reg 45 _ _ (by decide) (t61 n hn)).2 [.v (.int .u64 1),.v (.int .u64 (n : Int))] w (Glob.none_at w) rfl ⟨trivial,trivial,trivial⟩ (fun b hb => absurd rfl hb)
  refine Calls.mono this ?_
  rintro e w' ⟨t,rfl,ht,hb,_⟩
  refine ⟨?_,hb⟩
  obtain ⟨k,kids,rfl,hk,hkids⟩:=er_eq_nd ht
  have hk' : k = .tu:=by cases k <;> simp [K.er] at hk ⊢
  subst hk'
  match kids,hkids with
  | [a,b],h =>
    simp only [erL,List.cons.injEq,and_true] at h
    have ha:=er_eq_v h.1
    have hb:=er_eq_v h.2
    subst ha hb
    rfl
  | [],h => simp [erL] at h
  | [a],h => simp [erL] at h
  | _ :: _ :: _ :: _,h => simp [erL] at h
def repL (n m : Nat) : List Value:=(List.replicate m (.int .i64 (-1)) ++ List.replicate (n - m) (.int .i64 0))
theorem repL_len (n m : Nat) (h : m ≤ n) : (repL n m).length = n:=by simp [repL]; omega
theorem repL_get (n m : Nat) {i : Nat} (h : i < m) : (repL n m)[i]? = some (.int .i64 (-1)):=by
  unfold repL
  rw [List.getElem?_append_left (by simpa using h),List.getElem?_replicate,if_pos h]
theorem repL_splice (n m c : Nat) (h : m + c ≤ n) : splice (repL n m) m (List.replicate c (.int .i64 (-1))) = repL n (m + c):=by
  unfold splice repL
  rw [List.take_append_of_le_length (by simp),List.take_of_length_le (by simp),List.length_replicate,List.drop_append,List.drop_replicate,List.drop_replicate,List.length_replicate]
  rw [show m - (m + c) = 0 by omega,show n - m - (m + c - m) = n - (m + c) by omega,List.replicate_zero,List.nil_append,← List.append_assoc,List.replicate_append_replicate]
theorem made_rep (n : Nat) : (madeCells (Value.int .i64 0).cells (n * 1)).toList = repL n 0:=by
  apply List.ext_getElem?
  intro i
  simp only [madeCells,repL,List.replicate_zero,List.nil_append,Nat.sub_zero]
  by_cases h : i < n
  · simp [Value.cells,h,Nat.mod_one]
  · simp [Value.cells,h]
theorem owns_whole {w : World} {base g n : Nat} {l : List Value} (h : w.ownsRow base 3 1 (.slice (some ⟨g,0,none⟩) n n) n l) : w.heap[g]? = some (.cells l.toArray 3 (0,0)):=by
  obtain ⟨h1,h2⟩:=h
  rcases h2 with ⟨h2,_⟩ | ⟨g',cap,cur,he,_,hh,_,_,hs,ht⟩
  · cases h2
  · simp only [Value.slice.injEq,Option.some.injEq,Addr.mk.injEq,and_true,true_and] at he
    obtain ⟨rfl,rfl⟩:=he
    rw [hh,← ht,List.take_of_length_le (by simp; omega)]
set_option maxRecDepth 20000 in
set_option maxHeartbeats 400000 in
theorem repeat_any (n : Nat) (hn : n ≤ 12) (ad : Addr) (cap : Nat) (w : World) (hc : w.cell? ad = some (.int .i64 (-1))) :
    Calls Go.Proofs.Try.prog 19 #[.slice (some ad) 1 cap,.int .i64 (n : Int)] w fun e w' => ∃ bS,e = .returned (.slice (some ⟨bS,0,none⟩) n n)∧w'.heap[bS]? = some (.cells (repL n n).toArray 3 (0,0))∧w.heap.size ≤ bS∧Below w.heap.size w w':=by
  obtain ⟨i0,hi,hz0,hz1,hz2⟩:=info_parts info3
  have hsz : (Go.Proofs.Try.prog.info? 3).map (·.size) = some 1:=by rw [hi]; simp [hz1]
  have hsrc : ∀ (wq : World) (k : Nat),wq.cell? ad = some (.int .i64 (-1))→∀ j v,(List.replicate (min 1 k) (Value.int .i64 (-1)))[j]? = some v→wq.cell? (ad.add j) = some v:=by
    intro wq k hq j v hj
    rw [List.getElem?_replicate] at hj
    split at hj
    · obtain rfl : j = 0:=by omega
      cases hj
      have : ad.add 0 = ad:=by unfold Addr.add; split <;> simp_all
      rw [this]; exact hq
    · cases hj
  have hbig : decide ((9223372036854775807 : Int) < (n : Int)) = false:=by simp; omega
  go_enter Go.Proofs.Try.func19,Go.Proofs.Try.ntmps19
  go_wp2_with fail
  refine (mul_calls n hn w).mono ?_
  rintro e w1 ⟨rfl,hb1⟩
  have hcell:=cell_later hb1 hc
  go_wp2_with (first
    | (at_make; refine wpList_make_full _ rfl (.tmp 29) (.tmp 29) 34 rfl w1.heap.size 3 i0 (.int .i64 0) 1 Go.Proofs.Try.underlying34 hi hz0 hz1 .i64 .i64 (n : Int) (n : Int) n rfl rfl rfl rfl (by rw [hz2]; omega) (by unfold maxLen; omega) (Nat.le_refl _) ?_; intro w2 hown hgrow; have HG2 : Hid (w2.heap[w1.heap.size]? = some (.cells (repL n 0).toArray 3 (0,0))):=(by have h:=owns_whole hown; rw [made_rep] at h; exact h); have hb2 : Below w1.heap.size w1 w2:=grown_none hgrow; have hc2:=cell_later hb2 hcell; clear hown hgrow)
    | (refine wpList_copy_splice (o:=⟨some 33,_,_,_,_,_⟩) rfl (.tmp 31) (.tmp 32) 34 34 rfl 3 Go.Proofs.Try.underlying34 hsz (some ⟨w1.heap.size,0,none⟩) (some ad) n n 1 cap rfl rfl w1.heap.size 0 (repL n 0) 3 HG2.out (List.replicate (min 1 n) (.int .i64 (-1))) (by simp) (fun _ => ⟨rfl,ad,rfl,hsrc _ _ hc2⟩) (by rw [repL_len _ _ (Nat.zero_le _)]; simp; omega) (by simp [Value.oneCell']) w1.heap.size w1 hb2 (Nat.le_refl _) ?_; intro w3 hG3 hb3)
    | fail)
  have HG3' : Hid (w3.heap[w1.heap.size]? = some (.cells (repL n (min 1 n)).toArray 3 (0,0))):=by
    have:=hG3.out
    rw [repL_splice n 0 _ (by omega),Nat.zero_add] at this
    exact this
  clear hG3 HG2
  have hsz' : (List.replicate (min 1 n) (Value.int IntKind.i64 (-1))).length = min 1 n:=by simp
  clear hbig
  go_loopg [8] n (fun k p wr => ∃ m : Nat,m + k ≤ n + 1∧m ≤ n∧n ≤ m + k∧(0 < m ∨ n = 0)∧p = .int .i64 (m : Int)∧wr.heap[w1.heap.size]? = some (.cells (repL n m).toArray 3 (0,0))∧Below w1.heap.size w1 wr)
  case atStart => exact ⟨min 1 n,by omega,by omega,by omega,by omega,by simp [goInt],HG3'.out,hb3⟩
  case round =>
    obtain ⟨m,hm0,hm1,hm2,hm3,rfl,hg,hb⟩:=hrel
    have HG:=Lib.hid hg
    have HB:=Lib.hid hb
    clear hg hb HG3' hb3 hc2 hb2
    by_cases hlt : m < n
    · have hD : Hid (Below w1.heap.size w1 wr.drew):=HB.out.drew
      have hGd : Hid (wr.drew.heap[w1.heap.size]? = some (.cells (repL n m).toArray 3 (0,0))):=HG.out
      have hcs : Hid (∀ j v,(List.replicate (min m (n - m)) (Value.int .i64 (-1)))[j]? = some v→wr.drew.cell? ((⟨w1.heap.size,0,none⟩ : Addr).add j) = some v):=by
        intro j v hj
        rw [List.getElem?_replicate] at hj
        split at hj
        · cases hj
          have hadd : (⟨w1.heap.size,0,none⟩ : Addr).add j = ⟨w1.heap.size,j,none⟩:=by unfold Addr.add; split <;> simp_all
          have:=HG.out
          rw [hadd]
          show (World.cell? _ _) = _
          have h2:=repL_get n m (i:=j) (by omega)
          simp only [World.cell?,World.drew,this]
          simpa using h2
        · cases hj
      obtain ⟨c,hc0⟩ : ∃ c,c = min m (n - m):=⟨_,rfl⟩
      rw [← hc0] at hcs
      have hc1 : c ≤ m:=by omega
      have hc2' : m + c ≤ n:=by omega
      have hc3 : 0 < c:=by omega
      have hne : ¬ (n = m):=by omega
      have hcl : (List.replicate c (Value.int IntKind.i64 (-1))).length = c:=by simp
      have hmin : c = Nat.min m (n - m):=hc0
      have HMin:=Lib.hid hmin
      have hw : IntKind.i64.wrap ((m : Int) + (c : Int)) = ((m + c : Nat) : Int):=by rw [wrap_eq (by unfold I64; omega)]; rfl
      clear hc0 hmin
      go_wp2_with fail
      go_region_law (refine step_copy_splice rfl (.tmp 41) (.tmp 44) 34 34 rfl 3 Go.Proofs.Try.underlying34 hsz (some ⟨w1.heap.size,m,none⟩) (some ⟨w1.heap.size,0,none⟩) (n - m) (n - m) m n (by simp [Act.eval,Act.put]) (by simp [Act.eval,Act.put]) w1.heap.size m (repL n m) 3 hGd.out (List.replicate c (.int .i64 (-1))) (by rw [hcl]; exact HMin.out) (fun _ => ⟨rfl,_,rfl,hcs.out⟩) (by rw [repL_len _ _ hm1,hcl]; exact hc2') (by simp [Value.oneCell']) w1.heap.size w1 hD.out (Nat.le_refl _) ?_; intro w4 hG4 hb4)
      all_goals
        have hG4' : Hid (w4.heap[w1.heap.size]? = some (.cells (repL n (m + c)).toArray 3 (0,0))):=by
          have:=hG4.out
          rw [repL_splice n m c hc2'] at this
          exact this
        go_wp2_with fail
        go_roundg (gk - c)
        case measure => omega
        case rel => exact ⟨m + c,by omega,by omega,by omega,by omega,rfl,hG4'.out,hb4⟩
    · have hmn : m = n:=by omega
      subst hmn
      go_wp2_with fail
      go_ret
      exact ⟨_,rfl,HG.out,hb1.size,below_trans hb1 HB.out⟩
end Go.Mx
namespace Go.Mx
set_option linter.unusedVariables false
set_option linter.unusedSimpArgs false
set_option linter.unusedSectionVars false
open Go Go.RowKit
def tailN : Nat→Code→Code
  | n + 1,.seq _ b => tailN n b
  | _,c => c
def firstN : Code→Code
  | .seq a _ => a
  | c => c
def compT (P : Program) (hints : List (List Bool)) (f k : Nat) (one : Bool) : Option MF :=
  match P.funcs[f]? with
  | some fn => match fn.body with
    | some c => match compC P hints (if one then firstN (tailN k c) else tailN k c),resSlots P fn.results.toList with
      | some (mc,_),some rs => some ⟨mc,fn.ntmps,rs⟩
      | _,_ => none
    | none => none
  | none => none
theorem compT_inv {P : Program} {hints : List (List Bool)} {f k : Nat} {one : Bool} {mf : MF} (h : compT P hints f k one = some mf) :
    ∃ fn c hh,P.funcs[f]? = some fn∧fn.body = some c∧compC P hints (if one then firstN (tailN k c) else tailN k c) = some (mf.code,hh)∧resSlots P fn.results.toList = some mf.res:=by
  unfold compT at h
  split at h
  · rename_i fn hfn
    split at h
    · rename_i c hb
      split at h
      · rename_i mc hh rs h1 h2
        cases h
        exact ⟨fn,c,hh,hfn,hb,h1,h2⟩
      · cases h
    · cases h
  · cases h
theorem Keep.of_below {g : Glob} {w0 w : World} {hg : g.At w0} (h : Below w0.heap.size w0 w) : Keep (.ent g w0 hg) w:=⟨h.os,h.tape,h.output,h.size,fun k hk _ => h.block k hk,Nat.le_refl _⟩
theorem Rel.dead {E : Env} {tm : Array Value} {w : World} (hk : Keep E w) : Rel E (List.replicate tm.size .dead) (List.replicate tm.size (.v undef)) tm w:=by
  have hz : ∀ n b,cntL b (List.replicate n (.v undef : C)) = 0:=by
    intro n b
    induction n with
    | zero => rfl
    | succ n ih => simp [List.replicate_succ,cntL,cnt,ih]
  refine ⟨by simp,by simp,?_,?_,fun b => by rw [hz]; omega,fun b hb => absurd (hz _ b) hb,hk⟩
  · intro i x u hx hu
    rw [List.getElem?_replicate] at hx
    split at hx
    · rename_i hi
      cases hx
      exact ⟨trivial,undef,by rw [List.getElem?_replicate,if_pos hi]⟩
    · cases hx
  · intro i t ht
    rw [List.getElem?_replicate] at ht
    split at ht
    · simp only [Option.some.injEq] at ht; subst ht; trivial
    · cases ht
theorem Rel.know {E : Env} {st : St} {ts : List C} {tm : Array Value} {w : World} (h : Rel E st ts tm w) (i : Nat) {t : C} (hd : st[i]? = some .dead) (hn : ∃ k kids,t = .nd k kids) (hm : Mem w true t) (hv : tm[i]? = some (val t))
    (hc : ∀ b,cnt b t ≠ 0→cntL b ts = 0∧cnt b t ≤ 1∧¬ Old E b∧b < w.heap.size) : Rel E (st.set i (.own (er t))) (ts.set i t) tm w:=by
  have h1:=h.setOwn i hn hm hc
  have e1 : setv st i (.own (er t)) = st.set i (.own (er t)):=by simp [setv,hd]
  have e2 : tm.setIfInBounds i (val t) = tm:=by
    apply Array.ext_getElem?
    intro j
    rw [Array.getElem?_setIfInBounds]
    split
    · rename_i hj
      subst hj
      split
      · exact hv.symm
      · rename_i hn
        rw [Array.getElem?_eq_none (Nat.le_of_not_lt hn)] at hv
        cases hv
    · rfl
  rw [e1,e2] at h1
  exact h1
theorem part_ends {P : Program} {call : Oracle} {g : Glob} (hc : CallsOK P g call) {fuel : Nat} {f k : Nat} {hints : List (List Bool)} {mf : MF} (hf : compT P hints f k false = some mf) {fn : Func} (hfn : P.funcs[f]? = some fn) {tail : Code} (ht : fn.body.map (tailN k) = some tail)
    {w0 w : World} {hg : g.At w0} {st : St} {ts : List C} {a : Act} (hr : Rel (.ent g w0 hg) st ts a.tmps w) (hdef : a.defers = []) {d : D} (h : fk (run call fuel mf.code st) (fun st => resF st mf.res) = some d) {Post : Ending→World→Prop}
    (hp : ∀ e w',(∃ t,e = .returned (val t)∧er t = d∧Below w0.heap.size w0 w'∧FreshT w0 w' t)→Post e w') : tail.wp P (bodyPost P fn Post) a w:=by
  obtain ⟨fn',c,hh,h1,h2,h3,hrs⟩:=compT_inv hf
  rw [hfn] at h1
  cases h1
  rw [h2] at ht
  simp only [Option.map_some,Option.some.injEq] at ht
  simp only [Bool.false_eq_true,if_false] at h3
  rw [ht] at h3
  obtain ⟨ex,st',hrun,hex,hres⟩ : ∃ ex st',run call fuel mf.code st = some (ex,st')∧(ex = .norm ∨ ex = .ret)∧resF st' mf.res = some d:=by
    unfold fk at h
    split at h
    · rename_i st1 h1; exact ⟨_,_,h1,.inl rfl,h⟩
    · rename_i st1 h1; exact ⟨_,_,h1,.inr rfl,h⟩
    · cases h
  refine run_ok (F:=fun _ => False) hc tail hints hh mf.code (fun i hi => hi.elim) h3 hr hrun ?_
  intro a' w' ts' hd hr'
  have key : a'.defers = []∧∃ v,(results fn a'.tmps).run P w' = .ok v w'∧Post (.returned v) w':=by
    refine ⟨hd.df.trans hdef,?_⟩
    obtain ⟨t,q1,q2,q3,q4⟩:=resF_ok hrs hr' hres
    refine ⟨_,q1,hp _ _ ⟨t,rfl,q2,⟨hr'.keep.os,hr'.keep.tape,hr'.keep.output,hr'.keep.size,fun k hk => hr'.keep.block k hk fun h => h⟩,q3,?_⟩⟩
    intro b
    have h6:=q4 b
    have h7:=hr'.uniq b
    refine ⟨by omega,fun hne => ?_⟩
    obtain ⟨h8,h9⟩:=hr'.dom b (by omega)
    refine ⟨?_,h9⟩
    rcases Nat.lt_or_ge b w0.heap.size with h10 | h10
    · exact absurd ⟨h10,fun h => h⟩ h8
    · exact h10
  rcases hex with rfl | rfl
  · exact key
  · exact key
def hints929 : List (List Bool):=[bits 83 [2,8,11],bits 83 [2,8,11,43,44,45],bits 83 [2,8,11],bits 83 [2,8,11,43,44,45],bits 83 [14],bits 83 [8,11,14,57,58],bits 83 [14],bits 83 [8,11,14,57,58],bits 83 [8,11,14,57,58],bits 83 [8,11,14,16,57,58],bits 83 [8,11,14,16,17,57,58],bits 83 [8,11,14,16,57,58],bits 83 [8,11,14,16,17,57,58],bits 83 [4,5]]
@[simp] def r929 : List Bool:=bits 83 [4,5]
@[simp] def R929 (s4 s5 : V) : St:=tab 83 59 (fu (fu dd 5 s5) 4 s4) dd
@[simp] def x929_0 : List Bool:=bits 83 [2,8,11]
@[simp] def X929_0 (s2 s8 s11 : V) : St:=tab 83 59 (fu (fu (fu dd 11 s11) 8 s8) 2 s2) dd
@[simp] def h929_0 : List Bool:=bits 83 [2,8,11,43,44,45]
@[simp] def L929_0 (s2 s8 s11 s18 s38 s50 : V) : St:=tab 83 59 (fu (fu (fu (fu (fu (fu dd 45 s50) 44 s38) 43 s18) 11 s11) 8 s8) 2 s2) dd
@[simp] def x929_1 : List Bool:=bits 83 [2,8,11,43,44,45]
@[simp] def X929_1 (s2 s8 s11 s18 s38 s50 : V) : St:=tab 83 59 (fu (fu (fu (fu (fu (fu dd 45 s50) 44 s38) 43 s18) 11 s11) 8 s8) 2 s2) dd
def b929_0 : MC:=.seq (.scr h929_0)
 (.seq (.ops [⟨none,.bin 46 .lss .num (.t 45) (.t 44)⟩])
 (.seq (.cnd (.t 46)
   .skip
   (.seq (.scr x929_0) (.ex 2)))
 (.seq (.seq (.blk 3 (.seq (.ops [⟨none,.mv 47 (.t 45)⟩,
     ⟨none,.ixs 48 1 (.t 43) (.t 45)⟩,
     ⟨none,.ld1 49 (.t 48)⟩,
     ⟨none,.asg 12 (.t 47)⟩,
     ⟨none,.asg 13 (.t 49)⟩])
   (.seq (.ops [⟨none,.mv 50 (.t 13)⟩,
     ⟨none,.bin 51 .geq .num (.t 50) (.c (.v (.int .i64 0)))⟩])
   (.cnd (.t 51)
    (.ops [⟨none,.mv 52 (.t 11)⟩,
     ⟨none,.mv 53 (.t 13)⟩,
     ⟨none,.mv 54 (.t 12)⟩,
     ⟨none,.ixs 55 1 (.t 52) (.t 53)⟩,
     ⟨none,.stn none 1 (.t 55) (.t 54)⟩])
    .skip)))) (.scr x929_1))
 (.ops [⟨none,.bin 56 .add .num (.t 45) (.c (.v (.int .i64 1)))⟩,
  ⟨none,.mv 45 (.t 56)⟩]))))
@[simp] def x929_2 : List Bool:=bits 83 [14]
@[simp] def X929_2 (s14 : V) : St:=tab 83 59 (fu dd 14 s14) dd
@[simp] def h929_1 : List Bool:=bits 83 [8,11,14,57,58]
@[simp] def L929_1 (s8 s11 s14 s41 s42 : V) : St:=tab 83 59 (fu (fu (fu (fu (fu dd 58 s42) 57 s41) 14 s14) 11 s11) 8 s8) dd
@[simp] def x929_3 : List Bool:=bits 83 [8,11,14,57,58]
@[simp] def X929_3 (s8 s11 s14 s41 s42 : V) : St:=tab 83 59 (fu (fu (fu (fu (fu dd 58 s42) 57 s41) 14 s14) 11 s11) 8 s8) dd
@[simp] def x929_4 : List Bool:=bits 83 [8,11,14,16,57,58]
@[simp] def X929_4 (s8 s11 s14 s16 s41 s42 : V) : St:=tab 83 59 (fu (fu (fu (fu (fu (fu dd 58 s42) 57 s41) 16 s16) 14 s14) 11 s11) 8 s8) dd
@[simp] def h929_2 : List Bool:=bits 83 [8,11,14,16,17,57,58]
@[simp] def L929_2 (s8 s11 s14 s16 s17 s41 s42 : V) : St:=tab 83 59 (fu (fu (fu (fu (fu (fu (fu dd 58 s42) 57 s41) 17 s17) 16 s16) 14 s14) 11 s11) 8 s8) dd
@[simp] def x929_5 : List Bool:=bits 83 [8,11,14,16,17,57,58]
@[simp] def X929_5 (s8 s11 s14 s16 s17 s41 s42 : V) : St:=tab 83 59 (fu (fu (fu (fu (fu (fu (fu dd 58 s42) 57 s41) 17 s17) 16 s16) 14 s14) 11 s11) 8 s8) dd
def b929_2 : MC:=.seq (.scr h929_2)
 (.seq (.seq (.ops [⟨none,.mv 67 (.t 17)⟩,
    ⟨none,.bin 68 .geq .num (.t 67) (.c (.v (.int .i64 0)))⟩])
  (.cnd (.t 68)
   .skip
   (.seq (.scr x929_4) (.ex 6))))
 (.seq (.seq (.blk 7 (.ops [⟨none,.mv 73 (.t 16)⟩,
    ⟨none,.mv 74 (.t 17)⟩,
    ⟨none,.bs 75 1 1 [(.v (.int .i64 0))] [(0,1,(.t 74))]⟩,
    ⟨none,.app 76 1 (.t 73) (.t 75)⟩,
    ⟨none,.asg 16 (.t 76)⟩])) (.scr x929_5))
 (.ops [⟨none,.mv 69 (.t 11)⟩,
  ⟨none,.mv 70 (.t 17)⟩,
  ⟨none,.ixs 71 1 (.t 69) (.t 70)⟩,
  ⟨none,.ld1 72 (.t 71)⟩,
  ⟨none,.asg 17 (.t 72)⟩])))
def b929_1 : MC:=.seq (.scr h929_1)
 (.seq (.ops [⟨none,.bin 59 .lss .num (.t 58) (.t 57)⟩])
 (.seq (.cnd (.t 59)
   .skip
   (.seq (.scr x929_2) (.ex 4)))
 (.seq (.seq (.blk 5 (.seq (.ops [⟨none,.mv 60 (.t 58)⟩,
     ⟨none,.asg 15 (.t 60)⟩])
   (.seq (.seq (.ops [⟨none,.ld1 61 (.t 8)⟩,
      ⟨none,.mv 62 (.t 15)⟩,
      ⟨none,.ixs 63 1 (.t 61) (.t 62)⟩,
      ⟨none,.ld1 64 (.t 63)⟩,
      ⟨none,.bin 65 .geq .num (.t 64) (.c (.v (.int .i64 0)))⟩])
    (.cnd (.t 65)
     (.seq (.scr x929_3) (.ex 5))
     .skip))
   (.seq (.ops [⟨none,.asg 16 (.c (.nd (.sl true 1 0) []))⟩])
   (.seq (.seq (.ops [⟨none,.mv 66 (.t 15)⟩,
      ⟨none,.asg 17 (.t 66)⟩])
    (.seq (.blk 6 (.lop b929_2)) (.scr x929_4)))
   (.ops [⟨none,.mv 77 (.t 14)⟩,
    ⟨none,.mv 78 (.t 16)⟩,
    ⟨none,.bs 79 1 1 [(.nd (.sl true 1 0) [])] [(0,1,(.t 78))]⟩,
    ⟨none,.app 80 1 (.t 77) (.t 79)⟩,
    ⟨none,.asg 14 (.t 80)⟩])))))) (.scr x929_3))
 (.ops [⟨none,.bin 81 .add .num (.t 58) (.c (.v (.int .i64 1)))⟩,
  ⟨none,.mv 58 (.t 81)⟩]))))
def c929 : MF:=⟨(.seq (.ops [⟨none,.bs 40 1 1 [(.v (.int .i64 0))] [(0,1,(.c (.v (.int .i64 (-1)))))]⟩,
   ⟨none,.ld1 41 (.t 2)⟩,
   ⟨none,.call (some 42) 19 [(.t 40),(.t 41)]⟩,
   ⟨none,.asg 11 (.t 42)⟩])
 (.seq (.seq (.ops [⟨none,.ld1 43 (.t 8)⟩,
    ⟨none,.len 44 false (.t 43)⟩,
    ⟨none,.mv 45 (.c (.v (.int .i64 0)))⟩])
  (.seq (.blk 2 (.lop b929_0)) (.scr x929_0)))
 (.seq (.ops [⟨none,.asg 14 (.c (.nd (.sl true 1 0) []))⟩])
 (.seq (.seq (.ops [⟨none,.ld1 57 (.t 2)⟩,
    ⟨none,.mv 58 (.c (.v (.int .i64 0)))⟩])
  (.seq (.blk 4 (.lop b929_1)) (.scr x929_2)))
 (.seq (.ops [⟨none,.mv 82 (.t 14)⟩,
   ⟨none,.asg 4 (.t 82)⟩,
   ⟨none,.asg 5 (.c (.v (.int .i64 0)))⟩])
 (.seq (.scr r929) .ret)))))),
  83,[4,5]⟩
theorem comp929 : compT Go.Proofs.Try.prog hints929 7 7 false = some c929:=by kernel_rfl
end Go.Mx
namespace Go.Mx
set_option linter.unusedVariables false
set_option linter.unusedSimpArgs false
set_option linter.unusedSectionVars false
open Go Go.RowKit
def base1 : Oracle:=fun f ds => if f = 19 then match ds with
    | [.nd (.sl false 1 1) [.v (.int .i64 (-1))],.v (.int .i64 n)] => if 0 ≤ n∧n ≤ 12 then some (si false (List.replicate n.toNat (-1))) else none
    | _ => none
  else none
theorem base1_at (n : Nat) (hn : n ≤ 12) : base1 19 [si false [-1],.v (.int .i64 (n : Int))] = some (si false (List.replicate n (-1))):=by
  show (if 0 ≤ (n : Int)∧(n : Int) ≤ 12 then some (si false (List.replicate (n : Int).toNat (-1))) else none) = _
  rw [if_pos (by omega),Int.toNat_natCast]
theorem ent49 : Enters Go.Proofs.Try.prog 19:=⟨_,_,Go.Proofs.Try.func19,by kernel_rfl,rfl⟩
theorem row_tree {w : World} {bS n e : Nat} {l : List Int} (k : IntKind) (hl : l.length = n) (h : w.heap[bS]? = some (.cells (l.map (Value.int k)).toArray e (0,0))) :
    ∃ t : C,val t = .slice (some ⟨bS,0,none⟩) n n∧er t = gsl (eI k) false l∧Mem w true t∧∀ c,cnt c t ≤ 1∧(cnt c t ≠ 0→c = bS):=by
  have hkids : ∀ l : List Int,erL (l.map fun x => (T.v (Value.int k x) : C)) = gk (eI k) l:=by
    intro l
    induction l with
    | nil => rfl
    | cons x l ih => show er (T.v (Value.int k x)) :: erL _ = T.v (.int k x) :: gk (eI k) l; rw [ih]; rfl
  have hval:=kids_val (hkids l)
  have hcell : Cells w ⟨bS,0,none⟩ (l.map (Value.int k)):=by
    intro i u hu
    have hadd : (⟨bS,0,none⟩ : Addr).add i = ⟨bS,i,none⟩:=by unfold Addr.add; split <;> simp_all
    rw [hadd]
    simp only [World.cell?,h]
    simpa using hu
  refine ⟨.nd (.sl ⟨some ⟨bS,0,none⟩,n,undef⟩ 1 n) (l.map fun x => T.v (Value.int k x)),rfl,?_,⟨⟨?_,Nat.le_refl _,by simp,?_⟩,?_⟩,fun c => ?_⟩
  · rw [er,hkids,← hl]; rfl
  · rw [hval]; simp [hl]
  · intro a ha
    cases ha
    rw [hval]
    refine ⟨hcell,fun _ _ => ⟨rfl,_,e,0,0,h,?_,.inl rfl⟩⟩
    simp [hl]
  · have : ∀ l : List Int,MemL w true (l.map fun x => (T.v (Value.int k x) : C)):=by
      intro l
      induction l with
      | nil => trivial
      | cons x l ih => exact ⟨trivial,ih⟩
    exact this l
  · rw [cnt,cntL_ints c (hkids l)]
    simp only [K.own,Nat.add_zero]
    split
    · rename_i hx
      simp at hx
      exact ⟨Nat.le_refl _,fun _ => hx.2.symm⟩
    · exact ⟨Nat.zero_le _,fun h => absurd rfl h⟩
theorem repL_whole (n : Nat) : repL n n = (List.replicate n (-1 : Int)).map (Value.int .i64):=by simp [repL]
theorem base1_ok : BaseOK Go.Proofs.Try.prog Glob.none base1:=by
  intro f ds d hlt h
  unfold base1 at h
  split at h
  case isFalse => cases h
  rename_i hf
  subst hf
  split at h
  case h_2 => cases h
  rename_i n0
  split at h
  case isFalse => cases h
  rename_i hx
  cases h
  refine ⟨ent49,fun l w hg he hm _ => ?_⟩
  obtain ⟨n,rfl⟩ : ∃ n : Nat,n0 = n:=⟨n0.toNat,by omega⟩
  match l,he,hm with
  | [tx,tn],he,hm =>
    simp only [erL,List.cons.injEq,and_true] at he
    obtain ⟨h1,h2⟩:=he
    have h2:=er_eq_v h2
    subst h2
    have h1' : er tx = gsl (eI .i64) false [-1]:=h1
    obtain ⟨a,cap,e1,e2,e3,e4,e5⟩:=int_tree h1' hm.1
    obtain ⟨ad,rfl⟩ : ∃ ad,a = some ad:=by cases a with | none => simp at e4 | some ad => exact ⟨ad,rfl⟩
    have hc:=e5 ad rfl 0 _ rfl
    have hadd : ad.add 0 = ad:=by unfold Addr.add; split <;> simp_all
    rw [hadd] at hc
    have:=repeat_any n (by omega) ad cap w hc
    simp only [valL,e1,val]
    refine this.mono ?_
    rintro e w' ⟨bS,rfl,g1,g2,g3⟩
    rw [repL_whole] at g1
    obtain ⟨t,k1,k2,k3,k4⟩:=row_tree (n:=n) .i64 (l:=List.replicate n (-1)) (by simp) g1
    refine ⟨t,by rw [k1],by rw [k2,Int.toNat_natCast],g3,k3,fun c => ⟨(k4 c).1,fun hc => ?_⟩⟩
    obtain rfl:=(k4 c).2 hc
    exact ⟨g2,lt_of_block g1⟩
  | [],he,_ => simp [erL] at he
  | [_],he,_ => simp [erL] at he
  | _ :: _ :: _ :: _,he,_ => simp [erL] at he
end Go.Mx
namespace Go.Mx
set_option linter.unusedVariables false
set_option linter.unusedSimpArgs false
set_option linter.unusedSectionVars false
open Go
@[simp ↓ high] theorem isSc_g' {α : Type} (e : En α) (b : Bool) (l : List α) : isSc (gsl e b l) = false:=rfl
@[simp ↓ high] theorem flat_g' {α : Type} (e : En α) (b : Bool) (l : List α) : flatOk (gsl e b l) = true:=rfl
abbrev eII : En (Bool × List Int):=eL (eI .i64)
abbrev soE (l : List Nat) : D:=si (l.length == 0) (zl l)
theorem soE_snoc (l : List Nat) (v : Nat) : soE (l ++ [v]) = si false (zl l ++ [(v : Int)]):=by
  have : ((l ++ [v]).length == 0) = false:=by simp
  show gsl _ _ _ = _
  rw [this,zl,List.map_append]; rfl
abbrev boN (n : Nat) : D:=.nd (.bx false) [.v (.int .i64 (n : Int))]
abbrev boL (n : Nat) (l : Nat→Option Nat) : D:=.nd (.bx false) [si false (row n (ldZ l))]
def fwO (l : Nat→Option Nat) : Nat→Nat→Option Nat
  | 0 => fun _ => none
  | k + 1 => match l k with
    | some v => ldB (fwO l k) v k
    | none => fwO l k
theorem ldZ_set (n : Nat) (l : Nat→Option Nat) (v k : Nat) : row n (updF (ldZ l) v (k : Int)) = row n (ldZ (ldB l v k)):=row_ext _ fun i _ => by
  unfold updF ldZ ldB
  by_cases h : i = v <;> simp [h]
theorem loop929_0 (call : Oracle) (fuel : Nat) (n : Nat) (hn : n ≤ 12) (l : Nat→Option Nat) (hl : ∀ u v,l u = some v→v < n) (hf : 1000 < fuel) (st : St)
    (h0 : drops st h929_0 = L929_0 (.own (boN n)) (.own (boL n l)) (.own (si false (row n fun _ => -1))) (.ref 8 [0]) (ii n) (ii 0)) :
    run.loopN (run call fuel b929_0) fuel st = some (.ex 2,X929_0 (.own (boN n)) (.own (boL n l)) (.own (si false (row n (ldZ (fwO l n)))))):=by
  refine loop_cnt call fuel h929_0 _ n (fun k => L929_0 (.own (boN n)) (.own (boL n l)) (.own (si false (row n (ldZ (fwO l k))))) (.ref 8 [0]) (ii n) (ii k)) _ (by simp) ?_ (by simp) fuel st h0 (by omega)
  intro k hk
  have hw:=wrap_succ (i:=k) (by omega)
  have e1:=nth_row (n:=n) (g:=ldZ l) 0 hk
  cases hv : l k with
  | none =>
    have e2 : ldZ l k = -1:=by rw [ldZ,hv]
    rw [e2] at e1
    have e3 : fwO l (k + 1) = fwO l k:=by rw [fwO,hv]
    rw [e3]
    generalize row n (ldZ (fwO l k)) = B at *
    simp [hk,hw,e1]
  | some v =>
    have hvn:=hl k v hv
    have e2 : ldZ l k = (v : Int):=by rw [ldZ,hv]
    rw [e2] at e1
    have e3 : fwO l (k + 1) = ldB (fwO l k) v k:=by rw [fwO,hv]
    rw [e3,← ldZ_set]
    generalize ldZ (fwO l k) = B at *
    simp [hk,hw,e1,hvn]
def chF (F : Nat→Option Nat) : Nat→Option Nat→List Nat
  | 0,_ => []
  | _ + 1,none => []
  | k + 1,some v => v :: chF F k (F v)
def mO (mu : Nat→Nat) : Option Nat→Nat
  | none => 0
  | some v => mu v + 1
theorem chF_stop {F : Nat→Option Nat} {mu : Nat→Nat} (hF : ∀ v u,F v = some u→mu u < mu v) : ∀ (k : Nat) (u : Option Nat),mO mu u ≤ k→chF F k u = chF F (mO mu u) u
  | 0,u,h => by
    have : mO mu u = 0:=by omega
    rw [this]
  | k + 1,none,h => by simp [chF,mO]
  | k + 1,some v,h => by
    have hk : mu v ≤ k:=by simpa [mO] using h
    simp only [mO,chF]
    congr 1
    have hm : mO mu (F v) ≤ mu v:=by
      cases hv : F v with
      | none => simp [mO]
      | some u => have:=hF v u hv; simp only [mO]; omega
    rw [chF_stop hF k (F v) (by omega),chF_stop hF (mu v) (F v) hm]
theorem loop929_2 (call : Oracle) (fuel : Nat) (n : Nat) (hn : n ≤ 12) (F : Nat→Option Nat) (mu : Nat→Nat) (hF : ∀ v u,F v = some u→u < n∧mu u < mu v) (hmu : ∀ v,mu v ≤ 50) (s8 s14 : D) (s41 s42 : Int) (hf : 1000 < fuel) (v : Nat) (hv : v < n) (st : St)
    (h0 : drops st h929_2 = L929_2 (.own s8) (.own (si false (row n (ldZ F)))) (.own s14) (.own (soE [])) (ii v) (ii s41) (ii s42)) :
    run.loopN (run call fuel b929_2) fuel st = some (.ex 6,X929_4 (.own s8) (.own (si false (row n (ldZ F)))) (.own s14) (.own (soE (chF F (mu v + 1) (some v)))) (ii s41) (ii s42)):=by
  have h0' : drops st h929_2 = (fun q : List Nat × Option Nat => L929_2 (.own s8) (.own (si false (row n (ldZ F)))) (.own s14) (.own (soE q.1)) (ii (ldZ (fun _ => q.2) 0)) (ii s41) (ii s42)) ([],some v):=h0
  refine loop_iter call fuel h929_2 _ (fun q : List Nat × Option Nat => (∀ v,q.2 = some v→v < n)∧q.1.length + mO mu q.2 ≤ 60) (fun q => L929_2 (.own s8) (.own (si false (row n (ldZ F)))) (.own s14) (.own (soE q.1)) (ii (ldZ (fun _ => q.2) 0)) (ii s41) (ii s42))
    (fun q => mO mu q.2) (fun q => match q.2 with | none => .inr (.ex 6,X929_4 (.own s8) (.own (si false (row n (ldZ F)))) (.own s14) (.own (soE q.1)) (ii s41) (ii s42)) | some v => .inl (q.1 ++ [v],F v))
    (fun q => (.ex 6,X929_4 (.own s8) (.own (si false (row n (ldZ F)))) (.own s14) (.own (soE (q.1 ++ chF F (mO mu q.2) q.2))) (ii s41) (ii s42))) ?_ ?_ ?_ fuel ([],some v) st ⟨by simp; exact hv,by have:=hmu v; simp [mO]; omega⟩ h0' (by have:=hmu v; simp only [mO]; omega)
  · rintro ⟨A,u⟩ ⟨h1,h2⟩
    cases u with
    | none =>
      generalize row n (ldZ F) = B at *
      simp [ldZ]
    | some u =>
      have hu:=h1 u rfl
      have e1:=nth_row (n:=n) (g:=ldZ F) 0 hu
      have e2 : ldZ (fun _ => F u) 0 = ldZ F u:=rfl
      have hm : A.length + 1 ≤ most:=by unfold most; simp [mO] at h2; omega
      simp only [Sum.elim_inl,soE_snoc,e2]
      generalize hr : row n (ldZ F) = B at *
      have hB : B.length = n:=by rw [← hr]; simp
      simp [ldZ,hu,hB,hm]
      rw [e1]
      rfl
  · rintro ⟨A,u⟩ ⟨A',u'⟩ ⟨h1,h2⟩ hs
    cases u with
    | none => cases hs
    | some u =>
      simp only [Sum.inl.injEq,Prod.mk.injEq] at hs
      obtain ⟨rfl,rfl⟩:=hs
      have hm : mO mu (F u) ≤ mu u:=by
        cases hv : F u with
        | none => simp [mO]
        | some x => have:=(hF u x hv).2; simp only [mO]; omega
      refine ⟨⟨fun x hx => (hF u x hx).1,?_⟩,?_,?_⟩
      · simp [mO] at h2 ⊢
        simp [mO] at hm
        omega
      · show mO mu (F u) < mu u + 1
        omega
      · have e : A ++ [u] ++ chF F (mO mu (F u)) (F u) = A ++ chF F (mu u + 1) (some u):=by
          simp only [chF]
          rw [chF_stop (fun a b h => (hF a b h).2) (mu u) (F u) hm]
          simp
        show (Ex.ex 6,X929_4 _ _ _ (V.own (soE (A ++ [u] ++ chF F (mO mu (F u)) (F u)))) _ _) = _
        rw [e]
        rfl
  · rintro ⟨A,u⟩ r ⟨h1,h2⟩ hs
    cases u with
    | none =>
      simp only [Sum.inr.injEq] at hs
      subst hs
      exact ⟨by simp [mO,chF],by simp⟩
    | some u => cases hs
def rowC (c : List Nat) : Bool × List Int:=(c.length == 0,zl c)
def chL (l F : Nat→Option Nat) (mu : Nat→Nat) (v : Nat) : List (List Nat):=((List.range v).filter fun v => (l v).isNone).map fun v => chF F (mu v + 1) (some v)
abbrev llE (L : List (List Nat)) : D:=gsl eII (L.length == 0) (L.map rowC)
theorem chL_succ (l F : Nat→Option Nat) (mu : Nat→Nat) (v : Nat) : chL l F mu (v + 1) = if (l v).isNone then chL l F mu v ++ [chF F (mu v + 1) (some v)] else chL l F mu v:=by
  unfold chL
  rw [List.range_succ,List.filter_append,List.map_append,List.filter_cons]
  cases (l v).isNone <;> simp
theorem chL_len (l F : Nat→Option Nat) (mu : Nat→Nat) (v : Nat) : (chL l F mu v).length ≤ v:=by
  unfold chL
  rw [List.length_map]
  exact Nat.le_trans (List.length_filter_le _ _) (by simp)
theorem llE_snoc (L : List (List Nat)) (c : List Nat) : llE (L ++ [c]) = gsl eII false (L.map rowC ++ [(c.length == 0,zl c)]):=by
  have : ((L ++ [c]).length == 0) = false:=by simp
  show gsl _ _ _ = _
  rw [this,List.map_append]; rfl
theorem loop929_1 (call : Oracle) (fuel : Nat) (n : Nat) (hn : n ≤ 12) (l F : Nat→Option Nat) (mu : Nat→Nat) (hF : ∀ v u,F v = some u→u < n∧mu u < mu v) (hmu : ∀ v,mu v ≤ 50) (hf : 1000 < fuel) (st : St)
    (h0 : drops st h929_1 = L929_1 (.own (boL n l)) (.own (si false (row n (ldZ F)))) (.own (llE [])) (ii n) (ii 0)) :
    run.loopN (run call fuel b929_1) fuel st = some (.ex 4,X929_2 (.own (llE (chL l F mu n)))):=by
  refine loop_cnt call fuel h929_1 _ n (fun v => L929_1 (.own (boL n l)) (.own (si false (row n (ldZ F)))) (.own (llE (chL l F mu v))) (ii n) (ii v)) _ (by simp) ?_ (by simp) fuel st h0 (by omega)
  intro v hv
  have hw:=wrap_succ (i:=v) (by omega)
  have e1:=nth_row (n:=n) (g:=ldZ l) 0 hv
  rw [chL_succ]
  cases hl : l v with
  | some x =>
    have e2 : ldZ l v = (x : Int):=by rw [ldZ,hl]
    rw [e2] at e1
    simp only [Option.isNone_some,Bool.false_eq_true,if_false]
    generalize chL l F mu v = L at *
    simp [hv,hw,e1]
  | none =>
    have e2 : ldZ l v = -1:=by rw [ldZ,hl]
    rw [e2] at e1
    have hL:=loop929_2 call fuel n hn F mu hF hmu (boL n l) (llE (chL l F mu v)) n v hf v hv
    have hb : (chL l F mu v).length + 1 ≤ most:=by have:=chL_len l F mu v; unfold most; omega
    simp only [Option.isNone_none,if_true]
    rw [llE_snoc]
    generalize chL l F mu v = L at *
    generalize chF F (mu v + 1) (some v) = cc at *
    simp [hv,hw,e1]
    rw [hL _ (by simp; rfl)]
    simp [hw,hb]
theorem part929 (call : Oracle) (fuel : Nat) (hf : 1000 < fuel) (n : Nat) (hn : n ≤ 12) (l : Nat→Option Nat) (hl : ∀ u v,l u = some v→v < n) (mu : Nat→Nat) (hF : ∀ v u,fwO l n v = some u→u < n∧mu u < mu v) (hmu : ∀ v,mu v ≤ 50)
    (h49 : call 19 [.nd (.sl false 1 1) [.v (.int .i64 (-1))],.v (.int .i64 (n : Int))] = some (si false (List.replicate n (-1)))) :
    fk (run call fuel c929.code (tab 83 59 (fu (fu dd 8 (.own (boL n l))) 2 (.own (boN n))) dd)) (fun st => resF st c929.res) = some (.nd .tu [llE (chL l (fwO l n) mu n),.v (.int .i64 0)]):=by
  have L0:=loop929_0 call fuel n hn l hl hf
  have L1:=loop929_1 call fuel n hn l (fwO l n) mu hF hmu hf
  have hm : n ≤ most:=by unfold most; omega
  rw [row_rep] at h49
  simp [c929,h49]
  rw [L0 _ (by simp)]
  simp
  rw [L1 _ (by simp; rfl)]
  simp
end Go.Mx
namespace Go.Mx
set_option linter.unusedVariables false
set_option linter.unusedSimpArgs false
set_option linter.unusedSectionVars false
open Go Go.RowKit
abbrev nI (n : Int) : D:=.v (.int .i64 n)
def Sy (S : Nat→Oracle) : Prop:=∀ n f ds mf,tbl f = some mf→hasB mf.code = false→S (n + 1) f ds = callF (S n) 6000 mf ds
theorem sy0 : Sy S0:=fun n f ds mf h hb => sem_succ h hb
theorem syB (base : Oracle) : Sy (semB base tbl 6000):=fun n f ds mf h hb => semB_succ h hb
section
variable {S : Nat→Oracle} (hS : Sy S)
include hS
theorem u44 (k : Nat) (b : Bool) (n : Int) (a : List (Int × Int)) (hl : a.length ≤ 1000) : S (k + 1) 38 [nI n,sa b a] = some (.v (.bool (validB n a))):=by
  rw [hS _ _ _ c38 rfl rfl]; exact f38 _ _ (by decide) b n a hl
theorem u46 (k : Nat) : Bit48 (S (k + 1)):=by
  intro s t hs ht
  rw [hS _ _ _ c48 rfl rfl]; exact f48 _ _ s t hs ht
theorem u54 (k : Nat) (b : Bool) (n : Int) (a : List (Int × Int)) (hv : validB n a = true) (hl : a.length ≤ 1000) : S (k + 1) 47 [nI n,sa b a] = some (su n.toNat (nextG (natA a))):=by
  obtain ⟨m,rfl,hm,ha,hp⟩:=valid_nat hv
  have:=f47 (S k) 6000 (by decide) b m hm (natA a) (fun p h => ⟨(hp p h).1,(hp p h).2.1⟩) (by simpa [natA] using hl)
  rw [← ha] at this
  rw [hS _ _ _ c47 rfl rfl]; exact this
theorem u45 (k : Nat) : Reach50 (S (k + 2)):=by
  intro b n a hv hl
  have h54:=u54 hS k b n a hv hl
  obtain ⟨m,rfl,hm,ha,hp⟩:=valid_nat hv
  have:=f50 (S (k + 1)) 6000 (by decide) b m hm (natA a) (fun p h => ⟨(hp p h).1,(hp p h).2.1⟩) (u46 hS k) (by rw [← ha]; exact h54)
  rw [← ha] at this
  rw [hS _ _ _ c50 rfl rfl]; exact this
theorem u62 (k : Nat) (n : Nat) (g : Nat→Nat) (hn : n ≤ 24) (hg : ∀ i,g i < 2 ^ 32) : S (k + 2) 62 [su n g] = some (.v (.bool (!(List.range n).any (fun i => (g i).testBit i)))):=by
  rw [hS _ _ _ c62 rfl rfl]; exact f62 _ _ (by decide) n hn g hg (u46 hS k)
theorem u51 (k : Nat) (b : Bool) (n : Int) (a : List (Int × Int)) (hl : a.length ≤ 1000) : S (k + 3) 39 [nI n,sa b a] = some (.v (.bool (acyB n a))):=by
  rw [hS _ _ _ c39 rfl rfl]; exact f39 _ _ b n a hl (u44 hS (k + 1) b n a hl) (u45 hS k) (fun m g hm hg => u62 hS k m g hm hg)
theorem u63 (k : Nat) : List63 (S (k + 2)):=by
  intro n g hn hg
  rw [hS _ _ _ c63 rfl rfl]; exact f63 _ _ (by decide) n hn g hg (u46 hS k)
theorem u52 (k : Nat) (b : Bool) (n : Int) (a : List (Int × Int)) (hl : a.length ≤ 1000) : S (k + 3) 40 [nI n,sa b a] = some (clD n a):=by
  rw [hS _ _ _ c40 rfl rfl]; exact f40 _ _ b n a hl (u44 hS (k + 1) b n a hl) (u45 hS k) (u63 hS k)
theorem u33 (k : Nat) (b : Bool) (n : Int) (a : List (Int × Int)) (hl : a.length ≤ 1000) : S (k + 4) 17 [nI n,sa b a] = some (ckD n a):=by
  rw [hS _ _ _ c17 rfl rfl]; exact f17 _ _ (by decide) b n a (u44 hS (k + 2) b n a hl) (u51 hS k b n a hl) (u52 hS k b n a hl)
end
theorem ck_calls {w : World} {av : Value} (b : Bool) (n : Int) (a : List (Int × Int)) (hl : a.length ≤ 1000) (h : ArgOK w av (sa b a)) :
    Calls Go.Proofs.Try.prog 17 #[.int .i64 n,av] w fun e w' => ∃ t,e = .returned (val t)∧er t = ckD n a∧Below w.heap.size w w'∧FreshT w w' t:=by
  obtain ⟨t,h1,h2,h3,h4⟩:=h
  have:=((sem_ok (g:=Glob.none) tbl_ok 6000 4).reg 17 _ _ (by decide) (u33 sy0 0 b n a hl)).2 [.v (.int .i64 n),t] w (Glob.none_at w) (by simp [erL,h1,er]) ⟨trivial,h3,trivial⟩ (fun b hb => h4 b (by simpa [cntL,cnt] using hb))
  simpa [valL,h2,val] using this
theorem ck_ok {n : Int} {a : List (Int × Int)} (h : ckE n a = 0) : ∃ k : Nat,n = (k : Int)∧k ≤ 12∧validB n a = true∧acyB n a = true:=by
  unfold ckE at h
  split at h
  · rename_i hv
    split at h
    · omega
    · split at h
      · rename_i h12 hac
        obtain ⟨k,rfl,_⟩:=valid_nat hv
        exact ⟨k,rfl,by omega,hv,hac⟩
      · omega
  · omega
theorem tu2 {t : C} {d : D} {v : Value} (h : er t = .nd .tu [d,.v v]) : ∃ t1,t = .nd .tu [t1,.v v]∧er t1 = d:=by
  obtain ⟨k,kids,rfl,hk,hkids⟩:=er_eq_nd h
  have hk' : k = .tu:=by cases k <;> simp [K.er] at hk ⊢
  subst hk'
  match kids,hkids with
  | [a,b],h =>
    simp only [erL,List.cons.injEq,and_true] at h
    have hb:=er_eq_v h.2
    subst hb
    exact ⟨a,rfl,h.1⟩
  | [],h => simp [erL] at h
  | [a],h => simp [erL] at h
  | _ :: _ :: _ :: _,h => simp [erL] at h
end Go.Mx
namespace Go.Mx
set_option linter.unusedVariables false
set_option linter.unusedSimpArgs false
set_option linter.unusedSectionVars false
open Go
def okL (l : List Int) (lo hi : Int) (i : Nat) : Bool:=decide (lo ≤ nth l 0 i) && decide (nth l 0 i ≤ hi) && (i == 0 || decide (nth l 0 (i - 1) < nth l 0 i))
def reachZ (n : Int) (a : List (Int × Int)) (i j : Int) : Bool :=
  validB n a && decide (0 ≤ i) && decide (i < n) && decide (0 ≤ j) && decide (j < n) && (rea n a i.toNat).testBit j.toNat
theorem f26 (call : Oracle) (fuel : Nat) (b : Bool) (n : Int) (a : List (Int × Int)) (hl : a.length ≤ 1000) (i j : Int)
    (h44 : call 38 [.v (.int .i64 n),sa b a] = some (.v (.bool (validB n a)))) (h46 : Bit48 call) (h45 : Reach50 call) :
    callF call fuel c26 [.v (.int .i64 n),sa b a,.v (.int .i64 i),.v (.int .i64 j)] = some (.v (.bool (reachZ n a i j))):=by
  rw [callF_tab call fuel c26 9 _ (by exact Nat.le_of_ble_eq_true rfl) (by exact Nat.le_of_ble_eq_true rfl)]
  by_cases hv : validB n a = true
  · have e:=h45 b n a hv hl
    obtain ⟨k,hk,hk2,_⟩:=valid_nat hv
    rw [hv] at h44
    by_cases hc : (0 ≤ i∧i < n)∧0 ≤ j∧j < n
    · obtain ⟨⟨c1,c2⟩,c3,c4⟩:=hc
      obtain ⟨u,rfl⟩:=Int.eq_ofNat_of_zero_le c1
      obtain ⟨v,rfl⟩:=Int.eq_ofNat_of_zero_le c3
      have e1:=zr_nth n.toNat (rea n a) (i:=u) (by omega)
      have e2:=h46 _ v (rea_lt hv u) (by omega)
      have e3 : u < n.toNat:=by omega
      simp [c26,h44,c2,c4,e,e1,e2,e3,reachZ,hv]
    · have hr : reachZ n a i j = false:=by
        simp only [reachZ,Bool.and_eq_false_iff,decide_eq_false_iff_not]
        omega
      rw [hr]
      simp [c26,h44]
      grind
  · have hv' : validB n a = false:=by simpa using hv
    rw [hv'] at h44
    simp [c26,h44,reachZ,hv']
theorem zl_snoc (l : List Nat) (v : Nat) : zl (l ++ [v]) = zl l ++ [(v : Int)]:=by simp [zl]
theorem zl_any (l : List Nat) (v : Nat) : (zl l).any (· == (v : Int)) = l.contains v:=by
  simp only [zl,List.any_map,List.contains_eq_any_beq]
  congr 1
  funext x
  simp only [Function.comp]
  rw [Bool.eq_iff_iff]
  simp
  omega
abbrev so (l : List Nat) : D:=si l.isEmpty (zl l)
theorem so_snoc (l : List Nat) (v : Nat) : so (l ++ [v]) = gsl (eI .i64) false (zl l ++ [(v : Int)]):=by
  have h : (l ++ [v]).isEmpty = false:=by simp
  show gsl (eI .i64) (l ++ [v]).isEmpty (zl (l ++ [v])) = _
  rw [h,zl_snoc]
def freeB (a : NA) (out : List Nat) (v : Nat) : Bool:=!out.contains v && a.all (fun p => p.2 != v || out.contains p.1)
def ordL (n : Nat) (a : NA) : Nat→List Nat→Option (List Nat)
  | 0,out => some out
  | k + 1,out => match (List.range n).find? (freeB a out) with
    | some v => ordL n a k (out ++ [v])
    | none => none
def nextV (n : Nat) (a : NA) (out : List Nat) (j : Nat) : Option Nat:=(List.range' (n - j) j).find? (freeB a out)
def optZ (o : Option Nat) : Int:=o.elim (-1) fun v => (v : Int)
theorem nextV_succ {n j : Nat} (a : NA) (out : List Nat) (h : j < n) : nextV n a out (j + 1) = if freeB a out (n - 1 - j) = true then some (n - 1 - j) else nextV n a out j:=by
  unfold nextV
  rw [List.range'_succ,show n - (j + 1) = n - 1 - j by omega,List.find?_cons,show n - 1 - j + 1 = n - j by omega]
  cases freeB a out (n - 1 - j) <;> rfl
def ordR (n : Nat) (a : NA) (out : List Nat) : Option (List Nat):=ordL n a (n - out.length) out
def ordD (n : Int) (a : List (Int × Int)) : D :=
  if validB n a then
    match ordR n.toNat (natA a) [] with
    | some l => .nd .tu [so l,.v (.int .i64 0)]
    | none => .nd .tu [si true [],.v (.int .i64 11)]
  else .nd .tu [si true [],.v (.int .i64 1)]
def addNeed (g : Nat→Nat) (p : Nat × Nat) : Nat→Nat:=updF g p.2 (g p.2 ||| pw p.1)
def needG (a : NA) : Nat→Nat:=a.foldl addNeed fun _ => 0
def swapA (a : NA) : NA:=a.map fun p => (p.2,p.1)
theorem need_next (a : NA) : needG a = nextG (swapA a):=by
  unfold needG nextG swapA
  rw [List.foldl_map]; rfl
theorem need_lt {n : Nat} (hn : n ≤ 32) {a : NA} (h : ∀ p ∈ a,p.1 < n∧p.2 < n) (i : Nat) : needG a i < 2 ^ 32:=by
  rw [need_next]
  refine nextG_lt hn (fun p hp => ?_) i
  obtain ⟨q,hq,rfl⟩:=List.mem_map.1 hp
  exact ⟨(h q hq).2,(h q hq).1⟩
theorem need_bit (a : NA) (v u : Nat) : (needG a v).testBit u = a.contains (u,v):=by
  rw [need_next,next_bit]
  simp only [swapA,List.contains_eq_any_beq,List.any_map]
  congr 1
  funext p
  obtain ⟨f,t⟩:=p
  simp only [Function.comp]
  rw [Bool.eq_iff_iff]
  simp
  omega
def doneM (out : List Nat) : Nat:=out.foldl (fun m v => m ||| pw v) 0
theorem done_snoc (out : List Nat) (v : Nat) : doneM (out ++ [v]) = doneM out ||| pw v:=by simp [doneM]
theorem done_bit (out : List Nat) (k : Nat) : (doneM out).testBit k = out.contains k:=by
  suffices ∀ (out : List Nat) (m : Nat),(out.foldl (fun m v => m ||| pw v) m).testBit k = (m.testBit k || out.contains k) by
    have:=this out 0
    simpa [doneM] using this
  intro out
  induction out with
  | nil => intro m; simp
  | cons v out ih =>
    intro m
    rw [List.foldl_cons,ih,Nat.testBit_or,pw_bit,List.contains_cons,Bool.or_assoc]
    congr 2
    rw [Bool.eq_iff_iff]; simp
    exact eq_comm
theorem done_lt {n : Nat} (hn : n ≤ 32) {out : List Nat} (h : ∀ v ∈ out,v < n) : doneM out < 2 ^ 32:=by
  suffices ∀ (out : List Nat) (m : Nat),(∀ v ∈ out,v < n)→m < 2 ^ 32→out.foldl (fun m v => m ||| pw v) m < 2 ^ 32 from this out 0 h (by decide)
  intro out
  induction out with
  | nil => intro m _ hm; exact hm
  | cons v out ih =>
    intro m h hm
    exact ih _ (fun w hw => h w (List.mem_cons_of_mem _ hw)) (Nat.or_lt_two_pow hm (pw_lt (by have:=h v (List.mem_cons_self ..); omega)))
theorem free_bits (a : NA) (out : List Nat) (k : Nat) : freeB a out k = (!(doneM out).testBit k && decide (andN (needG a k) (doneM out) = 0)):=by
  unfold freeB
  rw [done_bit]
  congr 1
  rw [Bool.eq_iff_iff,List.all_eq_true,decide_eq_true_eq]
  constructor
  · intro h
    apply Nat.eq_of_testBit_eq
    intro u
    rw [andN_bit,need_bit,done_bit,Nat.zero_testBit]
    by_cases hc : a.contains (u,k) = true
    · have:=h (u,k) (by simpa using hc)
      simp at this
      simp [this]
    · simp at hc
      simp [hc]
  · intro h p hp
    have:=congrArg (fun x => x.testBit p.1) h
    simp only [andN_bit,need_bit,done_bit,Nat.zero_testBit] at this
    by_cases h2 : p.2 = k
    · have hc : a.contains (p.1,k) = true:=by rw [← h2]; simpa using hp
      rw [hc] at this
      simp at this
      simp [this]
    · simp [h2]
theorem loop46_0 (call : Oracle) (fuel : Nat) (b : Bool) (n : Nat) (hn : n ≤ 24) (a : NA) (hv : ∀ p ∈ a,p.1 < n∧p.2 < n) (hl : a.length ≤ 1000) (fu : Nat) (hf : 1000 < fu) (st : St)
    (h0 : drops st h46_0 = L46_0 (ii n) (.ro (sa b (arcsZ a))) (.own (su n fun _ => 0)) (.ro (sa b (arcsZ a))) (ii a.length) (ii 0)) :
    run.loopN (run call fuel b46_0) fu st = some (.ex 0,X46_0 (ii n) (.own (su n (needG a)))):=by
  refine loop_cnt call fuel h46_0 _ a.length (fun i => L46_0 (ii n) (.ro (sa b (arcsZ a))) (.own (su n (needG (a.take i)))) (.ro (sa b (arcsZ a))) (ii a.length) (ii i)) _ (by simp) ?_ (by simp) fu st h0 (by omega)
  intro i hi
  have hw:=wrap_succ (i:=i) (by omega)
  obtain ⟨h1,h2⟩:=hv _ (nth_mem (0,0) hi)
  have hs : needG (a.take (i + 1)) = _:=foldl_take addNeed _ (0,0) hi
  have hb : ∀ j,needG (a.take i) j < 2 ^ 32:=need_lt (n:=n) (by omega) fun p hp => hv p (List.mem_of_mem_take hp)
  rw [hs]
  change _ = some (Ex.norm,L46_0 _ _ (.own (su n (addNeed (needG (a.take i)) (nth a (0,0) i)))) _ _ _)
  generalize needG (a.take i) = g at *
  generalize hp : nth a (0,0) i = p at *
  obtain ⟨f,t⟩:=p
  simp only at h1 h2
  have e1:=zr_nth n g h2
  have e2:=bits_shl1 .u32 (t:=f) (Nat.lt_of_lt_of_le h1 (Nat.le_trans hn (by decide)))
  have e3:=bits_or .u32 (hb t) (b:=pw f) (pw_lt (m:=32) (by omega))
  simp [hi,hw,hp,h1,h2,e1,e2,e3,addNeed]
theorem loop46_2 (call : Oracle) (fuel : Nat) (n : Nat) (hn : n ≤ 24) (a : NA) (hv : ∀ p ∈ a,p.1 < n∧p.2 < n) (out : List Nat) (ho : ∀ v ∈ out,v < n) (h46 : Bit48 call) (fu : Nat) (hf : 1000 < fu) (st : St)
    (h0 : drops st h46_2 = L46_2 (ii n) (.own (su n (needG a))) (uu (doneM out : Nat)) (.own (so out)) (ii 0)) :
    run.loopN (run call fuel b46_2) fu st = some (.ex 4,X46_4 (ii n) (.own (su n (needG a))) (uu (doneM out : Nat)) (.own (so out)) (ii (((List.range n).find? (freeB a out)).elim (n : Int) (fun v => (v : Int))))):=by
  have key : run.loopN (run call fuel b46_2) fu st = some (((List.range n).find? (freeB a out)).elim (.ex 4,X46_4 (ii n) (.own (su n (needG a))) (uu (doneM out : Nat)) (.own (so out)) (ii n)) (fun i => (.ex 4,X46_4 (ii n) (.own (su n (needG a))) (uu (doneM out : Nat)) (.own (so out)) (ii i)))):=by
   refine loop_find call fuel h46_2 _ n (freeB a out) (fun i => L46_2 (ii n) (.own (su n (needG a))) (uu (doneM out : Nat)) (.own (so out)) (ii i))
    (fun i => (.ex 4,X46_4 (ii n) (.own (su n (needG a))) (uu (doneM out : Nat)) (.own (so out)) (ii i))) (.ex 4,X46_4 (ii n) (.own (su n (needG a))) (uu (doneM out : Nat)) (.own (so out)) (ii n)) (by simp) (by simp) ?_ (by simp) fu st h0 (by omega)
   · intro i hi _
     have hw:=wrap_succ (i:=i) (by omega)
     have hd:=done_lt (n:=n) (by omega) ho
     have hg:=need_lt (n:=n) (by omega) hv i
     have e1:=h46 (doneM out) i hd (by omega)
     have e2:=zr_nth n (needG a) hi
     have e3:=bits_andN .u32 hg hd
     rw [free_bits]
     generalize doneM out = m at *
     generalize needG a = g at *
     cases c1 : m.testBit i <;> rw [c1] at e1
     · by_cases c2 : andN (g i) m = 0
       · rw [c2] at e3
         simp [hi,hw,e1,e2,e3,c2]
       · simp [hi,hw,e1,e2,e3,c2]
     · simp [hi,hw,e1]
  rw [key]
  cases (List.range n).find? (freeB a out) <;> rfl
theorem loop46_1 (call : Oracle) (fuel : Nat) (n : Nat) (hn : n ≤ 24) (a : NA) (hv : ∀ p ∈ a,p.1 < n∧p.2 < n) (h46 : Bit48 call) (hf : 1000 < fuel) (st : St)
    (h0 : drops st h46_1 = L46_1 (ii n) (.own (su n (needG a))) (uu 0) (.own (so []))) :
    run.loopN (run call fuel b46_1) fuel st = some ((ordR n a []).elim (.ret,R46 (.own (.nd (.sl true 1 0) [])) (ii 11)) (fun l => (.ex 2,X46_2 (.own (so l))))):=by
  refine loop_iter call fuel h46_1 _ (fun out : List Nat => out.length ≤ n∧∀ v ∈ out,v < n) (fun out => L46_1 (ii n) (.own (su n (needG a))) (uu (doneM out : Nat)) (.own (so out))) (fun out => n - out.length)
    (fun out => if out.length < n then (match (List.range n).find? (freeB a out) with | some v => .inl (out ++ [v]) | none => .inr (.ret,R46 (.own (.nd (.sl true 1 0) [])) (ii 11))) else .inr (.ex 2,X46_2 (.own (so out))))
    (fun out => (ordR n a out).elim (.ret,R46 (.own (.nd (.sl true 1 0) [])) (ii 11)) (fun l => (.ex 2,X46_2 (.own (so l))))) ?_ ?_ ?_ fuel [] st ⟨Nat.zero_le _,by simp⟩ h0 (by simp; omega)
  · rintro out ⟨ho,hov⟩
    by_cases hlt : out.length < n
    · have e:=loop46_2 call fuel n hn a hv out hov h46 fuel hf
      have hm : out.length + 1 ≤ most:=by unfold most; omega
      simp only [if_pos hlt]
      simp [hlt]
      rw [e _ (by simp)]
      cases hq : (List.range n).find? (freeB a out) with
      | none => simp
      | some v =>
        have hvn : v < n:=List.mem_range.1 (List.mem_of_find?_eq_some hq)
        have hd:=done_lt (n:=n) (by omega) hov
        have e2:=bits_shl1 .u32 (t:=v) (Nat.lt_of_lt_of_le hvn (Nat.le_trans hn (by decide)))
        have e3:=bits_or .u32 hd (b:=pw v) (pw_lt (m:=32) (by omega))
        have e4 : ¬ (v : Int) = (n : Int):=by omega
        simp [hm,so_snoc,e2,e3,e4,done_snoc]
    · simp only [if_neg hlt]
      simp [hlt]
  · rintro out out' ⟨ho,hov⟩ hs
    split at hs
    · rename_i hlt
      split at hs
      · rename_i v hv
        cases hs
        have hvn : v < n:=List.mem_range.1 (List.mem_of_find?_eq_some hv)
        refine ⟨⟨by simp; omega,?_⟩,by simp; omega,?_⟩
        · intro w hw
          rcases List.mem_append.1 hw with h | h
          · exact hov w h
          · simp at h; omega
        · have : n - out.length = (n - (out ++ [v]).length) + 1:=by simp; omega
          simp only [ordR]
          rw [this,ordL,hv]
      · cases hs
    · cases hs
  · rintro out r ⟨ho,hov⟩ hs
    split at hs
    · rename_i hlt
      split at hs
      · cases hs
      · rename_i hv
        cases hs
        refine ⟨?_,by simp⟩
        have : n - out.length = (n - out.length - 1) + 1:=by omega
        simp only [ordR]
        rw [this,ordL,hv]
        rfl
    · rename_i hlt
      cases hs
      refine ⟨?_,by simp⟩
      have : n - out.length = 0:=by omega
      simp only [ordR]
      rw [this]
      rfl
theorem f46 (call : Oracle) (fuel : Nat) (hf : 1000 < fuel) (b : Bool) (n : Int) (a : List (Int × Int)) (hl : a.length ≤ 1000) (h46 : Bit48 call)
    (h44 : call 38 [.v (.int .i64 n),sa b a] = some (.v (.bool (validB n a)))) : callF call fuel c46 [.v (.int .i64 n),sa b a] = some (ordD n a):=by
  rw [callF_tab call fuel c46 21 _ (by exact Nat.le_of_ble_eq_true rfl) (by exact Nat.le_of_ble_eq_true rfl)]
  by_cases hv : validB n a = true
  · obtain ⟨k,rfl,hk,ha,hp⟩:=valid_nat hv
    have hp' : ∀ p ∈ natA a,p.1 < k∧p.2 < k:=fun p h => ⟨(hp p h).1,(hp p h).2.1⟩
    have e:=loop46_0 call fuel b k hk (natA a) hp' (by simpa [natA] using hl) fuel hf
    have e2:=loop46_1 call fuel k hk (natA a) hp' h46 hf
    have hz : List.replicate k (0 : Int) = zr k fun _ => 0:=row_rep k 0
    have hm : k ≤ most:=by unfold most; omega
    have hlen : (natA a).length = a.length:=by simp [natA]
    rw [← ha,hlen] at e
    rw [hv] at h44
    unfold ordD
    rw [if_pos hv]
    simp [c46,h44,hz,hm]
    rw [e _ (by simp)]
    simp
    rw [e2 _ (by simp; rfl)]
    cases ordR k (natA a) [] with
    | none => simp; rfl
    | some l => simp
  · have hv' : validB n a = false:=by simpa using hv
    rw [hv'] at h44
    unfold ordD
    rw [if_neg hv]
    simp [c46,h44]
    rfl
abbrev lz (n : Nat) (lv : Nat→Nat) : D:=si false (zr n lv)
def relV (g : Nat→Nat) (lv : Nat→Nat) (v : Nat) : Nat→Nat:=fun u => if (g v).testBit u then max (lv u) (lv v + 1) else lv u
def relP (g : Nat→Nat) (lv : Nat→Nat) (v i : Nat) : Nat→Nat:=fun u => if u < i then relV g lv v u else lv u
def levP (g : Nat→Nat) (l : List Nat) : Nat→Nat:=l.foldl (relV g) fun _ => 0
theorem relP_succ (g lv : Nat→Nat) (v i : Nat) : relP g lv v (i + 1) = if (g v).testBit i then updF (relP g lv v i) i (max (lv i) (lv v + 1)) else relP g lv v i:=by
  funext u
  by_cases hu : u = i
  · subst hu
    have h1 : u < u + 1:=by omega
    have h2 : ¬ u < u:=by omega
    by_cases hb : (g v).testBit u = true
    · simp [relP,relV,hb,updF]
    · simp [relP,relV,hb]
  · have : u < i + 1 ↔ u < i:=by omega
    split
    · simp [relP,this,updF,hu]
    · simp [relP,this]
theorem max_cast (x y : Nat) : max (x : Int) ((y : Int) + 1) = ((max x (y + 1) : Nat) : Int):=by omega
theorem loop22_1 (call : Oracle) (fuel : Nat) (n : Nat) (hn : n ≤ 24) (g : Nat→Nat) (hg : ∀ i,g i < 2 ^ 32) (hself : ∀ i,(g i).testBit i = false) (h46 : Bit48 call) (ord : List Nat) (lv : Nat→Nat) (hb : ∀ u,lv u ≤ 1000) (v : Nat) (hv : v < n) (k m : Int) (fu : Nat) (hf : 1000 < fu) (st : St)
    (h0 : drops st h22_1 = L22_1 (ii n) (.own (so ord)) (.own (su n g)) (.own (lz n lv)) (ii v) (.ref 6 []) (ii m) (ii k) (ii n) (ii 0)) :
    run.loopN (run call fuel b22_1) fu st = some (.ex 2,X22_2 (ii n) (.own (so ord)) (.own (su n g)) (.own (lz n (relV g lv v))) (.ref 6 []) (ii m) (ii k)):=by
  have hend : lz n (relP g lv v n) = lz n (relV g lv v):=congrArg (gsl (eI .i64) false) (zr_ext fun u hu => by simp [relP,hu])
  have hz : relP g lv v 0 = lv:=by funext u; simp [relP]
  refine loop_cnt call fuel h22_1 _ n (fun i => L22_1 (ii n) (.own (so ord)) (.own (su n g)) (.own (lz n (relP g lv v i))) (ii v) (.ref 6 []) (ii m) (ii k) (ii n) (ii i)) _ (by simp) ?_ (by simp [hend]) fu st (by rw [hz]; exact h0) (by omega)
  intro i hi
  have hw:=wrap_succ (i:=i) (by omega)
  have e1:=zr_nth n g hv
  have e2:=h46 (g v) i (hg v) (by omega)
  have e3:=zr_nth n (relP g lv v i) hi
  have e4:=zr_nth n (relP g lv v i) hv
  have r1 : relP g lv v i i = lv i:=by simp [relP]
  have r2 : relP g lv v i v = lv v:=by simp [relP,relV,hself]
  rw [r1] at e3
  rw [r2] at e4
  have hw2 : IntKind.i64.wrap ((lv v : Int) + 1) = (lv v : Int) + 1:=wrap_eq (by have:=hb v; unfold I64; omega)
  have hm:=max_cast (lv i) (lv v)
  rw [relP_succ]
  generalize relP g lv v i = p at *
  generalize max (lv i) (lv v + 1) = w at *
  cases c : (g v).testBit i <;> rw [c] at e2 <;> simp [hi,hv,hw,e1,e2,e3,e4,hw2,hm]
theorem relV_le {g lv : Nat→Nat} {B : Nat} (h : ∀ u,lv u ≤ B) (v u : Nat) : relV g lv v u ≤ B + 1:=by
  have h1:=h u
  have h2:=h v
  unfold relV
  split <;> omega
theorem levP_le (g : Nat→Nat) (l : List Nat) (u : Nat) : levP g l u ≤ l.length:=by
  suffices ∀ (l : List Nat) (lv : Nat→Nat) (B : Nat),(∀ u,lv u ≤ B)→∀ u,l.foldl (relV g) lv u ≤ B + l.length by
    have:=this l (fun _ => 0) 0 (fun _ => Nat.le_refl _) u
    simpa [levP] using this
  intro l
  induction l with
  | nil => intro lv B h u; simpa using h u
  | cons v l ih =>
    intro lv B h u
    have:=ih (relV g lv v) (B + 1) (relV_le h v) u
    simp only [List.foldl_cons,List.length_cons]
    omega
theorem loop22_0 (call : Oracle) (fuel : Nat) (n : Nat) (hn : n ≤ 24) (g : Nat→Nat) (hg : ∀ i,g i < 2 ^ 32) (hself : ∀ i,(g i).testBit i = false) (h46 : Bit48 call) (ord : List Nat) (ho : ∀ v ∈ ord,v < n) (hl : ord.length ≤ 24) (hf : 1000 < fuel) (st : St)
    (h0 : drops st h22_0 = L22_0 (ii n) (.own (so ord)) (.own (su n g)) (.own (lz n fun _ => 0)) (.ref 6 []) (ii ord.length) (ii 0)) :
    run.loopN (run call fuel b22_0) fuel st = some (.ex 0,X22_0 (.own (lz n (levP g ord)))):=by
  refine loop_cnt call fuel h22_0 _ ord.length (fun i => L22_0 (ii n) (.own (so ord)) (.own (su n g)) (.own (lz n (levP g (ord.take i)))) (.ref 6 []) (ii ord.length) (ii i)) _ (by simp) ?_ (by simp) fuel st h0 (by omega)
  intro i hi
  have hw:=wrap_succ (i:=i) (by omega)
  have hv:=ho _ (nth_mem 0 hi)
  have hs : levP g (ord.take (i + 1)) = relV g (levP g (ord.take i)) (nth ord 0 i):=foldl_take (relV g) _ 0 hi
  have hb : ∀ u,levP g (ord.take i) u ≤ 1000:=fun u => by
    have:=levP_le g (ord.take i) u
    have h2 : (ord.take i).length ≤ ord.length:=by simp; omega
    omega
  have e1 : nth (zl ord) 0 i = ((nth ord 0 i : Nat) : Int):=nth_map (fun (v : Nat) => (v : Int)) ord 0 i
  have e:=loop22_1 call fuel n hn g hg hself h46 ord _ hb (nth ord 0 i) hv i ord.length fuel hf
  rw [hs]
  simp [hi,e1]
  rw [e _ (by simp)]
  simp [hw]
def levD (n : Nat) (a : NA) (o : Option (List Nat)) : D :=
  match o with
  | some l => .nd .tu [lz n (levP (nextG a) l),.v (.int .i64 0)]
  | none => .nd .tu [si true [],.v (.int .i64 11)]
def levelsD (n : Int) (a : List (Int × Int)) : D:=if validB n a then levD n.toNat (natA a) (ordR n.toNat (natA a) []) else .nd .tu [si true [],.v (.int .i64 1)]
theorem ordL_lt {n : Nat} {a : NA} : ∀ (k : Nat) (out l : List Nat),(∀ v ∈ out,v < n)→ordL n a k out = some l→(∀ v ∈ l,v < n)∧l.length = out.length + k
  | 0,out,l,h,e => by simp [ordL] at e; subst e; exact ⟨h,rfl⟩
  | k + 1,out,l,h,e => by
    simp only [ordL] at e
    split at e
    · rename_i v hv
      have hvn : v < n:=List.mem_range.1 (List.mem_of_find?_eq_some hv)
      obtain ⟨h1,h2⟩:=ordL_lt k (out ++ [v]) l (fun w hw => by
        rcases List.mem_append.1 hw with h' | h'
        · exact h w h'
        · simp at h'; omega) e
      exact ⟨h1,by simp at h2; omega⟩
    · cases e
theorem f22 (call : Oracle) (fuel : Nat) (hf : 1000 < fuel) (b : Bool) (n : Int) (a : List (Int × Int)) (hl : a.length ≤ 1000) (h46 : Bit48 call)
    (h53 : call 46 [.v (.int .i64 n),sa b a] = some (ordD n a))
    (h54 : validB n a = true→call 47 [.v (.int .i64 n),sa b a] = some (su n.toNat (nextG (natA a)))) : callF call fuel c22 [.v (.int .i64 n),sa b a] = some (levelsD n a):=by
  rw [callF_tab call fuel c22 35 _ (by exact Nat.le_of_ble_eq_true rfl) (by exact Nat.le_of_ble_eq_true rfl)]
  by_cases hv : validB n a = true
  · obtain ⟨k,rfl,hk,ha,hp⟩:=valid_nat hv
    have hp' : ∀ p ∈ natA a,p.1 < k∧p.2 < k:=fun p h => ⟨(hp p h).1,(hp p h).2.1⟩
    have h2:=h54 hv
    unfold ordD at h53
    unfold levelsD
    rw [if_pos hv] at h53 ⊢
    have hz : List.replicate k (0 : Int) = zr k fun _ => 0:=row_rep k 0
    have hm : k ≤ most:=by unfold most; omega
    have hg:=nextG_lt (n:=k) (by omega) hp'
    have hself : ∀ i,(nextG (natA a) i).testBit i = false:=by
      intro i
      rw [next_bit,Bool.eq_false_iff]
      intro hc
      have:=(hp (i,i) (by simpa using hc)).2.2
      exact this rfl
    simp only [Int.toNat_natCast] at h53 h2 ⊢
    cases ho : ordR k (natA a) [] with
    | none =>
      rw [ho] at h53
      simp only at h53
      simp [c22,h53,levD]
      rfl
    | some l =>
      rw [ho] at h53
      simp only at h53
      obtain ⟨g1,g2⟩:=ordL_lt _ _ _ (by simp) ho
      have e:=loop22_0 call fuel k hk (nextG (natA a)) hg hself h46 l g1 (by simp at g2; omega) hf
      simp [c22,h53,h2,hz,hm,levD]
      rw [e _ (by simp)]
      simp
  · unfold ordD at h53
    unfold levelsD
    rw [if_neg hv] at h53 ⊢
    simp [c22,h53]
    rfl
def relA (lv : Nat→Nat) (p : Nat × Nat) : Nat→Nat:=updF lv p.2 (max (lv p.2) (lv p.1 + 1))
def levA (a : NA) (lv : Nat→Nat) : Nat→Nat:=a.foldl relA lv
def levR (a : NA) : Nat→Nat→Nat
  | 0 => fun _ => 0
  | k + 1 => levA a (levR a k)
def levelsR (n : Int) (a : List (Int × Int)) : D :=
  if validB n a then
    if acyB n a then .nd .tu [lz n.toNat (levR (natA a) n.toNat),.v (.int .i64 0)] else .nd .tu [si true [],.v (.int .i64 11)]
  else .nd .tu [si true [],.v (.int .i64 1)]
theorem nodup_sub : ∀ (l m : List Nat),l.Nodup→(∀ x ∈ l,x ∈ m)→l.length ≤ m.length
  | [],m,_,_ => by simp
  | x :: l,m,hn,hs => by
    obtain ⟨hx,hn⟩:=List.nodup_cons.1 hn
    have hm:=hs x (List.mem_cons_self ..)
    have:=nodup_sub l (m.erase x) hn (fun y hy => by
      have : y ≠ x:=fun e => hx (e ▸ hy)
      exact (List.mem_erase_of_ne this).2 (hs y (List.mem_cons_of_mem _ hy)))
    rw [List.length_erase_of_mem hm] at this
    have hp : 0 < m.length:=List.length_pos_of_mem hm
    simp only [List.length_cons]
    omega
theorem nodup_range (n : Nat) : (List.range n).Nodup:=List.nodup_range
theorem exists_min (r : Nat→Nat→Prop) (hi : ∀ x,¬ r x x) (ht : ∀ x y z,r x y→r y z→r x z) : ∀ (l : List Nat),l ≠ []→∃ m ∈ l,∀ x ∈ l,¬ r x m
  | [],h => absurd rfl h
  | [a],_ => ⟨a,List.mem_cons_self ..,fun x hx => by simp at hx; subst hx; exact hi _⟩
  | a :: b :: l,_ => by
    obtain ⟨m,hm,hmin⟩:=exists_min r hi ht (b :: l) (by simp)
    by_cases h : r a m
    · refine ⟨a,List.mem_cons_self ..,fun x hx hr => ?_⟩
      rcases List.mem_cons.1 hx with rfl | hx
      · exact hi _ hr
      · exact hmin x hx (ht _ _ _ hr h)
    · refine ⟨m,List.mem_cons_of_mem _ hm,fun x hx hr => ?_⟩
      rcases List.mem_cons.1 hx with rfl | hx
      · exact h hr
      · exact hmin x hx hr
def Good (a : NA) (l : List Nat) : Prop:=∀ pr v po,l = pr ++ v :: po→freeB a pr v = true
theorem good_snoc {a : NA} {l : List Nat} {v : Nat} (h : Good a l) (hv : freeB a l v = true) : Good a (l ++ [v]):=by
  intro pr w po e
  rcases List.eq_nil_or_concat po with rfl | ⟨po',x,rfl⟩
  · have:=List.append_inj' e (by simp)
    obtain ⟨rfl,h2⟩:=this
    simp at h2
    subst h2
    exact hv
  · rw [List.concat_eq_append,← List.cons_append,← List.append_assoc] at e
    have:=List.append_inj' e (by simp)
    exact h pr w po' this.1
theorem free_not {a : NA} {out : List Nat} {v : Nat} (h : freeB a out v = true) : v ∉ out:=by
  unfold freeB at h
  simp only [Bool.and_eq_true,Bool.not_eq_true'] at h
  simpa using h.1
theorem free_pred {a : NA} {out : List Nat} {u v : Nat} (h : freeB a out v = true) (hp : (u,v) ∈ a) : u ∈ out:=by
  unfold freeB at h
  simp only [Bool.and_eq_true,List.all_eq_true] at h
  have:=h.2 _ hp
  simpa using this
theorem good_nodup {a : NA} {l : List Nat} (h : Good a l) : l.Nodup:=by
  suffices ∀ n,n ≤ l.length→(l.take n).Nodup by
    have:=this l.length (Nat.le_refl _)
    simpa using this
  intro n
  induction n with
  | zero => intro _; simp
  | succ n ih =>
    intro hn
    have hlt : n < l.length:=by omega
    rw [List.take_succ_eq_append_getElem hlt,List.nodup_append]
    refine ⟨ih (by omega),by simp,?_⟩
    intro x hx y hy
    simp at hy
    subst hy
    have:=free_not (h (l.take n) (l[n]) (l.drop (n + 1)) (by simp))
    intro e
    exact this (e ▸ hx)
theorem ordL_good {n : Nat} {a : NA} : ∀ (k : Nat) (out l : List Nat),Good a out→ordL n a k out = some l→Good a l
  | 0,out,l,h,e => by simp [ordL] at e; subst e; exact h
  | k + 1,out,l,h,e => by
    simp only [ordL] at e
    split at e
    · rename_i v hv
      exact ordL_good k _ l (good_snoc h (List.find?_some hv)) e
    · cases e
structure IsOrd (n : Nat) (a : NA) (l : List Nat) : Prop where
  good : Good a l
  lt : ∀ v ∈ l,v < n
  len : l.length = n
theorem ordR_is {n : Nat} {a : NA} {l : List Nat} (h : ordR n a [] = some l) : IsOrd n a l:=by
  obtain ⟨h1,h2⟩:=ordL_lt _ _ _ (by simp) h
  refine ⟨ordL_good _ [] l (fun pr v po e => ?_) h,h1,by simpa using h2⟩
  have:=congrArg List.length e
  simp at this
theorem IsOrd.all {n : Nat} {a : NA} {l : List Nat} (h : IsOrd n a l) {v : Nat} (hv : v < n) : v ∈ l:=by
  by_cases hc : v ∈ l
  · exact hc
  · have:=nodup_sub (v :: l) (List.range n) (List.nodup_cons.2 ⟨hc,good_nodup h.good⟩) (fun x hx => by
      rcases List.mem_cons.1 hx with rfl | hx
      · exact List.mem_range.2 hv
      · exact List.mem_range.2 (h.lt x hx))
    simp at this
    have:=h.len
    omega
theorem Good.before {a : NA} {l : List Nat} (h : Good a l) {u v : Nat} (hp : (u,v) ∈ a) (hv : v ∈ l) : l.idxOf u < l.idxOf v:=by
  obtain ⟨pr,po,e,hn⟩:=List.eq_append_cons_of_mem hv
  have hu:=free_pred (h pr v po e) hp
  rw [e,List.idxOf_append,if_pos hu,List.idxOf_append,if_neg hn]
  have:=List.idxOf_lt_length_iff.2 hu
  simp
  omega
theorem acyclic_of_order {n : Nat} {a : NA} (hv : ∀ p ∈ a,p.1 < n∧p.2 < n) {l : List Nat} (h : IsOrd n a l) (i : Nat) : (warr (nextG a) n i).testBit i = false:=by
  rw [Bool.eq_false_iff]
  intro hc
  have:=warr_ind (nextG a) (fun i j => l.idxOf i < l.idxOf j) (fun i j hb => by
    rw [next_bit] at hb
    have hm : (i,j) ∈ a:=by simpa using hb
    exact h.good.before hm (h.all (hv _ hm).2)) (fun i v j h1 h2 => Nat.lt_trans h1 h2) n i i hc
  omega
theorem order_of_acyclic {n : Nat} {a : NA} (hv : ∀ p ∈ a,p.1 < n∧p.2 < n) (hac : ∀ i,i < n→(warr (nextG a) n i).testBit i = false) :
    ∀ (k : Nat) (out : List Nat),Good a out→(∀ v ∈ out,v < n)→out.length + k = n→∃ l,ordL n a k out = some l
  | 0,out,_,_,_ => ⟨out,rfl⟩
  | k + 1,out,hg,ho,hl => by
    simp only [ordL]
    cases hf : (List.range n).find? (freeB a out) with
    | some v =>
      have hvn : v < n:=List.mem_range.1 (List.mem_of_find?_eq_some hf)
      exact order_of_acyclic hv hac k (out ++ [v]) (good_snoc hg (List.find?_some hf)) (fun w hw => by
        rcases List.mem_append.1 hw with h' | h'
        · exact ho w h'
        · simp at h'; omega) (by simp; omega)
    | none =>
      exfalso
      rw [List.find?_eq_none] at hf
      have hne : (List.range n).filter (fun v => !out.contains v) ≠ []:=by
        intro he
        have:=nodup_sub (List.range n) out (nodup_range n) (fun x hx => by
          by_cases hc : x ∈ out
          · exact hc
          · have : x ∈ (List.range n).filter (fun v => !out.contains v):=List.mem_filter.2 ⟨hx,by simpa using hc⟩
            rw [he] at this; simp at this)
        simp at this
        omega
      obtain ⟨m,hm,hmin⟩:=exists_min (fun x y => x < n∧y < n∧(warr (nextG a) n x).testBit y = true) (fun x h => by rw [hac x h.1] at h; simp at h)
        (fun x y z h1 h2 => ⟨h1.1,h2.2.1,warr_trans _ _ _ _ _ h1.2.1 h1.2.2 h2.2.2⟩) _ hne
      obtain ⟨hm1,hm2⟩:=List.mem_filter.1 hm
      have hm3 : m ∉ out:=by simpa using hm2
      apply hf m hm1
      unfold freeB
      simp only [Bool.and_eq_true,List.all_eq_true]
      refine ⟨by simpa using hm3,fun p hp => ?_⟩
      by_cases h2 : p.2 = m
      · have h1:=hv p hp
        by_cases hc : p.1 ∈ out
        · simp [hc]
        · exfalso
          refine hmin p.1 (List.mem_filter.2 ⟨List.mem_range.2 h1.1,by simpa using hc⟩) ⟨h1.1,by omega,warr_mono _ _ _ _ ?_⟩
          rw [next_bit,← h2]
          simpa using hp
      · simp [h2]
theorem order_iff {n : Nat} {a : NA} (hv : ∀ p ∈ a,p.1 < n∧p.2 < n) : (ordR n a []).isSome = !(List.range n).any (fun i => (warr (nextG a) n i).testBit i):=by
  cases h : ordR n a [] with
  | some l =>
    have : (List.range n).any (fun i => (warr (nextG a) n i).testBit i) = false:=(any_range _ _).2 fun i _ => acyclic_of_order hv (ordR_is h) i
    rw [this]; rfl
  | none =>
    cases hc : (List.range n).any (fun i => (warr (nextG a) n i).testBit i)
    · exfalso
      obtain ⟨l,hl⟩:=order_of_acyclic hv ((any_range _ _).1 hc) n [] (fun pr v po e => by
        have:=congrArg List.length e
        simp at this) (by simp) (by simp)
      rw [show ordR n a [] = ordL n a n [] from rfl,hl] at h
      cases h
    · rfl
structure Lev (a : NA) (pr : List Nat) (lv : Nat→Nat) : Prop where
  up : ∀ f t,(f,t) ∈ a→f ∈ pr→lv f + 1 ≤ lv t
  at' : ∀ u,lv u = 0 ∨ ∃ f,f ∈ pr∧(f,u) ∈ a∧lv u = lv f + 1
theorem relV_eq (a : NA) (lv : Nat→Nat) (v u : Nat) : relV (nextG a) lv v u = if (v,u) ∈ a then max (lv u) (lv v + 1) else lv u:=by
  unfold relV
  rw [next_bit]
  by_cases h : (v,u) ∈ a
  · rw [if_pos (by simpa using h),if_pos h]
  · rw [if_neg (by simpa using h),if_neg h]
theorem lev_step {a : NA} (hs : ∀ p ∈ a,p.1 ≠ p.2) {pr : List Nat} {v : Nat} {lv : Nat→Nat} (hg : Good a (pr ++ [v])) (h : Lev a pr lv) : Lev a (pr ++ [v]) (relV (nextG a) lv v):=by
  have hfree : freeB a pr v = true:=hg pr v [] rfl
  have hv:=free_not hfree
  have hno : ∀ u ∈ pr,(v,u) ∉ a:=by
    intro u hu ha
    obtain ⟨p1,p2,e,_⟩:=List.eq_append_cons_of_mem hu
    have:=free_pred (hg p1 u (p2 ++ [v]) (by rw [e]; simp)) ha
    exact hv (by rw [e]; simp [this])
  have hsame : ∀ u,(u ∈ pr ∨ u = v)→relV (nextG a) lv v u = lv u:=by
    intro u hu
    rw [relV_eq,if_neg]
    intro ha
    rcases hu with hu | rfl
    · exact hno u hu ha
    · exact hs _ ha rfl
  have hge : ∀ u,lv u ≤ relV (nextG a) lv v u:=by
    intro u; rw [relV_eq]; split <;> omega
  refine ⟨?_,?_⟩
  · intro f t ha hf
    rcases List.mem_append.1 hf with hf | hf
    · rw [hsame f (.inl hf)]
      exact Nat.le_trans (h.up f t ha hf) (hge t)
    · simp at hf
      subst hf
      rw [hsame f (.inr rfl),relV_eq,if_pos ha]
      omega
  · intro u
    by_cases ha : (v,u) ∈ a
    · by_cases hle : lv v + 1 ≤ lv u
      · have e : relV (nextG a) lv v u = lv u:=by rw [relV_eq,if_pos ha]; omega
        rcases h.at' u with h0 | ⟨f,h1,h2,h3⟩
        · omega
        · exact .inr ⟨f,by simp [h1],h2,by rw [e,hsame f (.inl h1)]; exact h3⟩
      · exact .inr ⟨v,by simp,ha,by rw [hsame v (.inr rfl),relV_eq,if_pos ha]; omega⟩
    · have e : relV (nextG a) lv v u = lv u:=by rw [relV_eq,if_neg ha]
      rcases h.at' u with h0 | ⟨f,h1,h2,h3⟩
      · exact .inl (by rw [e]; exact h0)
      · exact .inr ⟨f,by simp [h1],h2,by rw [e,hsame f (.inl h1)]; exact h3⟩
theorem good_take {a : NA} {l : List Nat} (h : Good a l) (n : Nat) : Good a (l.take n):=by
  intro pr v po e
  refine h pr v (po ++ l.drop n) ?_
  rw [← List.cons_append,← List.append_assoc,← e,List.take_append_drop]
theorem lev_all {a : NA} (hs : ∀ p ∈ a,p.1 ≠ p.2) {l : List Nat} (h : Good a l) (n : Nat) (hn : n ≤ l.length) : Lev a (l.take n) (levP (nextG a) (l.take n)):=by
  induction n with
  | zero => exact ⟨fun f t _ hf => by simp at hf,fun u => .inl rfl⟩
  | succ n ih =>
    have hlt : n < l.length:=by omega
    have e1:=take_succ_nth 0 hlt
    have e2 : levP (nextG a) (l.take (n + 1)) = relV (nextG a) (levP (nextG a) (l.take n)) (nth l 0 n):=foldl_take _ _ 0 hlt
    have hg:=good_take h (n + 1)
    rw [e1] at hg ⊢
    rw [← e1,e2,e1]
    exact lev_step hs hg (ih (by omega))
theorem levA_ge (a : NA) (lv : Nat→Nat) (u : Nat) : lv u ≤ levA a lv u:=by
  induction a generalizing lv with
  | nil => exact Nat.le_refl _
  | cons p a ih =>
    have : lv u ≤ relA lv p u:=by unfold relA updF; split <;> (try subst_vars) <;> omega
    exact Nat.le_trans this (ih _)
theorem levA_arc {a : NA} (lv : Nat→Nat) {f u : Nat} (h : (f,u) ∈ a) : lv f + 1 ≤ levA a lv u:=by
  induction a generalizing lv with
  | nil => simp at h
  | cons p a ih =>
    rcases List.mem_cons.1 h with e | h
    · subst e
      have h1 : lv f + 1 ≤ relA lv (f,u) u:=by unfold relA updF; simp; omega
      exact Nat.le_trans h1 (levA_ge a _ u)
    · have h1 : lv f ≤ relA lv p f:=by unfold relA updF; split <;> (try subst_vars) <;> omega
      have:=ih (relA lv p) h
      show lv f + 1 ≤ levA a (relA lv p) u
      omega
theorem lev_eq {n : Nat} {a : NA} (hs : ∀ p ∈ a,p.1 ≠ p.2) (hv : ∀ p ∈ a,p.1 < n∧p.2 < n) {l : List Nat} (h : IsOrd n a l) (u : Nat) : levR a n u = levP (nextG a) l u:=by
  have hL:=lev_all hs h.good l.length (Nat.le_refl _)
  rw [List.take_length] at hL
  have hle : levP (nextG a) l u ≤ n:=by rw [← h.len]; exact levP_le _ _ u
  generalize levP (nextG a) l = L at *
  have up : ∀ f t,(f,t) ∈ a→L f + 1 ≤ L t:=fun f t ha => hL.up f t ha (h.all (hv _ ha).1)
  have upper : ∀ m u,levR a m u ≤ L u:=by
    intro m
    induction m with
    | zero => intro u; exact Nat.zero_le _
    | succ m ih =>
      suffices ∀ (b : NA) (lv : Nat→Nat),(∀ p ∈ b,p ∈ a)→(∀ u,lv u ≤ L u)→∀ u,levA b lv u ≤ L u from this a _ (fun _ h => h) ih
      intro b
      induction b with
      | nil => intro lv _ h u; exact h u
      | cons p b ihb =>
        intro lv hb hl u
        refine ihb (relA lv p) (fun q hq => hb q (List.mem_cons_of_mem _ hq)) (fun w => ?_) u
        unfold relA updF
        split
        · rename_i hw
          have h1:=up p.1 p.2 (hb p (List.mem_cons_self ..))
          have h2:=hl p.1
          have h3:=hl p.2
          rw [hw]
          omega
        · exact hl w
  have lower : ∀ m u,L u ≤ m→L u ≤ levR a m u:=by
    intro m
    induction m with
    | zero => intro u hu; omega
    | succ m ih =>
      intro u hu
      rcases hL.at' u with h0 | ⟨f,_,h2,h3⟩
      · omega
      · have h4:=ih f (by omega)
        have h5:=levA_arc (levR a m) h2
        show L u ≤ levA a (levR a m) u
        omega
  exact Nat.le_antisymm (upper n u) (lower n u hle)
theorem levels_same (n : Int) (a : List (Int × Int)) : levelsD n a = levelsR n a:=by
  unfold levelsD levelsR
  by_cases hv : validB n a = true
  · rw [if_pos hv,if_pos hv]
    obtain ⟨k,rfl,hk,ha,hp⟩:=valid_nat hv
    have hp' : ∀ p ∈ natA a,p.1 < k∧p.2 < k:=fun p h => ⟨(hp p h).1,(hp p h).2.1⟩
    have hs : ∀ p ∈ natA a,p.1 ≠ p.2:=fun p h => (hp p h).2.2
    have hi:=order_iff hp'
    have hc : acyB k a = !(List.range k).any (fun i => (warr (nextG (natA a)) k i).testBit i):=by
      unfold acyB rea
      rw [hv]; rfl
    rw [← hc] at hi
    simp only [Int.toNat_natCast]
    cases ho : ordR k (natA a) [] with
    | none =>
      rw [ho] at hi
      rw [← hi]; rfl
    | some l =>
      rw [ho] at hi
      rw [← hi]
      simp only [levD,Option.isSome_some,if_true]
      have : lz k (levP (nextG (natA a)) l) = lz k (levR (natA a) k):=congrArg (gsl (eI .i64) false) (zr_ext fun u _ => (lev_eq hs hp' (ordR_is ho) u).symm)
      rw [this]
  · rw [if_neg hv,if_neg hv]
end Go.Mx
namespace Go.Mx
set_option linter.unusedVariables false
set_option linter.unusedSimpArgs false
set_option linter.unusedSectionVars false
open Go
section
variable {α : Type}
@[simp] theorem updF_same (g : Nat→α) (i : Nat) (y : α) : updF g i y i = y:=by simp [updF]
@[simp] theorem updF_twice (g : Nat→α) (i : Nat) (x y : α) : updF (updF g i x) i y = updF g i y:=by
  funext j; unfold updF; split <;> rfl
def tb2 (m n : Nat) (g : Nat→Nat→α) : List (Bool × List α):=row m fun i => (false,row n (g i))
@[simp] theorem tb2_len (m n : Nat) (g : Nat→Nat→α) : (tb2 m n g).length = m:=row_len _ _
@[simp] theorem tb2_set (m n : Nat) (g : Nat→Nat→α) (i : Nat) (h : Nat→α) : (tb2 m n g).set i (false,row n h) = tb2 m n (updF g i h):=by
  unfold tb2
  rw [row_set]
  apply row_ext
  intro j _
  unfold updF
  split <;> rfl
end
def listsB (l m : List (Bool × List Int)) : Bool:=decide (l.length = m.length) && !(List.range l.length).any fun i => !((nth l (true,[]) i).2 == (nth m (true,[]) i).2)
end Go.Mx
namespace Go.Mx
set_option linter.unusedVariables false
set_option linter.unusedSimpArgs false
set_option linter.unusedSectionVars false
open Go
def memL (n set : Nat) : List Nat:=(List.range n).filter fun i => set.testBit i
theorem memL_succ (n set : Nat) : memL (n + 1) set = if set.testBit n = true then memL n set ++ [n] else memL n set:=by
  unfold memL
  rw [List.range_succ,List.filter_append]
  by_cases h : set.testBit n = true <;> simp [h]
theorem mem_memL {n set v : Nat} : v ∈ memL n set ↔ v < n∧set.testBit v = true:=by simp [memL]
end Go.Mx
namespace Go.Mx
set_option linter.unusedVariables false
set_option linter.unusedSimpArgs false
set_option linter.unusedSectionVars false
open Go
def lev1 (a : NA) (k : Nat) : Nat→Nat:=fun u => levR a k u + 1
abbrev levO (n : Int) (a : List (Int × Int)) : Nat→Nat:=lev1 (natA a) n.toNat
def maxN (lv : Nat→Nat) (n : Nat) : Nat:=(List.range n).foldl (fun m i => max m (lv i)) 0
theorem maxN_succ (lv : Nat→Nat) (n : Nat) : maxN lv (n + 1) = max (maxN lv n) (lv n):=by unfold maxN; rw [List.range_succ,List.foldl_append]; rfl
theorem maxN_ge (lv : Nat→Nat) {n i : Nat} (h : i < n) : lv i ≤ maxN lv n:=by
  induction n with
  | zero => omega
  | succ n ih =>
    rw [maxN_succ]
    by_cases e : i = n
    · subst e; omega
    · have:=ih (by omega); omega
theorem maxN_le (lv : Nat→Nat) {n B : Nat} (h : ∀ i,i < n→lv i ≤ B) : maxN lv n ≤ B:=by
  induction n with
  | zero => exact Nat.zero_le _
  | succ n ih =>
    rw [maxN_succ]
    have:=ih fun i hi => h i (by omega)
    have:=h n (by omega)
    omega
end Go.Mx
namespace Go.Mx
set_option linter.unusedVariables false
set_option linter.unusedSimpArgs false
set_option linter.unusedSectionVars false
open Go
def lvl (lv : Nat→Nat) (i k : Nat) : List Nat:=(List.range i).filter fun v => lv v == k
theorem lvl_succ (lv : Nat→Nat) (i k : Nat) : lvl lv (i + 1) k = if lv i = k then lvl lv i k ++ [i] else lvl lv i k:=by
  unfold lvl
  rw [List.range_succ,List.filter_append]
  by_cases h : lv i = k
  · simp [h]
  · have : (lv i == k) = false:=by simpa using h
    simp [h,this]
theorem lvl_len (lv : Nat→Nat) (i k : Nat) : (lvl lv i k).length ≤ i:=by
  have:=List.length_filter_le (fun v => lv v == k) (List.range i)
  simpa [lvl] using this
def rdR (lv : Nat→Nat) (h i : Nat) : List (Bool × List Int):=row h fun k => rowC (lvl lv i k)
@[simp] theorem rdR_len (lv : Nat→Nat) (h i : Nat) : (rdR lv h i).length = h:=row_len _ _
theorem rdR_nth (lv : Nat→Nat) {h i k : Nat} (hk : k < h) (d : Bool × List Int) : nth (rdR lv h i) d k = ((lvl lv i k).length == 0,zl (lvl lv i k)):=nth_row _ _ _ hk
theorem rdR_set (lv : Nat→Nat) (h i : Nat) : (rdR lv h i).set (lv i) (false,zl (lvl lv i (lv i)) ++ [(i : Int)]) = rdR lv h (i + 1):=by
  unfold rdR
  rw [row_set]
  apply row_ext
  intro k _
  show updF _ _ _ k = _
  unfold updF
  rw [lvl_succ]
  by_cases e : k = lv i
  · subst e
    rw [if_pos rfl,if_pos rfl]
    unfold rowC
    simp [zl]
  · rw [if_neg e,if_neg (fun h => e h.symm)]
@[simp] theorem LI_reps (n : Nat) : T.nd (K.sl false 1 n) (reps n [.nd (.sl true 1 0) []]) = gsl eII false (List.replicate n (true,[])):=by
  have e : reps n [(T.nd (K.sl true 1 0) [] : D)] = gk eII (List.replicate n (true,[])):=by
    unfold reps gk
    rw [List.flatMap,List.map_replicate]; rfl
  rw [e,gsl]; simp [eL]
@[simp] theorem elP_hole {α : Type} (e : En α) (r : Nat) (p : List Nat) (es i : Nat) (b : Bool) (l : List α) (j : Nat) (x : D) : elP r p es i (setAt (gsl e b l) [j] x) = elP r p es i (gsl e b l):=by
  unfold gsl
  rw [setAt_cons]
  have : (setC (gk e l) j (gk e l)[j]? [] x).length = (gk e l).length:=by
    cases h : (gk e l)[j]? <;> simp [setC]
  simp only [elP,this]
@[simp] theorem tgtK_hole {α : Type} (e : En α) (r : Nat) (p : List Nat) (c : Nat) (b : Bool) (l : List α) (j : Nat) (x : D) : tgtK r p c (setAt (gsl e b l) [j] x) = some (r,p,c):=by
  unfold gsl
  rw [setAt_cons]
  rfl
@[simp] theorem celA_hole {α : Type} (e : En α) (b : Bool) (l : List α) (j : Nat) (x : D) : celA j (setAt (gsl e b l) [j] x) = if j < (gk e l).length then some x else none:=by
  unfold gsl
  rw [setAt_cons,celA_nd]
  by_cases h : j < (gk e l).length
  · have hg : (gk e l)[j]? = some (gk e l)[j]:=List.getElem?_eq_getElem h
    rw [if_pos h,hg,setC_some]
    simp [h,setAt]
  · have hg : (gk e l)[j]? = none:=List.getElem?_eq_none (by omega)
    rw [if_neg h,hg]
    exact hg
@[simp] theorem setAt_hole {α : Type} (e : En α) (b : Bool) (l : List α) (j : Nat) (x y : D) : setAt (setAt (gsl e b l) [j] x) [j] y = setAt (gsl e b l) [j] y:=by
  unfold gsl
  rw [setAt_cons,setAt_cons,setAt_cons]
  cases h : (gk e l)[j]? with
  | none => simp [setC,h]
  | some t =>
    have hj : j < (gk e l).length:=by
      rw [List.getElem?_eq_some_iff] at h
      exact h.1
    simp [setC,hj,setAt]
abbrev rdG (lv : Nat→Nat) (i : Nat) : D:=gsl eII (i == 0) (rdR lv (maxN (fun v => lv v + 1) i) i)
theorem rdR_more (lv : Nat→Nat) (h i : Nat) (hh : ∀ v,v < i→lv v < h) : rdR lv h i ++ [(true,[])] = rdR lv (h + 1) i:=by
  unfold rdR
  rw [row_succ]
  congr 2
  have : lvl lv i h = []:=by
    unfold lvl
    rw [List.filter_eq_nil_iff]
    intro v hv
    have:=hh v (List.mem_range.1 hv)
    simp
    omega
  rw [this]
  rfl
theorem loop10_1 (call : Oracle) (fuel : Nat) (n : Nat) (hn : n ≤ 24) (lv : Nat→Nat) (hlv : ∀ i,lv i ≤ 100) (i : Nat) (hi : i < n) (x11 : Int) (fu : Nat) (hf : 1000 < fu) (st : St)
    (h0 : drops st h10_1 = L10_1 (.own (lz n lv)) (.own (rdG lv i)) (ii x11) (ii (lv i)) (.ref 8 []) (ii n) (ii i)) :
    run.loopN (run call fuel b10_1) fu st = some (.ex 2,X10_2 (.own (lz n lv)) (.own (gsl eII (max (maxN (fun v => lv v + 1) i) (lv i + 1) == 0) (rdR lv (max (maxN (fun v => lv v + 1) i) (lv i + 1)) i))) (ii x11) (ii (lv i)) (.ref 8 []) (ii n) (ii i)):=by
  have hall : ∀ v,v < i→lv v < maxN (fun v => lv v + 1) i:=fun v hv => maxN_ge (fun v => lv v + 1) hv
  have hb : maxN (fun v => lv v + 1) i ≤ 101:=maxN_le _ fun v _ => by have:=hlv v; omega
  have hz : (i == 0) = (maxN (fun v => lv v + 1) i == 0):=by
    by_cases h : i = 0
    · subst h; rfl
    · have:=maxN_ge (fun v => lv v + 1) (show 0 < i by omega)
      have h2 : ¬ maxN (fun v => lv v + 1) i = 0:=by omega
      rw [Bool.eq_iff_iff]
      simp [h,h2]
  rw [rdG,hz] at h0
  generalize maxN (fun v => lv v + 1) i = m at *
  have hk:=hlv i
  refine loop_cnt call fuel h10_1 _ (lv i + 1 - m) (fun j => L10_1 (.own (lz n lv)) (.own (gsl eII (m + j == 0) (rdR lv (m + j) i))) (ii x11) (ii (lv i)) (.ref 8 []) (ii n) (ii i)) _ (by intro h; cases h) ?_ ?_ fu st (by simpa using h0) (by omega)
  · intro j hj
    have e:=rdR_more lv (m + j) i fun v hv => by have:=hall v hv; omega
    have hlen:=rdR_len lv (m + j) i
    have hm : m + j + 1 ≤ most:=by unfold most; omega
    have hle : ((m + j : Nat) : Int) ≤ ((lv i : Nat) : Int):=by omega
    have hz2 : (m + (j + 1) == 0) = false:=by simp
    rw [hz2]
    have e' : rdR lv (m + (j + 1)) i = rdR lv (m + j) i ++ [(true,[])]:=e.symm
    rw [e']
    generalize rdR lv (m + j) i = R at *
    generalize (m + j == 0) = z at *
    generalize m + j = q at *
    have hap : apD 1 1 [T.nd (K.sl true 1 0) []] (gsl eII z R) = some (gsl eII false (R ++ [(true,[])])):=by
      have:=L_apD1 (eI .i64) z true R []
      rw [hlen,if_pos hm] at this
      exact this
    simp [hlen,hle,hm,hap]
  · have hlen:=rdR_len lv (m + (lv i + 1 - m)) i
    have hmax : max m (lv i + 1) = m + (lv i + 1 - m):=by omega
    rw [hmax]
    have hgt : ¬ ((m + (lv i + 1 - m) : Nat) : Int) ≤ ((lv i : Nat) : Int):=by omega
    generalize m + (lv i + 1 - m) = q at *
    simp [hlen,hgt]
theorem f10 (call : Oracle) (fuel : Nat) (hf : 1000 < fuel) (b : Bool) (n : Int) (a : List (Int × Int)) (lv : Nat→Nat) (hlv : ∀ i,lv i ≤ 100)
    (h33 : call 17 [.v (.int .i64 n),sa b a] = some (ckD n a)) (h34 : ckE n a = 0→call 22 [.v (.int .i64 n),sa b a] = some (.nd .tu [lz n.toNat lv,.v (.int .i64 0)])) :
    callF call fuel c10 [.v (.int .i64 n),sa b a] = some (if ckE n a = 0 then .nd .tu [rdG lv n.toNat,.v (.int .i64 0)] else .nd .tu [gsl eII true [],.v (.int .i64 (ckE n a))]):=by
  rw [callF_tab call fuel c10 31 _ (by exact Nat.le_of_ble_eq_true rfl) (by exact Nat.le_of_ble_eq_true rfl)]
  unfold ckD at h33
  by_cases he : ckE n a = 0
  · rw [if_pos he] at h33 ⊢
    have h34:=h34 he
    obtain ⟨k,rfl,h12,hv,_⟩:=ck_ok he
    simp only [Int.toNat_natCast] at h33 h34 ⊢
    have hL : ∀ st,drops st h10_0 = L10_0 (.own (lz k lv)) (.own (rdG lv 0)) (.ref 8 []) (ii k) (ii 0)→run.loopN (run call fuel b10_0) fuel st = some (.ex 0,X10_0 (.own (rdG lv k))):=by
      intro st h0
      refine loop_cnt call fuel h10_0 _ k (fun i => L10_0 (.own (lz k lv)) (.own (rdG lv i)) (.ref 8 []) (ii k) (ii i)) _ (by intro h; cases h) ?_ (by simp) fuel st h0 (by omega)
      intro i hi
      have hw:=wrap_succ (i:=i) (by omega)
      have e1:=zr_nth k lv hi
      have hL1:=loop10_1 call fuel k (by omega) lv hlv i hi i fuel hf
      have hmx : maxN (fun v => lv v + 1) (i + 1) = max (maxN (fun v => lv v + 1) i) (lv i + 1):=maxN_succ _ _
      have hg : lv i < max (maxN (fun v => lv v + 1) i) (lv i + 1):=by omega
      have hrd : rdG lv (i + 1) = gsl eII false (rdR lv (max (maxN (fun v => lv v + 1) i) (lv i + 1)) (i + 1)):=by
        rw [rdG,hmx]
        rfl
      rw [hrd]
      have hz : (max (maxN (fun v => lv v + 1) i) (lv i + 1) == 0) = false:=by simp
      rw [hz] at hL1
      generalize max (maxN (fun v => lv v + 1) i) (lv i + 1) = h at *
      have e2:=rdR_nth lv (i:=i) hg (true,[])
      have e3:=rdR_set lv h i
      have hm : (lvl lv i (lv i)).length + 1 ≤ most:=by have:=lvl_len lv i (lv i); unfold most; omega
      have hlen:=rdR_len lv h i
      generalize rdR lv h (i + 1) = R' at *
      generalize rdR lv h i = R at *
      generalize lvl lv i (lv i) = M at *
      have hgl : (gk eII R).length = h:=by rw [gk_len,hlen]; simp [eL]
      simp [hi,e1]
      rw [hL1 _ (by simp)]
      simp [hi,hw,hlen,hg,e2,hm,e3,hgl]
    generalize zr k (ordG k a) = Z at *
    simp [c10,h33,h34]
    rw [hL _ (by simp; rfl)]
    simp
  · rw [if_neg he] at h33 ⊢
    generalize ckE n a = e at *
    simp [c10,h33,he]
    rfl
theorem f9 (call : Oracle) (fuel : Nat) (b : Bool) (n : Int) (a : List (Int × Int)) (R : List (Bool × List Int)) (z : Bool)
    (h13 : call 10 [.v (.int .i64 n),sa b a] = some (if ckE n a = 0 then .nd .tu [gsl eII z R,.v (.int .i64 0)] else .nd .tu [gsl eII true [],.v (.int .i64 (ckE n a))])) :
    callF call fuel c9 [.v (.int .i64 n),sa b a] = some (if ckE n a = 0 then .nd .tu [.v (.int .i64 (R.length : Int)),.v (.int .i64 0)] else .nd .tu [.v (.int .i64 0),.v (.int .i64 (ckE n a))]):=by
  rw [callF_tab call fuel c9 9 _ (by exact Nat.le_of_ble_eq_true rfl) (by exact Nat.le_of_ble_eq_true rfl)]
  by_cases he : ckE n a = 0
  · rw [if_pos he] at h13 ⊢
    simp [c9,h13]
  · rw [if_neg he] at h13 ⊢
    generalize ckE n a = e at *
    simp [c9,h13]
end Go.Mx
namespace Go.Mx
set_option linter.unusedVariables false
set_option linter.unusedSimpArgs false
set_option linter.unusedSectionVars false
open Go
structure PO (R : Nat→Nat→Bool) (n : Nat) : Prop where
  irr : ∀ i,R i i = false
  tr : ∀ i j k,R i j = true→R j k = true→R i k = true
  lt : ∀ i j,R i j = true→i < n∧j < n
abbrev oR (n : Int) (a : List (Int × Int)) : Nat→Nat→Bool:=Rb (ordG n a)
theorem oR_bit (n : Int) (a : List (Int × Int)) (i j : Nat) : oR n a i j = (decide (i < n.toNat) && decide (j < n.toNat) && pL (rea n a) i j):=by
  unfold oR Rb ordG cloL
  exact arcL_bit i j
theorem acy_irr {n : Int} {a : List (Int × Int)} (hac : acyB n a = true) {i : Nat} (hi : i < n.toNat) : (rea n a i).testBit i = false:=by
  unfold acyB at hac
  simp only [Bool.and_eq_true,Bool.not_eq_true',any_range] at hac
  exact hac.2 i hi
theorem oR_iff {n : Int} {a : List (Int × Int)} (hv : validB n a = true) (hac : acyB n a = true) (i j : Nat) : oR n a i j = true ↔ (rea n a i).testBit j = true:=by
  rw [oR_bit]
  simp only [pL,Bool.and_eq_true,decide_eq_true_eq]
  constructor
  · exact fun h => h.2.2
  · intro h
    obtain ⟨h1,h2⟩:=Rr_lt (va_bnd hv) (i:=i) (j:=j) h
    refine ⟨⟨h1,h2⟩,fun e => ?_,h⟩
    subst e
    rw [acy_irr hac h1] at h
    cases h
theorem oR_po {n : Int} {a : List (Int × Int)} (hv : validB n a = true) (hac : acyB n a = true) : PO (oR n a) n.toNat:=by
  refine ⟨fun i => ?_,fun i j k h1 h2 => ?_,fun i j h => ?_⟩
  · rw [oR_bit]
    simp [pL]
  · rw [oR_iff hv hac] at *
    exact Rr_trans (va_bnd hv) h1 h2
  · rw [oR_bit] at h
    simp only [Bool.and_eq_true,decide_eq_true_eq] at h
    exact h.1
theorem ord_lt {n : Int} {a : List (Int × Int)} (h : ckE n a = 0) (i : Nat) : ordG n a i < 2 ^ 64:=by
  obtain ⟨k,rfl,hk,hv,hac⟩:=ck_ok h
  have hcv:=cl_valid hv
  obtain ⟨k',hk',_,hC,hp⟩:=valid_nat hcv
  obtain rfl : k = k':=by omega
  unfold ordG
  exact Nat.lt_of_lt_of_le (nextG_lt (n:=k) (by omega) (fun p hp' => ⟨(hp p hp').1,(hp p hp').2.1⟩) i) (by decide)
def muR (R : Nat→Nat→Bool) (n v : Nat) : Nat:=((List.range n).filter fun x => R v x).length
theorem muR_le (R : Nat→Nat→Bool) (n v : Nat) : muR R n v ≤ n:=by
  unfold muR
  exact Nat.le_trans (List.length_filter_le _ _) (by simp)
theorem muR_lt {R : Nat→Nat→Bool} {n : Nat} (h : PO R n) {v u : Nat} (hvu : R v u = true) : muR R n u < muR R n v:=by
  unfold muR
  refine filter_lt (p:=fun x => R u x) (q:=fun x => R v x) _ (fun x _ hx => h.tr v u x hvu hx) ⟨u,List.mem_range.2 (h.lt v u hvu).2,h.irr u,hvu⟩
theorem fwO_some {l : Nat→Option Nat} {k v u : Nat} (h : fwO l k v = some u) : u < k∧l u = some v:=by
  induction k with
  | zero => cases h
  | succ k ih =>
    unfold fwO at h
    cases hl : l k with
    | none =>
      rw [hl] at h
      have:=ih h
      exact ⟨by omega,this.2⟩
    | some x =>
      rw [hl] at h
      simp only [ldB] at h
      split at h
      · rename_i hx
        cases h
        exact ⟨by omega,by rw [hl,hx]⟩
      · have:=ih h
        exact ⟨by omega,this.2⟩
theorem fwO_iff {R : Nat→Nat→Bool} {l : Nat→Option Nat} {n : Nat} (ht : Typ R n l) (v u : Nat) : fwO l n v = some u ↔ l u = some v:=by
  refine ⟨fun h => (fwO_some h).2,fun h => ?_⟩
  have key : ∀ k,u < k→fwO l k v = some u:=by
    intro k
    induction k with
    | zero => omega
    | succ k ih =>
      intro hk
      unfold fwO
      cases hl : l k with
      | none =>
        have : u ≠ k:=by rintro rfl; rw [hl] at h; cases h
        exact ih (by omega)
      | some x =>
        simp only [ldB]
        by_cases hx : v = x
        · subst hx
          rw [if_pos rfl,ht.inj u k v h hl]
        · rw [if_neg hx]
          have : u ≠ k:=by rintro rfl; rw [hl] at h; cases h; exact hx rfl
          exact ih (by omega)
  exact key n (ht.typ u v h).1
abbrev kuhN (n : Int) (a : List (Int × Int)) : Nat→Option Nat:=kuh (oR n a) n.toNat n.toNat
def chs (n : Int) (a : List (Int × Int)) : List (List Nat):=chL (kuhN n a) (fwO (kuhN n a) n.toNat) (muR (oR n a) n.toNat) n.toNat
def chD (n : Int) (a : List (Int × Int)) : D:=if ckE n a = 0 then .nd .tu [llE (chs n a),.v (.int .i64 0)] else .nd .tu [gsl eII true [],.v (.int .i64 (ckE n a))]
theorem part_chs (call : Oracle) (fuel : Nat) (hf : 1000 < fuel) (k : Nat) (a : List (Int × Int)) (h : ckE (k : Int) a = 0)
    (h49 : call 19 [.nd (.sl false 1 1) [.v (.int .i64 (-1))],.v (.int .i64 (k : Int))] = some (si false (List.replicate k (-1)))) :
    fk (run call fuel c929.code (tab 83 59 (fu (fu dd 8 (.own (boL k (kuh (oR k a) k k)))) 2 (.own (boN k))) dd)) (fun st => resF st c929.res) = some (.nd .tu [llE (chs k a),.v (.int .i64 0)]):=by
  obtain ⟨k',hk,h12,hv,hac⟩:=ck_ok h
  obtain rfl : k = k':=by omega
  have hp:=oR_po hv hac
  rw [Int.toNat_natCast] at hp
  have hi:=kuh_inv (oR k a) k k (Nat.le_refl _)
  have:=part929 call fuel hf k h12 (kuh (oR k a) k k) (fun u v h => (hi.typ.typ u v h).2.1) (muR (oR k a) k) (fun v u h => by
    have h2:=(fwO_iff hi.typ v u).1 h
    obtain ⟨h3,_,h4⟩:=hi.typ.typ u v h2
    exact ⟨h3,muR_lt hp h4⟩) (fun v => by have:=muR_le (oR k a) k v; omega) h49
  unfold chs kuhN
  rw [Int.toNat_natCast]
  exact this
end Go.Mx
namespace Go.Mx
set_option linter.unusedVariables false
set_option linter.unusedSimpArgs false
set_option linter.unusedSectionVars false
open Go Go.RowKit
theorem two_fresh {w w' : World} {t : C} {v : Value} (h : FreshT w w' t) : FreshT w w' (.nd .tu [t,.v v]):=by
  have hc : ∀ b,cnt b (.nd .tu [t,.v v] : C) = cnt b t:=by intro b; simp [cnt,cntL,K.own]
  exact ⟨⟨trivial,h.mem,trivial,trivial⟩,fun b => by rw [hc]; exact h.own b⟩
theorem nil_fresh {w w' : World} (es : Nat) : FreshT w w' (.nd (.sl ⟨none,0,undef⟩ es 0) []):=by
  have hc : ∀ b,cnt b (.nd (.sl ⟨none,0,undef⟩ es 0) [] : C) = 0:=by intro b; simp [cnt,cntL,K.own]
  exact ⟨⟨⟨by simp [valL],by simp,by simp,fun a ha => by cases ha⟩,trivial⟩,fun b => by rw [hc]; exact ⟨by omega,fun h => absurd rfl h⟩⟩
theorem box_tree {w : World} {b T : Nat} {t : C} (h : w.heap[b]? = some (.cells #[val t] T (0,0))) (hm : Mem w true t) :
    ∃ tb : C,val tb = .pointer (some ⟨b,0,none⟩)∧er tb = .nd (.bx false) [er t]∧Mem w true tb∧(∃ k kids,tb = .nd k kids)∧∀ c,cnt c tb = (if b = c then 1 else 0) + cnt c t:=by
  refine ⟨.nd (.bx ⟨some ⟨b,0,none⟩,0,undef⟩) [t],rfl,by simp [er,erL,K.er],⟨⟨_,rfl,?_,fun _ => ⟨rfl,_,T,0,0,h,?_,.inl rfl⟩⟩,hm,trivial⟩,⟨_,_,rfl⟩,fun c => by simp [cnt,cntL,K.own]⟩
  · intro i u hu
    simp only [valL] at hu
    cases i with
    | zero =>
      simp at hu
      subst hu
      have hadd : (⟨b,0,none⟩ : Addr).add 0 = ⟨b,0,none⟩:=rfl
      rw [hadd]
      exact cell_of_one h
    | succ i => simp at hu
  · simp [valL]
theorem ldA_row (l : Nat→Option Nat) (n : Nat) : ldA l n = ((row n (ldZ l)).map (Value.int .i64)).toArray:=by
  simp [ldA,row]
theorem cntL_dead (n b : Nat) : cntL b (List.replicate n (.v undef : C)) = 0:=by
  induction n with
  | zero => rfl
  | succ n ih => simp [List.replicate_succ,cntL,cnt,ih]
theorem cntL_dead_set (n b i : Nat) (t : C) (hi : i < n) : cntL b ((List.replicate n (.v undef : C)).set i t) = cnt b t:=by
  have:=cntL_set b (List.replicate n (.v undef : C)) i (.v undef) t (by rw [List.getElem?_replicate,if_pos hi])
  rw [cntL_dead] at this
  simpa [cnt] using this
theorem ldA_none (k : Nat) : ldA (fun _ => none) k = (repL k k).toArray:=by
  rw [repL_whole]
  apply Array.ext'
  simp [ldA,ldZ]
  rw [List.map_const',List.length_range]
set_option maxHeartbeats 1000000 in
set_option maxRecDepth 100000 in
theorem chains_any (b : Bool) (n : Int) (a : List (Int × Int)) (hl : a.length ≤ 1000) (w : World) (av : Value) (ha : ArgOK w av (sa b a)) :
    Calls Go.Proofs.Try.prog 7 #[.int .i64 n,av] w fun e w' => ∃ t,e = .returned (val t)∧er t = chD n a∧Below w.heap.size w w'∧FreshT w w' t:=by
  have hmf : ∀ (fn : Fn) (first cap : Array Value) (w : World),(Instr.makeFunc fn first cap).run Go.Proofs.Try.prog w = .ok (.func fn first cap) w:=fun _ _ _ _ => rfl
  have HB : Hid (ArgOK (w.alloc (.cells #[.int .i64 n] 3)) av (sa b a)):=by
    obtain ⟨t,h1,h2,h3,h4⟩:=ha
    exact ⟨t,h1,h2,h3.same fun c hc => Below.heap_alloc _ _ _ (h4 c hc),fun c hc => by have:=h4 c hc; simp; omega⟩
  have hb0 : Below w.heap.size w (w.alloc (.cells #[.int .i64 n] 3)):=(Below.refl _ _).alloc (Nat.le_refl _) _
  have HN0 : Hid ((w.alloc (.cells #[.int .i64 n] 3)).heap[w.heap.size]? = some (.cells #[.int .i64 n] 3 (0,0))):=heap_new _ _
  go_enter Go.Proofs.Try.func7,Go.Proofs.Try.ntmps7
  go_wp2_with fail
  refine (ck_calls b n a hl HB.out).mono ?_
  rintro e w1 ⟨t,rfl,ht,hb1,hf1⟩
  by_cases hck : ckE n a = 0
  · obtain ⟨k,rfl,h12,hv,hac⟩:=ck_ok hck
    have ht' : er t = .nd .tu [su6 k (ordG k a),.v (.int .i64 0)]:=by rw [ht,ckD,if_pos hck,Int.toNat_natCast]
    obtain ⟨t1,rfl,h1⟩:=tu2 ht'
    obtain ⟨oa,oc,e1,_⟩:=int_tree h1 hf1.mem.2.1
    rw [zr_len] at e1
    have e2 : val (.nd .tu [t1,.v (.int .i64 0)]) = .tuple #[.slice oa k oc,.int .i64 0]:=by
      show Value.tuple (valL [t1,.v _]).toArray = _
      rw [valL,valL,valL,e1]
      rfl
    rw [e2]
    have hg:=ord_lt hck
    have HN1 : Hid (w1.heap[w.heap.size]? = some (.cells #[.int .i64 (k : Int)] 3 (0,0))):=by rw [Hid,hb1.block _ (by simp)]; exact HN0.out
    have HD : Hid (chD k a = .nd .tu [llE (chs k a),.v (.int .i64 0)]):=by rw [Hid,chD,if_pos hck]
    have HP : Hid (∀ call : Oracle,call 19 [.nd (.sl false 1 1) [.v (.int .i64 (-1))],.v (.int .i64 (k : Int))] = some (si false (List.replicate k (-1))) →
        fk (run call 6000 c929.code (tab 83 59 (fu (fu dd 8 (.own (boL k (kuh (Rb (ordG k a)) k k)))) 2 (.own (boN k))) dd)) (fun st => resF st c929.res) = some (.nd .tu [llE (chs k a),.v (.int .i64 0)])):=fun call h => part_chs call 6000 (by decide) k a hck h
    generalize ordG k a = g at *
    have HT : Hid (val t1 = .slice oa k oc∧er t1 = su6 k g∧Mem w1 false t1∧∀ c,cnt c t1 ≠ 0→w.heap.size < c∧c < w1.heap.size):=by
      refine ⟨e1,h1,?_,fun c hc => ?_⟩
      · exact Mem.weak hf1.mem.2.1
      · have:=(hf1.own c).2 (by simp only [cnt,cntL]; omega)
        simp at this
        exact this
    clear e1 h1 e2 ht ht' hf1 hck hv hac
    have z1:=hb1.size
    simp at z1
    have cN2 : ((w1.alloc (.cells #[.slice oa k oc] 51)).alloc (.cells #[.int .i64 (-1)] 3)).cell? ⟨w.heap.size,0,none⟩ = some (.int .i64 (k : Int)):=cell_of_one (t:=3) (by rw [Below.heap_alloc _ _ _ (by simp; omega),Below.heap_alloc _ _ _ (by omega)]; exact HN1.out)
    generalize hW3 : (w1.alloc (.cells #[.slice oa k oc] 51 (0,0))).alloc (.cells #[.int .i64 (-1)] 3 (0,0)) = W3 at *
    have z3 : W3.heap.size = w1.heap.size + 2:=by rw [← hW3]; simp
    have b3 : Below w1.heap.size w1 W3:=by rw [← hW3]; exact ((Below.refl _ _).alloc (Nat.le_refl _) _).alloc (by simp) _
    have hO3 : W3.heap[w1.heap.size]? = some (.cells #[.slice oa k oc] 51 (0,0)):=by rw [← hW3,Below.heap_alloc _ _ _ (by simp)]; exact heap_new _ _
    have hE3 : W3.cell? ⟨w1.heap.size + 1,0,none⟩ = some (.int .i64 (-1)):=cell_of_one (t:=3) (by
      have:=heap_new (w1.alloc (.cells #[.slice oa k oc] 51 (0,0))) (.cells #[.int .i64 (-1)] 3 (0,0))
      rw [← hW3]; simpa using this)
    subst hW3
    go_wp2_with fail
    refine (repeat_any k h12 _ 1 _ hE3).mono ?_
    rintro e w2 ⟨bS,rfl,hS,hSlo,hb2⟩
    have hSlt:=lt_of_block hS
    have z2:=hb2.size
    have HF : Hid (FW w.heap.size w1.heap.size w2.heap.size (w2.heap.size + 1) bS k g (fun _ => none) ((w2.alloc (.cells #[.slice (some ⟨bS,0,none⟩) k k] 34)).alloc (.cells #[.func (.func 20) #[] #[.pointer (some ⟨w.heap.size,0,none⟩),.pointer (some ⟨w1.heap.size,0,none⟩),.pointer (some ⟨w2.heap.size,0,none⟩),.pointer (some ⟨w2.heap.size + 1,0,none⟩)]] 56))∧FO w.heap.size w1.heap.size w2.heap.size (w2.heap.size + 1) bS∧Below w.heap.size w ((w2.alloc (.cells #[.slice (some ⟨bS,0,none⟩) k k] 34)).alloc (.cells #[.func (.func 20) #[] #[.pointer (some ⟨w.heap.size,0,none⟩),.pointer (some ⟨w1.heap.size,0,none⟩),.pointer (some ⟨w2.heap.size,0,none⟩),.pointer (some ⟨w2.heap.size + 1,0,none⟩)]] 56))):=by
      have old : ∀ o o' c,c < w2.heap.size→((w2.alloc o).alloc o').heap[c]? = w2.heap[c]?:=fun o o' c hc => by rw [Below.heap_alloc _ _ _ (by simp; omega),Below.heap_alloc _ _ _ hc]
      have old1 : ∀ c,c < w1.heap.size→w2.heap[c]? = w1.heap[c]?:=fun c hc => by rw [hb2.block _ (by omega),b3.block _ hc]
      obtain ⟨q1,q2,q3,q4⟩:=HT.out
      refine ⟨⟨?_,⟨t1,?_,q2,q3.same fun c hc => ?_,fun c hc => (q4 c hc).2⟩,?_,?_,?_,fun u x h => by cases h⟩,⟨by omega,by omega,by omega,by omega⟩,?_⟩
      · rw [old _ _ _ (by omega),old1 _ (by omega)]; exact HN1.out
      · rw [old _ _ _ (by omega),hb2.block _ (by omega),q1]; exact hO3
      · have:=(q4 c hc).2; rw [old _ _ _ (by omega),old1 _ this]
      · rw [Below.heap_alloc _ _ _ (by simp)]; exact heap_new _ _
      · rw [old _ _ _ (by omega),ldA_none]; exact hS
      · have:=heap_new (w2.alloc (.cells #[.slice (some ⟨bS,0,none⟩) k k] 34)) (.cells #[.func (.func 20) #[] #[.pointer (some ⟨w.heap.size,0,none⟩),.pointer (some ⟨w1.heap.size,0,none⟩),.pointer (some ⟨w2.heap.size,0,none⟩),.pointer (some ⟨w2.heap.size + 1,0,none⟩)]] 56)
        simpa using this
      · refine (((below_trans (below_trans hb0 hb1) (below_trans b3 hb2))).alloc ?_ _).alloc ?_ _
        · omega
        · simp; omega
    have cN6:=cell_of_one HF.out.1.num
    have HS2 : Hid (w1.heap.size + 2 ≤ bS∧w.heap.size + 1 ≤ w1.heap.size∧bS < w2.heap.size):=⟨by omega,by omega,hSlt⟩
    clear hS hO3 hE3 b3 hb2 HN1 HT cN2 hSlo z1 z2 z3 hSlt
    go_upto_region 7 with fail
    rename_i K12 hK12 K8 hK8
    have HK12:=Lib.hid hK12
    clear hK12
    go_wp2_with fail
    go_loopg [32] k (fun r p wr => ∃ v : Nat,v + r = k∧p = .int .i64 (v : Int)∧FW w.heap.size w1.heap.size w2.heap.size (w2.heap.size + 1) bS k g (kuh (Rb g) k v) wr∧Below w.heap.size w wr)
    case atStart => exact ⟨0,by omega,rfl,HF.out.1,HF.out.2.2⟩
    case round =>
      obtain ⟨v,hv,rfl,hW,hB⟩:=hrel
      have HW:=Lib.hid hW
      have HBr:=Lib.hid hB
      have cF:=cell_of_one hW.self
      have l1:=hW.lt
      clear hW hB cN6
      by_cases hlt : v < k
      · have hw:=wrap_succ (i:=v) (by omega)
        have hmk : (Instr.makeMap 57 none).run Go.Proofs.Try.prog wr = .ok (.map (some wr.heap.size)) (wr.alloc (.map #[] 0)):=(run_makeMap_set .i64 57).1
        have HM:=Lib.hid (run_makeMap_set (P:=Go.Proofs.Try.prog) (w:=wr) .i64 57).2
        have HC : Hid (Calls Go.Proofs.Try.prog 20 #[.int .i64 (v : Int),.map (some wr.heap.size),.pointer (some ⟨w.heap.size,0,none⟩),.pointer (some ⟨w1.heap.size,0,none⟩),.pointer (some ⟨w2.heap.size,0,none⟩),.pointer (some ⟨w2.heap.size + 1,0,none⟩)] (wr.alloc (.map #[] 0))
            fun e w' => ∃ b,e = .returned (.bool b)∧FW w.heap.size w1.heap.size w2.heap.size (w2.heap.size + 1) bS k g (kuh (Rb g) k (v + 1)) w'∧Below w.heap.size w w'):=by
          have hal : Below wr.heap.size wr (wr.alloc (.map #[] 0)):=(Below.refl _ _).alloc (Nat.le_refl _) _
          refine (follow_any w.heap.size w1.heap.size w2.heap.size (w2.heap.size + 1) bS wr.heap.size k g h12 hg HF.out.2.1 l1 (k + 1) v ⟨kuh (Rb g) k v,fun _ => false⟩ (wr.alloc (.map #[] 0)) (Nat.lt_succ_of_le (untr_le k fun _ => false)) hlt (HW.out.below HF.out.2.1 fun c hc => hal.block c (by omega)) ⟨[],HM.out,fun u => by simp⟩).mono ?_
          rintro e w' ⟨g1,g2,_,g4⟩
          refine ⟨_,g1,g2,?_⟩
          have hB2 : Below w.heap.size w (wr.alloc (.map #[] 0)):=HBr.out.alloc HBr.out.size _
          have hs:=HBr.out.size
          have ho:=HS2.out
          exact ⟨g4.os.trans hB2.os,g4.tape.trans hB2.tape,g4.output.trans hB2.output,Nat.le_trans hB2.size g4.size,fun c hc => (g4.block c (by simp; omega) (by omega) (by omega)).trans (hB2.block c hc)⟩
        go_wp2_with fail
        refine HC.out.mono ?_
        rintro e w3 ⟨b',rfl,hW3,hB3⟩
        have HW3:=Lib.hid hW3
        have HB3:=Lib.hid hB3
        clear hW3 hB3 cF HC HM hmk
        go_wp2_with fail
        go_roundg (gk - 1)
        case measure => omega
        case rel => exact ⟨v + 1,by omega,by go_num,HW3.out,HB3.out⟩
      · obtain rfl : gk = 0:=by omega
        obtain rfl : v = k:=by omega
        go_wp2_with fail
        refine HK12.out _ _ ?_
        have hW:=HW.out
        have hB:=HBr.out
        have hS2:=HS2.out
        have hrow:=hW.row
        rw [ldA_row] at hrow
        obtain ⟨tr,r1,r2,r3,r4⟩:=row_tree (n:=v) .i64 (by simp) hrow
        have hvar:=hW.var
        rw [← r1] at hvar
        obtain ⟨t8,q1,q2,q3,q4,q5⟩:=box_tree hvar r3
        obtain ⟨t2,p1,p2,p3,p4,p5⟩:=box_tree (t:=.v (.int .i64 (v : Int))) hW.num trivial
        have hlt8:=lt_of_block hW.var
        have hlt2:=lt_of_block hW.num
        have hltS:=lt_of_block hW.row
        refine part_ends (g:=Glob.none) (semB_ok base1_ok tbl_ok 6000 1) (fuel:=6000) comp929 Go.Proofs.Try.func7 (by rfl) (w0:=w) (hg:=Glob.none_at w) (((Rel.dead (Keep.of_below hB)).know 2 (t:=t2) rfl p4 p3 (by rw [p1]; rfl) ?_).know 8 (t:=t8) rfl q4 q3 (by rw [q1]; rfl) ?_) rfl (d:=.nd .tu [llE (chs v a),.v (.int .i64 0)]) ?_ ?_
        · intro c hc
          rw [p5] at hc
          rw [cntL_dead,p5]
          have hz : cnt c (.v (.int .i64 (v : Int)) : C) = 0:=rfl
          rw [hz] at hc ⊢
          have e : w.heap.size = c:=by
            by_cases h : w.heap.size = c
            · exact h
            · rw [if_neg h] at hc; exact absurd rfl hc
          subst e
          exact ⟨rfl,by simp,fun h => by have:=h.1; simp [Env.ent] at this,hlt2⟩
        · intro c hc
          rw [q5] at hc
          rw [cntL_dead_set _ _ _ _ (by simp),q5,p5]
          have hz : cnt c (.v (.int .i64 (v : Int)) : C) = 0:=rfl
          have hr1:=(r4 c).1
          have hr2:=(r4 c).2
          have e : w2.heap.size = c ∨ c = bS:=by
            by_cases h : w2.heap.size = c
            · exact .inl h
            · rw [if_neg h] at hc; exact .inr (hr2 (by omega))
          have e2 : ¬ w.heap.size = c:=by omega
          rw [hz,if_neg e2]
          refine ⟨rfl,?_,fun h => ?_,?_⟩
          · split
            · rename_i h
              have : cnt c tr = 0:=by
                by_cases hz2 : cnt c tr = 0
                · exact hz2
                · have:=hr2 hz2; omega
              omega
            · omega
          · have h1 : c < w.heap.size:=h.1
            omega
          · omega
        · have e1 : er t2 = boN v:=p2
          have e2 : er t8 = boL v (kuh (Rb g) v v):=by rw [q2,r2]
          rw [e1,e2]
          refine (HP.out (semB base1 tbl 6000 1) ?_)
          rw [semB_base rfl (by decide)]
          exact base1_at v h12
        · rintro e w' ⟨t,rfl,ht,hb,hf⟩
          exact ⟨t,rfl,by rw [ht,HD.out],hb,hf⟩
  · have ht' : er t = .nd .tu [gsl (eI .u64) true [],.v (.int .i64 (ckE n a))]:=by rw [ht,ckD,if_neg hck]
    obtain ⟨t1,rfl,h1⟩:=tu2 ht'
    obtain ⟨oa,oc,e1,_⟩:=int_tree h1 hf1.mem.2.1
    have e2 : val (.nd .tu [t1,.v (.int .i64 (ckE n a))]) = .tuple #[.slice oa 0 oc,.int .i64 (ckE n a)]:=by
      show Value.tuple (valL [t1,.v _]).toArray = _
      rw [valL,valL,valL,e1]
      rfl
    rw [e2]
    have hD : Hid (er (.nd .tu [.nd (.sl ⟨none,0,undef⟩ 1 0) [],.v (.int .i64 (ckE n a))] : C) = chD n a):=by rw [Hid,chD,if_neg hck]; rfl
    have hne : (ckE n a == 0) = false:=by simpa using hck
    generalize ckE n a = ck at *
    go_wp2_with fail
    go_ret2
    exact ⟨.nd .tu [.nd (.sl ⟨none,0,undef⟩ 1 0) [],.v (.int .i64 ck)],rfl,hD.out,(below_trans hb0 hb1).trans (((Below.refl _ _).alloc (Nat.le_refl _) _).mono (below_trans hb0 hb1).size),two_fresh (nil_fresh 1)⟩
end Go.Mx
namespace Go.Mx
set_option linter.unusedVariables false
set_option linter.unusedSimpArgs false
set_option linter.unusedSectionVars false
open Go
structure Spc where
  a : Int
  b : Int
  c : Int
  d : Int
  e : Int
  f : Int
  g : Int
def ePc : En Spc where
  es:=7
  enc p:=[.v (.int .i64 p.a),.v (.int .i64 p.b),.v (.int .i64 p.c),.v (.int .i64 p.d),.v (.int .i64 p.e),.v (.int .i64 p.f),.v (.int .i64 p.g)]
  d:=⟨0,0,0,0,0,0,0⟩
  pos:=by decide
  len _:=rfl
  flat _:=rfl
end Go.Mx
namespace Go.Mx
set_option linter.unusedVariables false
set_option linter.unusedSimpArgs false
set_option linter.unusedSectionVars false
open Go
def inZ (n lo hi : Int) : Bool:=decide (lo ≤ n) && decide (n ≤ hi)
theorem b67 (call : Oracle) (fuel : Nat) (n lo hi : Int) : callF call fuel B.c67 [nI n,nI lo,nI hi] = some (.v (.bool (inZ n lo hi))):=by
  rw [callF_tab call fuel B.c67 B.K67 _ (by exact Nat.le_of_ble_eq_true rfl) (by exact Nat.le_of_ble_eq_true rfl)]
  unfold inZ
  by_cases h1 : lo ≤ n
  · by_cases h2 : n ≤ hi <;> simp [B.c67,B.K67,h1,h2]
  · simp [B.c67,B.K67,h1]
def vaB (p : Spc) : Bool:=inZ p.b 1 999 && inZ p.c 1 999 && inZ p.d 1 9 && inZ p.e 1 9 && inZ p.a 1 9999 && inZ p.f 0 11 && inZ p.g 1 200000
abbrev agP (p : Spc) : D:=.nd .ag [.v (.int .i64 p.a),.v (.int .i64 p.b),.v (.int .i64 p.c),.v (.int .i64 p.d),.v (.int .i64 p.e),.v (.int .i64 p.f),.v (.int .i64 p.g)]
theorem b53 (call : Oracle) (fuel : Nat) (p : Spc) (h : ∀ n lo hi : Int,call 67 [nI n,nI lo,nI hi] = some (.v (.bool (inZ n lo hi)))) : callF call fuel B.c53 [agP p] = some (.v (.bool (vaB p))):=by
  rw [callF_tab call fuel B.c53 B.K53 _ (by exact Nat.le_of_ble_eq_true rfl) (by exact Nat.le_of_ble_eq_true rfl)]
  unfold vaB
  have h1:=h p.b 1 999
  have h2:=h p.c 1 999
  have h3:=h p.d 1 9
  have h4:=h p.e 1 9
  have h5:=h p.a 1 9999
  have h6:=h p.f 0 11
  have h7:=h p.g 1 200000
  clear h
  generalize inZ p.b 1 999 = r1 at *
  generalize inZ p.c 1 999 = r2 at *
  generalize inZ p.d 1 9 = r3 at *
  generalize inZ p.e 1 9 = r4 at *
  generalize inZ p.a 1 9999 = r5 at *
  generalize inZ p.f 0 11 = r6 at *
  generalize inZ p.g 1 200000 = r7 at *
  cases r1
  · cases r5 <;> cases r6 <;> cases r7 <;> simp (config:={maxSteps:=4000000}) [B.c53,B.K53,h1]
  cases r2
  · simp (config:={maxSteps:=4000000}) [B.c53,B.K53,h1,h2]
  cases r3
  · simp (config:={maxSteps:=4000000}) [B.c53,B.K53,h1,h2,h3]
  cases r4
  · simp (config:={maxSteps:=4000000}) [B.c53,B.K53,h1,h2,h3,h4]
  cases r5
  · simp (config:={maxSteps:=4000000}) [B.c53,B.K53,h1,h2,h3,h4,h5]
  cases r6
  · simp (config:={maxSteps:=4000000}) [B.c53,B.K53,h1,h2,h3,h4,h5,h6]
  simp (config:={maxSteps:=4000000}) [B.c53,B.K53,h1,h2,h3,h4,h5,h6,h7]
@[simp] theorem aggV7 (r : Nat) (p : List Nat) (a b c d e f g : Int) : aggV r p [.v (.int .i64 a),.v (.int .i64 b),.v (.int .i64 c),.v (.int .i64 d),.v (.int .i64 e),.v (.int .i64 f),.v (.int .i64 g)] 0 7 =
    some (.ro (.nd .ag [.v (.int .i64 a),.v (.int .i64 b),.v (.int .i64 c),.v (.int .i64 d),.v (.int .i64 e),.v (.int .i64 f),.v (.int .i64 g)])):=rfl
def sdP (p : Spc) (o : Int) : Int × Int:=if o = 0 then (p.b,p.d) else (p.c,p.e)
theorem b68 (call : Oracle) (fuel : Nat) (p : Spc) (o : Int) : callF call fuel B.c68 [agP p,nI o] = some (.nd .tu [nI (sdP p o).1,nI (sdP p o).2]):=by
  rw [callF_tab call fuel B.c68 B.K68 _ (by exact Nat.le_of_ble_eq_true rfl) (by exact Nat.le_of_ble_eq_true rfl)]
  unfold sdP
  by_cases h : o = 0 <;> simp [B.c68,B.K68,h]
def beB (s t : Spc) (o : Int) : Bool:=decide ((sdP s o).1 = (sdP t o).1) && decide ((sdP s o).2 < (sdP t o).2)
theorem b56 (call : Oracle) (fuel : Nat) (s t : Spc) (o : Int) (h : ∀ p : Spc,call 68 [agP p,nI o] = some (.nd .tu [nI (sdP p o).1,nI (sdP p o).2])) : callF call fuel B.c56 [agP s,agP t,nI o] = some (.v (.bool (beB s t o))):=by
  rw [callF_tab call fuel B.c56 B.K56 _ (by exact Nat.le_of_ble_eq_true rfl) (by exact Nat.le_of_ble_eq_true rfl)]
  unfold beB
  have h1:=h s
  have h2:=h t
  clear h
  generalize (sdP s o).1 = a at *
  generalize (sdP s o).2 = b at *
  generalize (sdP t o).1 = c at *
  generalize (sdP t o).2 = d at *
  by_cases e : a = c
  · by_cases e2 : b < d <;> simp [B.c56,B.K56,h1,h2,e,e2]
  · simp [B.c56,B.K56,h1,h2,e]
abbrev boZ (o : Int) : D:=.nd (.bx false) [.v (.int .i64 o)]
theorem b55 (call : Oracle) (fuel : Nat) (s t : Spc) (o : Int) (h : call 56 [agP s,agP t,nI o] = some (.v (.bool (beB s t o)))) : callF call fuel B.c55 [agP s,agP t,boZ o] = some (.v (.bool (beB s t o))):=by
  rw [callF_tab call fuel B.c55 B.K55 _ (by exact Nat.le_of_ble_eq_true rfl) (by exact Nat.le_of_ble_eq_true rfl)]
  generalize beB s t o = r at *
  simp [B.c55,B.K55,h]
theorem b58 (call : Oracle) (fuel : Nat) (s : Spc) (id : Int) : callF call fuel B.c58 [agP s,boZ id] = some (.v (.bool (decide (s.a = id)))):=by
  rw [callF_tab call fuel B.c58 B.K58 _ (by exact Nat.le_of_ble_eq_true rfl) (by exact Nat.le_of_ble_eq_true rfl)]
  by_cases h : s.a = id <;> simp [B.c58,B.K58,h]
end Go.Mx
namespace Go.Mx
set_option linter.unusedVariables false
set_option linter.unusedSimpArgs false
set_option linter.unusedSectionVars false
open Go
section
variable (l : List Spc) (i : Nat)
abbrev dP : Spc:=⟨0,0,0,0,0,0,0⟩
@[simp] theorem P_elR (b : Bool) : elR 7 i (gsl ePc b l) = if i < l.length then some (.rad (gk ePc l) (i * 7)) else none:=elR_ge ePc i b l
def agQ (p : Spc) : D:=agP p
@[simp] theorem P_aggR : aggR (gk ePc l) (i * 7) 7 = if i < l.length then some (.ro (agQ (nth l dP i))) else none:=aggR_ge ePc i l
end
theorem sc_P (l : List Spc) : (gk ePc l).all isSc = true:=by
  induction l with
  | nil => rfl
  | cons a l ih => exact ih
@[simp] theorem Q_take (st : St) (p : Spc) : takeR st (agQ p) = some (agQ p,st):=rfl
@[simp] theorem Q_cells (p : Spc) : cellsOfD (agQ p) = gk ePc [p]:=rfl
@[simp ↓ high] theorem Q_flat (p : Spc) : (gk ePc [p]).all flatOk = true:=rfl
@[simp ↓ high] theorem Q_flat' (p : Spc) : (cellsOfD (agQ p)).all flatOk = true:=rfl
@[simp] theorem Q_len (p : Spc) : (gk ePc [p]).length = 7:=rfl
@[simp] theorem Q_aggV (r : Nat) (q : List Nat) (p : Spc) : aggV r q (gk ePc [p]) 0 7 = some (.ro (agQ p)):=rfl
@[simp] theorem Q_zero : (T.nd (K.bx false) [.v (.int .i64 0),.v (.int .i64 0),.v (.int .i64 0),.v (.int .i64 0),.v (.int .i64 0),.v (.int .i64 0),.v (.int .i64 0)] : D) = gbx ePc [dP]:=rfl
abbrev sP (b : Bool) (l : List Spc) : D:=gsl ePc b l
abbrev cl55 (o : Int) : D:=.nd (.fn (.func 55) 0) [boZ o]
abbrev cl58 (o : Int) : D:=.nd (.fn (.func 58) 0) [boZ o]
def beR (l : List Spc) (o : Int) (i m : Nat) : List (Int × Int):=((List.range m).filter fun k => beB (nth l dP i) (nth l dP k) o).map fun k : Nat => ((i : Int),(k : Int))
theorem beR_succ (l : List Spc) (o : Int) (i m : Nat) : beR l o i (m + 1) = if beB (nth l dP i) (nth l dP m) o = true then beR l o i m ++ [((i : Int),(m : Int))] else beR l o i m:=by
  unfold beR
  rw [List.range_succ,List.filter_append,List.map_append]
  by_cases h : beB (nth l dP i) (nth l dP m) o = true <;> simp [h]
theorem beR_len (l : List Spc) (o : Int) (i m : Nat) : (beR l o i m).length ≤ m:=by
  unfold beR
  rw [List.length_map]
  have:=List.length_filter_le (fun k => beB (nth l dP i) (nth l dP k) o) (List.range m)
  rwa [List.length_range] at this
def beA (l : List Spc) (o : Int) : Nat→List (Int × Int)
  | 0 => []
  | i + 1 => beA l o i ++ beR l o i l.length
theorem beA_len (l : List Spc) (o : Int) : ∀ i,(beA l o i).length ≤ i * l.length
  | 0 => by simp [beA]
  | i + 1 => by
    have h1:=beA_len l o i
    have h2:=beR_len l o i l.length
    simp only [beA,List.length_append]
    rw [Nat.add_mul]; omega
abbrev bxP (p : Spc) : V:=.own (gbx ePc [p])
theorem lo54_1 (call : Oracle) (fuel : Nat) (b : Bool) (l : List Spc) (hn : l.length ≤ 20) (o : Int) (hc : ∀ s t : Spc,call 55 [agQ s,agQ t,boZ o] = some (.v (.bool (beB s t o))))
    (l0 : List (Int × Int)) (hl0 : l0.length ≤ 500) (i : Nat) (hi : i < l.length) (fu : Nat) (hfu : 1000 < fu) (st : St)
    (h0 : drops st B.h54_1 = B.L54_1 (.ro (sP b l)) (.ro (cl55 o)) (.own (sa (decide (l0.length = 0)) l0)) (ii i) (bxP (nth l dP i)) (.ro (sP b l)) (ii l.length) (ii i) (.ro (sP b l)) (ii l.length) (ii 0)) :
    run.loopN (run call fuel B.b54_1) fu st = some (.ex 2,B.X54_2 (.ro (sP b l)) (.ro (cl55 o)) (.own (sa (decide ((l0 ++ beR l o i l.length).length = 0)) (l0 ++ beR l o i l.length))) (.ro (sP b l)) (ii l.length) (ii i)):=by
  refine loop_cnt call fuel B.h54_1 _ l.length (fun m => B.L54_1 (.ro (sP b l)) (.ro (cl55 o)) (.own (sa (decide ((l0 ++ beR l o i m).length = 0)) (l0 ++ beR l o i m))) (ii i) (bxP (nth l dP i)) (.ro (sP b l)) (ii l.length) (ii i) (.ro (sP b l)) (ii l.length) (ii m))
    (.ex 2,B.X54_2 (.ro (sP b l)) (.ro (cl55 o)) (.own (sa (decide ((l0 ++ beR l o i l.length).length = 0)) (l0 ++ beR l o i l.length))) (.ro (sP b l)) (ii l.length) (ii i)) (by simp) ?_ ?_ fu st (by rw [h0]; simp [beR]) (by omega)
  · intro m hm
    have hwr:=wrap_succ (i:=m) (by omega)
    obtain ⟨t,ht⟩ : ∃ t,nth l dP m = t:=⟨_,rfl⟩
    have e1:=hc (nth l dP i) t
    have hlen:=beR_len l o i m
    have hlm : (l0 ++ beR l o i m).length + 1 ≤ most:=by rw [List.length_append]; unfold most; omega
    have io : 55 < ioB:=by decide
    rw [beR_succ]
    generalize beR l o i m = R at *
    rw [ht]
    by_cases h1 : beB (nth l dP i) t o = true
    · rw [h1] at e1
      rw [if_pos h1]
      have hz : decide ((l0 ++ (R ++ [((i : Int),(m : Int))])).length = 0) = false:=by simp
      rw [hz,← List.append_assoc]
      clear hc h0 h1
      generalize nth l dP i = s at *
      generalize decide ((l0 ++ R).length = 0) = z at *
      generalize l0 ++ R = L at *
      simp (config:={maxSteps:=4000000}) [sc_P,hwr,hm,e1,io,hlm,ht]
      intro x hx
      simp [gk,ePc] at hx
      rcases hx with rfl | rfl | rfl | rfl | rfl | rfl | rfl <;> rfl
    · have h1' : beB (nth l dP i) t o = false:=by simpa using h1
      rw [h1'] at e1
      rw [if_neg h1]
      clear hc h0 h1 h1'
      generalize nth l dP i = s at *
      generalize decide ((l0 ++ R).length = 0) = z at *
      generalize l0 ++ R = L at *
      simp (config:={maxSteps:=4000000}) [sc_P,hwr,hm,e1,io,ht]
      intro x hx
      simp [gk,ePc] at hx
      rcases hx with rfl | rfl | rfl | rfl | rfl | rfl | rfl <;> rfl
  · generalize decide ((l0 ++ beR l o i l.length).length = 0) = z
    generalize l0 ++ beR l o i l.length = L
    simp
theorem lo54_0 (call : Oracle) (fuel : Nat) (hF : 1000 < fuel) (b : Bool) (l : List Spc) (hn : l.length ≤ 20) (o : Int) (hc : ∀ s t : Spc,call 55 [agQ s,agQ t,boZ o] = some (.v (.bool (beB s t o))))
    (fu : Nat) (hfu : 1000 < fu) (st : St) (h0 : drops st B.h54_0 = B.L54_0 (.ro (sP b l)) (.ro (cl55 o)) (.own (sa true [])) (.ro (sP b l)) (ii l.length) (ii 0)) :
    run.loopN (run call fuel B.b54_0) fu st = some (.ex 0,B.X54_0 (.own (sa (decide ((beA l o l.length).length = 0)) (beA l o l.length)))):=by
  refine loop_cnt call fuel B.h54_0 _ l.length (fun i => B.L54_0 (.ro (sP b l)) (.ro (cl55 o)) (.own (sa (decide ((beA l o i).length = 0)) (beA l o i))) (.ro (sP b l)) (ii l.length) (ii i))
    (.ex 0,B.X54_0 (.own (sa (decide ((beA l o l.length).length = 0)) (beA l o l.length)))) (by simp) ?_ ?_ fu st (by rw [h0]; simp [beA]) (by omega)
  · intro i hi
    have hwr:=wrap_succ (i:=i) (by omega)
    have hl:=beA_len l o i
    have hin : i * l.length ≤ 20 * 20:=Nat.mul_le_mul (by omega) (by omega)
    have hL:=lo54_1 call fuel b l hn o hc (beA l o i) (by omega) i hi fuel hF
    have ho : beA l o (i + 1) = beA l o i ++ beR l o i l.length:=rfl
    rw [ho]
    clear ho hl hin hc h0
    generalize beA l o i ++ beR l o i l.length = L2 at *
    generalize decide (L2.length = 0) = z2 at *
    generalize beA l o i = L1 at *
    generalize decide (L1.length = 0) = z1 at *
    obtain ⟨s,hs⟩ : ∃ s,nth l dP i = s:=⟨_,rfl⟩
    rw [hs] at hL
    simp (config:={maxSteps:=4000000}) [sc_P,hi,hwr,hs]
    rw [hL _ (by simp)]
    simp (config:={maxSteps:=4000000}) [hwr]
    intro x hx
    simp [gk,ePc] at hx
    rcases hx with rfl | rfl | rfl | rfl | rfl | rfl | rfl <;> rfl
  · generalize beA l o l.length = L
    generalize decide (L.length = 0) = z
    simp
theorem b54 (call : Oracle) (fuel : Nat) (hF : 1000 < fuel) (b : Bool) (l : List Spc) (hn : l.length ≤ 20) (o : Int) (hc : ∀ s t : Spc,call 55 [agQ s,agQ t,boZ o] = some (.v (.bool (beB s t o)))) :
    callF call fuel B.c54 [sP b l,cl55 o] = some (sa (decide ((beA l o l.length).length = 0)) (beA l o l.length)):=by
  rw [callF_tab call fuel B.c54 B.K54 _ (by exact Nat.le_of_ble_eq_true rfl) (by exact Nat.le_of_ble_eq_true rfl)]
  have hL:=lo54_0 call fuel hF b l hn o hc fuel hF
  generalize beA l o l.length = L at *
  generalize decide (L.length = 0) = z at *
  simp (config:={maxSteps:=4000000}) [B.c54,B.K54]
  rw [hL _ (by simp; rfl)]
  simp
theorem b31 (call : Oracle) (fuel : Nat) (b : Bool) (l : List Spc) (o : Int) (ho : o = 0 ∨ o = 1) (h30 : call 30 [sP b l] = some (nI 0)) (z : Bool) (L : List (Int × Int)) (h54 : call 54 [sP b l,cl55 o] = some (sa z L)) :
    callF call fuel B.c31 [sP b l,nI o] = some (.nd .tu [sa z L,nI 0]):=by
  rw [callF_tab call fuel B.c31 B.K31 _ (by exact Nat.le_of_ble_eq_true rfl) (by exact Nat.le_of_ble_eq_true rfl)]
  rcases ho with rfl | rfl <;> simp (config:={maxSteps:=4000000}) [B.c31,B.K31,h30,h54]
def plN (l : List Spc) (id : Int) : Int:=((List.range l.length).find? fun i => decide ((nth l dP i).a = id)).elim (-1) fun i => (i : Int)
theorem b57 (call : Oracle) (fuel : Nat) (hf : 1000 < fuel) (b : Bool) (l : List Spc) (hl : l.length ≤ 900) (id : Int) (h : ∀ s,call 58 [agQ s,boZ id] = some (.v (.bool (decide (s.a = id))))) :
    callF call fuel B.c57 [sP b l,cl58 id] = some (nI (plN l id)):=by
  have e : ∀ st : St,drops st B.h57_0 = B.L57_0 (.ro (sP b l)) (.ro (cl58 id)) (ii l.length) (ii 0)→run.loopN (run call fuel B.b57_0) fuel st = some (((List.range l.length).find? (fun i => decide ((nth l dP i).a = id))).elim (.ex 0,B.X57_0) (fun i => (.ret,B.R57 (ii i)))):=by
    intro st h0
    refine loop_find call fuel B.h57_0 _ l.length _ (fun i => B.L57_0 (.ro (sP b l)) (.ro (cl58 id)) (ii l.length) (ii i)) _ _ (by simp) (by simp) ?_ (by simp) fuel st h0 (by omega)
    intro i hi _
    have hw:=wrap_succ (i:=i) (by omega)
    obtain ⟨s,hs⟩ : ∃ s,nth l dP i = s:=⟨_,rfl⟩
    rw [hs]
    have e2:=h s
    have io : 58 < ioB:=by decide
    clear h
    by_cases hb : s.a = id
    · have hd : decide (s.a = id) = true:=by simpa using hb
      rw [hd] at e2
      simp (config:={maxSteps:=4000000}) [sc_P,hi,hw,e2,hb,io,hs]
    · have hd : decide (s.a = id) = false:=by simpa using hb
      rw [hd] at e2
      simp (config:={maxSteps:=4000000}) [sc_P,hi,hw,e2,hb,io,hs]
  unfold plN
  rw [callF_tab call fuel B.c57 B.K57 _ (by exact Nat.le_of_ble_eq_true rfl) (by exact Nat.le_of_ble_eq_true rfl)]
  simp [B.c57,B.K57]
  rw [e _ (by simp)]
  cases (List.range l.length).find? fun i => decide ((nth l dP i).a = id) <;> simp
theorem b32 (call : Oracle) (fuel : Nat) (b : Bool) (l : List Spc) (id n : Int) (h : call 57 [sP b l,cl58 id] = some (nI n)) : callF call fuel B.c32 [sP b l,nI id] = some (nI n):=by
  rw [callF_tab call fuel B.c32 B.K32 _ (by exact Nat.le_of_ble_eq_true rfl) (by exact Nat.le_of_ble_eq_true rfl)]
  simp (config:={maxSteps:=4000000}) [B.c32,B.K32,h]
end Go.Mx
