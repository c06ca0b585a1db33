import Derived.Test.YthahhbbfhohhfaaMgK
import Derived.WideShapes
import Derived.Test.YthahhbbfhohhfaaMgI
/-
  Mx,part V: an argument that is a struct or an array.
-/
namespace Go.Mx
set_option linter.unusedVariables false
set_option linter.unusedSimpArgs false
set_option linter.unusedSectionVars false
open Go
end Go.Mx
namespace Go.Mx
set_option linter.unusedVariables false
set_option linter.unusedSimpArgs false
set_option linter.unusedSectionVars false
open Go
theorem loop_by {α : Type} (call : Oracle) (fuel : Nat) (h : List Bool) (c : MC) (Inv : α→Prop) (I : α→St) (μ : α→Nat) (res : α→Ex × St)
    (hs : ∀ a,Inv a→(∃ a',Inv a'∧μ a' < μ a∧res a' = res a∧∃ st',run call fuel c (I a) = some (.norm,st')∧drops st' h = I a') ∨ ((res a).1 ≠ .norm∧run call fuel c (I a) = some (res a))) :
    ∀ (fu : Nat) (a : α) (st : St),Inv a→drops st h = I a→μ a < fu→run.loopN (run call fuel (.seq (.scr h) c)) fu st = some (res a):=by
  intro fu
  induction fu with
  | zero => intro a st _ _ hf; omega
  | succ fu ih =>
    intro a st hi hd hf
    rw [loop_succ,run_scr,hd]
    rcases hs a hi with ⟨a',hi',hm,hr,st',h1,h2⟩ | ⟨hn,h1⟩
    · rw [h1,← hr]
      exact ih a' st' hi' h2 (by omega)
    · rw [h1]
      generalize res a = r at *
      obtain ⟨e,s⟩:=r
      cases e with
      | norm => exact absurd rfl hn
      | _ => rfl
theorem loop_until (call : Oracle) (fuel : Nat) (h : List Bool) (c : MC) (n : Nat) (stop : Nat→Bool) (I : Nat→St) (out : Nat→Ex × St) (res : Ex × St) (hne : res.1 ≠ .norm) (hno : ∀ i,(out i).1 ≠ .norm)
    (hs : ∀ i,i < n→(∀ j,j < i→stop j = false)→stop i = false→∃ st',run call fuel c (I i) = some (.norm,st')∧drops st' h = I (i + 1))
    (ho : ∀ i,i < n→(∀ j,j < i→stop j = false)→stop i = true→run call fuel c (I i) = some (out i))
    (he : (∀ j,j < n→stop j = false)→run call fuel c (I n) = some res) :
    ∀ (fu : Nat) (st : St),drops st h = I 0→n < fu→run.loopN (run call fuel (.seq (.scr h) c)) fu st = some (((List.range n).find? stop).elim res out):=by
  intro fu st hd hf
  refine loop_by call fuel h c (fun i => i ≤ n∧∀ j,j < i→stop j = false) I (fun i => n - i) (fun _ => ((List.range n).find? stop).elim res out) ?_ fu 0 st ⟨Nat.zero_le _,fun j hj => by omega⟩ hd (by simpa using hf)
  rintro i ⟨hi,hj⟩
  by_cases hlt : i < n
  · by_cases hst : stop i = true
    · right
      have : (List.range n).find? stop = some i:=by
        rw [List.find?_eq_some_iff_append]
        refine ⟨hst,List.range i,(List.range' (i + 1) (n - i - 1)),?_,fun j hj' => by rw [hj j (List.mem_range.1 hj')]; rfl⟩
        have e1 : n = i + (1 + (n - i - 1)):=by omega
        conv => lhs; rw [e1]
        rw [List.range_add,List.range_add]
        simp [List.range_eq_range',List.map_map,List.map_add_range']
        try rw [show (fun x => i + (1 + x)) = (fun x => (i + 1) + x) from by funext x; omega,List.map_add_range']
        try simp
      rw [this]
      exact ⟨hno i,ho i hlt hj hst⟩
    · left
      have hst' : stop i = false:=by simpa using hst
      obtain ⟨st',h1,h2⟩:=hs i hlt hj hst'
      exact ⟨i + 1,⟨hlt,fun j hj' => by
        by_cases hji : j = i
        · subst hji; exact hst'
        · exact hj j (by omega)⟩,by show n - (i + 1) < n - i; omega,rfl,st',h1,h2⟩
  · right
    have : i = n:=by omega
    subst this
    have : (List.range i).find? stop = none:=by
      rw [List.find?_eq_none]
      intro j hj'
      rw [hj j (List.mem_range.1 hj')]; simp
    rw [this]
    exact ⟨hne,he hj⟩
end Go.Mx
namespace Go.Mx
set_option linter.unusedVariables false
set_option linter.unusedSimpArgs false
set_option linter.unusedSectionVars false
open Go
abbrev R:=Option (Ex × St)
def ob {α β : Type} (o : Option α) (k : α→Option β) : Option β :=
  match o with
  | some x => k x
  | none => none
@[congr] theorem ob_congr {α β : Type} {o o' : Option α} {k : α→Option β} (h : ∀ _ : Unit,o = o') : ob o k = ob o' k:=by rw [h ()]
@[simp,simp ↓] theorem ob_some {α β : Type} (x : α) (k : α→Option β) : ob (some x) k = k x:=rfl
@[simp,simp ↓] theorem ob_none {α β : Type} (k : α→Option β) : ob none k = none:=rfl
@[simp,simp ↓] theorem ob_ite {α β : Type} (c : Prop) [Decidable c] (a b : Option α) (k : α→Option β) : ob (if c then a else b) k = if c then ob a k else ob b k:=by split <;> rfl
noncomputable def rq (call : Oracle) (fuel : Nat) (b : MC) (r : R) : R :=
  match r with
  | some (.norm,st) => run call fuel b st
  | r => r
@[simp,simp ↓] theorem rq_norm (call : Oracle) (fuel : Nat) (b : MC) (st : St) : rq call fuel b (some (.norm,st)) = run call fuel b st:=rfl
@[simp,simp ↓] theorem rq_ex (call : Oracle) (fuel : Nat) (b : MC) (i : Nat) (st : St) : rq call fuel b (some (.ex i,st)) = some (.ex i,st):=rfl
@[simp,simp ↓] theorem rq_ret (call : Oracle) (fuel : Nat) (b : MC) (st : St) : rq call fuel b (some (.ret,st)) = some (.ret,st):=rfl
@[simp,simp ↓] theorem rq_none (call : Oracle) (fuel : Nat) (b : MC) : rq call fuel b none = none:=rfl
@[simp,simp ↓] theorem rq_ite (call : Oracle) (fuel : Nat) (b : MC) (c : Prop) [Decidable c] (x y : R) : rq call fuel b (if c then x else y) = if c then rq call fuel b x else rq call fuel b y:=by split <;> rfl
@[congr] theorem rq_congr {call : Oracle} {fuel : Nat} {b : MC} {r r' : R} (h : ∀ _ : Unit,r = r') : rq call fuel b r = rq call fuel b r':=by rw [h ()]
def bk (id : Nat) (r : R) : R :=
  match r with
  | some (.ex i,st) => if i = id then some (.norm,st) else some (.ex i,st)
  | r => r
@[simp,simp ↓] theorem bk_norm (id : Nat) (st : St) : bk id (some (.norm,st)) = some (.norm,st):=rfl
@[simp,simp ↓] theorem bk_ex (id i : Nat) (st : St) : bk id (some (.ex i,st)) = if i = id then some (.norm,st) else some (.ex i,st):=rfl
@[simp,simp ↓] theorem bk_ret (id : Nat) (st : St) : bk id (some (.ret,st)) = some (.ret,st):=rfl
@[simp,simp ↓] theorem bk_none (id : Nat) : bk id none = none:=rfl
@[simp,simp ↓] theorem bk_ite (id : Nat) (c : Prop) [Decidable c] (a b : R) : bk id (if c then a else b) = if c then bk id a else bk id b:=by split <;> rfl
def cb (v : V) (a b : R) : R :=
  match v with
  | .sc (.bool t) => if t then a else b
  | _ => none
@[congr] theorem cb_congr {v v' : V} {a b : R} (h : ∀ _ : Unit,v = v') : cb v a b = cb v' a b:=by rw [h ()]
@[simp,simp ↓] theorem cb_bool (t : Bool) (a b : R) : cb (.sc (.bool t)) a b = if t = true then a else b:=rfl
def gb {α : Type} (o : Option Bool) (a b : Option α) : Option α :=
  match o with
  | some true => a
  | some false => b
  | none => none
@[congr] theorem gb_congr {α : Type} {o o' : Option Bool} {a b : Option α} (h : ∀ _ : Unit,o = o') : gb o a b = gb o' a b:=by rw [h ()]
@[simp,simp ↓] theorem gb_some {α : Type} (t : Bool) (a b : Option α) : gb (some t) a b = if t = true then a else b:=by cases t <;> rfl
def wb (v : Option V) (w : Bool) : Option Bool :=
  match v with
  | some (.sc (.bool b)) => some (b == w)
  | some (.sc _) => some false
  | _ => none
@[simp] theorem wb_bool (b w : Bool) : wb (some (.sc (.bool b))) w = some (b == w):=rfl
@[simp] theorem wb_undef (w : Bool) : wb (some (.sc undef)) w = some false:=rfl
def evv (i : Nat) (v : Option V) : V :=
  match v with
  | some (.own _) => .ref i []
  | some x => x
  | none => .dead
@[simp] theorem evv_own (i : Nat) (d : D) : evv i (some (.own d)) = .ref i []:=rfl
@[simp] theorem evv_sc (i : Nat) (x : Value) : evv i (some (.sc x)) = .sc x:=rfl
@[simp] theorem evv_ro (i : Nat) (x : D) : evv i (some (.ro x)) = .ro x:=rfl
@[simp] theorem evv_ref (i r : Nat) (p : List Nat) : evv i (some (.ref r p)) = .ref r p:=rfl
@[simp] theorem evv_sub (i r : Nat) (p : List Nat) (a b c : Nat) : evv i (some (.sub r p a b c)) = .sub r p a b c:=rfl
@[simp] theorem evv_ad (i r : Nat) (p : List Nat) (c : Nat) : evv i (some (.ad r p c)) = .ad r p c:=rfl
@[simp] theorem evv_rad (i : Nat) (k : List D) (c : Nat) : evv i (some (.rad k c)) = .rad k c:=rfl
@[simp] theorem evv_vn (i : Nat) (k : K Bool) (c : List V) : evv i (some (.vn k c)) = .vn k c:=rfl
@[simp] theorem evv_dead (i : Nat) : evv i (some .dead) = .dead:=rfl
@[simp] theorem ev_t (st : St) (i : Nat) : ev st (.t i) = evv i st[i]?:=by
  simp only [ev]
  split <;> simp_all [evv]
@[simp] theorem ev_c (st : St) (d : D) : ev st (.c d) = mkRo d:=rfl
@[simp] theorem mkRo_v (x : Value) : mkRo (.v x) = .sc x:=rfl
@[simp] theorem mkRo_nd (k : K Bool) (kids : List D) : mkRo (.nd k kids) = .ro (.nd k kids):=rfl
@[simp] theorem mkOwn_v (x : Value) : mkOwn (.v x) = .sc x:=rfl
@[simp] theorem mkOwn_nd (k : K Bool) (kids : List D) : mkOwn (.nd k kids) = .own (.nd k kids):=rfl
def nd (v : V) : Option V :=
  match v with
  | .dead => none
  | x => some x
@[simp] theorem nd_sc (x : Value) : nd (.sc x) = some (.sc x):=rfl
@[simp] theorem nd_own (x : D) : nd (.own x) = some (.own x):=rfl
@[simp] theorem nd_ro (x : D) : nd (.ro x) = some (.ro x):=rfl
@[simp] theorem nd_ref (r : Nat) (p : List Nat) : nd (.ref r p) = some (.ref r p):=rfl
@[simp] theorem nd_sub (r : Nat) (p : List Nat) (a b c : Nat) : nd (.sub r p a b c) = some (.sub r p a b c):=rfl
@[simp] theorem nd_ad (r : Nat) (p : List Nat) (c : Nat) : nd (.ad r p c) = some (.ad r p c):=rfl
@[simp] theorem nd_rad (k : List D) (c : Nat) : nd (.rad k c) = some (.rad k c):=rfl
@[simp] theorem nd_vn (k : K Bool) (c : List V) : nd (.vn k c) = some (.vn k c):=rfl
def setw (o : Option V) (st : St) (dst : Nat) (x : V) : St :=
  match o with
  | some (.own _) => (kill dst [] st).set dst (x.kill dst [])
  | _ => st.set dst x
@[simp] theorem setv_eq (st : St) (dst : Nat) (x : V) : setv st dst x = setw st[dst]? st dst x:=rfl
@[congr] theorem setw_congr {o o' : Option V} {st st' : St} {dst : Nat} {x x' : V} (h : o = o') (h2 : st = st') (h3 : x = x') : setw o st dst x = setw o' st' dst x':=by rw [h,h2,h3]
@[simp] theorem setw_own (d : D) (st : St) (dst : Nat) (x : V) : setw (some (.own d)) st dst x = (kill dst [] st).set dst (x.kill dst []):=rfl
@[simp] theorem setw_sc (d : Value) (st : St) (dst : Nat) (x : V) : setw (some (.sc d)) st dst x = st.set dst x:=rfl
@[simp] theorem setw_ro (d : D) (st : St) (dst : Nat) (x : V) : setw (some (.ro d)) st dst x = st.set dst x:=rfl
@[simp] theorem setw_ref (r : Nat) (p : List Nat) (st : St) (dst : Nat) (x : V) : setw (some (.ref r p)) st dst x = st.set dst x:=rfl
@[simp] theorem setw_sub (r : Nat) (p : List Nat) (a b c : Nat) (st : St) (dst : Nat) (x : V) : setw (some (.sub r p a b c)) st dst x = st.set dst x:=rfl
@[simp] theorem setw_ad (r : Nat) (p : List Nat) (c : Nat) (st : St) (dst : Nat) (x : V) : setw (some (.ad r p c)) st dst x = st.set dst x:=rfl
@[simp] theorem setw_rad (k : List D) (c : Nat) (st : St) (dst : Nat) (x : V) : setw (some (.rad k c)) st dst x = st.set dst x:=rfl
@[simp] theorem setw_vn (k : K Bool) (vs : List V) (st : St) (dst : Nat) (x : V) : setw (some (.vn k vs)) st dst x = st.set dst x:=rfl
@[simp] theorem setw_dead (st : St) (dst : Nat) (x : V) : setw (some .dead) st dst x = st.set dst x:=rfl
@[simp] theorem kill_nil (r : Nat) (p : List Nat) : kill r p [] = []:=rfl
@[simp] theorem kill_cons (r : Nat) (p : List Nat) (x : V) (s : St) : kill r p (x :: s) = V.kill r p x :: kill r p s:=rfl
@[simp] theorem vk_sc (r : Nat) (p : List Nat) (x : Value) : V.kill r p (.sc x) = .sc x:=rfl
@[simp] theorem vk_own (r : Nat) (p : List Nat) (x : D) : V.kill r p (.own x) = .own x:=rfl
@[simp] theorem vk_ro (r : Nat) (p : List Nat) (x : D) : V.kill r p (.ro x) = .ro x:=rfl
@[simp] theorem vk_dead (r : Nat) (p : List Nat) : V.kill r p .dead = .dead:=rfl
@[simp] theorem vk_rad (r : Nat) (p : List Nat) (x : List D) (c : Nat) : V.kill r p (.rad x c) = .rad x c:=rfl
@[simp] theorem vk_ref (r : Nat) (p : List Nat) (s : Nat) (q : List Nat) : V.kill r p (.ref s q) = if (s == r && pre p q) = true then .dead else .ref s q:=rfl
@[simp] theorem vk_sub (r : Nat) (p : List Nat) (s : Nat) (q : List Nat) (a b c : Nat) : V.kill r p (.sub s q a b c) = if (s == r && pre p q) = true then .dead else .sub s q a b c:=rfl
@[simp] theorem vk_ad (r : Nat) (p : List Nat) (s : Nat) (q : List Nat) (c : Nat) : V.kill r p (.ad s q c) = if (s == r && pre p q) = true then .dead else .ad s q c:=rfl
@[simp] theorem vk_vn (r : Nat) (p : List Nat) (k : K Bool) (vs : List V) : V.kill r p (.vn k vs) = if V.underL r p vs = true then .dead else .vn k vs:=rfl
attribute [simp] V.under V.underL pre
def roo (o : Option V) : Option D :=
  match o with
  | some (.own d) => some d
  | _ => none
@[simp] theorem rootD_eq (st : St) (r : Nat) : rootD st r = roo st[r]?:=rfl
@[simp] theorem roo_own (d : D) : roo (some (.own d)) = some d:=rfl
@[simp] theorem getAt_nil' (t : D) : getAt t [] = some t:=getAt_nil t
@[simp] theorem getAt_cons (k : K Bool) (kids : List D) (i : Nat) (p : List Nat) : getAt (.nd k kids) (i :: p) = ob kids[i]? (fun t => getAt t p):=by
  simp only [getAt]; cases kids[i]? <;> rfl
@[simp] theorem setAt_nil' (t x : D) : setAt t [] x = x:=setAt_nil t x
def setC (kids : List D) (i : Nat) (o : Option D) (p : List Nat) (x : D) : List D :=
  match o with
  | some t => kids.set i (setAt t p x)
  | none => kids
@[simp] theorem setC_some (kids : List D) (i : Nat) (t : D) (p : List Nat) (x : D) : setC kids i (some t) p x = kids.set i (setAt t p x):=rfl
@[simp] theorem setAt_cons (k : K Bool) (kids : List D) (i : Nat) (p : List Nat) (x : D) : setAt (.nd k kids) (i :: p) x = .nd k (setC kids i kids[i]? p x):=by
  rw [setAt]; cases kids[i]? <;> rfl
@[simp] theorem placeD_eq (st : St) (r : Nat) (p : List Nat) : placeD st r p = ob (roo st[r]?) (fun d => getAt d p):=by
  rw [placeD,rootD_eq]; cases roo st[r]? <;> rfl
@[simp] theorem leave_nil (st : St) (r : Nat) (d0 : D) : leave st r d0 [] = (kill r [] st).set r .dead:=rfl
@[simp] theorem leave_cons (st : St) (r : Nat) (d0 : D) (i : Nat) (p : List Nat) : leave st r d0 (i :: p) = (kill r (i :: p) st).set r (.own (setAt d0 (i :: p) (.hole false))):=rfl
@[simp] theorem rd_sc (st : St) (x : Value) : rd st (.sc x) = some (.v x):=by rw [rd]
@[simp] theorem rd_ro (st : St) (d : D) : rd st (.ro d) = some d:=by rw [rd]
@[simp] theorem rd_ref (st : St) (r : Nat) (p : List Nat) : rd st (.ref r p) = placeD st r p:=by rw [rd]
@[simp] theorem rd_sub (st : St) (r : Nat) (p : List Nat) (lo es n : Nat) : rd st (.sub r p lo es n) = ob (placeD st r p) (subD lo es n):=by
  rw [rd]; cases placeD st r p <;> rfl
@[simp] theorem rd_vn (st : St) (k : K Bool) (vs : List V) : rd st (.vn k vs) = if memB k = true then mzD k vs else ob (rdL st vs) (fun ds => some (.nd k ds)):=by
  rw [rd]; split
  · rfl
  · cases rdL st vs <;> rfl
@[simp] theorem mzD_sl (es : Nat) : mzD (.sl false es 0) [] = some (.nd (.sl false es 0) []):=rfl
@[simp] theorem rdL_nil (st : St) : rdL st [] = some []:=by rw [rdL]
@[simp] theorem rdL_cons (st : St) (x : V) (xs : List V) : rdL st (x :: xs) = ob (rd st x) (fun d => ob (rdL st xs) (fun ds => some (d :: ds))):=by
  rw [rdL]; cases rd st x <;> simp; cases rdL st xs <;> rfl
@[simp] theorem rdAll_nil (st : St) : rdAll st [] = some []:=rfl
@[simp] theorem rdAll_cons (st : St) (x : MO) (xs : List MO) : rdAll st (x :: xs) = ob (rd st (ev st x)) (fun d => ob (rdAll st xs) (fun ds => some (d :: ds))):=by
  simp only [rdAll]; cases rd st (ev st x) <;> simp; cases rdAll st xs <;> rfl
attribute [simp] memB noMem isSc isOwn
@[simp] theorem noMemL_nil : noMemL [] = true:=rfl
@[simp] theorem noMemL_cons (x : D) (xs : List D) : noMemL (x :: xs) = (noMem x && noMemL xs):=rfl
def takeP (st : St) (r : Nat) (d0 : D) (p : List Nat) : D→Option (D × St)
  | .nd .ag kids => if noMemL kids then some (.nd .ag kids,st) else some (.nd .ag kids,leave st r d0 p)
  | .nd k kids => some (.nd k kids,leave st r d0 p)
  | _ => none
@[simp] theorem takeP_ag (st : St) (r : Nat) (d0 : D) (p : List Nat) (kids : List D) : takeP st r d0 p (.nd .ag kids) = if noMemL kids = true then some (.nd .ag kids,st) else some (.nd .ag kids,leave st r d0 p):=rfl
@[simp] theorem takeP_sl (st : St) (r : Nat) (d0 : D) (p : List Nat) (b : Bool) (es n : Nat) (kids : List D) : takeP st r d0 p (.nd (.sl b es n) kids) = some (.nd (.sl b es n) kids,leave st r d0 p):=rfl
@[simp] theorem takeP_bx (st : St) (r : Nat) (d0 : D) (p : List Nat) (b : Bool) (kids : List D) : takeP st r d0 p (.nd (.bx b) kids) = some (.nd (.bx b) kids,leave st r d0 p):=rfl
@[simp] theorem takeP_tu (st : St) (r : Nat) (d0 : D) (p : List Nat) (kids : List D) : takeP st r d0 p (.nd .tu kids) = some (.nd .tu kids,leave st r d0 p):=rfl
@[simp] theorem takeP_fn (st : St) (r : Nat) (d0 : D) (p : List Nat) (f : Fn) (nf : Nat) (kids : List D) : takeP st r d0 p (.nd (.fn f nf) kids) = some (.nd (.fn f nf) kids,leave st r d0 p):=rfl
@[simp] theorem take_sc (st : St) (x : Value) : Mx.take st (.sc x) = some (.v x,st):=by rw [Mx.take]
@[simp] theorem take_ref (st : St) (r : Nat) (p : List Nat) : Mx.take st (.ref r p) = ob (roo st[r]?) (fun d0 => ob (getAt d0 p) (takeP st r d0 p)):=by
  rw [Mx.take,rootD_eq]
  cases roo st[r]? with
  | none => rfl
  | some d0 =>
    simp only [ob_some]
    cases getAt d0 p with
    | none => rfl
    | some t =>
      cases t with
      | nd k kids => cases k <;> rfl
      | _ => rfl
@[simp] theorem take_sub (st : St) (r : Nat) (p : List Nat) (lo es n : Nat) : Mx.take st (.sub r p lo es n) = ob (roo st[r]?) (fun d0 => ob (getAt d0 p) (fun d => ob (subD lo es n d) (fun s => some (s,leave st r d0 p)))):=by
  rw [Mx.take,rootD_eq]
  cases roo st[r]? with
  | none => rfl
  | some d0 =>
    simp only [ob_some]
    cases getAt d0 p with
    | none => rfl
    | some t => simp only [ob_some]; cases subD lo es n t <;> rfl
def takeR (st : St) (d : D) : Option (D × St) :=
  match d with
  | .nd .ag kids => if noMemL kids then some (d,st) else none
  | d => if noMem d then some (d,st) else none
@[simp] theorem takeR_ag (st : St) (kids : List D) : takeR st (.nd .ag kids) = if noMemL kids = true then some (.nd .ag kids,st) else none:=rfl
@[simp] theorem takeR_nil (st : St) (es : Nat) : takeR st (.nd (.sl true es 0) []) = some (.nd (.sl true es 0) [],st):=rfl
@[simp] theorem take_ro (st : St) (d : D) : Mx.take st (.ro d) = takeR st d:=by
  cases d with
  | nd k kids => cases k <;> rw [Mx.take] <;> first | rfl | (intro kids h; cases h)
  | _ => rw [Mx.take] <;> first | rfl | (intro kids h; cases h)
@[simp] theorem take_vn (st : St) (k : K Bool) (vs : List V) : Mx.take st (.vn k vs) = if memB k = true then ob (mzD k vs) (fun d => some (d,st)) else ob (takeL st vs) (fun q => some (.nd k q.1,q.2)):=by
  rw [Mx.take]; split
  · cases mzD k vs <;> rfl
  · cases takeL st vs <;> rfl
@[simp] theorem takeL_nil (st : St) : takeL st [] = some ([],st):=by rw [takeL]
@[simp] theorem takeL_cons (st : St) (x : V) (xs : List V) : takeL st (x :: xs) = ob (Mx.take st x) (fun q => ob (takeL q.2 xs) (fun q2 => some (q.1 :: q2.1,q2.2))):=by
  rw [takeL]; cases Mx.take st x with
  | none => rfl
  | some q => obtain ⟨d,s1⟩:=q; simp only [ob_some]; cases takeL s1 xs <;> rfl
@[simp] theorem takeAll_nil (st : St) : takeAll st [] = some ([],st):=rfl
@[simp] theorem takeAll_cons (st : St) (x : MO) (xs : List MO) : takeAll st (x :: xs) = ob (Mx.take st (ev st x)) (fun q => ob (takeAll q.2 xs) (fun q2 => some (q.1 :: q2.1,q2.2))):=by
  simp only [takeAll]; cases Mx.take st (ev st x) with
  | none => rfl
  | some q => obtain ⟨d,s1⟩:=q; simp only [ob_some]; cases takeAll s1 xs <;> rfl
@[simp] theorem assign_sc (st : St) (dst : Nat) (x : Value) : assign st dst (.sc x) = some (setv st dst (.sc x)):=rfl
@[simp] theorem assign_nil (st : St) (dst : Nat) (es : Nat) : assign st dst (.ro (.nd (.sl true es 0) [])) = some (setv st dst (.own (.nd (.sl true es 0) []))):=rfl
@[simp] theorem assign_own (st : St) (dst : Nat) (x : D) : assign st dst (.own x) = some (setv st dst (.own x)):=rfl
@[simp] theorem assign_ad (st : St) (dst r : Nat) (p : List Nat) (c : Nat) : assign st dst (.ad r p c) = some (setv st dst (.ad r p c)):=rfl
@[simp] theorem assign_rad (st : St) (dst : Nat) (k : List D) (c : Nat) : assign st dst (.rad k c) = some (setv st dst (.rad k c)):=rfl
@[simp] theorem assign_vn (st : St) (dst : Nat) (k : K Bool) (vs : List V) : assign st dst (.vn k vs) = some (setv st dst (.vn k vs)):=rfl
@[simp] theorem assign_ref_cons (st : St) (dst r i : Nat) (p : List Nat) : assign st dst (.ref r (i :: p)) = if dst < r then ob (Mx.take st (.ref r (i :: p))) (fun q => some (setv q.2 dst (mkOwn q.1))) else some (setv st dst (.ref r (i :: p))):=by
  simp only [assign]
  split
  · cases Mx.take st (.ref r (i :: p)) <;> rfl
  · rfl
@[simp] theorem assign_sub_cons (st : St) (dst r i : Nat) (p : List Nat) (a b c : Nat) : assign st dst (.sub r (i :: p) a b c) = some (setv st dst (.sub r (i :: p) a b c)):=rfl
@[simp] theorem assign_ref (st : St) (dst r : Nat) : assign st dst (.ref r []) = if r = dst then some st else ob (roo st[r]?) (fun d => if dst < st.length then some (setv (setv (setv st r .dead) dst (.own d)) r (.ref dst [])) else none):=by
  simp only [assign,rootD_eq]
  split
  · rfl
  · cases roo st[r]? <;> rfl
@[simp] theorem assign_sub (st : St) (dst r : Nat) (a b c : Nat) : assign st dst (.sub r [] a b c) = if r = dst then ob (Mx.take st (.sub r [] a b c)) (fun q => some (setv q.2 dst (mkOwn q.1))) else some (setv st dst (.sub r [] a b c)):=by
  simp only [assign]
  split
  · cases Mx.take st (.sub r [] a b c) <;> rfl
  · rfl
@[simp] theorem assign_ro_ag (st : St) (dst : Nat) (kids : List D) : assign st dst (.ro (.nd .ag kids)) = some (setv st dst (.ro (.nd .ag kids))):=rfl
@[simp] theorem assign_ro_bx (st : St) (dst : Nat) (b : Bool) (kids : List D) : assign st dst (.ro (.nd (.bx b) kids)) = some (setv st dst (.ro (.nd (.bx b) kids))):=rfl
def natOf (n : Int) : Option Nat:=if 0 ≤ n then some n.toNat else none
@[simp] theorem asNat_int (k : IntKind) (n : Int) : asNat (.sc (.int k n)) = natOf n:=rfl
@[simp] theorem natOf_nat (n : Nat) : natOf (n : Int) = some n:=by simp [natOf]
@[simp] theorem natOf_lit (n : Nat) : natOf (OfNat.ofNat n : Int) = some (OfNat.ofNat n):=by
  have : (OfNat.ofNat n : Int).toNat = OfNat.ofNat n:=rfl
  simp [natOf,this]
@[simp] theorem natOf_zero : natOf 0 = some 0:=rfl
@[simp] theorem natOf_one : natOf 1 = some 1:=rfl
def elR (es i : Nat) : D→Option V
  | .nd (.sl _ _ n) kids => if i < n∧kids.length = n * es then some (.rad kids (i * es)) else none
  | _ => none
def elP (r : Nat) (p : List Nat) (es i : Nat) : D→Option V
  | .nd (.sl _ _ n) kids => if i < n∧kids.length = n * es then some (.ad r p (i * es)) else none
  | _ => none
def elS (r : Nat) (p : List Nat) (lo es' n es i : Nat) : D→Option V
  | .nd (.sl _ _ _) kids => if i < n∧es' = es∧lo + n * es ≤ kids.length then some (.ad r p (lo + i * es)) else none
  | _ => none
@[simp] theorem elemAt_ref (st : St) (es : Nat) (r : Nat) (p : List Nat) (i : Nat) : elemAt st es (.ref r p) i = ob (placeD st r p) (elP r p es i):=by
  simp only [elemAt]; cases placeD st r p with
  | none => rfl
  | some d => cases d with
    | nd k kids => cases k <;> rfl
    | _ => rfl
@[simp] theorem elemAt_sub (st : St) (es : Nat) (r : Nat) (p : List Nat) (lo es' n i : Nat) : elemAt st es (.sub r p lo es' n) i = ob (placeD st r p) (elS r p lo es' n es i):=by
  simp only [elemAt]; cases placeD st r p with
  | none => rfl
  | some d => cases d with
    | nd k kids => cases k <;> rfl
    | _ => rfl
@[simp] theorem elemAt_ro (st : St) (es : Nat) (d : D) (i : Nat) : elemAt st es (.ro d) i = elR es i d:=by
  cases d with
  | nd k kids => cases k <;> rfl
  | _ => rfl
@[simp] theorem addAt_ad (st : St) (r : Nat) (p : List Nat) (c off : Nat) : addAt st (.ad r p c) off = some (.ad r p (c + off)):=rfl
@[simp] theorem addAt_rad (st : St) (k : List D) (c off : Nat) : addAt st (.rad k c) off = some (.rad k (c + off)):=rfl
def adB (r : Nat) (p : List Nat) (off : Nat) : D→Option V
  | .nd (.bx _) _ => some (.ad r p off)
  | _ => none
@[simp] theorem adB_bx (r : Nat) (p : List Nat) (off : Nat) (b : Bool) (kids : List D) : adB r p off (.nd (.bx b) kids) = some (.ad r p off):=rfl
@[simp] theorem addAt_ref (st : St) (r : Nat) (p : List Nat) (off : Nat) : addAt st (.ref r p) off = ob (placeD st r p) (adB r p off):=by
  simp only [addAt]; cases placeD st r p with
  | none => rfl
  | some d => cases d with
    | nd k kids => cases k <;> rfl
    | _ => rfl
@[simp] theorem addAt_ro (st : St) (b : Bool) (kids : List D) (off : Nat) : addAt st (.ro (.nd (.bx b) kids)) off = some (.rad kids off):=rfl
def celD (c : Nat) : D→Option D
  | .nd (.sl _ _ _) kids => kids[c]?
  | .nd (.bx _) kids => kids[c]?
  | _ => none
@[simp] theorem celD_bx (c : Nat) (b : Bool) (kids : List D) : celD c (.nd (.bx b) kids) = kids[c]?:=rfl
def celB : D→Option D
  | .nd (.bx _) kids => kids[0]?
  | _ => none
@[simp] theorem celB_bx (b : Bool) (kids : List D) : celB (.nd (.bx b) kids) = kids[0]?:=rfl
def vP (r : Nat) (p : List Nat) (c : Nat) : D→Option V
  | .v x => some (.sc x)
  | .nd _ _ => some (.ref r (p ++ [c]))
  | .hole _ => none
@[simp] theorem vP_v (r : Nat) (p : List Nat) (c : Nat) (x : Value) : vP r p c (.v x) = some (.sc x):=rfl
@[simp] theorem vP_nd (r : Nat) (p : List Nat) (c : Nat) (k : K Bool) (kids : List D) : vP r p c (.nd k kids) = some (.ref r (p ++ [c])):=rfl
def vR : D→Option V
  | .v x => some (.sc x)
  | .nd k ks => some (.ro (.nd k ks))
  | .hole _ => none
@[simp] theorem vR_v (x : Value) : vR (.v x) = some (.sc x):=rfl
@[simp] theorem vR_nd (k : K Bool) (kids : List D) : vR (.nd k kids) = some (.ro (.nd k kids)):=rfl
theorem cellV_eq (r : Nat) (p : List Nat) (kids : List D) (c : Nat) : cellV r p kids c = ob kids[c]? (vP r p c):=by
  unfold cellV; cases kids[c]? with
  | none => rfl
  | some d => cases d <;> rfl
theorem cellR_eq (kids : List D) (c : Nat) : cellR kids c = ob kids[c]? vR:=by
  unfold cellR; cases kids[c]? with
  | none => rfl
  | some d => cases d <;> rfl
@[simp] theorem load1_ad (st : St) (r : Nat) (p : List Nat) (c : Nat) : load1 st (.ad r p c) = ob (placeD st r p) (fun d => ob (celD c d) (vP r p c)):=by
  simp only [load1]; cases placeD st r p with
  | none => rfl
  | some d => cases d with
    | nd k kids => cases k <;> first | exact cellV_eq r p kids c | rfl
    | _ => rfl
@[simp] theorem load1_ref (st : St) (r : Nat) (p : List Nat) : load1 st (.ref r p) = ob (placeD st r p) (fun d => ob (celB d) (vP r p 0)):=by
  simp only [load1]; cases placeD st r p with
  | none => rfl
  | some d => cases d with
    | nd k kids => cases k <;> first | exact cellV_eq r p kids 0 | rfl
    | _ => rfl
@[simp] theorem load1_rad (st : St) (kids : List D) (c : Nat) : load1 st (.rad kids c) = ob kids[c]? vR:=cellR_eq kids c
@[simp] theorem load1_ro (st : St) (b : Bool) (kids : List D) : load1 st (.ro (.nd (.bx b) kids)) = ob kids[0]? vR:=cellR_eq kids 0
def agD (r : Nat) (p : List Nat) (c m : Nat) : D→Option V
  | .nd (.sl _ _ _) kids => aggV r p kids c m
  | .nd (.bx _) kids => aggV r p kids c m
  | _ => none
def agB (r : Nat) (p : List Nat) (m : Nat) : D→Option V
  | .nd (.bx _) kids => aggV r p kids 0 m
  | _ => none
@[simp] theorem agD_bx (r : Nat) (p : List Nat) (c m : Nat) (b : Bool) (kids : List D) : agD r p c m (.nd (.bx b) kids) = aggV r p kids c m:=rfl
@[simp] theorem agB_bx (r : Nat) (p : List Nat) (m : Nat) (b : Bool) (kids : List D) : agB r p m (.nd (.bx b) kids) = aggV r p kids 0 m:=rfl
@[simp] theorem loadN_ad (st : St) (r : Nat) (p : List Nat) (c m : Nat) : loadN st (.ad r p c) m = ob (placeD st r p) (agD r p c m):=by
  simp only [loadN]; cases placeD st r p with
  | none => rfl
  | some d => cases d with
    | nd k kids => cases k <;> rfl
    | _ => rfl
@[simp] theorem loadN_ref (st : St) (r : Nat) (p : List Nat) (m : Nat) : loadN st (.ref r p) m = ob (placeD st r p) (agB r p m):=by
  simp only [loadN]; cases placeD st r p with
  | none => rfl
  | some d => cases d with
    | nd k kids => cases k <;> rfl
    | _ => rfl
@[simp] theorem loadN_rad (st : St) (kids : List D) (c m : Nat) : loadN st (.rad kids c) m = aggR kids c m:=rfl
@[simp] theorem loadN_ro (st : St) (b : Bool) (kids : List D) (m : Nat) : loadN st (.ro (.nd (.bx b) kids)) m = aggR kids 0 m:=rfl
theorem aggV_eq (r : Nat) (p : List Nat) (kids : List D) (c m : Nat) : aggV r p kids c m = if c + m ≤ kids.length then
    (if ((kids.drop c).take m).all isSc = true then some (.ro (.nd .ag ((kids.drop c).take m))) else ob (seqM ((List.range m).map fun i => cellV r p kids (c + i))) (fun vs => some (.vn .ag vs))) else none:=by
  unfold aggV
  split
  · dsimp only
    split
    · rfl
    · cases seqM ((List.range m).map fun i => cellV r p kids (c + i)) <;> rfl
  · rfl
def celA (c : Nat) : D→Option D
  | .nd _ kids => kids[c]?
  | _ => none
@[simp] theorem celA_nd (c : Nat) (k : K Bool) (kids : List D) : celA c (.nd k kids) = kids[c]?:=rfl
def killC (r : Nat) (p : List Nat) (c : Nat) (st : St) (old : D) : St:=if isSc old then st else kill r (p ++ [c]) st
@[simp] theorem killC_v (r : Nat) (p : List Nat) (c : Nat) (st : St) (x : Value) : killC r p c st (.v x) = st:=rfl
@[simp] theorem killC_nd (r : Nat) (p : List Nat) (c : Nat) (st : St) (k : K Bool) (x : List D) : killC r p c st (.nd k x) = kill r (p ++ [c]) st:=rfl
@[simp] theorem killC_hole (r : Nat) (p : List Nat) (c : Nat) (st : St) (b : Bool) : killC r p c st (.hole b) = kill r (p ++ [c]) st:=rfl
@[simp] theorem putCells_nil (r : Nat) (p : List Nat) (st : St) (c : Nat) : putCells r p st c [] = some st:=rfl
@[simp] theorem putCells_cons (r : Nat) (p : List Nat) (st : St) (c : Nat) (d : D) (ds : List D) : putCells r p st c (d :: ds) = ob (roo st[r]?) (fun d0 => ob (getAt d0 p) (fun t => ob (celA c t) (fun old => putCells r p ((killC r p c st old).set r (.own (setAt d0 (p ++ [c]) d))) (c + 1) ds))):=by
  rw [putCells,rootD_eq]
  cases roo st[r]? with
  | none => rfl
  | some d0 =>
    simp only [ob_some]
    cases getAt d0 p with
    | none => rfl
    | some t =>
      simp only [ob_some]
      cases t with
      | nd k kids => simp only [celA]; cases kids[c]? <;> rfl
      | _ => rfl
def tgtB (r : Nat) (p : List Nat) : D→Option (Nat × List Nat × Nat)
  | .nd (.bx _) _ => some (r,p,0)
  | _ => none
def tgtK (r : Nat) (p : List Nat) (c : Nat) : D→Option (Nat × List Nat × Nat)
  | .nd (.sl _ _ _) _ => some (r,p,c)
  | .nd (.bx _) _ => some (r,p,c)
  | _ => none
@[simp] theorem tgtB_bx (r : Nat) (p : List Nat) (b : Bool) (kids : List D) : tgtB r p (.nd (.bx b) kids) = some (r,p,0):=rfl
@[simp] theorem tgtK_bx (r : Nat) (p : List Nat) (c : Nat) (b : Bool) (kids : List D) : tgtK r p c (.nd (.bx b) kids) = some (r,p,c):=rfl
@[simp] theorem target_ad (st : St) (r : Nat) (p : List Nat) (c : Nat) : target st (.ad r p c) = ob (placeD st r p) (tgtK r p c):=by
  simp only [target]; cases placeD st r p with
  | none => rfl
  | some d => cases d with
    | nd k kids => cases k <;> rfl
    | _ => rfl
@[simp] theorem target_ref (st : St) (r : Nat) (p : List Nat) : target st (.ref r p) = ob (placeD st r p) (tgtB r p):=by
  simp only [target]; cases placeD st r p with
  | none => rfl
  | some d => cases d with
    | nd k kids => cases k <;> rfl
    | _ => rfl
@[simp] theorem cells_v (x : Value) : cellsOfD (.v x) = [.v x]:=rfl
@[simp] theorem cells_ag (l : List D) : cellsOfD (.nd .ag l) = l:=rfl
@[simp] theorem cells_sl (b : Bool) (es n : Nat) (l : List D) : cellsOfD (.nd (.sl b es n) l) = [.nd (.sl b es n) l]:=rfl
@[simp] theorem cells_bx (b : Bool) (l : List D) : cellsOfD (.nd (.bx b) l) = [.nd (.bx b) l]:=rfl
@[simp] theorem cells_fn (f : Fn) (n : Nat) (l : List D) : cellsOfD (.nd (.fn f n) l) = [.nd (.fn f n) l]:=rfl
attribute [simp] flatOk Value.oneCell'
@[simp] theorem store_eq (st : St) (x y : MO) (m : Nat) : Mx.store st x y m = ob (Mx.take st (ev st y)) (fun q => ob (target q.2 (ev q.2 x)) (fun t =>
    if (cellsOfD q.1).length = m∧(cellsOfD q.1).all flatOk = true then putCells t.1 t.2.1 q.2 t.2.2 (cellsOfD q.1) else none)):=by
  unfold Mx.store
  cases Mx.take st (ev st y) with
  | none => rfl
  | some q =>
    obtain ⟨d,s1⟩:=q
    simp only [ob_some]
    cases target s1 (ev s1 x) <;> rfl
def lenD : D→Option Nat
  | .nd (.sl _ _ n) _ => some n
  | _ => none
@[simp] theorem lenD_sl (b : Bool) (es n : Nat) (kids : List D) : lenD (.nd (.sl b es n) kids) = some n:=rfl
@[simp] theorem lenOf_sub (st : St) (r : Nat) (p : List Nat) (lo es n : Nat) : lenOf st false (.sub r p lo es n) = some n:=rfl
@[simp] theorem lenOf_ref (st : St) (r : Nat) (p : List Nat) : lenOf st false (.ref r p) = ob (placeD st r p) lenD:=by
  simp only [lenOf,Bool.false_eq_true,if_false,rd_ref]; cases placeD st r p with
  | none => rfl
  | some d => cases d with
    | nd k kids => cases k <;> rfl
    | _ => rfl
@[simp] theorem lenOf_ro (st : St) (d : D) : lenOf st false (.ro d) = lenD d:=by
  simp only [lenOf,Bool.false_eq_true,if_false,rd_ro]; cases d with
    | nd k kids => cases k <;> rfl
    | _ => rfl
@[simp] theorem lenOf_str (st : St) (s : ByteArray) : lenOf st true (.sc (.string s)) = some s.size:=rfl
attribute [simp] i64
def slR (es : Nat) (lo hi : Option Nat) : D→Option V
  | .nd (.sl b es' n) kids =>
      let h:=hi.getD n
      let l:=lo.getD 0
      if l ≤ h∧h ≤ n∧(es' = es ∨ n = 0)∧kids.length = n * es then some (.ro (.nd (.sl b es (h - l)) ((kids.drop (l * es)).take ((h - l) * es)))) else none
  | _ => none
def slP (r : Nat) (p : List Nat) (es : Nat) (lo hi : Option Nat) : D→Option V
  | .nd (.sl b es' n) kids =>
      let h:=hi.getD n
      let l:=lo.getD 0
      if l ≤ h∧h ≤ n∧(es' = es ∨ n = 0)∧kids.length = n * es then some (if b then .ro (.nd (.sl true es 0) []) else .sub r p (l * es) es' (h - l)) else none
  | _ => none
def slS (r : Nat) (p : List Nat) (lo0 es' n es : Nat) (lo hi : Option Nat) : D→Option V
  | .nd (.sl false es'' _) kids =>
      let h:=hi.getD n
      let l:=lo.getD 0
      if l ≤ h∧h ≤ n∧es' = es∧es'' = es∧lo0 + n * es ≤ kids.length then some (.sub r p (lo0 + l * es) es (h - l)) else none
  | _ => none
@[simp] theorem slice_ro (st : St) (es : Nat) (d : D) (lo hi : Option Nat) : Mx.slice st es (.ro d) lo hi = slR es lo hi d:=by
  cases d with
    | nd k kids => cases k <;> rfl
    | _ => rfl
@[simp] theorem slice_ref (st : St) (es : Nat) (r : Nat) (p : List Nat) (lo hi : Option Nat) : Mx.slice st es (.ref r p) lo hi = ob (placeD st r p) (slP r p es lo hi):=by
  simp only [Mx.slice]; cases placeD st r p with
  | none => rfl
  | some d => cases d with
    | nd k kids => cases k <;> rfl
    | _ => rfl
@[simp] theorem slice_sub (st : St) (es : Nat) (r : Nat) (p : List Nat) (lo0 es' n : Nat) (lo hi : Option Nat) : Mx.slice st es (.sub r p lo0 es' n) lo hi = ob (placeD st r p) (slS r p lo0 es' n es lo hi):=by
  simp only [Mx.slice]; cases placeD st r p with
  | none => rfl
  | some d => cases d with
    | nd k kids => cases k with
      | sl b _ _ => cases b <;> rfl
      | _ => rfl
    | _ => rfl
def apS (st : St) (es : Nat) (v : V) : D→Option (Nat × List D × St)
  | .nd (.sl _ es' n) kids =>
    if (es' = es ∨ n = 0)∧kids.length = n * es then
      if kids.all flatOk then
        if kids.all isSc then some (n,kids,st)
        else match Mx.take st v with
          | some (.nd (.sl _ _ n') kids',st1) => if n' = n∧kids'.length = n * es∧kids'.all flatOk then some (n,kids',st1) else none
          | _ => none
      else none
    else none
  | .v (.string s) => if es = 1∧s.size ≤ most then some (s.size,bytesD s,st) else none
  | _ => none
theorem appSrc_eq (st : St) (es : Nat) (y : MO) : appSrc st es y = ob (rd st (ev st y)) (apS st es (ev st y)):=by
  unfold appSrc
  cases rd st (ev st y) with
  | none => rfl
  | some d =>
    cases d with
    | nd k kids => cases k <;> rfl
    | v x => cases x <;> rfl
    | hole b => rfl
def apD (es m : Nat) (ks : List D) : D→Option D
  | .nd (.sl b es' n) kids => if (es' = es ∨ b = true)∧kids.length = n * es∧n + m ≤ most then some (.nd (.sl (b && m == 0) es (n + m)) (kids ++ ks)) else none
  | _ => none
theorem append_eq (st : St) (es : Nat) (x y : MO) : Mx.append st es x y = ob (appSrc st es y) (fun q => ob (Mx.take q.2.2 (ev q.2.2 x)) (fun q2 => ob (apD es q.1 q.2.1 q2.1) (fun d => some (d,q2.2)))):=by
  unfold Mx.append
  cases appSrc st es y with
  | none => rfl
  | some q =>
    obtain ⟨m,ks,s1⟩:=q
    simp only [ob_some]
    cases Mx.take s1 (ev s1 x) with
    | none => rfl
    | some q2 =>
      obtain ⟨d,s2⟩:=q2
      simp only [ob_some]
      cases d with
      | nd k kids => cases k with
        | sl b es' n => simp only [apD]; split <;> rfl
        | _ => rfl
      | _ => rfl
def bnd (bt : BT) (st : St) (op : BinOp) (vx vy : V) : Option V :=
  match bt with
  | .nilT ptr => match isNil st ptr vx,isNil st ptr vy with
      | some a,some b =>
        if a || b then match op with
          | .eql => some (.sc (.bool (a && b)))
          | .neq => some (.sc (.bool (!(a && b))))
          | _ => none
        else none
      | _,_ => none
  | .ag ks => match rd st vx,rd st vy with
      | some (.nd .ag as),some (.nd .ag bs) =>
        match eqAll ks as bs with
        | some t => match op with
          | .eql => some (.sc (.bool t))
          | .neq => some (.sc (.bool (!t)))
          | _ => none
        | none => none
      | _,_ => none
  | bt => match vx,vy with
      | .sc a,.sc b => match bin op bt a b with
        | some z => some (.sc z)
        | none => none
      | _,_ => none
theorem step_bin (call : Oracle) (st : St) (dst : Nat) (op : BinOp) (bt : BT) (x y : MO) : step call st (.bin dst op bt x y) = ob (bnd bt st op (ev st x) (ev st y)) (fun v => some (setv st dst v)):=by
  cases bt with
  | nilT ptr =>
    simp only [step,bnd]
    cases isNil st ptr (ev st x) <;> cases isNil st ptr (ev st y) <;> try rfl
    simp only
    split
    · cases op <;> rfl
    · rfl
  | ag ks =>
    simp only [step,bnd]
    generalize rd st (ev st x) = a
    generalize rd st (ev st y) = b
    rcases a with _ | (_ | _ | ⟨k,kids⟩) <;> rcases b with _ | (_ | _ | ⟨k',kids'⟩) <;> try (first | rfl | (cases k <;> rfl))
    cases k <;> cases k' <;> try rfl
    simp only
    cases eqAll ks kids kids' <;> cases op <;> rfl
  | _ =>
    simp only [step,bnd]
    generalize ev st x = a
    generalize ev st y = b
    cases a <;> cases b <;> try rfl
    rename_i a b
    simp only
    cases bin op _ a b <;> rfl
theorem val1_bin (call : Oracle) (st : St) (dst : Nat) (op : BinOp) (bt : BT) (x y : MO) : val1 call st (.bin dst op bt x y) = bnd bt st op (ev st x) (ev st y):=by
  cases bt <;> rfl
@[simp] theorem bnd_num (st : St) (op : BinOp) (k k' : IntKind) (a b : Int) : bnd .num st op (.sc (.int k a)) (.sc (.int k' b)) = ob (if isShift op = true then shiftBin op k a b else if k = k' then intBin op k a b else none) (fun z => some (.sc z)):=by
  simp only [bnd,bin]
  split <;> rename_i h <;> rw [h] <;> rfl
@[simp] theorem bnd_bool (st : St) (op : BinOp) (k k' : IntKind) (a b : Int) : bnd .bool st op (.sc (.int k a)) (.sc (.int k' b)) = ob (if isShift op = true then shiftBin op k a b else if k = k' then intBin op k a b else none) (fun z => some (.sc z)):=by
  simp only [bnd,bin]
  split <;> rename_i h <;> rw [h] <;> rfl
@[simp] theorem bnd_no (st : St) (op : BinOp) (k k' : IntKind) (a b : Int) : bnd .no st op (.sc (.int k a)) (.sc (.int k' b)) = ob (if isShift op = true then shiftBin op k a b else if k = k' then intBin op k a b else none) (fun z => some (.sc z)):=by
  simp only [bnd,bin]
  split <;> rename_i h <;> rw [h] <;> rfl
@[simp] theorem bnd_beq (st : St) (a b : Bool) : bnd .bool st .eql (.sc (.bool a)) (.sc (.bool b)) = some (.sc (.bool (a == b))):=rfl
@[simp] theorem bnd_bne (st : St) (a b : Bool) : bnd .bool st .neq (.sc (.bool a)) (.sc (.bool b)) = some (.sc (.bool (!(a == b)))):=rfl
@[simp] theorem bnd_seq (st : St) (bt : BT) (h : bt = .num ∨ bt = .no) (a b : ByteArray) : bnd bt st .eql (.sc (.string a)) (.sc (.string b)) = some (.sc (.bool (a.toList == b.toList))):=by
  rcases h with rfl | rfl <;> rfl
@[simp] theorem bnd_sne (st : St) (bt : BT) (h : bt = .num ∨ bt = .no) (a b : ByteArray) : bnd bt st .neq (.sc (.string a)) (.sc (.string b)) = some (.sc (.bool (!(a.toList == b.toList)))):=by
  rcases h with rfl | rfl <;> rfl
def eqA (op : BinOp) (ks : List Nat) (a b : D) : Option V :=
  match a,b with
  | .nd .ag as, .nd .ag bs => match eqAll ks as bs with
        | some t => match op with
          | .eql => some (.sc (.bool t))
          | .neq => some (.sc (.bool (!t)))
          | _ => none
        | none => none
  | _,_ => none
@[simp] theorem bnd_ag (st : St) (op : BinOp) (ks : List Nat) (vx vy : V) : bnd (.ag ks) st op vx vy = ob (rd st vx) (fun a => ob (rd st vy) (fun b => eqA op ks a b)):=by
  simp only [bnd]
  cases rd st vx with
  | none => rfl
  | some a =>
    cases rd st vy with
    | none => cases a with
      | nd k kids => cases k <;> rfl
      | _ => rfl
    | some b =>
      cases a with
      | nd k kids =>
        cases k <;> try rfl
        cases b with
        | nd k' kids' => cases k' <;> rfl
        | _ => rfl
      | _ => rfl
def eqO (op : BinOp) (t : Bool) : Option V :=
  match op with
  | .eql => some (.sc (.bool t))
  | .neq => some (.sc (.bool (!t)))
  | _ => none
@[simp] theorem eqO_eql (t : Bool) : eqO .eql t = some (.sc (.bool t)):=rfl
@[simp] theorem eqO_neq (t : Bool) : eqO .neq t = some (.sc (.bool (!t))):=rfl
@[simp] theorem eqA_ag (op : BinOp) (ks : List Nat) (as bs : List D) : eqA op ks (.nd .ag as) (.nd .ag bs) = ob (eqAll ks as bs) (eqO op):=by
  simp only [eqA]; cases eqAll ks as bs with
  | none => rfl
  | some t => cases op <;> rfl
@[simp] theorem eqAll_nil : eqAll [] [] [] = some true:=rfl
@[simp] theorem eqAll_cons (k : Nat) (ks : List Nat) (a b : D) (as bs : List D) : eqAll (k :: ks) (a :: as) (b :: bs) = ob (eqSc k a b) (fun t => ob (eqAll ks as bs) (fun r => some (t && r))):=by
  rw [eqAll]; cases eqSc k a b with
  | none => rfl
  | some t => simp only [ob_some]; cases eqAll ks as bs <;> rfl
@[simp] theorem eqSc_int (k : IntKind) (a b : Int) : eqSc 0 (.v (.int k a)) (.v (.int k b)) = some (a == b):=by simp [eqSc]
@[simp] theorem eqSc_bool (a b : Bool) : eqSc 1 (.v (.bool a)) (.v (.bool b)) = some (a == b):=by simp [eqSc]
@[simp] theorem eqSc_str (a b : ByteArray) : eqSc 2 (.v (.string a)) (.v (.string b)) = some (a.toList == b.toList):=by simp [eqSc]
def nilD (ptr : Bool) : D→Option Bool
  | .nd (.sl b _ _) _ => if ptr then none else some b
  | .nd (.bx _) _ => if ptr then some false else none
  | .v (.pointer none) => if ptr then some true else none
  | _ => none
@[simp] theorem nilD_sl (b : Bool) (es n : Nat) (kids : List D) : nilD false (.nd (.sl b es n) kids) = some b:=rfl
@[simp] theorem nilD_bx (b : Bool) (kids : List D) : nilD true (.nd (.bx b) kids) = some false:=rfl
@[simp] theorem nilD_ptr : nilD true (.v (.pointer none)) = some true:=rfl
@[simp] theorem bnd_nil (st : St) (op : BinOp) (ptr : Bool) (vx vy : V) : bnd (.nilT ptr) st op vx vy = ob (ob (rd st vx) (nilD ptr)) (fun a => ob (ob (rd st vy) (nilD ptr)) (fun b => if (a || b) = true then eqO op (a && b) else none)):=by
  have e : ∀ v,isNil st ptr v = ob (rd st v) (nilD ptr):=by
    intro v
    unfold isNil
    cases rd st v with
    | none => rfl
    | some d => cases d with
      | nd k kids => cases k <;> rfl
      | v x => cases x with
        | pointer a => cases a <;> rfl
        | _ => rfl
      | hole b => rfl
  simp only [bnd,e]
  generalize ob (rd st vx) (nilD ptr) = a
  generalize ob (rd st vy) (nilD ptr) = b
  cases a <;> cases b <;> try rfl
attribute [simp] isShift
section
variable (k : IntKind) (a b : Int)
@[simp] theorem intBin_add : intBin .add k a b = some (.int k (k.wrap (a + b))):=rfl
@[simp] theorem intBin_sub : intBin .sub k a b = some (.int k (k.wrap (a - b))):=rfl
@[simp] theorem intBin_mul : intBin .mul k a b = some (.int k (k.wrap (a * b))):=rfl
@[simp] theorem intBin_quo : intBin .quo k a b = if b = 0 then none else some (.int k (k.wrap (a.tdiv b))):=rfl
@[simp] theorem intBin_rem : intBin .rem k a b = if b = 0 then none else some (.int k (a.tmod b)):=rfl
@[simp] theorem intBin_eql : intBin .eql k a b = some (.bool (a == b)):=rfl
@[simp] theorem intBin_neq : intBin .neq k a b = some (.bool (a != b)):=rfl
@[simp] theorem intBin_lss : intBin .lss k a b = some (.bool (a < b)):=rfl
@[simp] theorem intBin_leq : intBin .leq k a b = some (.bool (a ≤ b)):=rfl
@[simp] theorem intBin_gtr : intBin .gtr k a b = some (.bool (a > b)):=rfl
@[simp] theorem intBin_geq : intBin .geq k a b = some (.bool (a ≥ b)):=rfl
end
@[simp] theorem un_neg (k : IntKind) (n : Int) : un .neg (.int k n) = some (.int k (k.wrap (0 - n))):=rfl
@[simp] theorem un_not (b : Bool) : un .not (.bool b) = some (.bool !b):=rfl
@[simp] theorem un_xor (k : IntKind) (n : Int) : un .xor (.int k n) = some (mask k (BitVec.ofInt k.bits (if k.signed then -1 else k.max) ^^^ BitVec.ofInt k.bits n)):=rfl
def scV (v : V) : Option Value :=
  match v with
  | .sc x => some x
  | _ => none
@[simp] theorem scV_sc (x : Value) : scV (.sc x) = some x:=rfl
def boolV (v : V) : Option Bool :=
  match v with
  | .sc (.bool x) => some x
  | _ => none
@[simp] theorem boolV_bool (x : Bool) : boolV (.sc (.bool x)) = some x:=rfl
def cviV (k : IntKind) (v : V) : Option V :=
  match v with
  | .sc (.int _ n) => some (.sc (.int k (k.wrap n)))
  | _ => none
@[simp] theorem cviV_int (k k' : IntKind) (n : Int) : cviV k (.sc (.int k' n)) = some (.sc (.int k (k.wrap n))):=rfl
def mmV (mx : Bool) (a b : V) : Option V :=
  match a,b with
  | .sc (.int k a),.sc (.int _ b) => some (.sc (.int k (if mx then (if b > a then b else a) else (if b < a then b else a))))
  | _,_ => none
@[simp] theorem mmV_max (k k' : IntKind) (a b : Int) : mmV true (.sc (.int k a)) (.sc (.int k' b)) = some (.sc (.int k (max a b))):=by
  simp only [mmV,if_true]
  have : (if b > a then b else a) = max a b:=by split <;> omega
  rw [this]
@[simp] theorem mmV_min (k k' : IntKind) (a b : Int) : mmV false (.sc (.int k a)) (.sc (.int k' b)) = some (.sc (.int k (min a b))):=by
  simp only [mmV,Bool.false_eq_true,if_false]
  have : (if b < a then b else a) = min a b:=by split <;> omega
  rw [this]
@[simp] theorem optNat_none (st : St) : optNat st none = some none:=rfl
@[simp] theorem optNat_some (st : St) (x : MO) : optNat st (some x) = ob (asNat (ev st x)) (fun n => some (some n)):=by
  simp only [optNat]; cases asNat (ev st x) <;> rfl
attribute [simp] put
def fldP (r : Nat) (p : List Nat) (off : Nat) : D→Option V
  | .nd .ag kids => ob kids[off]? (vP r p off)
  | _ => none
@[simp] theorem fldP_ag (r : Nat) (p : List Nat) (off : Nat) (kids : List D) : fldP r p off (.nd .ag kids) = ob kids[off]? (vP r p off):=rfl
@[simp] theorem fld_ref (st : St) (r : Nat) (p : List Nat) (off : Nat) : fieldV st (.ref r p) off none = ob (placeD st r p) (fldP r p off):=by
  simp only [fieldV]; cases placeD st r p with
  | none => rfl
  | some d => cases d with
    | nd k kids => cases k <;> first | exact cellV_eq r p kids off | rfl
    | _ => rfl
@[simp] theorem fld_ro (st : St) (kids : List D) (off : Nat) : fieldV st (.ro (.nd .ag kids)) off none = ob kids[off]? vR:=cellR_eq kids off
@[simp] theorem fld_vn (st : St) (vs : List V) (off : Nat) : fieldV st (.vn .ag vs) off none = vs[off]?:=rfl
def fldM (off m : Nat) : D→Option V
  | .nd .ag kids => if off + m ≤ kids.length∧((kids.drop off).take m).all isSc then some (.ro (.nd .ag ((kids.drop off).take m))) else none
  | _ => none
@[simp] theorem fldM_ag (off m : Nat) (kids : List D) : fldM off m (.nd .ag kids) = if off + m ≤ kids.length∧((kids.drop off).take m).all isSc = true then some (.ro (.nd .ag ((kids.drop off).take m))) else none:=rfl
@[simp] theorem fld_m (st : St) (x : V) (off m : Nat) : fieldV st x off (some m) = ob (rd st x) (fldM off m):=by
  simp only [fieldV]; cases rd st x with
  | none => rfl
  | some d => cases d with
    | nd k kids => cases k <;> rfl
    | _ => rfl
def partK (st : St) (r : Nat) (d0 : D) (p : List Nat) (i : Nat) : D→Option (V × St)
  | .v y => some (.sc y,st)
  | .nd k ks => some (.own (.nd k ks),leave st r d0 (p ++ [i]))
  | _ => none
@[simp] theorem partK_v (st : St) (r : Nat) (d0 : D) (p : List Nat) (i : Nat) (y : Value) : partK st r d0 p i (.v y) = some (.sc y,st):=rfl
@[simp] theorem partK_nd (st : St) (r : Nat) (d0 : D) (p : List Nat) (i : Nat) (k : K Bool) (ks : List D) : partK st r d0 p i (.nd k ks) = some (.own (.nd k ks),leave st r d0 (p ++ [i])):=rfl
def tuK (i : Nat) : D→Option D
  | .nd .tu kids => kids[i]?
  | _ => none
@[simp] theorem tuK_tu (i : Nat) (kids : List D) : tuK i (.nd .tu kids) = kids[i]?:=rfl
@[simp] theorem part_ref (st : St) (r : Nat) (p : List Nat) (i : Nat) : part st (.ref r p) i = ob (roo st[r]?) (fun d0 => ob (getAt d0 p) (fun t => ob (tuK i t) (partK st r d0 p i))):=by
  simp only [part,rootD_eq]
  cases roo st[r]? with
  | none => rfl
  | some d0 =>
    simp only [ob_some]
    cases getAt d0 p with
    | none => rfl
    | some t =>
      cases t with
      | nd k kids =>
        cases k <;> try rfl
        simp only [ob_some,tuK]
        cases kids[i]? with
        | none => rfl
        | some t => cases t <;> rfl
      | _ => rfl
section
variable (call : Oracle) (st : St)
@[simp] theorem step_mv (dst : Nat) (x : MO) : step call st (.mv dst x) = ob (nd (ev st x)) (fun y => some (setv st dst y)):=by
  simp only [step]; cases ev st x <;> rfl
@[simp] theorem step_asg (dst : Nat) (x : MO) : step call st (.asg dst x) = ob (nd (ev st x)) (fun y => assign st dst y):=by
  simp only [step]; cases ev st x <;> rfl
@[simp] theorem step_pick (dst : Nat) (c a b : MO) : step call st (.pick dst c a b) = ob (boolV (ev st c)) (fun t => if t = true then ob (nd (ev st a)) (fun y => some (setv st dst y)) else ob (nd (ev st b)) (fun y => some (setv st dst y))):=by
  simp only [step]
  cases ev st c with
  | sc x => cases x with
    | bool t =>
      simp only [boolV,ob_some]
      cases t
      · simp only [Bool.false_eq_true,if_false]; cases ev st b <;> rfl
      · simp only [if_true]; cases ev st a <;> rfl
    | _ => rfl
  | _ => rfl
@[simp] theorem step_ext (dst : Nat) (x : MO) (i : Nat) : step call st (.ext dst x i) = ob (part st (ev st x) i) (fun q => some (setv q.2 dst q.1)):=by
  simp only [step]; cases part st (ev st x) i <;> rfl
@[simp] theorem step_ixs (dst es : Nat) (x i : MO) : step call st (.ixs dst es x i) = ob (asNat (ev st i)) (fun n => ob (elemAt st es (ev st x) n) (fun y => some (setv st dst y))):=by
  simp only [step]; cases asNat (ev st i) with
  | none => rfl
  | some n => simp only [ob_some]; cases elemAt st es (ev st x) n <;> rfl
@[simp] theorem step_ixa (dst es len : Nat) (x i : MO) : step call st (.ixa dst es len x i) = ob (asNat (ev st i)) (fun n => if n < len then ob (addAt st (ev st x) (n * es)) (fun y => some (setv st dst y)) else none):=by
  simp only [step]; cases asNat (ev st i) with
  | none => rfl
  | some n => simp only [ob_some]; split
              · cases addAt st (ev st x) (n * es) <;> rfl
              · rfl
@[simp] theorem step_ld1 (dst : Nat) (x : MO) : step call st (.ld1 dst x) = ob (load1 st (ev st x)) (fun y => some (setv st dst y)):=by
  simp only [step]; cases load1 st (ev st x) <;> rfl
@[simp] theorem step_ldn (dst m : Nat) (x : MO) : step call st (.ldn dst m x) = ob (loadN st (ev st x) m) (fun y => some (setv st dst y)):=by
  simp only [step]; cases loadN st (ev st x) m <;> rfl
@[simp] theorem step_stn (dst : Option Nat) (m : Nat) (x y : MO) : step call st (.stn dst m x y) = ob (Mx.store st x y m) (fun s1 => some (put s1 dst (.sc undef))):=by
  simp only [step]; cases Mx.store st x y m <;> rfl
@[simp] theorem step_bin' (dst : Nat) (op : BinOp) (bt : BT) (x y : MO) : step call st (.bin dst op bt x y) = ob (bnd bt st op (ev st x) (ev st y)) (fun v => some (setv st dst v)):=step_bin call st dst op bt x y
@[simp] theorem step_un (dst : Nat) (op : UnOp) (x : MO) : step call st (.un dst op x) = ob (scV (ev st x)) (fun a => ob (un op a) (fun z => some (setv st dst (.sc z)))):=by
  simp only [step]; cases ev st x with
  | sc a => simp only [scV,ob_some]; cases un op a <;> rfl
  | _ => rfl
@[simp] theorem step_len (dst : Nat) (s : Bool) (x : MO) : step call st (.len dst s x) = ob (lenOf st s (ev st x)) (fun n => some (setv st dst (.sc (i64 n)))):=by
  simp only [step]; cases lenOf st s (ev st x) <;> rfl
@[simp] theorem step_app (dst es : Nat) (x y : MO) : step call st (.app dst es x y) = ob (rd st (ev st y)) (fun d0 => ob (apS st es (ev st y) d0) (fun q => ob (Mx.take q.2.2 (ev q.2.2 x)) (fun q2 => ob (apD es q.1 q.2.1 q2.1) (fun d => some (setv q2.2 dst (.own d)))))):=by
  simp only [step,append_eq,appSrc_eq]
  cases rd st (ev st y) with
  | none => rfl
  | some d0 =>
    simp only [ob_some]
    cases apS st es (ev st y) d0 with
    | none => rfl
    | some q =>
      simp only [ob_some]
      cases Mx.take q.2.2 (ev q.2.2 x) with
      | none => rfl
      | some q2 => simp only [ob_some]; cases apD es q.1 q.2.1 q2.1 <;> rfl
@[simp] theorem step_mm (dst : Nat) (mx : Bool) (x y : MO) : step call st (.mm dst mx x y) = ob (mmV mx (ev st x) (ev st y)) (fun v => some (setv st dst v)):=by
  simp only [step]
  cases ev st x with
  | sc a => cases a with
    | int k a => cases ev st y with
      | sc b => cases b <;> rfl
      | _ => rfl
    | _ => rfl
  | _ => rfl
@[simp] theorem step_call (dst : Option Nat) (f : FuncId) (args : List MO) : step call st (.call dst f args) = ob (rdAll st args) (fun ds => ob (call f ds) (fun d => some (put st dst (mkOwn d)))):=by
  simp only [step]; cases rdAll st args with
  | none => rfl
  | some ds => simp only [ob_some]; cases call f ds <;> rfl
def fnD (d : D) : Option (FuncId × Nat × List D) :=
  match d with
  | .nd (.fn (.func f) nf) kids => some (f,nf,kids)
  | _ => none
@[simp] theorem fnD_fn (f : FuncId) (nf : Nat) (kids : List D) : fnD (.nd (.fn (.func f) nf) kids) = some (f,nf,kids):=rfl
@[simp] theorem step_calv (dst : Option Nat) (g : MO) (args : List MO) : step call st (.calv dst g args) = ob (rd st (ev st g)) (fun d => ob (fnD d) (fun q => ob (rdAll st args) (fun ds => if q.1 < ioB then ob (call q.1 (q.2.2.take q.2.1 ++ ds ++ q.2.2.drop q.2.1)) (fun d => some (put st dst (mkOwn d))) else none))):=by
  simp only [step]; cases rd st (ev st g) with
  | none => rfl
  | some d =>
    cases d with
    | nd k kids => cases k with
      | fn f nf => cases f with
        | func f =>
          simp only [ob_some,fnD]
          cases rdAll st args with
          | none => rfl
          | some ds =>
            simp only [ob_some]
            by_cases hf : f < ioB
            · rw [if_pos hf,if_pos hf]; cases call f (kids.take nf ++ ds ++ kids.drop nf) <;> rfl
            · rw [if_neg hf,if_neg hf]
        | _ => rfl
      | _ => rfl
    | _ => rfl
@[simp] theorem step_bs (dst es n : Nat) (zero : List D) (parts : List (Nat × Nat × MO)) : step call st (.bs dst es n zero parts) = ob (takeAll st (parts.map (·.2.2))) (fun q => ob (lay (reps n zero) ((parts.zip q.1).map fun q => (q.1.1,q.1.2.1,q.2))) (fun cells => some (setv q.2 dst (.own (.nd (.sl false es n) cells))))):=by
  simp only [step]; cases takeAll st (parts.map (·.2.2)) with
  | none => rfl
  | some q => simp only [ob_some]; cases lay (reps n zero) ((parts.zip q.1).map fun q => (q.1.1,q.1.2.1,q.2)) <;> rfl
@[simp] theorem step_bld (dst : Nat) (zero : List D) (parts : List (Nat × Nat × MO)) : step call st (.bld dst zero parts) = ob (takeAll st (parts.map (·.2.2))) (fun q => ob (lay zero ((parts.zip q.1).map fun q => (q.1.1,q.1.2.1,q.2))) (fun cells => some (setv q.2 dst (.own (.nd .ag cells))))):=by
  simp only [step]; cases takeAll st (parts.map (·.2.2)) with
  | none => rfl
  | some q => simp only [ob_some]; cases lay zero ((parts.zip q.1).map fun q => (q.1.1,q.1.2.1,q.2)) <;> rfl
@[simp] theorem step_bv (dst : Nat) (zero : List D) (parts : List (Nat × Nat × MO)) : step call st (.bv dst zero parts) = ob (bvL st (zV zero) parts) (fun cs => some (setv st dst (.vn .ag cs))):=by
  simp only [step]; cases bvL st (zV zero) parts <;> rfl
@[simp] theorem step_box (dst : Nat) (x : MO) : step call st (.box dst x) = ob (Mx.take st (ev st x)) (fun q => if (cellsOfD q.1).all flatOk = true then some (setv q.2 dst (.own (.nd (.bx false) (cellsOfD q.1)))) else none):=by
  simp only [step]; cases Mx.take st (ev st x) <;> rfl
@[simp] theorem step_alc (dst : Nat) (zero : List D) : step call st (.alc dst zero) = some (setv st dst (.own (.nd (.bx false) zero))):=rfl
@[simp] theorem step_mks (dst es : Nat) (zero : List D) (l c : MO) : step call st (.mks dst es zero l c) = ob (asNat (ev st l)) (fun n => ob (asNat (ev st c)) (fun m => if n ≤ m∧m ≤ most then some (setv st dst (.own (.nd (.sl false es n) (reps n zero)))) else none)):=by
  simp only [step]; cases asNat (ev st l) with
  | none => rfl
  | some n => cases asNat (ev st c) <;> rfl
@[simp] theorem step_sl (dst es : Nat) (x : MO) (lo hi : Option MO) : step call st (.sl dst es x lo hi) = ob (optNat st lo) (fun l => ob (optNat st hi) (fun h => ob (Mx.slice st es (ev st x) l h) (fun y => some (setv st dst y)))):=by
  simp only [step]; cases optNat st lo with
  | none => rfl
  | some l => cases optNat st hi with
    | none => rfl
    | some h => simp only [ob_some]; cases Mx.slice st es (ev st x) l h <;> rfl
@[simp] theorem step_fa (dst off : Nat) (x : MO) : step call st (.fa dst off x) = ob (addAt st (ev st x) off) (fun y => some (setv st dst y)):=by
  simp only [step]; cases addAt st (ev st x) off <;> rfl
@[simp] theorem step_fld (dst off : Nat) (m : Option Nat) (x : MO) : step call st (.fld dst off m x) = ob (fieldV st (ev st x) off m) (fun y => some (setv st dst y)):=by
  simp only [step]; cases fieldV st (ev st x) off m <;> rfl
@[simp] theorem step_cvi (dst : Nat) (k : IntKind) (x : MO) : step call st (.cvi dst k x) = ob (cviV k (ev st x)) (fun y => some (setv st dst y)):=by
  simp only [step]; cases ev st x with
  | sc a => cases a <;> rfl
  | _ => rfl
@[simp] theorem step_mkf (dst : Nat) (f : FuncId) (caps : List MO) : step call st (.mkf dst f caps) = some (setv st dst (.vn (.fn (.func f) 0) (caps.map (ev st)))):=rfl
@[simp] theorem step_ix (dst es len : Nat) (x i : MO) : step call st (.ix dst es len x i) = ob (asNat (ev st i)) (fun n => if n < len then ob (fieldV st (ev st x) (n * es) (if es = 1 then none else some es)) (fun y => some (setv st dst y)) else none):=by
  simp only [step]; cases asNat (ev st i) with
  | none => rfl
  | some n => simp only [ob_some]; split
              · cases fieldV st (ev st x) (n * es) (if es = 1 then none else some es) <;> rfl
              · rfl
@[simp] theorem cp_sc (x : Value) : cp st (.sc x) = some (.v x):=rfl
def cpD (d : D) : Option D :=
  match d with
  | .nd .ag kids => if noMemL kids then some (.nd .ag kids) else none
  | d => if noMem d then some d else none
def cpP (d : D) : Option D :=
  match d with
  | .nd .ag kids => if noMemL kids then some (.nd .ag kids) else none
  | _ => none
@[simp] theorem cpD_ag (kids : List D) : cpD (.nd .ag kids) = if noMemL kids = true then some (.nd .ag kids) else none:=rfl
@[simp] theorem cpD_nil (es : Nat) : cpD (.nd (.sl true es 0) []) = some (.nd (.sl true es 0) []):=rfl
@[simp] theorem cpP_ag (kids : List D) : cpP (.nd .ag kids) = if noMemL kids = true then some (.nd .ag kids) else none:=rfl
@[simp] theorem cp_ro (d : D) : cp st (.ro d) = cpD d:=by
  cases d with
  | nd k kids => cases k <;> rfl
  | _ => rfl
@[simp] theorem cp_ref (r : Nat) (p : List Nat) : cp st (.ref r p) = ob (placeD st r p) cpP:=by
  simp only [cp]; cases placeD st r p with
  | none => rfl
  | some d => cases d with
    | nd k kids => cases k <;> rfl
    | _ => rfl
@[simp] theorem cpAll_nil : cpAll st [] = some []:=rfl
@[simp] theorem cpAll_cons (x : MO) (xs : List MO) : cpAll st (x :: xs) = ob (cp st (ev st x)) (fun d => ob (cpAll st xs) (fun ds => some (d :: ds))):=by
  simp only [cpAll]; cases cp st (ev st x) with
  | none => rfl
  | some d => simp only [ob_some]; cases cpAll st xs <;> rfl
@[simp] theorem val1_mv (dst : Nat) (x : MO) : val1 call st (.mv dst x) = nd (ev st x):=by
  simp only [val1]; cases ev st x <;> rfl
@[simp] theorem val1_asg (dst : Nat) (x : MO) : val1 call st (.asg dst x) = ob (scV (ev st x)) (fun a => some (.sc a)):=by
  simp only [val1]; cases ev st x <;> rfl
@[simp] theorem val1_pick (dst : Nat) (c a b : MO) : val1 call st (.pick dst c a b) = ob (boolV (ev st c)) (fun t => if t = true then nd (ev st a) else nd (ev st b)):=by
  simp only [val1]
  cases ev st c with
  | sc x => cases x with
    | bool t =>
      simp only [boolV,ob_some]
      cases t
      · simp only [Bool.false_eq_true,if_false]; cases ev st b <;> rfl
      · simp only [if_true]; cases ev st a <;> rfl
    | _ => rfl
  | _ => rfl
@[simp] theorem val1_ixs (dst es : Nat) (x i : MO) : val1 call st (.ixs dst es x i) = ob (asNat (ev st i)) (fun n => elemAt st es (ev st x) n):=by
  simp only [val1]; cases asNat (ev st i) <;> rfl
@[simp] theorem val1_ixa (dst es len : Nat) (x i : MO) : val1 call st (.ixa dst es len x i) = ob (asNat (ev st i)) (fun n => if n < len then addAt st (ev st x) (n * es) else none):=by
  simp only [val1]; cases asNat (ev st i) <;> rfl
@[simp] theorem val1_ld1 (dst : Nat) (x : MO) : val1 call st (.ld1 dst x) = load1 st (ev st x):=rfl
@[simp] theorem val1_ldn (dst m : Nat) (x : MO) : val1 call st (.ldn dst m x) = loadN st (ev st x) m:=rfl
@[simp] theorem val1_bin' (dst : Nat) (op : BinOp) (bt : BT) (x y : MO) : val1 call st (.bin dst op bt x y) = bnd bt st op (ev st x) (ev st y):=val1_bin call st dst op bt x y
@[simp] theorem val1_un (dst : Nat) (op : UnOp) (x : MO) : val1 call st (.un dst op x) = ob (scV (ev st x)) (fun a => ob (un op a) (fun z => some (.sc z))):=by
  simp only [val1]; cases ev st x with
  | sc a => simp only [scV,ob_some]; cases un op a <;> rfl
  | _ => rfl
@[simp] theorem val1_len (dst : Nat) (s : Bool) (x : MO) : val1 call st (.len dst s x) = ob (lenOf st s (ev st x)) (fun n => some (.sc (i64 n))):=by
  simp only [val1]; cases lenOf st s (ev st x) <;> rfl
@[simp] theorem val1_mm (dst : Nat) (mx : Bool) (x y : MO) : val1 call st (.mm dst mx x y) = mmV mx (ev st x) (ev st y):=by
  simp only [val1]
  cases ev st x with
  | sc a => cases a with
    | int k a => cases ev st y with
      | sc b => cases b <;> rfl
      | _ => rfl
    | _ => rfl
  | _ => rfl
@[simp] theorem val1_call (dst : Option Nat) (f : FuncId) (args : List MO) : val1 call st (.call dst f args) = ob (rdAll st args) (fun ds => ob (call f ds) (fun d => some (mkOwn d))):=by
  simp only [val1]; cases rdAll st args with
  | none => rfl
  | some ds => simp only [ob_some]; cases call f ds <;> rfl
@[simp] theorem val1_alc (dst : Nat) (zero : List D) : val1 call st (.alc dst zero) = some (.own (.nd (.bx false) zero)):=rfl
@[simp] theorem val1_mz (dst es : Nat) : val1 call st (.mz dst es) = some (.vn (.sl false es 0) []):=rfl
@[simp] theorem step_mz (dst es : Nat) : step call st (.mz dst es) = some (setv st dst (.vn (.sl false es 0) [])):=rfl
def vnz (v : V) : Option Nat :=
  match v with
  | .vn (.sl false es 0) [] => some es
  | _ => none
@[simp] theorem vnz_vn (es : Nat) : vnz (.vn (.sl false es 0) []) = some es:=rfl
def apZ (es : Nat) (d : D) : Option V :=
  match d with
  | .nd (.sl _ es2 n) kids => if (es2 = es ∨ n = 0)∧kids.length = n * es∧kids.all flatOk = true∧kids.all isSc = true∧n ≤ most then some (.own (.nd (.sl false es n) kids)) else none
  | _ => none
@[simp] theorem val1_app (dst es : Nat) (x y : MO) : val1 call st (.app dst es x y) = ob (vnz (ev st x)) (fun e => ob (rd st (ev st y)) (fun d => if e = es then apZ es d else none)):=by
  simp only [val1]
  split
  · rename_i e he
    rw [he,vnz_vn,ob_some]
    split
    · rename_i b2 es2 n kids hy
      rw [hy,ob_some]
      by_cases h : e = es
      · simp only [h,true_and,if_true,apZ]
      · rw [if_neg h,if_neg (fun h' => h h'.1)]
    · rename_i hy
      cases hr : rd st (ev st y) with
      | none => rfl
      | some d =>
        rw [ob_some]
        by_cases h : e = es
        · rw [if_pos h]
          cases d with
          | nd k kids =>
            cases k with
            | sl b e2 n => exact absurd hr (hy b e2 n kids)
            | _ => rfl
          | _ => rfl
        · rw [if_neg h]
  · rename_i he
    have : vnz (ev st x) = none:=by
      unfold vnz
      split
      · rename_i e he'; exact absurd he' (he e)
      · rfl
    rw [this]; rfl
@[simp] theorem val1_bs (dst es n : Nat) (zero : List D) (parts : List (Nat × Nat × MO)) : val1 call st (.bs dst es n zero parts) = ob (cpAll st (parts.map (·.2.2))) (fun ds => ob (lay (reps n zero) ((parts.zip ds).map fun q => (q.1.1,q.1.2.1,q.2))) (fun cells => some (.own (.nd (.sl false es n) cells)))):=by
  simp only [val1]; cases cpAll st (parts.map (·.2.2)) with
  | none => rfl
  | some q => simp only [ob_some]; cases lay (reps n zero) ((parts.zip q).map fun q => (q.1.1,q.1.2.1,q.2)) <;> rfl
@[simp] theorem val1_bld (dst : Nat) (zero : List D) (parts : List (Nat × Nat × MO)) : val1 call st (.bld dst zero parts) = ob (cpAll st (parts.map (·.2.2))) (fun ds => ob (lay zero ((parts.zip ds).map fun q => (q.1.1,q.1.2.1,q.2))) (fun cells => some (.own (.nd .ag cells)))):=by
  simp only [val1]; cases cpAll st (parts.map (·.2.2)) with
  | none => rfl
  | some q => simp only [ob_some]; cases lay zero ((parts.zip q).map fun q => (q.1.1,q.1.2.1,q.2)) <;> rfl
@[simp] theorem val1_bv (dst : Nat) (zero : List D) (parts : List (Nat × Nat × MO)) : val1 call st (.bv dst zero parts) = ob (bvL st (zV zero) parts) (fun cs => some (.vn .ag cs)):=by
  simp only [val1]; cases bvL st (zV zero) parts <;> rfl
@[simp] theorem bvL_nil (cells : List V) : bvL st cells [] = some cells:=rfl
@[simp] theorem bvL_cons (cells : List V) (off sz : Nat) (x : MO) (ps : List (Nat × Nat × MO)) : bvL st cells ((off,sz,x) :: ps) = if sz = 1∧off < cells.length∧oneV st (ev st x) = true then bvL st (cells.set off (ev st x)) ps else none:=rfl
attribute [simp] zV oneV
@[simp] theorem val1_mks (dst es : Nat) (zero : List D) (l c : MO) : val1 call st (.mks dst es zero l c) = ob (asNat (ev st l)) (fun n => ob (asNat (ev st c)) (fun m => if n ≤ m∧m ≤ most then some (.own (.nd (.sl false es n) (reps n zero))) else none)):=by
  simp only [val1]; cases asNat (ev st l) with
  | none => rfl
  | some n => cases asNat (ev st c) <;> rfl
@[simp] theorem val1_sl (dst es : Nat) (x : MO) (lo hi : Option MO) : val1 call st (.sl dst es x lo hi) = ob (optNat st lo) (fun l => ob (optNat st hi) (fun h => Mx.slice st es (ev st x) l h)):=by
  simp only [val1]; cases optNat st lo with
  | none => rfl
  | some l => cases optNat st hi <;> rfl
@[simp] theorem val1_fa (dst off : Nat) (x : MO) : val1 call st (.fa dst off x) = addAt st (ev st x) off:=rfl
@[simp] theorem val1_fld (dst off : Nat) (m : Option Nat) (x : MO) : val1 call st (.fld dst off m x) = fieldV st (ev st x) off m:=rfl
@[simp] theorem val1_cvi (dst : Nat) (k : IntKind) (x : MO) : val1 call st (.cvi dst k x) = cviV k (ev st x):=by
  simp only [val1]; cases ev st x with
  | sc a => cases a <;> rfl
  | _ => rfl
@[simp] theorem val1_ix (dst es len : Nat) (x i : MO) : val1 call st (.ix dst es len x i) = ob (asNat (ev st i)) (fun n => if n < len then fieldV st (ev st x) (n * es) (if es = 1 then none else some es) else none):=by
  simp only [val1]; cases asNat (ev st i) <;> rfl
def exK (r : Nat) (p : List Nat) (i : Nat) : D→Option V
  | .v y => some (.sc y)
  | .nd _ _ => some (.ref r (p ++ [i]))
  | _ => none
@[simp] theorem exK_v (r : Nat) (p : List Nat) (i : Nat) (y : Value) : exK r p i (.v y) = some (.sc y):=rfl
@[simp] theorem exK_nd (r : Nat) (p : List Nat) (i : Nat) (k : K Bool) (ks : List D) : exK r p i (.nd k ks) = some (.ref r (p ++ [i])):=rfl
@[simp] theorem exV_ref (r : Nat) (p : List Nat) (i : Nat) : exV st (.ref r p) i = ob (placeD st r p) (fun t => ob (tuK i t) (exK r p i)):=by
  simp only [exV]
  cases placeD st r p with
  | none => rfl
  | some t =>
    cases t with
    | nd k kids =>
      cases k <;> try rfl
      simp only [ob_some,tuK]
      cases kids[i]? with
      | none => rfl
      | some t => cases t <;> rfl
    | _ => rfl
@[simp] theorem step_exb (dst : Nat) (x : MO) (i : Nat) : step call st (.exb dst x i) = ob (exV st (ev st x) i) (fun y => some (setv st dst y)):=by
  simp only [step]; cases exV st (ev st x) i <;> rfl
@[simp] theorem val1_exb (dst : Nat) (x : MO) (i : Nat) : val1 call st (.exb dst x i) = exV st (ev st x) i:=rfl
theorem isNil_eq (ptr : Bool) (v : V) : isNil st ptr v = ob (rd st v) (nilD ptr):=by
  unfold isNil
  cases rd st v with
  | none => rfl
  | some d =>
    cases d with
    | v x => cases x <;> try rfl
             rename_i o; cases o <;> rfl
    | hole _ => rfl
    | nd k kids => cases k <;> rfl
def ncK (b : Option Bool) (y : Option St) : Option St :=
  match b with
  | some false => y
  | _ => none
@[simp] theorem ncK_false (y : Option St) : ncK (some false) y = y:=rfl
@[simp] theorem step_nc (dst : Nat) (x : MO) : step call st (.nc dst x) = ncK (ob (rd st (ev st x)) (nilD true)) (some (setv st dst (ev st x))):=by
  simp only [step,isNil_eq]; cases ob (rd st (ev st x)) (nilD true) with
  | none => rfl
  | some b => cases b <;> rfl
def ncV (b : Option Bool) (y : Option V) : Option V :=
  match b with
  | some false => y
  | _ => none
@[simp] theorem ncV_false (y : Option V) : ncV (some false) y = y:=rfl
@[simp] theorem val1_nc (dst : Nat) (x : MO) : val1 call st (.nc dst x) = ncV (ob (rd st (ev st x)) (nilD true)) (some (ev st x)):=by
  simp only [val1,isNil_eq]; cases ob (rd st (ev st x)) (nilD true) with
  | none => rfl
  | some b => cases b <;> rfl
def strV (v : V) : Option ByteArray :=
  match v with
  | .sc (.string s) => some s
  | _ => none
@[simp] theorem strV_str (s : ByteArray) : strV (.sc (.string s)) = some s:=rfl
@[simp] theorem step_ssl (dst : Nat) (x : MO) (lo hi : Option MO) : step call st (.ssl dst x lo hi) = ob (strV (ev st x)) (fun s => ob (optNat st lo) (fun l => ob (optNat st hi) (fun h => ob (strSl s l h) (fun y => some (setv st dst y))))):=by
  simp only [step]; cases ev st x with
  | sc v => cases v with
    | string s =>
      simp only [strV_str,ob_some]
      cases optNat st lo with
      | none => rfl
      | some l => cases optNat st hi with
        | none => rfl
        | some h => simp only [ob_some]; cases strSl s l h <;> rfl
    | _ => rfl
  | _ => rfl
@[simp] theorem val1_ssl (dst : Nat) (x : MO) (lo hi : Option MO) : val1 call st (.ssl dst x lo hi) = ob (strV (ev st x)) (fun s => ob (optNat st lo) (fun l => ob (optNat st hi) (fun h => strSl s l h))):=by
  simp only [val1]; cases ev st x with
  | sc v => cases v with
    | string s =>
      simp only [strV_str,ob_some]
      cases optNat st lo with
      | none => rfl
      | some l => cases optNat st hi with
        | none => rfl
        | some h => rfl
    | _ => rfl
  | _ => rfl
attribute [simp] strSl
def bxO (d : D) : Option Unit :=
  match d with
  | .nd (.bx _) _ => some ()
  | _ => none
@[simp] theorem bxO_bx (b : Bool) (kids : List D) : bxO (.nd (.bx b) kids) = some ():=rfl
def ciV (dst : Option Nat) (f : FuncId) (args : List MO) (v : V) : Option St :=
  match v with
  | .sc (.pointer none) => ob (rdAll st args) (fun ds => ob (call f (.v (.pointer none) :: ds)) (fun d => some (put st dst (mkOwn d))))
  | .ref r [] => ob (roo st[r]?) (fun d0 => ob (bxO d0) (fun _ => ob (rdAll ((kill r [] st).set r .dead) args) (fun ds => ioRes ((kill r [] st).set r .dead) dst r (call (f + ioB) (d0 :: ds)))))
  | _ => none
@[simp] theorem ciV_nil (dst : Option Nat) (f : FuncId) (args : List MO) : ciV call st dst f args (.sc (.pointer none)) = ob (rdAll st args) (fun ds => ob (call f (.v (.pointer none) :: ds)) (fun d => some (put st dst (mkOwn d)))):=rfl
@[simp] theorem ciV_ref (dst : Option Nat) (f : FuncId) (args : List MO) (r : Nat) : ciV call st dst f args (.ref r []) = ob (roo st[r]?) (fun d0 => ob (bxO d0) (fun _ => ob (rdAll ((kill r [] st).set r .dead) args) (fun ds => ioRes ((kill r [] st).set r .dead) dst r (call (f + ioB) (d0 :: ds))))):=rfl
@[simp] theorem ioRes_some (dst : Option Nat) (r : Nat) (d : D) (b : Bool) (kids : List D) : ioRes st dst r (some (.nd .tu [d,.nd (.bx b) kids])) = some (put (st.set r (.own (.nd (.bx b) kids))) dst (mkOwn d)):=rfl
@[simp] theorem step_calI (dst : Option Nat) (f : FuncId) (x : MO) (args : List MO) : step call st (.calI dst f x args) = ciV call st dst f args (ev st x):=by
  simp only [step]
  cases ev st x with
  | sc v => cases v with
    | pointer o => cases o with
      | none =>
        simp only [ciV]
        cases rdAll st args with
        | none => rfl
        | some ds => simp only [ob_some]; cases call f (.v (.pointer none) :: ds) <;> rfl
      | some a => rfl
    | _ => rfl
  | ref r p => cases p with
    | nil =>
      simp only [ciV,rootD_eq]
      cases roo st[r]? with
      | none => rfl
      | some d0 => cases d0 with
        | nd k kids => cases k with
          | bx b =>
            simp only [ob_some,bxO]
            cases rdAll ((kill r [] st).set r .dead) args <;> rfl
          | _ => rfl
        | _ => rfl
    | cons i p => rfl
  | _ => rfl
attribute [simp] MOp.dst
theorem wanted_some (s : Nat) (w : Bool) : wanted st (some (s,w)) = wb st[s]? w:=by
  simp only [wanted,wb]
  cases st[s]? with
  | none => rfl
  | some v => cases v with
    | sc x => cases x <;> rfl
    | _ => rfl
@[simp] theorem stepG_none (o : MOp) : Mx.stepG call st ⟨none,o⟩ = step call st o:=rfl
theorem stepG_some (s : Nat) (w : Bool) (o : MOp) : Mx.stepG call st ⟨some (s,w),o⟩ = gb (wb st[s]? w) (step call st o) (some (put st o.dst (.sc undef))):=by
  simp only [Mx.stepG,wanted_some]
  cases wb st[s]? w with
  | none => rfl
  | some b => cases b <;> rfl
@[simp] theorem valG_none (o : MOp) : valG call st ⟨none,o⟩ = val1 call st o:=rfl
theorem valG_some (s : Nat) (w : Bool) (o : MOp) : valG call st ⟨some (s,w),o⟩ = gb (wb st[s]? w) (val1 call st o) (some (.sc undef)):=by
  simp only [valG,wanted_some]
  cases wb st[s]? w with
  | none => rfl
  | some b => cases b <;> rfl
def sG (os : List MG) (o : Option St) : Option St :=
  match o with
  | some s1 => stepsG call os s1
  | none => none
@[congr] theorem sG_congr {call : Oracle} {os : List MG} {o o' : Option St} (h : ∀ _ : Unit,o = o') : sG call os o = sG call os o':=by rw [h ()]
@[simp,simp ↓] theorem sG_some (os : List MG) (s1 : St) : sG call os (some s1) = stepsG call os s1:=rfl
@[simp,simp ↓] theorem sG_none (os : List MG) : sG call os none = none:=rfl
@[simp,simp ↓] theorem sG_ite (os : List MG) (c : Prop) [Decidable c] (a b : Option St) : sG call os (if c then a else b) = if c then sG call os a else sG call os b:=by split <;> rfl
@[simp] theorem stepsG_nil : stepsG call [] st = some st:=rfl
@[simp] theorem stepsG_n (o : MOp) (os : List MG) : stepsG call (⟨none,o⟩ :: os) st = sG call os (step call st o):=by
  rw [stepsG,stepG_none]; cases step call st o <;> rfl
theorem stepsG_g (s : Nat) (w : Bool) (o : MOp) (os : List MG) : stepsG call (⟨some (s,w),o⟩ :: os) st = sG call os (gb (wb st[s]? w) (step call st o) (some (put st o.dst (.sc undef)))):=by
  rw [stepsG,stepG_some]; cases gb (wb st[s]? w) (step call st o) (some (put st o.dst (.sc undef))) <;> rfl
@[simp] theorem stepsG_tt (s : Nat) (o : MOp) (os : List MG) (h : st[s]? = some (.sc (.bool true))) : stepsG call (⟨some (s,true),o⟩ :: os) st = sG call os (step call st o):=by
  rw [stepsG_g,h]; rfl
@[simp] theorem stepsG_ff (s : Nat) (o : MOp) (os : List MG) (h : st[s]? = some (.sc (.bool false))) : stepsG call (⟨some (s,false),o⟩ :: os) st = sG call os (step call st o):=by
  rw [stepsG_g,h]; rfl
@[simp] theorem stepsG_tf (s : Nat) (o : MOp) (os : List MG) (h : st[s]? = some (.sc (.bool true))) : stepsG call (⟨some (s,false),o⟩ :: os) st = stepsG call os (put st o.dst (.sc undef)):=by
  rw [stepsG_g,h]; rfl
@[simp] theorem stepsG_ft (s : Nat) (o : MOp) (os : List MG) (h : st[s]? = some (.sc (.bool false))) : stepsG call (⟨some (s,true),o⟩ :: os) st = stepsG call os (put st o.dst (.sc undef)):=by
  rw [stepsG_g,h]; rfl
@[simp] theorem stepsG_u (s : Nat) (w : Bool) (o : MOp) (os : List MG) (h : st[s]? = some (.sc undef)) : stepsG call (⟨some (s,w),o⟩ :: os) st = stepsG call os (put st o.dst (.sc undef)):=by
  rw [stepsG_g,h]; rfl
def gsel (l : List MG) (s : Nat) (v : Option V) : Option St :=
  match v with
  | some (.sc (.bool b)) => if b = true then stepsG call l (st.set s (.sc (.bool true))) else stepsG call l (st.set s (.sc (.bool false)))
  | _ => none
@[congr] theorem gsel_congr {call : Oracle} {st : St} {l : List MG} {s : Nat} {v v' : Option V} (h : ∀ _ : Unit,v = v') : gsel call st l s v = gsel call st l s v':=by rw [h ()]
@[simp,simp ↓] theorem gsel_bool (l : List MG) (s : Nat) (b : Bool) : gsel call st l s (some (.sc (.bool b))) = if b = true then stepsG call l (st.set s (.sc (.bool true))) else stepsG call l (st.set s (.sc (.bool false))):=rfl
theorem set_same (st : St) (s : Nat) (v : V) (h : st[s]? = some v) : st.set s v = st:=by
  apply List.ext_getElem?
  intro j
  by_cases hj : j = s
  · subst hj; rw [List.getElem?_set_self (List.getElem?_eq_some_iff.1 h).1,h]
  · rw [List.getElem?_set_ne (Ne.symm hj)]
@[simp low] theorem stepsG_op (s : Nat) (w : Bool) (o : MOp) (os : List MG) (h : ∃ b,st[s]? = some (.sc (.bool b))) : stepsG call (⟨some (s,w),o⟩ :: os) st = gsel call st (⟨some (s,w),o⟩ :: os) s st[s]?:=by
  obtain ⟨b,hb⟩:=h
  rw [hb]
  cases b
  · rw [gsel_bool,if_neg (by simp),set_same st s _ hb]
  · rw [gsel_bool,if_pos rfl,set_same st s _ hb]
def fre (o : Option V) : Bool :=
  match o with
  | some x => !isOwn x
  | none => true
@[simp] theorem fre_own (d : D) : fre (some (.own d)) = false:=rfl
@[simp] theorem fre_sc (x : Value) : fre (some (.sc x)) = true:=rfl
@[simp] theorem fre_ro (x : D) : fre (some (.ro x)) = true:=rfl
@[simp] theorem fre_ref (r : Nat) (p : List Nat) : fre (some (.ref r p)) = true:=rfl
@[simp] theorem fre_sub (r : Nat) (p : List Nat) (a b c : Nat) : fre (some (.sub r p a b c)) = true:=rfl
@[simp] theorem fre_ad (r : Nat) (p : List Nat) (c : Nat) : fre (some (.ad r p c)) = true:=rfl
@[simp] theorem fre_rad (k : List D) (c : Nat) : fre (some (.rad k c)) = true:=rfl
@[simp] theorem fre_vn (k : K Bool) (c : List V) : fre (some (.vn k c)) = true:=rfl
@[simp] theorem fre_dead : fre (some .dead) = true:=rfl
def sF (os : List MG) (d : Option Nat) (y : Option V) : Option St :=
  match d,y with
  | some d,some y => if fre st[d]? = true then stepsF call os (st.set d y) else none
  | _,_ => none
@[congr] theorem sF_congr {call : Oracle} {st : St} {os : List MG} {d d' : Option Nat} {y y' : Option V} (h : ∀ _ : Unit,d = d') (h2 : ∀ _ : Unit,y = y') : sF call st os d y = sF call st os d' y':=by rw [h (),h2 ()]
@[simp,simp ↓] theorem sF_some (os : List MG) (d : Nat) (y : V) : sF call st os (some d) (some y) = if fre st[d]? = true then stepsF call os (st.set d y) else none:=rfl
@[simp,simp ↓] theorem sF_none (os : List MG) (d : Nat) : sF call st os (some d) none = none:=rfl
@[simp,simp ↓] theorem sF_ite (os : List MG) (d : Nat) (c : Prop) [Decidable c] (a b : Option V) : sF call st os (some d) (if c then a else b) = if c then sF call st os (some d) a else sF call st os (some d) b:=by split <;> rfl
@[simp] theorem stepsF_nil : stepsF call [] st = some st:=rfl
theorem stepsF_c (o : MG) (os : List MG) : stepsF call (o :: os) st = sF call st os o.op.dst (valG call st o):=by
  rw [stepsF]; cases o.op.dst with
  | none => rfl
  | some d =>
    show (if fre st[d]? = true then (match valG call st o with
      | some y => stepsF call os (st.set d y)
      | none => none) else none) = _
    cases valG call st o with
    | none => simp only [sF]; split <;> rfl
    | some y => rfl
@[simp] theorem stepsF_n (o : MOp) (os : List MG) : stepsF call (⟨none,o⟩ :: os) st = sF call st os o.dst (val1 call st o):=by
  rw [stepsF_c,valG_none]
theorem stepsF_g (s : Nat) (w : Bool) (o : MOp) (os : List MG) : stepsF call (⟨some (s,w),o⟩ :: os) st = sF call st os o.dst (gb (wb st[s]? w) (val1 call st o) (some (.sc undef))):=by
  rw [stepsF_c,valG_some]
@[simp] theorem stepsF_tt (s : Nat) (o : MOp) (os : List MG) (h : st[s]? = some (.sc (.bool true))) : stepsF call (⟨some (s,true),o⟩ :: os) st = sF call st os o.dst (val1 call st o):=by
  rw [stepsF_g,h]; rfl
@[simp] theorem stepsF_ff (s : Nat) (o : MOp) (os : List MG) (h : st[s]? = some (.sc (.bool false))) : stepsF call (⟨some (s,false),o⟩ :: os) st = sF call st os o.dst (val1 call st o):=by
  rw [stepsF_g,h]; rfl
@[simp] theorem stepsF_tf (s : Nat) (o : MOp) (os : List MG) (h : st[s]? = some (.sc (.bool true))) : stepsF call (⟨some (s,false),o⟩ :: os) st = sF call st os o.dst (some (.sc undef)):=by
  rw [stepsF_g,h]; rfl
@[simp] theorem stepsF_ft (s : Nat) (o : MOp) (os : List MG) (h : st[s]? = some (.sc (.bool false))) : stepsF call (⟨some (s,true),o⟩ :: os) st = sF call st os o.dst (some (.sc undef)):=by
  rw [stepsF_g,h]; rfl
@[simp] theorem stepsF_u (s : Nat) (w : Bool) (o : MOp) (os : List MG) (h : st[s]? = some (.sc undef)) : stepsF call (⟨some (s,w),o⟩ :: os) st = sF call st os o.dst (some (.sc undef)):=by
  rw [stepsF_g,h]; rfl
def fsel (l : List MG) (s : Nat) (v : Option V) : Option St :=
  match v with
  | some (.sc (.bool b)) => if b = true then stepsF call l (st.set s (.sc (.bool true))) else stepsF call l (st.set s (.sc (.bool false)))
  | _ => none
@[congr] theorem fsel_congr {call : Oracle} {st : St} {l : List MG} {s : Nat} {v v' : Option V} (h : ∀ _ : Unit,v = v') : fsel call st l s v = fsel call st l s v':=by rw [h ()]
@[simp,simp ↓] theorem fsel_bool (l : List MG) (s : Nat) (b : Bool) : fsel call st l s (some (.sc (.bool b))) = if b = true then stepsF call l (st.set s (.sc (.bool true))) else stepsF call l (st.set s (.sc (.bool false))):=rfl
@[simp low] theorem stepsF_op (s : Nat) (w : Bool) (o : MOp) (os : List MG) (h : ∃ b,st[s]? = some (.sc (.bool b))) : stepsF call (⟨some (s,w),o⟩ :: os) st = fsel call st (⟨some (s,w),o⟩ :: os) s st[s]?:=by
  obtain ⟨b,hb⟩:=h
  rw [hb]
  cases b
  · rw [fsel_bool,if_neg (by simp),set_same st s _ hb]
  · rw [fsel_bool,if_pos rfl,set_same st s _ hb]
variable (fuel : Nat)
@[simp] theorem run_skip : run call fuel .skip st = some (.norm,st):=rfl
def oN (o : Option St) : R :=
  match o with
  | some s1 => some (.norm,s1)
  | none => none
@[simp,simp ↓] theorem oN_some (s1 : St) : oN (some s1) = some (.norm,s1):=rfl
@[simp,simp ↓] theorem oN_none : oN none = none:=rfl
@[simp,simp ↓] theorem oN_ite (c : Prop) [Decidable c] (a b : Option St) : oN (if c then a else b) = if c then oN a else oN b:=by split <;> rfl
@[simp] theorem run_ops (l : List MG) : run call fuel (.ops l) st = oN (stepsG call l st):=by
  simp only [run]; cases stepsG call l st <;> rfl
@[simp] theorem run_drw (f t : List MG) : run call fuel (.drw f t) st = oN (sG call t (stepsF call f st)):=by
  simp only [run]; cases stepsF call f st with
  | none => rfl
  | some s1 => simp only [sG]; cases stepsG call t s1 <;> rfl
def rootOK (c c' : St) (o : Option V) : Prop:=∀ x,o = some x→∀ r ∈ rootsV x,c'[r]? = c[r]?
def rdsOK (c c' : St) (l : List Nat) : Prop:=∀ i ∈ l,c'[i]? = c[i]?∧rootOK c c' c[i]?
@[simp] theorem rootOK_sc (c c' : St) (x : Value) : rootOK c c' (some (.sc x)) = True:=by simp [rootOK,rootsV]
@[simp] theorem rootOK_own (c c' : St) (x : D) : rootOK c c' (some (.own x)) = True:=by simp [rootOK,rootsV]
@[simp] theorem rootOK_ro (c c' : St) (x : D) : rootOK c c' (some (.ro x)) = True:=by simp [rootOK,rootsV]
@[simp] theorem rootOK_rad (c c' : St) (x : List D) (n : Nat) : rootOK c c' (some (.rad x n)) = True:=by simp [rootOK,rootsV]
@[simp] theorem rootOK_dead (c c' : St) : rootOK c c' (some .dead) = True:=by simp [rootOK,rootsV]
@[simp] theorem rootOK_none (c c' : St) : rootOK c c' none = True:=by simp [rootOK]
@[simp] theorem rootOK_ref (c c' : St) (r : Nat) (p : List Nat) : rootOK c c' (some (.ref r p)) = (c'[r]? = c[r]?):=by simp [rootOK,rootsV]
@[simp] theorem rootOK_sub (c c' : St) (r : Nat) (p : List Nat) (a b n : Nat) : rootOK c c' (some (.sub r p a b n)) = (c'[r]? = c[r]?):=by simp [rootOK,rootsV]
@[simp] theorem rootOK_ad (c c' : St) (r : Nat) (p : List Nat) (n : Nat) : rootOK c c' (some (.ad r p n)) = (c'[r]? = c[r]?):=by simp [rootOK,rootsV]
@[simp] theorem rootOK_vn (c c' : St) (k : K Bool) (vs : List V) : rootOK c c' (some (.vn k vs)) = ∀ r ∈ rootsL vs,c'[r]? = c[r]?:=by simp [rootOK,rootsV]
attribute [simp] rootsV rootsL
@[simp] theorem rdsOK_nil (c c' : St) : rdsOK c c' [] = True:=by simp [rdsOK]
@[simp] theorem rdsOK_cons (c c' : St) (i : Nat) (l : List Nat) : rdsOK c c' (i :: l) = ((c'[i]? = c[i]?∧rootOK c c' c[i]?)∧rdsOK c c' l):=by simp [rdsOK]
@[simp] theorem lateOK_nil (c c' : St) : lateOK c c' [] = True:=by simp [lateOK]
@[simp] theorem lateOK_cons (c c' : St) (d : Nat) (rs : List Nat) (l : List (Nat × List Nat)) : lateOK c c' ((d,rs) :: l) = ((c'[d]? = c[d]?∧rdsOK c c' rs)∧lateOK c c' l):=by
  simp [lateOK,rdsOK,rootOK]
open Classical in
noncomputable def lX (call : Oracle) (st : St) (l : List (Nat × List Nat)) (os : List (MG × List (Nat × List Nat))) (o : Option St) : Option St :=
  match o with
  | some st1 => if lateOK st st1 l then stepsX call os st1 else none
  | none => none
@[congr] theorem lX_congr {call : Oracle} {st : St} {l : List (Nat × List Nat)} {os : List (MG × List (Nat × List Nat))} {o o' : Option St} (h : ∀ _ : Unit,o = o') : lX call st l os o = lX call st l os o':=by rw [h ()]
open Classical in
@[simp] theorem lX_some (l : List (Nat × List Nat)) (os : List (MG × List (Nat × List Nat))) (st1 : St) : lX call st l os (some st1) = if lateOK st st1 l then stepsX call os st1 else none:=rfl
@[simp] theorem lX_none (l : List (Nat × List Nat)) (os : List (MG × List (Nat × List Nat))) : lX call st l os none = none:=rfl
@[simp] theorem stepsX_nil : stepsX call [] st = some st:=rfl
@[simp] theorem stepsX_n (o : MOp) (l : List (Nat × List Nat)) (os : List (MG × List (Nat × List Nat))) : stepsX call ((⟨none,o⟩,l) :: os) st = lX call st l os (step call st o):=by
  simp only [stepsX,stepG_none]; cases step call st o <;> rfl
noncomputable def sX (os : List (MG × List (Nat × List Nat))) (o : Option St) : Option St :=
  match o with
  | some s1 => stepsX call os s1
  | none => none
@[congr] theorem sX_congr {call : Oracle} {os : List (MG × List (Nat × List Nat))} {o o' : Option St} (h : ∀ _ : Unit,o = o') : sX call os o = sX call os o':=by rw [h ()]
@[simp,simp ↓] theorem sX_some (os : List (MG × List (Nat × List Nat))) (s1 : St) : sX call os (some s1) = stepsX call os s1:=rfl
@[simp,simp ↓] theorem sX_none (os : List (MG × List (Nat × List Nat))) : sX call os none = none:=rfl
@[simp] theorem run_drx (f : List MG) (g : List (MG × List (Nat × List Nat))) (t : List MG) : run call fuel (.drx f g t) st = oN (sG call t (sX call g (stepsF call f st))):=by
  simp only [run]; cases stepsF call f st with
  | none => rfl
  | some s1 =>
    simp only [sX]; cases stepsX call g s1 with
    | none => rfl
    | some s2 => simp only [sG]; cases stepsG call t s2 <;> rfl
@[simp] theorem run_seq (a b : MC) : run call fuel (.seq a b) st = rq call fuel b (run call fuel a st):=by
  simp only [run]; cases run call fuel a st with
  | none => rfl
  | some q => obtain ⟨e,s1⟩:=q; cases e <;> rfl
@[simp] theorem run_cnd (c : MO) (a b : MC) : run call fuel (.cnd c a b) st = cb (ev st c) (run call fuel a st) (run call fuel b st):=by
  simp only [run]; cases ev st c with
  | sc x => cases x <;> rfl
  | _ => rfl
@[simp] theorem run_blk (id : Nat) (c : MC) : run call fuel (.blk id c) st = bk id (run call fuel c st):=by
  simp only [run]; cases run call fuel c st with
  | none => rfl
  | some q => obtain ⟨e,s1⟩:=q; cases e <;> rfl
@[simp] theorem run_lop (c : MC) : run call fuel (.lop c) st = run.loopN (run call fuel c) fuel st:=rfl
@[simp] theorem run_ex (id : Nat) : run call fuel (.ex id) st = some (.ex id,st):=rfl
@[simp] theorem run_ret : run call fuel .ret st = some (.ret,st):=rfl
@[simp] theorem run_scr_eq (m : List Bool) : run call fuel (.scr m) st = some (.norm,drops st m):=rfl
def drk (o : Bool) (st : St) (m : List Bool) : St :=
  if o then
    match (ownOuts 0 m st).foldl drop1 st with
    | st' => if ownDrop m st' then st' else msk m st'
  else msk m st
@[congr] theorem drk_congr {o o' : Bool} {st st' : St} {m : List Bool} (h : o = o') (h2 : st = st') : drk o st m = drk o' st' m:=by rw [h,h2]
@[simp] theorem drk_false (m : List Bool) : drk false st m = msk m st:=rfl
def drj (o : Bool) (st : St) (m : List Bool) : St:=if o then st else msk m st
@[congr] theorem drj_congr {o o' : Bool} {st st' : St} {m : List Bool} (h : o = o') (h2 : st = st') : drj o st m = drj o' st' m:=by rw [h,h2]
@[simp] theorem drj_false (m : List Bool) : drj false st m = msk m st:=rfl
def dri (st : St) (m : List Bool) : St:=drj (ownDrop m st) st m
@[congr] theorem dri_congr {st st' : St} {m : List Bool} (h2 : st = st') : dri st m = dri st' m:=by rw [h2]
@[simp] theorem dri_cons (x : V) (s : St) (m : List Bool) : dri (x :: s) m = drj (ownDrop m (x :: s)) (x :: s) m:=rfl
@[simp] theorem drk_true (m : List Bool) : drk true st m = dri ((ownOuts 0 m st).foldl drop1 st) m:=rfl
def drop1w (o : Option V) (st : St) (i : Nat) : St :=
  match o with
  | some (.own _) => (kill i [] st).set i .dead
  | _ => st.set i .dead
@[congr] theorem drop1w_congr {o o' : Option V} {st st' : St} {i : Nat} (h : o = o') (h2 : st = st') : drop1w o st i = drop1w o' st' i:=by rw [h,h2]
@[simp] theorem drop1_eq (i : Nat) : drop1 st i = drop1w st[i]? st i:=rfl
@[simp] theorem drop1w_own (d : D) (i : Nat) : drop1w (some (.own d)) st i = (kill i [] st).set i .dead:=rfl
attribute [simp] ownDrop ownOuts msk
def fk (o : R) (k : St→Option D) : Option D :=
  match o with
  | some (.norm,st) => k st
  | some (.ret,st) => k st
  | _ => none
@[congr] theorem fk_congr {o o' : R} {k : St→Option D} (h : ∀ _ : Unit,o = o') : fk o k = fk o' k:=by rw [h ()]
@[simp,simp ↓] theorem fk_norm (k : St→Option D) : fk (some (.norm,st)) k = k st:=rfl
@[simp,simp ↓] theorem fk_ret (k : St→Option D) : fk (some (.ret,st)) k = k st:=rfl
@[simp,simp ↓] theorem fk_none (k : St→Option D) : fk none k = none:=rfl
@[simp,simp ↓] theorem fk_ite (c : Prop) [Decidable c] (a b : R) (k : St→Option D) : fk (if c then a else b) k = if c then fk a k else fk b k:=by split <;> rfl
theorem callF_eq (mf : MF) (ds : List D) : callF call fuel mf ds = fk (run call fuel mf.code (enterF mf ds)) (fun st => resF st mf.res):=by
  unfold callF fk
  split <;> simp_all
attribute [simp] resCell resMark
def tuD (q : List D × St) : Option D :=
  match q with
  | ([d],_) => some d
  | (ds,_) => some (.nd .tu ds)
@[simp] theorem tuD_one (d : D) : tuD ([d],st) = some d:=rfl
@[simp] theorem tuD_nil : tuD ([],st) = some (.nd .tu []):=rfl
@[simp] theorem tuD_two (d e : D) (ds : List D) : tuD (d :: e :: ds,st) = some (.nd .tu (d :: e :: ds)):=rfl
def rsK (c : Option (Nat × Nat)) (st : St) (rs : List Nat) : Option D :=
  match c with
  | some (a,m) => ob (loadN st (ev st (.t a)) m) (fun y => ob (take st y) (fun q => some q.1))
  | none => ob (takeAll st (rs.map .t)) tuD
@[congr] theorem rsK_congr {c c' : Option (Nat × Nat)} {st : St} {rs : List Nat} (h : ∀ _ : Unit,c = c') : rsK c st rs = rsK c' st rs:=by rw [h ()]
@[simp,simp ↓] theorem rsK_none (rs : List Nat) : rsK none st rs = ob (takeAll st (rs.map .t)) tuD:=rfl
@[simp,simp ↓] theorem rsK_some (a m : Nat) (rs : List Nat) : rsK (some (a,m)) st rs = ob (loadN st (ev st (.t a)) m) (fun y => ob (take st y) (fun q => some q.1)):=rfl
@[simp] theorem resF_eq (rs : List Nat) : resF st rs = rsK (resCell rs) st rs:=by
  unfold resF
  cases resCell rs with
  | none =>
    simp only [rsK]
    cases takeAll st (rs.map .t) with
    | none => rfl
    | some q =>
      obtain ⟨ds,s2⟩:=q
      cases ds with
      | nil => rfl
      | cons d ds => cases ds <;> rfl
  | some q =>
    obtain ⟨a,m⟩:=q
    simp only [rsK]
    cases loadN st (ev st (.t a)) m with
    | none => rfl
    | some y =>
      simp only [ob_some]
      cases take st y <;> rfl
def nxt (h : List Bool) (r : R) : R :=
  match r with
  | some (.norm,st) => some (.norm,drops st h)
  | r => r
@[simp,simp ↓] theorem nxt_norm (h : List Bool) (st : St) : nxt h (some (.norm,st)) = some (.norm,drops st h):=rfl
@[simp,simp ↓] theorem nxt_ex (h : List Bool) (i : Nat) (st : St) : nxt h (some (.ex i,st)) = some (.ex i,st):=rfl
@[simp,simp ↓] theorem nxt_ret (h : List Bool) (st : St) : nxt h (some (.ret,st)) = some (.ret,st):=rfl
@[simp,simp ↓] theorem nxt_none (h : List Bool) : nxt h none = none:=rfl
@[simp,simp ↓] theorem nxt_ite (h : List Bool) (c : Prop) [Decidable c] (a b : R) : nxt h (if c then a else b) = if c then nxt h a else nxt h b:=by split <;> rfl
end
theorem loop_iter {α : Type} (call : Oracle) (fuel : Nat) (h : List Bool) (c : MC) (Inv : α→Prop) (I : α→St) (μ : α→Nat) (step : α→α ⊕ (Ex × St)) (res : α→Ex × St)
    (hs : ∀ a,Inv a→nxt h (run call fuel c (I a)) = (step a).elim (fun a' => some (.norm,I a')) some)
    (hl : ∀ a a',Inv a→step a = .inl a'→Inv a'∧μ a' < μ a∧res a' = res a)
    (hr : ∀ a r,Inv a→step a = .inr r→r = res a∧r.1 ≠ .norm) :
    ∀ (fu : Nat) (a : α) (st : St),Inv a→drops st h = I a→μ a < fu→run.loopN (run call fuel (.seq (.scr h) c)) fu st = some (res a):=by
  intro fu
  refine loop_by call fuel h c Inv I μ res ?_ fu
  intro a hi
  have h1:=hs a hi
  cases hst : step a with
  | inl a' =>
    left
    obtain ⟨h2,h3,h4⟩:=hl a a' hi hst
    rw [hst] at h1
    refine ⟨a',h2,h3,h4,?_⟩
    cases hq : run call fuel c (I a) with
    | none => rw [hq] at h1; simp at h1
    | some q =>
      obtain ⟨e,s1⟩:=q
      rw [hq] at h1
      cases e with
      | norm => exact ⟨s1,rfl,by simpa using h1⟩
      | ex i => simp at h1
      | ret => simp at h1
  | inr r =>
    right
    obtain ⟨h2,h3⟩:=hr a r hi hst
    rw [hst] at h1
    subst h2
    refine ⟨h3,?_⟩
    cases hq : run call fuel c (I a) with
    | none => rw [hq] at h1; simp at h1
    | some q =>
      obtain ⟨e,s1⟩:=q
      rw [hq] at h1
      cases e with
      | norm => exact absurd (by simpa using (congrArg (fun o => o.map (·.1)) h1).symm) h3
      | ex i => simpa using h1
      | ret => simpa using h1
theorem loop_cnt (call : Oracle) (fuel : Nat) (h : List Bool) (c : MC) (n : Nat) (I : Nat→St) (res : Ex × St) (hne : res.1 ≠ .norm)
    (hs : ∀ i,i < n→nxt h (run call fuel c (I i)) = some (.norm,I (i + 1)))
    (he : nxt h (run call fuel c (I n)) = some res) :
    ∀ (fu : Nat) (st : St),drops st h = I 0→n < fu→run.loopN (run call fuel (.seq (.scr h) c)) fu st = some res:=by
  intro fu st hd hf
  refine loop_iter call fuel h c (fun i => i ≤ n) I (fun i => n - i) (fun i => if i < n then .inl (i + 1) else .inr res) (fun _ => res) ?_ ?_ ?_ fu 0 st (Nat.zero_le _) hd (by simpa using hf)
  · intro i hi
    by_cases hlt : i < n
    · simp only [if_pos hlt,Sum.elim_inl]; exact hs i hlt
    · have hi' : i ≤ n:=hi
      have : i = n:=by omega
      subst this
      simp only [if_neg hlt,Sum.elim_inr]; exact he
  · intro i j hi hj
    split at hj
    · rename_i hlt
      cases hj
      exact ⟨hlt,by show n - (i + 1) < n - i; omega,rfl⟩
    · cases hj
  · intro i r hi hj
    split at hj
    · cases hj
    · cases hj; exact ⟨rfl,hne⟩
theorem loop_find (call : Oracle) (fuel : Nat) (h : List Bool) (c : MC) (n : Nat) (stop : Nat→Bool) (I : Nat→St) (out : Nat→Ex × St) (res : Ex × St) (hne : res.1 ≠ .norm) (hno : ∀ i,(out i).1 ≠ .norm)
    (hs : ∀ i,i < n→(∀ j,j < i→stop j = false)→nxt h (run call fuel c (I i)) = if stop i = true then some (out i) else some (.norm,I (i + 1)))
    (he : (∀ j,j < n→stop j = false)→nxt h (run call fuel c (I n)) = some res) :
    ∀ (fu : Nat) (st : St),drops st h = I 0→n < fu→run.loopN (run call fuel (.seq (.scr h) c)) fu st = some (((List.range n).find? stop).elim res out):=by
  intro fu st hd hf
  have key : ∀ (r : R) (e : Ex) (s : St),nxt h r = some (e,s)→e ≠ .norm→r = some (e,s):=by
    intro r e s hr he
    cases r with
    | none => simp at hr
    | some q =>
      obtain ⟨e',s'⟩:=q
      cases e' with
      | norm => simp at hr; exact absurd hr.1.symm he
      | ex i => simpa using hr
      | ret => simpa using hr
  refine loop_until call fuel h c n stop I out res hne hno ?_ ?_ ?_ fu st hd hf
  · intro i hi hj hst
    have:=hs i hi hj
    rw [hst,if_neg (by simp)] at this
    cases hq : run call fuel c (I i) with
    | none => rw [hq] at this; simp at this
    | some q =>
      obtain ⟨e,s1⟩:=q
      rw [hq] at this
      cases e with
      | norm => exact ⟨s1,rfl,by simpa using this⟩
      | ex i => simp at this
      | ret => simp at this
  · intro i hi hj hst
    have:=hs i hi hj
    rw [hst,if_pos rfl] at this
    exact key _ _ _ this (hno i)
  · intro hj
    exact key _ _ _ (he hj) hne
end Go.Mx
namespace Go.Mx
set_option linter.unusedVariables false
set_option linter.unusedSimpArgs false
set_option linter.unusedSectionVars false
open Go
def nth {α : Type} (l : List α) (d : α) (i : Nat) : α:=l.getD i d
structure En (α : Type) where
  es : Nat
  enc : α→List D
  d : α
  pos : 0 < es
  len : ∀ a,(enc a).length = es
  flat : ∀ a,(enc a).all flatOk = true
def gk {α : Type} (e : En α) (l : List α) : List D:=l.flatMap e.enc
def gsl {α : Type} (e : En α) (b : Bool) (l : List α) : D:=.nd (.sl b e.es l.length) (gk e l)
def gbx {α : Type} (e : En α) (l : List α) : D:=.nd (.bx false) (gk e l)
section
variable {α : Type} (e : En α)
theorem gk_len (l : List α) : (gk e l).length = l.length * e.es:=by
  induction l with
  | nil => simp [gk]
  | cons a l ih => simp only [gk,List.flatMap_cons,List.length_append] at *; rw [ih,e.len,List.length_cons]; rw [Nat.succ_mul]; omega
theorem gk_flat (l : List α) : (gk e l).all flatOk = true:=by
  induction l with
  | nil => rfl
  | cons a l ih => simp only [gk,List.flatMap_cons,List.all_append] at *; rw [ih,e.flat]; rfl
theorem gk_app (l m : List α) : gk e (l ++ m) = gk e l ++ gk e m:=by simp [gk]
theorem gk_cell (l : List α) (i off : Nat) (ho : off < e.es) : (gk e l)[i * e.es + off]? = if i < l.length then (e.enc (l.getD i e.d))[off]? else none:=by
  induction l generalizing i with
  | nil => simp [gk]
  | cons a l ih =>
    show (e.enc a ++ gk e l)[i * e.es + off]? = _
    cases i with
    | zero =>
      rw [List.getElem?_append_left (by rw [e.len]; omega)]
      simp
    | succ i =>
      rw [List.getElem?_append_right (by rw [e.len,Nat.succ_mul]; omega),e.len,show (i + 1) * e.es + off - e.es = i * e.es + off by rw [Nat.succ_mul]; omega,ih]
      simp
theorem gk_part (l : List α) (i : Nat) (hi : i < l.length) : ((gk e l).drop (i * e.es)).take e.es = e.enc (l.getD i e.d):=by
  apply List.ext_getElem?
  intro j
  rw [List.getElem?_take,List.getElem?_drop]
  split
  · rename_i hj
    rw [gk_cell e l i j hj,if_pos hi]
  · rename_i hj
    rw [List.getElem?_eq_none (by rw [e.len]; omega)]
theorem gk_drop (l : List α) (n : Nat) : (gk e l).drop (n * e.es) = gk e (l.drop n):=by
  induction l generalizing n with
  | nil => simp [gk]
  | cons a l ih =>
    cases n with
    | zero => simp
    | succ n =>
      show (e.enc a ++ gk e l).drop ((n + 1) * e.es) = _
      rw [List.drop_append,List.drop_eq_nil_of_le (by rw [e.len,Nat.succ_mul]; omega),e.len,show (n + 1) * e.es - e.es = n * e.es by rw [Nat.succ_mul]; omega,ih]
      simp
theorem gk_take (l : List α) (n : Nat) : (gk e l).take (n * e.es) = gk e (l.take n):=by
  induction l generalizing n with
  | nil => simp [gk]
  | cons a l ih =>
    cases n with
    | zero => simp [gk]
    | succ n =>
      show (e.enc a ++ gk e l).take ((n + 1) * e.es) = _
      rw [List.take_append,List.take_of_length_le (by rw [e.len,Nat.succ_mul]; omega),e.len,show (n + 1) * e.es - e.es = n * e.es by rw [Nat.succ_mul]; omega,ih]
      rfl
theorem gk_set (l : List α) (i off : Nat) (ho : off < e.es) (x : D) (y : α) (hy : i < l.length→(e.enc (l.getD i e.d)).set off x = e.enc y) : (gk e l).set (i * e.es + off) x = gk e (l.set i y):=by
  induction l generalizing i with
  | nil => simp [gk]
  | cons a l ih =>
    show (e.enc a ++ gk e l).set (i * e.es + off) x = _
    cases i with
    | zero =>
      rw [List.set_append,if_pos (by rw [e.len]; omega)]
      simp only [List.set_cons_zero,Nat.zero_mul,Nat.zero_add]
      show _ = e.enc y ++ gk e l
      rw [← hy (by simp)]
      simp
    | succ i =>
      rw [List.set_append,if_neg (by rw [e.len,Nat.succ_mul]; omega),e.len,show (i + 1) * e.es + off - e.es = i * e.es + off by rw [Nat.succ_mul]; omega,ih i (fun h => by simpa using hy (by simpa using h))]
      rfl
@[simp] theorem mkRo_g (b : Bool) (l : List α) : mkRo (gsl e b l) = .ro (gsl e b l):=rfl
@[simp] theorem mkOwn_g (b : Bool) (l : List α) : mkOwn (gsl e b l) = .own (gsl e b l):=rfl
@[simp] theorem takeP_g (st : St) (r : Nat) (d0 : D) (p : List Nat) (b : Bool) (l : List α) : takeP st r d0 p (gsl e b l) = some (gsl e b l,leave st r d0 p):=rfl
@[simp] theorem takeP_gb (st : St) (r : Nat) (d0 : D) (p : List Nat) (l : List α) : takeP st r d0 p (gbx e l) = some (gbx e l,leave st r d0 p):=rfl
@[simp] theorem lenD_g (b : Bool) (l : List α) : lenD (gsl e b l) = some l.length:=rfl
@[simp] theorem nilD_g (b : Bool) (l : List α) : nilD false (gsl e b l) = some b:=rfl
@[simp] theorem isSc_g (b : Bool) (l : List α) : isSc (gsl e b l) = false:=rfl
@[simp] theorem flat_g (b : Bool) (l : List α) : flatOk (gsl e b l) = true:=rfl
@[simp] theorem cells_g (b : Bool) (l : List α) : cellsOfD (gsl e b l) = [gsl e b l]:=rfl
@[simp] theorem vP_g (r : Nat) (p : List Nat) (c : Nat) (b : Bool) (l : List α) : vP r p c (gsl e b l) = some (.ref r (p ++ [c])):=rfl
@[simp] theorem vR_g (b : Bool) (l : List α) : vR (gsl e b l) = some (.ro (gsl e b l)):=rfl
@[simp] theorem exK_g (r : Nat) (p : List Nat) (i : Nat) (b : Bool) (l : List α) : exK r p i (gsl e b l) = some (.ref r (p ++ [i])):=rfl
@[simp] theorem partK_g (st : St) (r : Nat) (d0 : D) (p : List Nat) (i : Nat) (b : Bool) (l : List α) : partK st r d0 p i (gsl e b l) = some (.own (gsl e b l),leave st r d0 (p ++ [i])):=rfl
@[simp] theorem killC_g (r : Nat) (p : List Nat) (c : Nat) (st : St) (b : Bool) (l : List α) : killC r p c st (gsl e b l) = kill r (p ++ [c]) st:=rfl
@[simp] theorem tgtK_g (r : Nat) (p : List Nat) (c : Nat) (b : Bool) (l : List α) : tgtK r p c (gsl e b l) = some (r,p,c):=rfl
@[simp] theorem tgtK_gb (r : Nat) (p : List Nat) (c : Nat) (l : List α) : tgtK r p c (gbx e l) = some (r,p,c):=rfl
@[simp] theorem tgtB_gb (r : Nat) (p : List Nat) (l : List α) : tgtB r p (gbx e l) = some (r,p,0):=rfl
@[simp] theorem celB_gb (l : List α) : celB (gbx e l) = (gk e l)[0]?:=rfl
@[simp] theorem adB_gb (r : Nat) (p : List Nat) (off : Nat) (l : List α) : adB r p off (gbx e l) = some (.ad r p off):=rfl
@[simp] theorem celD_g (c : Nat) (b : Bool) (l : List α) : celD c (gsl e b l) = (gk e l)[c]?:=rfl
@[simp] theorem celD_gb (c : Nat) (l : List α) : celD c (gbx e l) = (gk e l)[c]?:=rfl
@[simp] theorem celA_g (c : Nat) (b : Bool) (l : List α) : celA c (gsl e b l) = (gk e l)[c]?:=rfl
@[simp] theorem celA_gb (c : Nat) (l : List α) : celA c (gbx e l) = (gk e l)[c]?:=rfl
@[simp] theorem assign_gnil (st : St) (dst : Nat) : assign st dst (.ro (gsl e true [])) = some (setv st dst (.own (gsl e true []))):=rfl
@[simp] theorem getAt_g (b : Bool) (l : List α) (i : Nat) (p : List Nat) : getAt (gsl e b l) (i :: p) = ob (gk e l)[i]? (fun t => getAt t p):=getAt_cons _ _ _ _
@[simp] theorem agD_g (r : Nat) (p : List Nat) (c m : Nat) (b : Bool) (l : List α) : agD r p c m (gsl e b l) = aggV r p (gk e l) c m:=rfl
theorem elP_ge (r : Nat) (p : List Nat) (i : Nat) (b : Bool) (l : List α) : elP r p e.es i (gsl e b l) = if i < l.length then some (.ad r p (i * e.es)) else none:=by
  simp [elP,gsl,gk_len]
theorem elR_ge (i : Nat) (b : Bool) (l : List α) : elR e.es i (gsl e b l) = if i < l.length then some (.rad (gk e l) (i * e.es)) else none:=by
  simp [elR,gsl,gk_len]
theorem elS_ge (r : Nat) (p : List Nat) (lo n i : Nat) (b : Bool) (l : List α) : elS r p (lo * e.es) e.es n e.es i (gsl e b l) = if i < n∧lo + n ≤ l.length then some (.ad r p ((lo + i) * e.es)) else none:=by
  have : lo * e.es + n * e.es ≤ l.length * e.es ↔ lo + n ≤ l.length:=by rw [← Nat.add_mul]; exact Nat.mul_le_mul_right_iff e.pos
  simp [elS,gsl,gk_len,this,Nat.add_mul]
theorem subD_ge (lo n : Nat) (l : List α) : subD (lo * e.es) e.es n (gsl e false l) = if lo + n ≤ l.length then some (gsl e false ((l.drop lo).take n)) else none:=by
  have h : lo * e.es + n * e.es ≤ l.length * e.es ↔ lo + n ≤ l.length:=by rw [← Nat.add_mul]; exact Nat.mul_le_mul_right_iff e.pos
  simp only [subD,gsl,gk_len,h,e.pos,true_and,gk_drop,gk_take]
  split
  · rename_i hle
    have : ((l.drop lo).take n).length = n:=by simp; omega
    rw [this]
  · rfl
theorem slR_ge (lo hi : Option Nat) (b : Bool) (l : List α) : slR e.es lo hi (gsl e b l) = if lo.getD 0 ≤ hi.getD l.length∧hi.getD l.length ≤ l.length then some (.ro (gsl e b ((l.drop (lo.getD 0)).take (hi.getD l.length - lo.getD 0)))) else none:=by
  simp only [slR,gsl,gk_len,true_or,and_true,true_and,gk_drop,gk_take]
  split
  · rename_i hle
    have : ((l.drop (lo.getD 0)).take (hi.getD l.length - lo.getD 0)).length = hi.getD l.length - lo.getD 0:=by simp; omega
    rw [this]
  · rfl
theorem slP_ge (r : Nat) (p : List Nat) (lo hi : Option Nat) (b : Bool) (l : List α) : slP r p e.es lo hi (gsl e b l) = if lo.getD 0 ≤ hi.getD l.length∧hi.getD l.length ≤ l.length then some (if b then .ro (.nd (.sl true e.es 0) []) else .sub r p (lo.getD 0 * e.es) e.es (hi.getD l.length - lo.getD 0)) else none:=by
  simp [slP,gsl,gk_len]
theorem slS_ge (r : Nat) (p : List Nat) (lo0 n : Nat) (lo hi : Option Nat) (l : List α) : slS r p (lo0 * e.es) e.es n e.es lo hi (gsl e false l) = if lo.getD 0 ≤ hi.getD n∧hi.getD n ≤ n∧lo0 + n ≤ l.length then some (.sub r p ((lo0 + lo.getD 0) * e.es) e.es (hi.getD n - lo.getD 0)) else none:=by
  have h : lo0 * e.es + n * e.es ≤ l.length * e.es ↔ lo0 + n ≤ l.length:=by rw [← Nat.add_mul]; exact Nat.mul_le_mul_right_iff e.pos
  simp [slS,gsl,gk_len,h,Nat.add_mul]
theorem apS_ge (st : St) (v : V) (b : Bool) (l : List α) (hsc : (gk e l).all isSc = true) : apS st e.es v (gsl e b l) = some (l.length,gk e l,st):=by
  simp [apS,gsl,gk_len,gk_flat,hsc]
theorem apD_ge (b : Bool) (l m : List α) : apD e.es m.length (gk e m) (gsl e b l) = if l.length + m.length ≤ most then some (gsl e (b && m.length == 0) (l ++ m)) else none:=by
  simp [apD,gsl,gk_len,gk_app]
theorem apZ_ge (b : Bool) (l : List α) (hsc : (gk e l).all isSc = true) : apZ e.es (gsl e b l) = if l.length ≤ most then some (.own (gsl e false l)) else none:=by
  show (if (e.es = e.es ∨ l.length = 0)∧(gk e l).length = l.length * e.es∧(gk e l).all flatOk = true∧(gk e l).all isSc = true∧l.length ≤ most then _ else _) = _
  by_cases h : l.length ≤ most
  · rw [if_pos h,if_pos ⟨.inl rfl,gk_len e l,gk_flat e l,hsc,h⟩]; rfl
  · rw [if_neg h,if_neg fun h' => h h'.2.2.2.2]
theorem apD_nil (es m : Nat) (ks : List D) : apD es m ks (.nd (.sl true es 0) []) = if m ≤ most then some (.nd (.sl (m == 0) es m) ks) else none:=by
  simp [apD]
theorem agg_ge (r : Nat) (p : List Nat) (i : Nat) (l : List α) (hsc : (e.enc (l.getD i e.d)).all isSc = true) : aggV r p (gk e l) (i * e.es) e.es = if i < l.length then some (.ro (.nd .ag (e.enc (l.getD i e.d)))) else none:=by
  have h : i * e.es + e.es ≤ l.length * e.es ↔ i < l.length:=by
    rw [← Nat.succ_mul]; exact Nat.mul_le_mul_right_iff e.pos
  rw [aggV_eq,gk_len]
  simp only [h]
  split
  · rename_i hi
    rw [gk_part e l i hi,hsc]
    simp
  · rfl
theorem aggR_ge (i : Nat) (l : List α) : aggR (gk e l) (i * e.es) e.es = if i < l.length then some (.ro (.nd .ag (e.enc (l.getD i e.d)))) else none:=by
  have h : i * e.es + e.es ≤ l.length * e.es ↔ i < l.length:=by
    rw [← Nat.succ_mul]; exact Nat.mul_le_mul_right_iff e.pos
  unfold aggR
  rw [gk_len]
  simp only [h]
  split
  · rename_i hi
    rw [gk_part e l i hi]
  · rfl
theorem setAt_ge (b : Bool) (l : List α) (i off : Nat) (ho : off < e.es) (x : D) (y : α) (hy : i < l.length→(e.enc (l.getD i e.d)).set off x = e.enc y) : setAt (gsl e b l) [i * e.es + off] x = gsl e b (l.set i y):=by
  rw [gsl,setAt_cons,setAt_nil' |> fun _ => gk_cell e l i off ho]
  by_cases hi : i < l.length
  · rw [if_pos hi]
    obtain ⟨t,ht⟩ : ∃ t,(e.enc (l.getD i e.d))[off]? = some t:=⟨_,List.getElem?_eq_getElem (by rw [e.len]; exact ho)⟩
    rw [ht,setC_some,setAt_nil',gk_set e l i off ho x y hy]
    simp [gsl]
  · rw [if_neg hi]
    simp only [setC,gsl]
    rw [List.set_eq_of_length_le (by omega)]
end
def eI (k : IntKind) : En Int where
  es:=1
  enc n:=[.v (.int k n)]
  d:=0
  pos:=by decide
  len _:=rfl
  flat _:=rfl
def eB : En Bool where
  es:=1
  enc n:=[.v (.bool n)]
  d:=false
  pos:=by decide
  len _:=rfl
  flat _:=rfl
def eS : En ByteArray where
  es:=1
  enc n:=[.v (.string n)]
  d:=.empty
  pos:=by decide
  len _:=rfl
  flat _:=rfl
def eL {α : Type} (e : En α) : En (Bool × List α) where
  es:=1
  enc p:=[gsl e p.1 p.2]
  d:=(true,[])
  pos:=by decide
  len _:=rfl
  flat _:=rfl
abbrev ii (n : Int) : V:=.sc (.int .i64 n)
abbrev uu (n : Int) : V:=.sc (.int .u32 n)
abbrev bb (t : Bool) : V:=.sc (.bool t)
abbrev si (b : Bool) (l : List Int) : D:=gsl (eI .i64) b l
theorem sc_I (k : IntKind) (l : List Int) : (gk (eI k) l).all isSc = true:=by
  induction l with
  | nil => rfl
  | cons a l ih => exact ih
theorem sc_B (l : List Bool) : (gk eB l).all isSc = true:=by
  induction l with
  | nil => rfl
  | cons a l ih => exact ih
section one
variable {α : Type} (e : En α) (h1 : e.es = 1)
include h1
theorem one_cell (l : List α) (i : Nat) : (gk e l)[i]? = if i < l.length then (e.enc (l.getD i e.d))[0]? else none:=by
  have:=gk_cell e l i 0 (by omega)
  rw [h1] at this
  simpa using this
theorem one_elP (r : Nat) (p : List Nat) (i : Nat) (b : Bool) (l : List α) : elP r p 1 i (gsl e b l) = if i < l.length then some (.ad r p i) else none:=by
  have:=elP_ge e r p i b l
  rw [h1] at this; simpa using this
theorem one_elR (i : Nat) (b : Bool) (l : List α) : elR 1 i (gsl e b l) = if i < l.length then some (.rad (gk e l) i) else none:=by
  have:=elR_ge e i b l
  rw [h1] at this; simpa using this
theorem one_elS (r : Nat) (p : List Nat) (lo n i : Nat) (b : Bool) (l : List α) : elS r p lo 1 n 1 i (gsl e b l) = if i < n∧lo + n ≤ l.length then some (.ad r p (lo + i)) else none:=by
  have:=elS_ge e r p lo n i b l
  rw [h1] at this; simpa using this
theorem one_subD (lo n : Nat) (l : List α) : subD lo 1 n (gsl e false l) = if lo + n ≤ l.length then some (gsl e false ((l.drop lo).take n)) else none:=by
  have:=subD_ge e lo n l
  rw [h1] at this; simpa using this
theorem one_slR (lo hi : Option Nat) (b : Bool) (l : List α) : slR 1 lo hi (gsl e b l) = if lo.getD 0 ≤ hi.getD l.length∧hi.getD l.length ≤ l.length then some (.ro (gsl e b ((l.drop (lo.getD 0)).take (hi.getD l.length - lo.getD 0)))) else none:=by
  have:=slR_ge e lo hi b l
  rw [h1] at this; exact this
theorem one_slP (r : Nat) (p : List Nat) (lo hi : Option Nat) (b : Bool) (l : List α) : slP r p 1 lo hi (gsl e b l) = if lo.getD 0 ≤ hi.getD l.length∧hi.getD l.length ≤ l.length then some (if b then .ro (.nd (.sl true 1 0) []) else .sub r p (lo.getD 0) 1 (hi.getD l.length - lo.getD 0)) else none:=by
  have:=slP_ge e r p lo hi b l
  rw [h1] at this; simpa using this
theorem one_slS (r : Nat) (p : List Nat) (lo0 n : Nat) (lo hi : Option Nat) (l : List α) : slS r p lo0 1 n 1 lo hi (gsl e false l) = if lo.getD 0 ≤ hi.getD n∧hi.getD n ≤ n∧lo0 + n ≤ l.length then some (.sub r p (lo0 + lo.getD 0) 1 (hi.getD n - lo.getD 0)) else none:=by
  have:=slS_ge e r p lo0 n lo hi l
  rw [h1] at this; simpa using this
theorem one_apD (b : Bool) (l m : List α) (n : Nat) (hn : n = m.length) (ks : List D) (hk : ks = gk e m) : apD 1 n ks (gsl e b l) = if l.length + n ≤ most then some (gsl e (b && n == 0) (l ++ m)) else none:=by
  have:=apD_ge e b l m
  rw [h1] at this; subst hn hk; exact this
theorem one_setAt (b : Bool) (l : List α) (i : Nat) (x : D) (y : α) (hy : e.enc y = [x]) : setAt (gsl e b l) [i] x = gsl e b (l.set i y):=by
  have:=setAt_ge e b l i 0 (by omega) x y (fun _ => by
    have:=e.len (l.getD i e.d)
    rw [h1] at this
    obtain ⟨c,hc⟩:=List.length_eq_one_iff.1 this
    rw [hc,hy]; rfl)
  rw [h1] at this
  simpa using this
end one
section
variable (k : IntKind)
@[simp high] theorem I_cell (l : List Int) (i : Nat) : (gk (eI k) l)[i]? = if i < l.length then some (.v (.int k (nth l 0 i))) else none:=one_cell (eI k) rfl l i
@[simp] theorem I_elP (r : Nat) (p : List Nat) (i : Nat) (b : Bool) (l : List Int) : elP r p 1 i (gsl (eI k) b l) = if i < l.length then some (.ad r p i) else none:=one_elP (eI k) rfl r p i b l
@[simp] theorem I_elR (i : Nat) (b : Bool) (l : List Int) : elR 1 i (gsl (eI k) b l) = if i < l.length then some (.rad (gk (eI k) l) i) else none:=one_elR (eI k) rfl i b l
@[simp] theorem I_elS (r : Nat) (p : List Nat) (lo n i : Nat) (b : Bool) (l : List Int) : elS r p lo 1 n 1 i (gsl (eI k) b l) = if i < n∧lo + n ≤ l.length then some (.ad r p (lo + i)) else none:=one_elS (eI k) rfl r p lo n i b l
@[simp] theorem I_subD (lo n : Nat) (l : List Int) : subD lo 1 n (gsl (eI k) false l) = if lo + n ≤ l.length then some (gsl (eI k) false ((l.drop lo).take n)) else none:=one_subD (eI k) rfl lo n l
@[simp] theorem I_slR (lo hi : Option Nat) (b : Bool) (l : List Int) : slR 1 lo hi (gsl (eI k) b l) = if lo.getD 0 ≤ hi.getD l.length∧hi.getD l.length ≤ l.length then some (.ro (gsl (eI k) b ((l.drop (lo.getD 0)).take (hi.getD l.length - lo.getD 0)))) else none:=one_slR (eI k) rfl lo hi b l
@[simp] theorem I_slP (r : Nat) (p : List Nat) (lo hi : Option Nat) (b : Bool) (l : List Int) : slP r p 1 lo hi (gsl (eI k) b l) = if lo.getD 0 ≤ hi.getD l.length∧hi.getD l.length ≤ l.length then some (if b then .ro (.nd (.sl true 1 0) []) else .sub r p (lo.getD 0) 1 (hi.getD l.length - lo.getD 0)) else none:=one_slP (eI k) rfl r p lo hi b l
@[simp] theorem I_slS (r : Nat) (p : List Nat) (lo0 n : Nat) (lo hi : Option Nat) (l : List Int) : slS r p lo0 1 n 1 lo hi (gsl (eI k) false l) = if lo.getD 0 ≤ hi.getD n∧hi.getD n ≤ n∧lo0 + n ≤ l.length then some (.sub r p (lo0 + lo.getD 0) 1 (hi.getD n - lo.getD 0)) else none:=one_slS (eI k) rfl r p lo0 n lo hi l
@[simp] theorem I_apS (st : St) (v : V) (b : Bool) (l : List Int) : apS st 1 v (gsl (eI k) b l) = some (l.length,gk (eI k) l,st):=apS_ge (eI k) st v b l (sc_I k l)
@[simp] theorem I_apZ (b : Bool) (l : List Int) : apZ 1 (gsl (eI k) b l) = if l.length ≤ most then some (.own (gsl (eI k) false l)) else none:=apZ_ge (eI k) b l (sc_I k l)
@[simp] theorem I_apD1 (b : Bool) (l : List Int) (x : Int) : apD 1 1 [.v (.int k x)] (gsl (eI k) b l) = if l.length + 1 ≤ most then some (gsl (eI k) false (l ++ [x])) else none:=by
  have:=one_apD (eI k) rfl b l [x] 1 rfl [.v (.int k x)] rfl
  simpa using this
@[simp] theorem I_apD (b : Bool) (l m : List Int) : apD 1 m.length (gk (eI k) m) (gsl (eI k) b l) = if l.length + m.length ≤ most then some (gsl (eI k) (b && m.length == 0) (l ++ m)) else none:=one_apD (eI k) rfl b l m _ rfl _ rfl
@[simp] theorem I_setAt (b : Bool) (l : List Int) (i : Nat) (x : Int) : setAt (gsl (eI k) b l) [i] (.v (.int k x)) = gsl (eI k) b (l.set i x):=one_setAt (eI k) rfl b l i _ x rfl
@[simp] theorem I_reps (n : Nat) : T.nd (K.sl false 1 n) (reps n [.v (.int k 0)]) = gsl (eI k) false (List.replicate n 0):=by
  have e : reps n [(T.v (.int k 0) : D)] = gk (eI k) (List.replicate n 0):=by
    unfold reps gk
    rw [List.flatMap,List.map_replicate]; rfl
  rw [e,gsl]; simp [eI]
end
@[simp high] theorem B_cell (l : List Bool) (i : Nat) : (gk eB l)[i]? = if i < l.length then some (.v (.bool (nth l false i))) else none:=one_cell eB rfl l i
@[simp] theorem B_elP (r : Nat) (p : List Nat) (i : Nat) (b : Bool) (l : List Bool) : elP r p 1 i (gsl eB b l) = if i < l.length then some (.ad r p i) else none:=one_elP eB rfl r p i b l
@[simp] theorem B_elR (i : Nat) (b : Bool) (l : List Bool) : elR 1 i (gsl eB b l) = if i < l.length then some (.rad (gk eB l) i) else none:=one_elR eB rfl i b l
@[simp] theorem B_setAt (b : Bool) (l : List Bool) (i : Nat) (x : Bool) : setAt (gsl eB b l) [i] (.v (.bool x)) = gsl eB b (l.set i x):=one_setAt eB rfl b l i _ x rfl
@[simp] theorem B_reps (n : Nat) : T.nd (K.sl false 1 n) (reps n [.v (.bool false)]) = gsl eB false (List.replicate n false):=by
  have e : reps n [(T.v (.bool false) : D)] = gk eB (List.replicate n false):=by
    unfold reps gk
    rw [List.flatMap,List.map_replicate]; rfl
  rw [e,gsl]; simp [eB]
@[simp] theorem B_setAt_bx (l : List Bool) (i : Nat) (x : Bool) : setAt (gbx eB l) [i] (.v (.bool x)) = gbx eB (l.set i x):=by
  have:=one_setAt eB rfl false l i _ x rfl
  unfold gsl at this
  unfold gbx
  rw [setAt_cons] at this ⊢
  simp only [T.nd.injEq] at this
  rw [this.2]
section
variable {α : Type} (e : En α)
@[simp high] theorem L_cell (l : List (Bool × List α)) (i : Nat) : (gk (eL e) l)[i]? = if i < l.length then some (gsl e (nth l (true,[]) i).1 (nth l (true,[]) i).2) else none:=one_cell (eL e) rfl l i
@[simp] theorem L_elP (r : Nat) (p : List Nat) (i : Nat) (b : Bool) (l : List (Bool × List α)) : elP r p 1 i (gsl (eL e) b l) = if i < l.length then some (.ad r p i) else none:=one_elP (eL e) rfl r p i b l
@[simp] theorem L_elR (i : Nat) (b : Bool) (l : List (Bool × List α)) : elR 1 i (gsl (eL e) b l) = if i < l.length then some (.rad (gk (eL e) l) i) else none:=one_elR (eL e) rfl i b l
@[simp] theorem L_setAt1 (b : Bool) (l : List (Bool × List α)) (i : Nat) (b' : Bool) (x : List α) : setAt (gsl (eL e) b l) [i] (gsl e b' x) = gsl (eL e) b (l.set i (b',x)):=one_setAt (eL e) rfl b l i _ (b',x) rfl
theorem L_setAt (b : Bool) (l : List (Bool × List α)) (i j : Nat) (p : List Nat) (x : D) (b' : Bool) (y : List α) (h : i < l.length→setAt (gsl e (nth l (true,[]) i).1 (nth l (true,[]) i).2) (j :: p) x = gsl e b' y) : setAt (gsl (eL e) b l) (i :: j :: p) x = gsl (eL e) b (l.set i (b',y)):=by
  rw [gsl,setAt_cons,L_cell]
  by_cases hi : i < l.length
  · rw [if_pos hi,setC_some,h hi]
    have:=gk_set (eL e) l i 0 Nat.one_pos (gsl e b' y) (b',y) (fun _ => rfl)
    rw [show i * (eL e).es + 0 = i by simp [eL]] at this
    rw [this]; simp [gsl]
  · rw [if_neg hi]
    simp only [setC,gsl]
    rw [List.set_eq_of_length_le (by omega)]
@[simp] theorem L_apD1 (b b' : Bool) (l : List (Bool × List α)) (x : List α) : apD 1 1 [gsl e b' x] (gsl (eL e) b l) = if l.length + 1 ≤ most then some (gsl (eL e) false (l ++ [(b',x)])) else none:=by
  have:=one_apD (eL e) rfl b l [(b',x)] 1 rfl [gsl e b' x] rfl
  simpa using this
end
@[simp] theorem L_setAtI (k : IntKind) (b : Bool) (l : List (Bool × List Int)) (i j : Nat) (x : Int) : setAt (gsl (eL (eI k)) b l) [i,j] (.v (.int k x)) = gsl (eL (eI k)) b (l.set i ((nth l (true,[]) i).1,(nth l (true,[]) i).2.set j x)) :=
  L_setAt (eI k) b l i j [] _ _ _ fun _ => I_setAt k _ _ _ _
@[simp] theorem L_setAtB (b : Bool) (l : List (Bool × List Bool)) (i j : Nat) (x : Bool) : setAt (gsl (eL eB) b l) [i,j] (.v (.bool x)) = gsl (eL eB) b (l.set i ((nth l (true,[]) i).1,(nth l (true,[]) i).2.set j x)) :=
  L_setAt eB b l i j [] _ _ _ fun _ => B_setAt _ _ _ _
@[simp] theorem apS_sc (st : St) (es n : Nat) (v : V) (b : Bool) (kids : List D) : apS st es v (.nd (.sl b es n) kids) = if kids.length = n * es then
      if kids.all flatOk = true then
        if kids.all isSc = true then some (n,kids,st)
        else ob (Mx.take st v) (fun q => match q with
          | (.nd (.sl _ _ n') kids',st1) => if n' = n∧kids'.length = n * es∧kids'.all flatOk then some (n,kids',st1) else none
          | _ => none)
      else none
    else none:=by
  simp only [apS,true_or,true_and]
  split
  · split
    · split
      · rfl
      · cases Mx.take st v with
        | none => rfl
        | some q =>
          obtain ⟨d,s1⟩:=q
          cases d with
          | nd k kids => cases k <;> rfl
          | _ => rfl
    · rfl
  · rfl
@[simp] theorem apD_nil' (es m : Nat) (ks : List D) : apD es m ks (.nd (.sl true es 0) []) = if m ≤ most then some (.nd (.sl (m == 0) es m) ks) else none:=apD_nil es m ks
@[simp] theorem lay_nil (cells : List D) : lay cells [] = some cells:=by rw [lay]
@[simp] theorem lay_cons (cells : List D) (off sz : Nat) (d : D) (rest : List (Nat × Nat × D)) : lay cells ((off,sz,d) :: rest) = if (cellsOfD d).length = sz∧(cellsOfD d).all flatOk = true then ob (layAt cells off (cellsOfD d)) (fun c => lay c rest) else none:=by
  rw [lay]
  split
  · cases layAt cells off (cellsOfD d) <;> rfl
  · rfl
attribute [simp] layAt
@[simp] theorem reps_1 (l : List D) : reps 1 l = l:=by simp [reps]
@[simp] theorem reps_2 (l : List D) : reps 2 l = l ++ l:=by simp [reps,List.replicate]
@[simp] theorem reps_3 (l : List D) : reps 3 l = l ++ (l ++ l):=by simp [reps,List.replicate]
@[simp] theorem reps_4 (l : List D) : reps 4 l = l ++ (l ++ (l ++ l)):=by simp [reps,List.replicate]
@[simp] theorem reps_5 (l : List D) : reps 5 l = l ++ (l ++ (l ++ (l ++ l))):=by simp [reps,List.replicate]
@[simp] theorem reps_6 (l : List D) : reps 6 l = l ++ (l ++ (l ++ (l ++ (l ++ l)))):=by simp [reps,List.replicate]
@[simp] theorem reps_0 (l : List D) : reps 0 l = []:=by simp [reps]
theorem apD_empty (es m : Nat) (ks : List D) : apD es m ks (.nd (.sl false es 0) []) = if m ≤ most then some (.nd (.sl false es m) ks) else none:=by
  simp [apD]
@[simp] theorem apD_empty' (es m : Nat) (ks : List D) : apD es m ks (.nd (.sl false es 0) []) = if m ≤ most then some (.nd (.sl false es m) ks) else none:=apD_empty es m ks
@[simp] theorem I_fold (k : IntKind) (b : Bool) (l : List Int) : T.nd (K.sl b 1 l.length) (gk (eI k) l) = gsl (eI k) b l:=rfl
@[simp] theorem B_fold (b : Bool) (l : List Bool) : T.nd (K.sl b 1 l.length) (gk eB l) = gsl eB b l:=rfl
@[simp] theorem L_fold {α : Type} (e : En α) (b : Bool) (l : List (Bool × List α)) : T.nd (K.sl b 1 l.length) (gk (eL e) l) = gsl (eL e) b l:=rfl
end Go.Mx
namespace Go.Mx
set_option linter.unusedVariables false
set_option linter.unusedSimpArgs false
set_option linter.unusedSectionVars false
open Go
@[simp] theorem fu_apply (f : Nat→V) (i : Nat) (v : V) (j : Nat) : fu f i v j = if j = i then v else f j:=rfl
@[simp] theorem dd_apply (j : Nat) : dd j = .dead:=rfl
@[simp] theorem un_apply (j : Nat) : un' j = .sc undef:=rfl
@[simp] theorem kl_apply (r : Nat) (p : List Nat) (f : Nat→V) (j : Nat) : kl r p f j = V.kill r p (f j):=rfl
@[simp] theorem kl_dd (r : Nat) (p : List Nat) : kl r p dd = dd:=rfl
@[simp] theorem kl_un (r : Nat) (p : List Nat) : kl r p un' = un':=rfl
section
variable (n K : Nat) (g f : Nat→V)
@[simp high] theorem tab_get (j : Nat) : (tab n K g f)[j]? = if j < n then some (if j < K then g j else f j) else none:=by
  unfold tab
  rw [List.getElem?_map]
  by_cases h : j < n
  · rw [List.getElem?_range h,if_pos h]; rfl
  · rw [List.getElem?_eq_none (by simpa using h),if_neg h]; rfl
@[simp] theorem tab_len : (tab n K g f).length = n:=by simp [tab]
@[simp] theorem tab_set (i : Nat) (v : V) : (tab n K g f).set i v = if i < K then tab n K (fu g i v) f else tab n K g (fu f i v):=by
  apply List.ext_getElem?
  intro j
  by_cases hj : j < n
  · by_cases hi : j = i
    · subst hi
      rw [List.getElem?_set_self (by simpa using hj)]
      split <;> rename_i hk <;> rw [tab_get] <;> simp [hj,hk]
    · rw [List.getElem?_set_ne (Ne.symm hi)]
      split <;> rw [tab_get,tab_get] <;> simp [hj,hi]
  · rw [List.getElem?_eq_none (by simpa using hj),List.getElem?_eq_none (by split <;> simpa using hj)]
@[simp] theorem tab_kill (r : Nat) (p : List Nat) : kill r p (tab n K g f) = tab n K (kl r p g) (kl r p f):=by
  unfold kill tab
  rw [List.map_map]
  apply List.map_congr_left
  intro i _
  simp only [Function.comp,kl]
  split <;> rfl
theorem ownDrop_iff : ∀ (m : List Bool) (st : St),ownDrop m st = true ↔ ∃ (i : Nat) (d : D),m[i]? = some false∧st[i]? = some (V.own d)
  | [],st => by simp [ownDrop]
  | _ :: _,[] => by simp [ownDrop]
  | b :: m,x :: s => by
    simp only [ownDrop,Bool.or_eq_true,Bool.and_eq_true,Bool.not_eq_true',ownDrop_iff m s]
    constructor
    · rintro (⟨h1,h2⟩ | ⟨i,d,h1,h2⟩)
      · subst h1
        cases x <;> simp [isOwn] at h2
        rename_i d
        exact ⟨0,d,rfl,rfl⟩
      · exact ⟨i + 1,d,h1,h2⟩
    · rintro ⟨i,d,h1,h2⟩
      cases i with
      | zero =>
        simp only [List.getElem?_cons_zero,Option.some.injEq] at h1 h2
        subst h1 h2
        exact .inl ⟨rfl,rfl⟩
      | succ i => exact .inr ⟨i,d,h1,h2⟩
theorem ownOuts_iff : ∀ (k : Nat) (m : List Bool) (st : St) (i : Nat),i ∈ ownOuts k m st ↔ ∃ (j : Nat) (d : D),i = k + j∧m[j]? = some false∧st[j]? = some (V.own d)
  | k,[],st,i => by simp [ownOuts]
  | k,_ :: _,[],i => by simp [ownOuts]
  | k,b :: m,x :: s,i => by
    have ih:=ownOuts_iff (k + 1) m s i
    have key : (∃ (j : Nat) (d : D),i = k + j∧(b :: m)[j]? = some false∧(x :: s)[j]? = some (V.own d)) ↔ ((i = k∧b = false∧∃ d : D,x = V.own d) ∨ i ∈ ownOuts (k + 1) m s):=by
      rw [ih]
      constructor
      · rintro ⟨j,d,h1,h2,h3⟩
        cases j with
        | zero => simp at h2 h3; exact .inl ⟨by omega,h2,d,h3⟩
        | succ j => exact .inr ⟨j,d,by omega,by simpa using h2,by simpa using h3⟩
      · rintro (⟨h1,h2,d,h3⟩ | ⟨j,d,h1,h2,h3⟩)
        · exact ⟨0,d,by omega,by simp [h2],by simp [h3]⟩
        · exact ⟨j + 1,d,by omega,by simpa using h2,by simpa using h3⟩
    rw [key]
    simp only [ownOuts]
    split
    · rename_i hc
      simp only [Bool.and_eq_true,Bool.not_eq_true'] at hc
      obtain ⟨hb,hx⟩:=hc
      cases x <;> simp [isOwn] at hx
      rename_i d
      simp [hb]
    · rename_i hc
      constructor
      · exact .inr
      · rintro (⟨_,hb,d,hx⟩ | h)
        · subst hb hx; simp [isOwn] at hc
        · exact h
theorem msk_getD : ∀ (m : List Bool) (st : St) (i : Nat),(msk m st)[i]? = (st[i]?).map fun x => if m[i]? = some false then .dead else x
  | [],st,i => by
    have : msk [] st = st:=by cases st <;> rfl
    rw [this]
    cases st[i]? <;> simp
  | _ :: _,[],i => by simp [msk]
  | b :: m,x :: s,0 => by cases b <;> simp [msk]
  | b :: m,x :: s,i + 1 => by simp [msk,msk_getD m s i]
theorem drop1_get (st : St) (i j : Nat) : (drop1 st i)[j]? = (st[j]?).map fun x => if j = i then .dead else if (match st[i]? with | some (.own _) => true | _ => false) then x.kill i [] else x:=by
  unfold drop1
  split
  · rename_i d hd
    rw [hd]
    by_cases hj : j = i
    · subst hj
      rw [List.getElem?_set_self (by rw [kill,List.length_map]; exact (List.getElem?_eq_some_iff.1 hd).1),hd]
      simp
    · rw [List.getElem?_set_ne (Ne.symm hj),kill,List.getElem?_map]
      simp [hj]
  · rename_i hno
    have e : (match st[i]? with | some (.own _) => true | _ => false) = false:=by
      split
      · rename_i d hd; exact absurd hd (hno d)
      · rfl
    by_cases hj : j = i
    · subst hj
      rcases Nat.lt_or_ge j st.length with h | h
      · rw [List.getElem?_set_self h,List.getElem?_eq_getElem h]; simp
      · rw [List.getElem?_eq_none (by simpa using h),List.getElem?_eq_none h]; rfl
    · rw [List.getElem?_set_ne (Ne.symm hj)]
      cases st[j]? <;> simp [hj]
theorem dead_fold (l : List Nat) : l.foldl (fun (x : V) i => x.kill i []) .dead = .dead:=by
  induction l with
  | nil => rfl
  | cons k l ih => exact ih
theorem drops_fold : ∀ (l : List Nat) (st : St),l.Nodup→(∀ i ∈ l,∃ d : D,st[i]? = some (V.own d))→∀ j,(l.foldl drop1 st)[j]? = (st[j]?).map fun x => if j ∈ l then .dead else l.foldl (fun x i => x.kill i []) x
  | [],st,_,_,j => by rw [List.foldl_nil]; generalize st[j]? = o; cases o <;> simp
  | i :: l,st,hn,ho,j => by
    obtain ⟨hi,hn⟩:=List.nodup_cons.1 hn
    obtain ⟨d,hd⟩:=ho i (List.mem_cons_self ..)
    have hg:=drop1_get st i
    rw [hd] at hg
    simp only [if_true] at hg
    have:=drops_fold l (drop1 st i) hn (fun k hk => by
      obtain ⟨d',hd'⟩:=ho k (List.mem_cons_of_mem _ hk)
      refine ⟨d',?_⟩
      rw [hg k,hd']
      have hki : k ≠ i:=fun e => hi (e ▸ hk)
      simp [hki]) j
    rw [List.foldl_cons,this,hg j]
    cases hx : st[j]? with
    | none => rfl
    | some x =>
      simp only [Option.map_some,Option.some.injEq,List.mem_cons,List.foldl_cons]
      by_cases hji : j = i
      · subst hji
        rw [if_neg hi,if_pos rfl,if_pos (.inl rfl)]
        exact dead_fold l
      · simp [hji]
def roots : V→List Nat
  | .ref r _ => [r]
  | .sub r _ _ _ _ => [r]
  | .ad r _ _ => [r]
  | .vn _ vs => rootsL vs
  | _ => []
where rootsL : List V→List Nat
  | [] => []
  | x :: xs => roots x ++ rootsL xs
mutual
theorem under_roots (r : Nat) : ∀ x : V,V.under r [] x = (roots x).contains r
  | .ref s q => by
    simp only [V.under,roots,pre,Bool.and_true,List.contains_cons,List.contains_nil,Bool.or_false]
    exact Bool.beq_comm
  | .sub s q _ _ _ => by
    simp only [V.under,roots,pre,Bool.and_true,List.contains_cons,List.contains_nil,Bool.or_false]
    exact Bool.beq_comm
  | .ad s q _ => by
    simp only [V.under,roots,pre,Bool.and_true,List.contains_cons,List.contains_nil,Bool.or_false]
    exact Bool.beq_comm
  | .vn k vs => by simp only [V.under,roots]; exact underL_roots r vs
  | .sc _ => rfl
  | .own _ => rfl
  | .ro _ => rfl
  | .rad _ _ => rfl
  | .dead => rfl
theorem underL_roots (r : Nat) : ∀ xs : List V,V.underL r [] xs = (roots.rootsL xs).contains r
  | [] => rfl
  | x :: xs => by
    simp only [V.underL,roots.rootsL,under_roots r x,underL_roots r xs]
    simp
end
theorem kills (l : List Nat) (x : V) : l.foldl (fun x i => x.kill i []) x = if l.any (fun i => (roots x).contains i) then .dead else x:=by
  induction l generalizing x with
  | nil => simp
  | cons i l ih =>
    rw [List.foldl_cons,ih,List.any_cons]
    unfold V.kill
    rw [under_roots]
    by_cases h : (roots x).contains i = true
    · rw [if_pos h,h]
      simp
    · rw [if_neg h]
      have h' : (roots x).contains i = false:=by simpa using h
      rw [h',Bool.false_or]
def kvv (n : Nat) (ls : List Nat) (f : Nat→V) (x : V) : V:=if (roots x).any (fun r => decide (r < n) && !ls.contains r && isOwn (f r)) then .dead else x
@[simp] theorem kvv_sc (ls : List Nat) (x : Value) : kvv n ls f (.sc x) = .sc x:=rfl
@[simp] theorem kvv_own (ls : List Nat) (x : D) : kvv n ls f (.own x) = .own x:=rfl
@[simp] theorem kvv_ro (ls : List Nat) (x : D) : kvv n ls f (.ro x) = .ro x:=rfl
@[simp] theorem kvv_rad (ls : List Nat) (x : List D) (c : Nat) : kvv n ls f (.rad x c) = .rad x c:=rfl
@[simp] theorem kvv_dead (ls : List Nat) : kvv n ls f .dead = .dead:=rfl
@[simp] theorem kvv_ref (ls : List Nat) (r : Nat) (p : List Nat) : kvv n ls f (.ref r p) = if (decide (r < n) && !ls.contains r && isOwn (f r)) = true then .dead else .ref r p:=by simp [kvv,roots]
@[simp] theorem kvv_sub (ls : List Nat) (r : Nat) (p : List Nat) (a b c : Nat) : kvv n ls f (.sub r p a b c) = if (decide (r < n) && !ls.contains r && isOwn (f r)) = true then .dead else .sub r p a b c:=by simp [kvv,roots]
@[simp] theorem kvv_ad (ls : List Nat) (r : Nat) (p : List Nat) (c : Nat) : kvv n ls f (.ad r p c) = if (decide (r < n) && !ls.contains r && isOwn (f r)) = true then .dead else .ad r p c:=by simp [kvv,roots]
@[simp] theorem kvv_vn (ls : List Nat) (k : Mx.K Bool) (vs : List V) : kvv n ls f (.vn k vs) = if ((roots.rootsL vs).any (fun r => decide (r < n) && !ls.contains r && isOwn (f r))) = true then .dead else .vn k vs:=by simp [kvv,roots]
attribute [simp] roots.rootsL roots
def keepF (h : V→V) (f : Nat→V) : List Nat→Nat→V
  | [] => dd
  | i :: ls => fu (keepF h f ls) i (h (f i))
@[simp] theorem keepF_nil (h : V→V) : keepF h f [] = dd:=rfl
@[simp] theorem keepF_cons (h : V→V) (i : Nat) (ls : List Nat) : keepF h f (i :: ls) = fu (keepF h f ls) i (h (f i)):=rfl
theorem keepF_get (h : V→V) (ls : List Nat) (j : Nat) : keepF h f ls j = if ls.contains j then h (f j) else .dead:=by
  induction ls with
  | nil => rfl
  | cons i ls ih =>
    rw [keepF_cons,fu_apply,ih]
    by_cases hj : j = i
    · subst hj; simp
    · simp [hj]
def both (K : Nat) (g f : Nat→V) : Nat→V:=fun j => if j < K then g j else f j
@[simp] theorem both_apply (j : Nat) : both K g f j = if j < K then g j else f j:=rfl
theorem drops_get (st : St) (m : List Bool) (j : Nat) : (drops st m)[j]? = (st[j]?).map fun x => if m[j]? = some false then .dead else if (ownOuts 0 m st).any (fun i => (roots x).contains i) then .dead else x:=by
  unfold drops
  have hnd : ∀ (k : Nat) (m : List Bool) (st : St),(ownOuts k m st).Nodup:=by
    intro k m
    induction m generalizing k with
    | nil => intro st; simp [ownOuts]
    | cons b m ih =>
      intro st
      cases st with
      | nil => simp [ownOuts]
      | cons x s =>
        simp only [ownOuts]
        split
        · refine List.nodup_cons.2 ⟨?_,ih _ _⟩
          rw [ownOuts_iff]
          rintro ⟨j,d,h1,_⟩
          omega
        · exact ih _ _
  split
  · have hf:=drops_fold (ownOuts 0 m st) st (hnd 0 m st) (fun i hi => by
      rw [ownOuts_iff] at hi
      obtain ⟨k,d,h1,_,h3⟩:=hi
      exact ⟨d,by rw [h1,Nat.zero_add]; exact h3⟩)
    have hno : ownDrop m ((ownOuts 0 m st).foldl drop1 st) = false:=by
      rw [Bool.eq_false_iff]
      intro hc
      obtain ⟨i,d,h1,h2⟩:=(ownDrop_iff _ _).1 hc
      rw [hf i] at h2
      cases hx : st[i]? with
      | none => rw [hx] at h2; simp at h2
      | some x =>
        rw [hx] at h2
        simp only [Option.map_some,Option.some.injEq] at h2
        split at h2
        · cases h2
        · rename_i hni
          rw [kills] at h2
          split at h2
          · cases h2
          · subst h2
            exact hni ((ownOuts_iff 0 m st i).2 ⟨i,d,by omega,h1,hx⟩)
    simp only [hno,Bool.false_eq_true,if_false]
    rw [msk_getD,hf j]
    cases hx : st[j]? with
    | none => rfl
    | some x =>
      simp only [Option.map_some,Option.some.injEq]
      by_cases hm : m[j]? = some false
      · rw [if_pos hm,if_pos hm]
      · rw [if_neg hm,if_neg hm,if_neg,kills]
        rw [ownOuts_iff]
        rintro ⟨k,d,h1,h2,_⟩
        exact hm (by rw [h1,Nat.zero_add]; exact h2)
  · rename_i hno
    rw [msk_getD]
    cases hx : st[j]? with
    | none => rfl
    | some x =>
      have he : (ownOuts 0 m st).any (fun i => (roots x).contains i) = false:=by
        rw [List.any_eq_false]
        intro i hi
        rw [ownOuts_iff] at hi
        obtain ⟨k,d,h1,h2,h3⟩:=hi
        rw [Nat.zero_add] at h1
        exact absurd ((ownDrop_iff m st).2 ⟨k,d,h2,h3⟩) hno
      rw [Option.map_some,Option.map_some,he]
      simp
theorem drops_tab (ls : List Nat) (hl : ls.all (fun i => decide (i < n)) = true) : drops (tab n K g f) (bits n ls) = tab n n (keepF (kvv n ls (both K g f)) (both K g f) ls) dd:=by
  apply List.ext_getElem?
  intro j
  rw [drops_get,tab_get,tab_get]
  by_cases hj : j < n
  · rw [if_pos hj,if_pos hj,if_pos hj]
    simp only [Option.map_some,Option.some.injEq]
    rw [keepF_get]
    have hm : (bits n ls)[j]? = some (ls.contains j):=by
      unfold bits
      rw [List.getElem?_map,List.getElem?_range hj]; rfl
    rw [hm]
    by_cases hc : ls.contains j = true
    · rw [hc,if_neg (by simp),if_pos rfl]
      show _ = kvv n ls (both K g f) (if j < K then g j else f j)
      unfold kvv
      generalize (if j < K then g j else f j) = x
      have : (ownOuts 0 (bits n ls) (tab n K g f)).any (fun i => (roots x).contains i) = (roots x).any (fun r => decide (r < n) && !ls.contains r && isOwn (both K g f r)):=by
        rw [Bool.eq_iff_iff]
        simp only [List.any_eq_true]
        constructor
        · rintro ⟨i,h1,h2⟩
          rw [ownOuts_iff] at h1
          obtain ⟨k,d,g1,g2,g3⟩:=h1
          rw [Nat.zero_add] at g1
          subst g1
          rw [tab_get] at g3
          split at g3
          · rename_i hin
            unfold bits at g2
            rw [List.getElem?_map,List.getElem?_range hin] at g2
            refine ⟨i,by simpa using h2,?_⟩
            simp only [Option.map_some,Option.some.injEq] at g2 g3
            rw [both_apply,g3,g2]
            simp [hin,isOwn]
          · cases g3
        · rintro ⟨r,h1,h2⟩
          simp only [Bool.and_eq_true,decide_eq_true_eq,Bool.not_eq_true'] at h2
          obtain ⟨⟨h2,h3⟩,h4⟩:=h2
          refine ⟨r,?_,by simpa using h1⟩
          rw [ownOuts_iff]
          rw [both_apply] at h4
          obtain ⟨d,hd⟩ : ∃ d,(if r < K then g r else f r) = .own d:=by
            generalize (if r < K then g r else f r) = y at h4
            cases y <;> simp [isOwn] at h4
            exact ⟨_,rfl⟩
          refine ⟨r,d,by omega,?_,?_⟩
          · unfold bits
            rw [List.getElem?_map,List.getElem?_range h2,Option.map_some,h3]
          · rw [tab_get,if_pos h2,hd]
      rw [this]
    · have hc' : ls.contains j = false:=by simpa using hc
      rw [hc',if_pos rfl,if_neg (by simp)]
  · rw [if_neg hj,if_neg hj]; rfl
end
theorem tab_cut (n K : Nat) (h : V→V) (f : Nat→V) (ls : List Nat) (hl : ls.all (fun i => decide (i < K)) = true) : tab n n (keepF h f ls) dd = tab n K (keepF h f ls) dd:=by
  apply List.ext_getElem?
  intro j
  rw [tab_get,tab_get]
  by_cases hj : j < n
  · rw [if_pos hj,if_pos hj,if_pos hj]
    by_cases hk : j < K
    · rw [if_pos hk]
    · rw [if_neg hk,keepF_get,if_neg]
      · rfl
      · intro hc
        rw [List.all_eq_true] at hl
        have:=hl j (by simpa using hc)
        simp at this
        exact hk this
  · rw [if_neg hj,if_neg hj]
@[simp] def lsOk (n K : Nat) (ls : List Nat) : Bool:=ls.all fun i => decide (i < n) && decide (i < K)
theorem drops_tb (n K : Nat) (g f : Nat→V) (ls : List Nat) (hl : lsOk n K ls = true) : drops (tab n K g f) (bits n ls) = tab n K (keepF (kvv n ls (both K g f)) (both K g f) ls) dd:=by
  unfold lsOk at hl
  rw [List.all_eq_true] at hl
  rw [drops_tab n K g f ls (by rw [List.all_eq_true]; intro i hi; have:=hl i hi; simp at this ⊢; exact this.1),tab_cut n K _ _ ls (by rw [List.all_eq_true]; intro i hi; have:=hl i hi; simp at this ⊢; exact this.2)]
def drt (o : Bool) (n K : Nat) (g f : Nat→V) (ls : List Nat) : St :=
  match o with
  | true => tab n K (keepF (kvv n ls (both K g f)) (both K g f) ls) dd
  | false => drops (tab n K g f) (bits n ls)
@[congr] theorem drt_congr {o o' : Bool} {n K : Nat} {g f : Nat→V} {ls : List Nat} (h : ∀ _ : Unit,o = o') : drt o n K g f ls = drt o' n K g f ls:=by rw [h ()]
@[simp,simp ↓] theorem drt_true (n K : Nat) (g f : Nat→V) (ls : List Nat) : drt true n K g f ls = tab n K (keepF (kvv n ls (both K g f)) (both K g f) ls) dd:=rfl
@[simp] theorem drops_tt (n K : Nat) (g f : Nat→V) (ls : List Nat) : drops (tab n K g f) (bits n ls) = drt (lsOk n K ls) n K g f ls:=by
  cases h : lsOk n K ls with
  | true => exact drops_tb n K g f ls h
  | false => rfl
def entF (ds : List D) : Nat→V:=fun i => match ds[i]? with
  | some d => mkRo d
  | none => .sc undef
def entV (o : Option D) : V:=match o with
  | some d => mkRo d
  | none => .sc undef
@[simp] theorem entF_apply (ds : List D) (j : Nat) : entF ds j = entV ds[j]?:=rfl
@[simp] theorem entV_some (d : D) : entV (some d) = mkRo d:=rfl
@[simp] theorem entV_none : entV none = .sc undef:=rfl
theorem enter_tab (mf : MF) (K : Nat) (ds : List D) (h : ds.length ≤ mf.ntmps) (hk : ds.length ≤ K) : enterF mf ds = tab mf.ntmps K (entF ds) un':=by
  apply List.ext_getElem?
  intro j
  rw [tab_get]
  unfold enterF
  by_cases hj : j < ds.length
  · rw [List.getElem?_append_left (by simpa using hj),List.getElem?_map,List.getElem?_eq_getElem hj,if_pos (by omega),if_pos (by omega)]
    simp [hj]
  · rw [List.getElem?_append_right (by simpa using hj),List.getElem?_replicate,List.length_map]
    by_cases hn : j < mf.ntmps
    · rw [if_pos (by omega),if_pos hn]
      simp only [entF_apply,un_apply,List.getElem?_eq_none (Nat.le_of_not_lt hj),entV_none]
      split <;> rfl
    · rw [if_neg (by omega),if_neg hn]
theorem callF_tab (call : Oracle) (fuel : Nat) (mf : MF) (K : Nat) (ds : List D) (h : ds.length ≤ mf.ntmps) (hk : ds.length ≤ K) : callF call fuel mf ds = fk (run call fuel mf.code (tab mf.ntmps K (entF ds) un')) (fun st => resF st mf.res):=by
  rw [callF_eq,enter_tab mf K ds h hk]
def entI (d0 : D) (ds : List D) : Nat→V:=fun i => match i with
  | 0 => .own d0
  | i + 1 => entV ds[i]?
@[simp] theorem entI_zero (d0 : D) (ds : List D) : entI d0 ds 0 = .own d0:=rfl
@[simp] theorem entI_succ (d0 : D) (ds : List D) (i : Nat) : entI d0 ds (i + 1) = entV ds[i]?:=rfl
@[simp] theorem entI_lit (d0 : D) (ds : List D) (i : Nat) [h : NeZero i] : entI d0 ds (OfNat.ofNat i) = entV ds[i - 1]?:=by
  show entI d0 ds i = _
  cases i with
  | zero => exact absurd rfl h.out
  | succ i => rfl
def ioD (ds : List D) (o : Option V) : Option D :=
  match o with
  | some (.own (.nd (.bx b) kids)) => some (.nd .tu [fromD ds,.nd (.bx b) kids])
  | _ => none
@[simp] theorem ioD_own (ds : List D) (b : Bool) (kids : List D) : ioD ds (some (.own (.nd (.bx b) kids))) = some (.nd .tu [fromD ds,.nd (.bx b) kids]):=rfl
@[simp] theorem fromD_one (d : D) : fromD [d] = d:=rfl
end Go.Mx
namespace Go.Mx
set_option linter.unusedVariables false
set_option linter.unusedSimpArgs false
set_option linter.unusedSectionVars false
open Go
theorem elim_any {α : Type} (n : Nat) (stop : Nat→Bool) (r x : α) : ((List.range n).find? stop).elim r (fun _ => x) = if (List.range n).any stop = true then x else r:=by
  cases h : (List.range n).find? stop with
  | none =>
    rw [List.find?_eq_none] at h
    have : (List.range n).any stop = false:=by
      rw [List.any_eq_false]; exact h
    rw [this]; rfl
  | some i =>
    have h1:=List.find?_some h
    have h2:=List.mem_of_find?_eq_some h
    have : (List.range n).any stop = true:=List.any_eq_true.2 ⟨i,h2,h1⟩
    rw [this]; rfl
theorem loop_any (call : Oracle) (fuel : Nat) (h : List Bool) (c : MC) (n : Nat) (stop : Nat→Bool) (I : Nat→St) (out : Ex × St) (res : Ex × St) (hne : res.1 ≠ .norm) (hno : out.1 ≠ .norm)
    (hs : ∀ i,i < n→(∀ j,j < i→stop j = false)→nxt h (run call fuel c (I i)) = if stop i = true then some out else some (.norm,I (i + 1)))
    (he : nxt h (run call fuel c (I n)) = some res) :
    ∀ (fu : Nat) (st : St),drops st h = I 0→n < fu→run.loopN (run call fuel (.seq (.scr h) c)) fu st = some (if (List.range n).any stop = true then out else res):=by
  intro fu st hd hf
  rw [loop_find call fuel h c n stop I (fun _ => out) res hne (fun _ => hno) hs (fun _ => he) fu st hd hf,elim_any]
theorem nth_get {α : Type} {l : List α} {i : Nat} (d : α) (h : i < l.length) : nth l d i = l[i]:=by simp [nth,h]
theorem nth_mem {α : Type} {l : List α} {i : Nat} (d : α) (h : i < l.length) : nth l d i ∈ l:=by rw [nth_get d h]; exact List.getElem_mem h
theorem nth_map {α β : Type} (f : α→β) (l : List α) (d : α) (i : Nat) : nth (l.map f) (f d) i = f (nth l d i):=by
  unfold nth
  rw [List.getD_eq_getElem?_getD,List.getElem?_map,List.getD_eq_getElem?_getD]
  cases l[i]? <;> rfl
theorem any_range (n : Nat) (p : Nat→Bool) : (List.range n).any p = false ↔ ∀ i,i < n→p i = false:=by
  rw [List.any_eq_false]
  simp
@[simp] theorem cast_neg (u : Nat) : ((u : Int) < 0) = False:=by simp
theorem wrap_succ {i : Nat} (h : (i : Int) < 9223372036854775807) : IntKind.i64.wrap ((i : Int) + 1) = ((i + 1 : Nat) : Int):=by
  rw [wrap_eq (by unfold I64; omega)]
  simp
theorem wrap_pred {i : Nat} (h : (i : Int) < 9223372036854775807) : natOf (IntKind.i64.wrap ((i : Int) - 1)) = if 0 < i then some (i - 1) else none:=by
  rw [wrap_eq (by unfold I64; omega)]
  unfold natOf
  split <;> split <;> first | omega | rfl | (congr 1; omega)
def row {α : Type} (n : Nat) (g : Nat→α) : List α:=(List.range n).map g
def updF {α : Type} (g : Nat→α) (i : Nat) (y : α) : Nat→α:=fun j => if j = i then y else g j
section
variable {α : Type} (n : Nat) (g : Nat→α)
@[simp] theorem row_len : (row n g).length = n:=by simp [row]
theorem nth_row (d : α) {i : Nat} (h : i < n) : nth (row n g) d i = g i:=by simp [nth,row,h]
@[simp] theorem row_set (i : Nat) (y : α) : (row n g).set i y = row n (updF g i y):=by
  apply List.ext_getElem?
  intro j
  by_cases hj : j < n
  · by_cases hi : j = i
    · subst hi
      rw [List.getElem?_set_self (by simpa using hj)]
      simp [row,hj,updF]
    · rw [List.getElem?_set_ne (Ne.symm hi)]
      simp [row,hj,updF,hi]
  · rw [List.getElem?_eq_none (by simpa using hj),List.getElem?_eq_none (by simpa using hj)]
theorem row_ext {g h : Nat→α} (e : ∀ i,i < n→g i = h i) : row n g = row n h:=by
  unfold row
  apply List.map_congr_left
  intro i hi
  exact e i (List.mem_range.1 hi)
theorem row_rep (x : α) : List.replicate n x = row n (fun _ => x):=by
  apply List.ext_getElem <;> simp [row]
theorem row_succ : row (n + 1) g = row n g ++ [g n]:=by simp [row,List.range_succ]
end
def andN (a b : Nat) : Nat:=a ^^^ (a &&& b)
theorem andN_bit (a b i : Nat) : (andN a b).testBit i = (a.testBit i && !b.testBit i):=by
  simp only [andN,Nat.testBit_xor,Nat.testBit_and]
  cases a.testBit i <;> cases b.testBit i <;> rfl
theorem andN_le (a b : Nat) : andN a b ≤ a:=by
  have : andN a b = a &&& andN a b:=by
    apply Nat.eq_of_testBit_eq
    intro i
    rw [Nat.testBit_and,andN_bit]
    cases a.testBit i <;> rfl
  rw [this]
  exact Nat.and_le_left
def IntKind.top (k : IntKind) : Nat:=if k.signed then k.bits - 1 else k.bits
theorem wrap_nat (k : IntKind) {n : Nat} (h : n < 2 ^ IntKind.top k) : k.wrap (n : Int) = (n : Int):=by
  cases k <;> simp [IntKind.top,IntKind.wrap,IntKind.bits,IntKind.signed] at h ⊢ <;> omega
theorem top_le (k : IntKind) : 2 ^ IntKind.top k ≤ 2 ^ k.bits:=by
  cases k <;> decide
theorem ofInt_nat (w n : Nat) : BitVec.ofInt w (n : Int) = BitVec.ofNat w n:=by simp
section
variable (k : IntKind) {a b : Nat} (ha : a < 2 ^ IntKind.top k) (hb : b < 2 ^ IntKind.top k)
include ha hb
theorem bits_or : intBin .or k (a : Int) (b : Int) = some (.int k ((a ||| b : Nat) : Int)):=by
  have h1:=Nat.lt_of_lt_of_le ha (top_le k)
  have h2:=Nat.lt_of_lt_of_le hb (top_le k)
  show some (Value.int k (k.wrap ((BitVec.ofInt k.bits a ||| BitVec.ofInt k.bits b).toNat : Int))) = _
  rw [ofInt_nat,ofInt_nat,BitVec.toNat_or,BitVec.toNat_ofNat,BitVec.toNat_ofNat,Nat.mod_eq_of_lt h1,Nat.mod_eq_of_lt h2,wrap_nat k (Nat.or_lt_two_pow ha hb)]
theorem bits_and : intBin .and k (a : Int) (b : Int) = some (.int k ((a &&& b : Nat) : Int)):=by
  have h1:=Nat.lt_of_lt_of_le ha (top_le k)
  have h2:=Nat.lt_of_lt_of_le hb (top_le k)
  show some (Value.int k (k.wrap ((BitVec.ofInt k.bits a &&& BitVec.ofInt k.bits b).toNat : Int))) = _
  rw [ofInt_nat,ofInt_nat,BitVec.toNat_and,BitVec.toNat_ofNat,BitVec.toNat_ofNat,Nat.mod_eq_of_lt h1,Nat.mod_eq_of_lt h2,wrap_nat k (Nat.and_lt_two_pow a hb)]
theorem bits_andN : intBin .andNot k (a : Int) (b : Int) = some (.int k ((andN a b : Nat) : Int)):=by
  have h1:=Nat.lt_of_lt_of_le ha (top_le k)
  have h2:=Nat.lt_of_lt_of_le hb (top_le k)
  show some (Value.int k (k.wrap ((BitVec.ofInt k.bits a &&& ~~~ BitVec.ofInt k.bits b).toNat : Int))) = _
  have e : (BitVec.ofInt k.bits (a : Int) &&& ~~~ BitVec.ofInt k.bits (b : Int)) = BitVec.ofNat k.bits (andN a b):=by
    rw [ofInt_nat,ofInt_nat]
    apply BitVec.eq_of_getLsbD_eq
    intro i hi
    rw [BitVec.getLsbD_and,BitVec.getLsbD_not,BitVec.getLsbD_ofNat,BitVec.getLsbD_ofNat,BitVec.getLsbD_ofNat,andN_bit]
    simp only [hi,decide_true,Bool.true_and]
  rw [e,BitVec.toNat_ofNat,Nat.mod_eq_of_lt (Nat.lt_of_le_of_lt (andN_le a b) h1),wrap_nat k (Nat.lt_of_le_of_lt (andN_le a b) ha)]
end
def pw (t : Nat) : Nat:=2 ^ t
def srn (s t : Nat) : Nat:=s >>> t
theorem pw_lt {t m : Nat} (h : t < m) : pw t < 2 ^ m:=Nat.pow_lt_pow_right (by omega) h
theorem pw_bit (t i : Nat) : (pw t).testBit i = decide (t = i):=by unfold pw; exact Nat.testBit_two_pow
theorem bits_shl1 (k : IntKind) {t : Nat} (h : t < IntKind.top k) : shiftBin .shl k 1 (t : Int) = some (.int k ((pw t : Nat) : Int)):=by
  have h1 : ¬ (t : Int) < 0:=by omega
  have h2 : min (t : Int).toNat k.bits = t:=by
    have : IntKind.top k ≤ k.bits:=by cases k <;> decide
    simp; omega
  simp only [shiftBin,h1,if_false,h2]
  have : (1 * 2 ^ t : Int) = ((2 ^ t : Nat) : Int):=by simp
  rw [this,wrap_nat k (Nat.pow_lt_pow_right (by omega) h)]; rfl
theorem bits_shr (k : IntKind) (s t : Nat) (h : t ≤ k.bits) : shiftBin .shr k (s : Int) (t : Int) = some (.int k ((srn s t : Nat) : Int)):=by
  have h1 : ¬ (t : Int) < 0:=by omega
  have h2 : min (t : Int).toNat k.bits = t:=by simp; omega
  simp only [shiftBin,h1,if_false,h2]
  rw [Int.fdiv_eq_ediv_of_nonneg _ (by exact Int.le_of_lt (Int.pow_pos (by decide))),srn,Nat.shiftRight_eq_div_pow]
  simp
theorem bits_bit (k : IntKind) {s : Nat} (hs : s < 2 ^ IntKind.top k) (t : Nat) : intBin .and k ((srn s t : Nat) : Int) 1 = some (.int k (if s.testBit t then 1 else 0)):=by
  unfold srn
  have h : s >>> t < 2 ^ IntKind.top k:=by
    rw [Nat.shiftRight_eq_div_pow]; exact Nat.lt_of_le_of_lt (Nat.div_le_self _ _) hs
  have h1 : 1 < 2 ^ IntKind.top k:=by cases k <;> decide
  have:=bits_and k h h1
  rw [show ((1 : Nat) : Int) = 1 from rfl] at this
  rw [this]
  have e : s >>> t &&& 1 = if s.testBit t then 1 else 0:=by
    rw [Nat.testBit,Nat.and_comm]
    by_cases hb : 1 &&& s >>> t = 0
    · simp [hb]
    · have : 1 &&& s >>> t = 1:=by
        have:=Nat.and_le_left (n:=1) (m:=s >>> t); omega
      simp [this]
  rw [e]
  cases s.testBit t <;> rfl
theorem putCells_mid (r : Nat) (b : Bool) : ∀ (ds pr ks : List D) (st : St),st[r]? = some (.own (.nd (.bx b) (pr ++ ks)))→ks.length = ds.length→ks.all isSc = true→putCells r [] st pr.length ds = some (st.set r (.own (.nd (.bx b) (pr ++ ds))))
  | [],pr,ks,st,h,hl,_ => by
    have : ks = []:=List.length_eq_zero_iff.1 (by simpa using hl)
    subst this
    rw [putCells_nil,set_same st r _ h]
  | d :: ds,pr,[],st,h,hl,_ => by simp at hl
  | d :: ds,pr,k :: ks,st,h,hl,hs => by
    simp only [List.all_cons,Bool.and_eq_true] at hs
    obtain ⟨x,rfl⟩ : ∃ x,k = .v x:=by
      cases k with
      | v x => exact ⟨x,rfl⟩
      | _ => simp [isSc] at hs
    rw [putCells_cons,h]
    simp only [roo_own,ob_some,getAt_nil',celA_nd,List.getElem?_append_right (Nat.le_refl _),Nat.sub_self,List.getElem?_cons_zero,killC_v,List.nil_append,setAt_cons,setC_some,setAt_nil']
    have e : (pr ++ T.v x :: ks).set pr.length d = (pr ++ [d]) ++ ks:=by simp
    rw [e]
    have hlt : r < st.length:=(List.getElem?_eq_some_iff.1 h).1
    have:=putCells_mid r b ds (pr ++ [d]) ks (st.set r (.own (.nd (.bx b) ((pr ++ [d]) ++ ks)))) (List.getElem?_set_self hlt) (by simpa using hl) hs.2
    rw [List.length_append] at this
    simp only [List.length_cons,List.length_nil] at this
    rw [this]
    simp
def pbk {α : Type} (e : En α) (r : Nat) (st : St) (l : List α) (v : Option V) : Option St :=
  match v with
  | some (.own (.nd (.bx b) kids)) => if kids.length = (gk e l).length∧kids.all isSc = true then some (st.set r (.own (.nd (.bx b) (gk e l)))) else putCells r [] st 0 (gk e l)
  | _ => putCells r [] st 0 (gk e l)
@[congr] theorem pbk_congr {α : Type} {e : En α} {r : Nat} {st st' : St} {l : List α} {v v' : Option V} (h : ∀ _ : Unit,v = v') (h2 : ∀ _ : Unit,st = st') : pbk e r st l v = pbk e r st' l v':=by rw [h (),h2 ()]
@[simp] theorem putCells_gk {α : Type} (e : En α) (r : Nat) (st : St) (l : List α) : putCells r [] st 0 (gk e l) = pbk e r st l st[r]?:=by
  unfold pbk
  split
  · rename_i b kids h
    split
    · rename_i hc
      exact putCells_mid r b (gk e l) [] kids st h hc.1 hc.2
    · rfl
  · rfl
@[simp,simp ↓] theorem pbk_gbx {α : Type} (e : En α) (r : Nat) (st : St) (l m : List α) (h : (gk e m).all isSc = true) : pbk e r st l (some (.own (gbx e m))) = if m.length = l.length then some (st.set r (.own (gbx e l))) else putCells r [] st 0 (gk e l):=by
  have e1 : m.length * e.es = l.length * e.es ↔ m.length = l.length:=Nat.mul_left_inj (by have:=e.pos; omega)
  simp only [pbk,gbx,gk_len,h,and_true,e1]
def zB (n : Nat) : List Bool:=List.replicate n false
@[simp] theorem zB_len (n : Nat) : (zB n).length = n:=by simp [zB]
@[simp] theorem gbx_B (n : Nat) : T.nd (K.bx false) (rp n (.v (.bool false))) = gbx eB (zB n):=by
  unfold gbx gk rp zB
  rw [List.flatMap,List.map_replicate]
  congr 1
  induction n with
  | zero => rfl
  | succ n ih => rw [List.replicate_succ,List.replicate_succ,List.flatten_cons,← ih]; rfl
@[simp] theorem noMem_B (l : List Bool) : noMemL (gk eB l) = true:=by
  induction l with
  | nil => rfl
  | cons a l ih => exact ih
attribute [simp] sc_B sc_I gk_flat
@[simp] theorem gkB_len (l : List Bool) : (gk eB l).length = l.length:=by rw [gk_len]; simp [eB]
@[simp] theorem agB_gbx {α : Type} (e : En α) (r : Nat) (p : List Nat) (m : Nat) (l : List α) : agB r p m (gbx e l) = aggV r p (gk e l) 0 m:=rfl
@[simp] theorem aggV_B (r : Nat) (p : List Nat) (m : Nat) (l : List Bool) : aggV r p (gk eB l) 0 m = if m ≤ l.length then some (.ro (.nd .ag (gk eB (l.take m)))) else none:=by
  have:=gk_take eB l m
  rw [show m * eB.es = m by simp [eB]] at this
  rw [aggV_eq,gkB_len]
  simp only [List.drop_zero,this,sc_B,if_true,Nat.zero_add]
def mat (m : Nat) (t : Nat→Nat→Bool) : List Bool:=row (m * m) (fun k => t (k / m) (k % m))
def updM (t : Nat→Nat→Bool) (i j : Nat) (y : Bool) : Nat→Nat→Bool:=fun a b => if a = i∧b = j then y else t a b
theorem mat_ext {m : Nat} {t u : Nat→Nat→Bool} (h : ∀ i j,i < m→j < m→t i j = u i j) : mat m t = mat m u:=by
  apply row_ext
  intro k hk
  have hm : 0 < m:=by
    rcases Nat.eq_zero_or_pos m with h0 | h0
    · subst h0; simp at hk
    · exact h0
  exact h _ _ (Nat.div_lt_of_lt_mul hk) (Nat.mod_lt _ hm)
def codeB : MC→MC
  | .seq (.ops l) y => .seq (.ops (l.drop (leadM l).length)) y
  | c => c
def leadC : MC→List (Nat × Nat)
  | .seq (.ops l) _ => leadM l
  | _ => []
@[simp] theorem codeB_seq (l : List MG) (y : MC) : codeB (.seq (.ops l) y) = .seq (.ops (l.drop (leadM l).length)) y:=rfl
@[simp] theorem leadC_seq (l : List MG) (y : MC) : leadC (.seq (.ops l) y) = leadM l:=rfl
@[simp] theorem leadM_nil : leadM [] = []:=rfl
@[simp] theorem leadM_sl0 (d p : Nat) (l : List MG) : leadM (⟨none,.sl0 d 0 (.t p)⟩ :: l) = (d,p) :: leadM l:=rfl
@[simp] theorem leadM_asg (d : Nat) (x : MO) (l : List MG) : leadM (⟨none,.asg d x⟩ :: l) = []:=rfl
@[simp] theorem leadM_box (d : Nat) (x : MO) (l : List MG) : leadM (⟨none,.box d x⟩ :: l) = []:=rfl
@[simp] theorem leadM_alc (d : Nat) (z : List D) (l : List MG) : leadM (⟨none,.alc d z⟩ :: l) = []:=rfl
def boxW (o : Option D) : V :=
  match o with
  | some d => if (cellsOfD d).all flatOk then .ro (.nd (.bx false) (cellsOfD d)) else .dead
  | none => .dead
@[simp] theorem boxW_ag (kids : List D) : boxW (some (.nd .ag kids)) = if kids.all flatOk = true then .ro (.nd (.bx false) kids) else .dead:=rfl
@[simp] theorem boxW_g {α : Type} (e : En α) (b : Bool) (l : List α) : boxW (some (gsl e b l)) = .ro (.nd (.bx false) [gsl e b l]):=rfl
@[simp] theorem enterB_nil (ds : List D) (st : St) : enterB ds [] st = st:=rfl
@[simp] theorem enterB_cons (ds : List D) (d p : Nat) (bs : List (Nat × Nat)) (st : St) : enterB ds ((d,p) :: bs) st = enterB ds bs (st.set d (boxW ds[p]?)):=rfl
theorem callB_tab (call : Oracle) (fuel : Nat) (mf : MF) (K : Nat) (ds : List D) (hb : hasB mf.code = true) (h : ds.length ≤ mf.ntmps) (hk : ds.length ≤ K) :
    callB call fuel mf ds = fk (run call fuel (codeB mf.code) (enterB ds (leadC mf.code) (tab mf.ntmps K (entF ds) un'))) (fun st => resF st mf.res):=by
  rw [← enter_tab mf K ds h hk]
  unfold callB
  cases hc : mf.code with
  | seq a y =>
    cases a with
    | ops l =>
      simp only [codeB_seq,leadC_seq]
      cases run call fuel (.seq (.ops (l.drop (leadM l).length)) y) (enterB ds (leadM l) (enterF mf ds)) with
      | none => rfl
      | some q =>
        obtain ⟨e,st⟩:=q
        cases e <;> rfl
    | _ => rw [hc] at hb; simp [hasB] at hb
  | _ => rw [hc] at hb; simp [hasB] at hb
end Go.Mx
namespace Go.Mx
set_option linter.unusedVariables false
set_option linter.unusedSimpArgs false
set_option linter.unusedSectionVars false
open Go
def eA : En (Int × Int) where
  es:=2
  enc p:=[.v (.int .i64 p.1),.v (.int .i64 p.2)]
  d:=(0,0)
  pos:=by decide
  len _:=rfl
  flat _:=rfl
abbrev sa (b : Bool) (l : List (Int × Int)) : D:=gsl eA b l
section
variable (l : List (Int × Int)) (i : Nat)
@[simp] theorem A_elP (r : Nat) (p : List Nat) (b : Bool) : elP r p 2 i (gsl eA b l) = if i < l.length then some (.ad r p (i * 2)) else none:=elP_ge eA r p i b l
@[simp] theorem A_elR (b : Bool) : elR 2 i (gsl eA b l) = if i < l.length then some (.rad (gk eA l) (i * 2)) else none:=elR_ge eA i b l
@[simp high] theorem A_cell0 : (gk eA l)[i * 2]? = if i < l.length then some (.v (.int .i64 (nth l (0,0) i).1)) else none:=gk_cell eA l i 0 (by decide)
@[simp high] theorem A_cell1 : (gk eA l)[i * 2 + 1]? = if i < l.length then some (.v (.int .i64 (nth l (0,0) i).2)) else none:=gk_cell eA l i 1 (by decide)
@[simp] theorem A_aggR : aggR (gk eA l) (i * 2) 2 = if i < l.length then some (.ro (.nd .ag [.v (.int .i64 (nth l (0,0) i).1),.v (.int .i64 (nth l (0,0) i).2)])) else none:=aggR_ge eA i l
@[simp] theorem A_aggV (r : Nat) (p : List Nat) : aggV r p (gk eA l) (i * 2) 2 = if i < l.length then some (.ro (.nd .ag [.v (.int .i64 (nth l (0,0) i).1),.v (.int .i64 (nth l (0,0) i).2)])) else none:=agg_ge eA r p i l rfl
@[simp] theorem A_apD1 (b : Bool) (x y : Int) : apD 2 1 [.v (.int .i64 x),.v (.int .i64 y)] (gsl eA b l) = if l.length + 1 ≤ most then some (gsl eA false (l ++ [(x,y)])) else none:=by
  show apD eA.es [(x,y)].length (gk eA [(x,y)]) (gsl eA b l) = _
  rw [apD_ge]; simp
end
theorem sc_A (l : List (Int × Int)) : (gk eA l).all isSc = true:=by
  induction l with
  | nil => rfl
  | cons a l ih => exact ih
@[simp] theorem A_apS (st : St) (v : V) (b : Bool) (l : List (Int × Int)) : apS st 2 v (gsl eA b l) = some (l.length,gk eA l,st):=apS_ge eA st v b l (sc_A l)
@[simp] theorem A_apD (b : Bool) (l m : List (Int × Int)) : apD 2 m.length (gk eA m) (gsl eA b l) = if l.length + m.length ≤ most then some (gsl eA (b && m.length == 0) (l ++ m)) else none:=apD_ge eA b l m
@[simp] theorem A_fold (b : Bool) (l : List (Int × Int)) : T.nd (K.sl b 2 l.length) (gk eA l) = gsl eA b l:=rfl
def okA (n : Int) (a : List (Int × Int)) (i : Nat) : Bool :=
  let p:=nth a (0,0) i
  let q:=nth a (0,0) (i - 1)
  decide (0 ≤ p.1) && decide (p.1 < n) && decide (0 ≤ p.2) && decide (p.2 < n) && !(p.1 == p.2) && (i == 0 || !(decide (p.1 < q.1) || (p.1 == q.1) && decide (p.2 ≤ q.2)))
def validB (n : Int) (a : List (Int × Int)) : Bool:=decide (0 ≤ n) && decide (n ≤ 24) && !(List.range a.length).any (fun i => !okA n a i)
theorem valid_all {n : Int} {a : List (Int × Int)} (h : validB n a = true) {i : Nat} (hi : i < a.length) : okA n a i = true:=by
  simp only [validB,Bool.and_eq_true,Bool.not_eq_true'] at h
  have:=(any_range _ _).1 h.2 i hi
  simpa using this
theorem valid_len {n : Int} {a : List (Int × Int)} (h : validB n a = true) : (a.length : Int) ≤ n * n:=by
  have key : ∀ i : Nat,i < a.length→(i : Int) ≤ (nth a (0,0) i).1 * n + (nth a (0,0) i).2:=by
    intro i
    induction i with
    | zero =>
      intro hi
      have:=valid_all h hi
      simp only [okA,Bool.and_eq_true,decide_eq_true_eq,Bool.not_eq_true'] at this
      obtain ⟨⟨⟨⟨⟨h1,h2⟩,h3⟩,h4⟩,_⟩,_⟩:=this
      have : 0 ≤ (nth a (0,0) 0).1 * n:=Int.mul_nonneg h1 (by omega)
      simp; omega
    | succ i ih =>
      intro hi
      have h0:=ih (by omega)
      have:=valid_all h hi
      have hb:=valid_all h (i:=i) (by omega)
      simp only [okA,Bool.and_eq_true,decide_eq_true_eq,Bool.not_eq_true',Nat.add_sub_cancel] at this hb
      obtain ⟨⟨⟨⟨⟨h1,h2⟩,h3⟩,h4⟩,_⟩,h5⟩:=this
      obtain ⟨⟨⟨⟨⟨g1,g2⟩,g3⟩,g4⟩,_⟩,_⟩:=hb
      generalize nth a (0,0) (i + 1) = p at *
      generalize nth a (0,0) i = q at *
      have h5' : ¬ p.1 < q.1∧(p.1 = q.1→q.2 < p.2):=by
        simp at h5
        omega
      rcases Int.lt_trichotomy q.1 p.1 with h6 | h6 | h6
      · have : (q.1 + 1) * n ≤ p.1 * n:=Int.mul_le_mul_of_nonneg_right (by omega) (by omega)
        rw [Int.add_mul] at this
        push_cast
        omega
      · have:=h5'.2 h6.symm
        rw [h6] at h0
        push_cast
        omega
      · omega
  rcases Nat.eq_zero_or_pos a.length with h0 | h0
  · have : 0 ≤ n:=by
      simp only [validB,Bool.and_eq_true,decide_eq_true_eq] at h
      exact h.1.1
    rw [h0]; exact Int.mul_nonneg this this
  · have h1:=key (a.length - 1) (by omega)
    have:=valid_all h (i:=a.length - 1) (by omega)
    simp only [okA,Bool.and_eq_true,decide_eq_true_eq,Bool.not_eq_true'] at this
    obtain ⟨⟨⟨⟨⟨h2,h3⟩,h4⟩,h5⟩,_⟩,_⟩:=this
    generalize nth a (0,0) (a.length - 1) = p at *
    have : (p.1 + 1) * n ≤ n * n:=Int.mul_le_mul_of_nonneg_right (by omega) (by omega)
    rw [Int.add_mul] at this
    omega
abbrev NA:=List (Nat × Nat)
def arcZ (p : Nat × Nat) : Int × Int:=((p.1 : Int),(p.2 : Int))
def arcsZ (a : NA) : List (Int × Int):=a.map arcZ
@[simp] theorem arcsZ_len (a : NA) : (arcsZ a).length = a.length:=by simp [arcsZ]
@[simp] theorem arcsZ_nth (a : NA) (i : Nat) : nth (arcsZ a) (0,0) i = (((nth a (0,0) i).1 : Int),((nth a (0,0) i).2 : Int)):=nth_map arcZ a (0,0) i
def zr (n : Nat) (g : Nat→Nat) : List Int:=row n (fun i => (g i : Int))
@[simp] theorem zr_len (n : Nat) (g : Nat→Nat) : (zr n g).length = n:=row_len _ _
theorem zr_nth (n : Nat) (g : Nat→Nat) {i : Nat} (h : i < n) : nth (zr n g) 0 i = (g i : Int):=nth_row _ _ _ h
@[simp] theorem zr_set (n : Nat) (g : Nat→Nat) (i y : Nat) : (zr n g).set i (y : Int) = zr n (updF g i y):=by
  unfold zr
  rw [row_set]
  congr 1
  funext j
  simp only [updF]
  split <;> rfl
theorem zr_ext {n : Nat} {g h : Nat→Nat} (e : ∀ i,i < n→g i = h i) : zr n g = zr n h:=row_ext _ fun i hi => by rw [e i hi]
abbrev su (n : Nat) (g : Nat→Nat) : D:=gsl (eI .u32) false (zr n g)
def addArc (g : Nat→Nat) (p : Nat × Nat) : Nat→Nat:=updF g p.1 (g p.1 ||| pw p.2)
def nextG (a : NA) : Nat→Nat:=a.foldl addArc fun _ => 0
theorem take_succ_nth {α : Type} {l : List α} {i : Nat} (d : α) (h : i < l.length) : l.take (i + 1) = l.take i ++ [nth l d i]:=by
  rw [nth_get d h,List.take_succ_eq_append_getElem h]
theorem foldl_take {α β : Type} (f : β→α→β) (b : β) {l : List α} {i : Nat} (d : α) (h : i < l.length) : (l.take (i + 1)).foldl f b = f ((l.take i).foldl f b) (nth l d i):=by
  rw [take_succ_nth d h,List.foldl_append]; rfl
theorem nextG_lt {n : Nat} (hn : n ≤ 32) {a : NA} (h : ∀ p ∈ a,p.1 < n∧p.2 < n) (i : Nat) : nextG a i < 2 ^ 32:=by
  suffices ∀ (a : NA) (g : Nat→Nat),(∀ p ∈ a,p.1 < n∧p.2 < n)→(∀ i,g i < 2 ^ 32)→∀ i,a.foldl addArc g i < 2 ^ 32 from this a _ h (fun _ => by simp) i
  intro a
  induction a with
  | nil => intro g _ hg i; exact hg i
  | cons p a ih =>
    intro g h hg i
    apply ih
    · exact fun q hq => h q (List.mem_cons_of_mem _ hq)
    · intro j
      unfold addArc updF
      split
      · exact Nat.or_lt_two_pow (hg _) (pw_lt (by have:=(h p (List.mem_cons_self ..)).2; omega))
      · exact hg j
def stp (g : Nat→Nat) (m : Nat) : Nat→Nat:=fun j => if (g j).testBit m then g j ||| g m else g j
def warr (g : Nat→Nat) : Nat→Nat→Nat
  | 0 => g
  | k + 1 => stp (warr g k) k
def prt (g : Nat→Nat) (m i : Nat) : Nat→Nat:=fun j => if j < i then stp g m j else g j
theorem stp_lt {g : Nat→Nat} (h : ∀ i,g i < 2 ^ 32) (m i : Nat) : stp g m i < 2 ^ 32:=by
  unfold stp
  split
  · exact Nat.or_lt_two_pow (h _) (h _)
  · exact h i
theorem warr_lt {g : Nat→Nat} (h : ∀ i,g i < 2 ^ 32) (k i : Nat) : warr g k i < 2 ^ 32:=by
  induction k generalizing i with
  | zero => exact h i
  | succ k ih => exact stp_lt ih k i
theorem prt_lt {g : Nat→Nat} (h : ∀ i,g i < 2 ^ 32) (m k i : Nat) : prt g m k i < 2 ^ 32:=by
  unfold prt
  split
  · exact stp_lt h m i
  · exact h i
theorem prt_m (g : Nat→Nat) (m i : Nat) : prt g m i m = g m:=by simp [prt,stp]
theorem prt_i (g : Nat→Nat) (m i : Nat) : prt g m i i = g i:=by simp [prt]
theorem prt_succ (g : Nat→Nat) (m i : Nat) : prt g m (i + 1) = if (g i).testBit m then updF (prt g m i) i (g i ||| g m) else prt g m i:=by
  funext j
  by_cases hb : (g i).testBit m = true
  · simp only [hb,if_true,updF,prt]
    by_cases hj : j = i
    · subst hj; simp [stp,hb]
    · have : (j < i + 1) ↔ j < i:=by omega
      simp [hj,this]
  · simp only [hb,prt]
    by_cases hj : j = i
    · subst hj; simp [stp,hb,prt]
    · have : (j < i + 1) ↔ j < i:=by omega
      simp [this,prt]
def natA (a : List (Int × Int)) : NA:=a.map fun p => (p.1.toNat,p.2.toNat)
theorem valid_nat {n : Int} {a : List (Int × Int)} (h : validB n a = true) : ∃ k : Nat,n = (k : Int)∧k ≤ 24∧a = arcsZ (natA a)∧(∀ p ∈ natA a,p.1 < k∧p.2 < k∧p.1 ≠ p.2):=by
  have hall : ∀ p ∈ a,0 ≤ p.1∧p.1 < n∧0 ≤ p.2∧p.2 < n∧p.1 ≠ p.2:=by
    intro p hp
    obtain ⟨i,hi,rfl⟩:=List.mem_iff_getElem.1 hp
    have:=valid_all h hi
    simp only [okA,nth_get (0,0) hi,Bool.and_eq_true,decide_eq_true_eq,Bool.not_eq_true',beq_eq_false_iff_ne] at this
    exact ⟨this.1.1.1.1.1,this.1.1.1.1.2,this.1.1.1.2,this.1.1.2,this.1.2⟩
  have h':=h
  simp only [validB,Bool.and_eq_true,decide_eq_true_eq] at h'
  obtain ⟨⟨h1,h2⟩,_⟩:=h'
  refine ⟨n.toNat,by omega,by omega,?_,?_⟩
  · unfold arcsZ natA
    rw [List.map_map]
    conv => lhs; rw [← List.map_id a]
    apply List.map_congr_left
    intro p hp
    obtain ⟨g1,_,g2,_,_⟩:=hall p hp
    simp only [Function.comp,id,arcZ]
    ext <;> simp <;> omega
  · intro p hp
    unfold natA at hp
    obtain ⟨q,hq,rfl⟩:=List.mem_map.1 hp
    obtain ⟨g1,g2,g3,g4,g5⟩:=hall q hq
    simp only
    omega
def rea (n : Int) (a : List (Int × Int)) : Nat→Nat:=warr (nextG (natA a)) n.toNat
theorem rea_lt {n : Int} {a : List (Int × Int)} (h : validB n a = true) (i : Nat) : rea n a i < 2 ^ 32:=by
  obtain ⟨k,rfl,h1,h2,h3⟩:=valid_nat h
  exact warr_lt (nextG_lt (n:=k) (by omega) fun p hp => ⟨(h3 p hp).1,(h3 p hp).2.1⟩) _ _
def acyB (n : Int) (a : List (Int × Int)) : Bool:=validB n a && !(List.range n.toNat).any (fun i => (rea n a i).testBit i)
def tpr (g : Nat→Nat) (k i j : Nat) : Nat→Nat→Bool:=fun a b => if a < i ∨ (a = i∧b < j) then (stp g k a).testBit b else (g a).testBit b
def tbl35 (g : Nat→Nat) : Nat→Nat→Bool:=fun a b => (g a).testBit b
theorem stp_bit (g : Nat→Nat) (k i j : Nat) : (stp g k i).testBit j = ((g i).testBit j || (g i).testBit k && (g k).testBit j):=by
  unfold stp
  by_cases h : (g i).testBit k = true
  · simp [h,Nat.testBit_or]
  · simp [h]
theorem tpr_col (g : Nat→Nat) (k i j a : Nat) : tpr g k i j a k = (g a).testBit k:=by
  unfold tpr
  split
  · rw [stp_bit]; cases (g a).testBit k <;> simp
  · rfl
theorem tpr_row (g : Nat→Nat) (k i j b : Nat) : tpr g k i j k b = (g k).testBit b:=by
  unfold tpr
  split
  · rw [stp_bit]; cases (g k).testBit b <;> simp
  · rfl
theorem tpr_succ (g : Nat→Nat) (k i j : Nat) : tpr g k i (j + 1) = if ((g i).testBit k && (g k).testBit j) = true then updM (tpr g k i j) i j true else tpr g k i j:=by
  funext a b
  have hs:=stp_bit g k i j
  by_cases hab : a = i∧b = j
  · obtain ⟨rfl,rfl⟩:=hab
    have h1 : a < a ∨ (a = a∧b < b + 1):=by omega
    have h2 : ¬ (a < a ∨ (a = a∧b < b)):=by omega
    by_cases hc : ((g a).testBit k && (g k).testBit b) = true
    · rw [if_pos hc]
      simp only [tpr,if_pos h1,updM,hs,hc]
      simp
    · rw [if_neg hc]
      have hc' : ((g a).testBit k && (g k).testBit b) = false:=by simpa using hc
      simp only [tpr,hs,hc',Bool.or_false]
      split <;> split <;> rfl
  · have h1 : (a < i ∨ (a = i∧b < j + 1)) ↔ (a < i ∨ (a = i∧b < j)):=by omega
    split
    · simp only [updM,if_neg hab,tpr,h1]
    · simp only [tpr,h1]
theorem tpr_ext {g : Nat→Nat} {k i j i' j' : Nat} (h : ∀ a b,a < 24→b < 24→tpr g k i j a b = tpr g k i' j' a b) : mat 24 (tpr g k i j) = mat 24 (tpr g k i' j'):=mat_ext h
def Low (n : Nat) (g : Nat→Nat) : Prop:=∀ i j,n ≤ j→(g i).testBit j = false
def Lows (n : Nat) (g : Nat→Nat) : Prop:=Low n g∧∀ i,n ≤ i→g i = 0
theorem low_stp {n : Nat} {g : Nat→Nat} (h : Lows n g) (k : Nat) : Lows n (stp g k):=by
  refine ⟨fun i j hj => ?_,fun i hi => ?_⟩
  · rw [stp_bit,h.1 i j hj,h.1 k j hj]; simp
  · unfold stp; rw [h.2 i hi]; simp
theorem low_warr {n : Nat} {g : Nat→Nat} (h : Lows n g) (k : Nat) : Lows n (warr g k):=by
  induction k with
  | zero => exact h
  | succ k ih => exact low_stp ih k
theorem low_next {n : Nat} {a : NA} (hv : ∀ p ∈ a,p.1 < n∧p.2 < n) : Lows n (nextG a):=by
  suffices ∀ (a : NA) (g : Nat→Nat),(∀ p ∈ a,p.1 < n∧p.2 < n)→Lows n g→Lows n (a.foldl addArc g) from this a _ hv ⟨fun i j _ => by simp,fun i _ => rfl⟩
  intro a
  induction a with
  | nil => intro g _ h; exact h
  | cons p a ih =>
    intro g hv h
    obtain ⟨h1,h2⟩:=hv p (List.mem_cons_self ..)
    refine ih _ (fun q hq => hv q (List.mem_cons_of_mem _ hq)) ⟨fun i j hj => ?_,fun i hi => ?_⟩
    · unfold addArc updF
      split
      · rw [Nat.testBit_or,h.1 _ j hj,pw_bit]
        simp; omega
      · exact h.1 i j hj
    · unfold addArc updF
      rw [if_neg (by omega)]
      exact h.2 i hi
theorem tbl35_add (g : Nat→Nat) (f t : Nat) : tbl35 (addArc g (f,t)) = updM (tbl35 g) f t true:=by
  funext a b
  simp only [tbl35,addArc,updM,updF]
  by_cases h : a = f
  · subst h
    simp only [if_true,Nat.testBit_or,pw_bit,true_and]
    by_cases h2 : b = t
    · subst h2; simp
    · have : ¬ t = b:=fun e => h2 e.symm
      simp [h2,this]
  · simp [h]
def tabD (g : Nat→Nat) : D:=.nd .ag (gk eB (mat 24 (tbl35 g)))
theorem next_bit (a : NA) (i j : Nat) : (nextG a i).testBit j = a.contains (i,j):=by
  suffices ∀ (a : NA) (g : Nat→Nat),(a.foldl addArc g i).testBit j = ((g i).testBit j || a.contains (i,j)) by
    have:=this a fun _ => 0
    rw [Nat.zero_testBit,Bool.false_or] at this
    exact this
  intro a
  induction a with
  | nil => intro g; simp
  | cons p a ih =>
    intro g
    rw [List.foldl_cons,ih,List.contains_cons]
    obtain ⟨f,t⟩:=p
    simp only [addArc,updF]
    by_cases h : i = f
    · subst h
      rw [if_pos rfl,Nat.testBit_or,pw_bit]
      by_cases h2 : t = j
      · subst h2; simp
      · have h3 : ¬ j = t:=fun e => h2 e.symm
        have h4 : ((i,j) == (i,t)) = false:=by simp [h3]
        rw [h4]; simp [h2]
    · rw [if_neg h]
      have : ((i,j) == (f,t)) = false:=by simp [h]
      rw [this,Bool.false_or]
theorem warr_bit (g : Nat→Nat) (k i j : Nat) : (warr g (k + 1) i).testBit j = ((warr g k i).testBit j || (warr g k i).testBit k && (warr g k k).testBit j):=stp_bit (warr g k) k i j
theorem warr_mono (g : Nat→Nat) (k i j : Nat) (h : (g i).testBit j = true) : (warr g k i).testBit j = true:=by
  induction k with
  | zero => exact h
  | succ k ih => rw [warr_bit,ih]; rfl
theorem warr_trans (g : Nat→Nat) (k v i j : Nat) (hv : v < k) (h1 : (warr g k i).testBit v = true) (h2 : (warr g k v).testBit j = true) : (warr g k i).testBit j = true:=by
  induction k generalizing v i j with
  | zero => omega
  | succ k ih =>
    rw [warr_bit] at h1 h2 ⊢
    simp only [Bool.or_eq_true,Bool.and_eq_true] at *
    by_cases hk : v = k
    · subst hk
      have a1 : (warr g v i).testBit v = true:=by rcases h1 with h | ⟨h,_⟩ <;> exact h
      have a2 : (warr g v v).testBit j = true:=by rcases h2 with h | ⟨_,h⟩ <;> exact h
      exact Or.inr ⟨a1,a2⟩
    · have hv' : v < k:=by omega
      rcases h1 with h1 | ⟨h1,h3⟩ <;> rcases h2 with h2 | ⟨h2,h4⟩
      · exact Or.inl (ih v i j hv' h1 h2)
      · exact Or.inr ⟨ih v i k hv' h1 h2,h4⟩
      · exact Or.inr ⟨h1,ih v k j hv' h3 h2⟩
      · exact Or.inr ⟨h1,h4⟩
theorem warr_ind (g : Nat→Nat) (P : Nat→Nat→Prop) (h0 : ∀ i j,(g i).testBit j = true→P i j) (ht : ∀ i v j,P i v→P v j→P i j) (k i j : Nat) (h : (warr g k i).testBit j = true) : P i j:=by
  induction k generalizing i j with
  | zero => exact h0 i j h
  | succ k ih =>
    rw [warr_bit] at h
    simp only [Bool.or_eq_true,Bool.and_eq_true] at h
    rcases h with h | ⟨h1,h2⟩
    · exact ih i j h
    · exact ht i k j (ih i k h1) (ih k j h2)
def lexB (p q : Int × Int) : Prop:=p.1 < q.1 ∨ p.1 = q.1∧p.2 < q.2
def rowT (p : Nat→Nat→Bool) (i k : Nat) : List (Int × Int):=((List.range k).filter (p i)).map fun (j : Nat) => ((i : Int),(j : Int))
def arcP (n : Nat) (p : Nat→Nat→Bool) (k : Nat) : List (Int × Int):=(List.range k).flatMap fun i => rowT p i n
def arcL (n : Nat) (p : Nat→Nat→Bool) : List (Int × Int):=arcP n p n
theorem rowT_succ (p : Nat→Nat→Bool) (i k : Nat) : rowT p i (k + 1) = if p i k = true then rowT p i k ++ [((i : Int),(k : Int))] else rowT p i k:=by
  unfold rowT
  rw [List.range_succ,List.filter_append]
  by_cases h : p i k = true
  · rw [if_pos h]; simp [h]
  · rw [if_neg h]; simp [h]
theorem arcP_succ (n : Nat) (p : Nat→Nat→Bool) (k : Nat) : arcP n p (k + 1) = arcP n p k ++ rowT p k n:=by
  unfold arcP; rw [List.range_succ,List.flatMap_append]; simp
theorem mem_row {p : Nat→Nat→Bool} {i k : Nat} {x : Int × Int} : x ∈ rowT p i k ↔ ∃ j,j < k∧p i j = true∧x = ((i : Int),(j : Int)):=by
  unfold rowT
  constructor
  · intro h
    obtain ⟨j,hj,rfl⟩:=List.mem_map.1 h
    obtain ⟨h1,h2⟩:=List.mem_filter.1 hj
    exact ⟨j,List.mem_range.1 h1,h2,rfl⟩
  · rintro ⟨j,h1,h2,rfl⟩
    exact List.mem_map.2 ⟨j,List.mem_filter.2 ⟨List.mem_range.2 h1,h2⟩,rfl⟩
theorem mem_arcP {n : Nat} {p : Nat→Nat→Bool} {k : Nat} {x : Int × Int} : x ∈ arcP n p k ↔ ∃ i j,i < k∧j < n∧p i j = true∧x = ((i : Int),(j : Int)):=by
  unfold arcP
  rw [List.mem_flatMap]
  constructor
  · rintro ⟨i,hi,h⟩
    obtain ⟨j,h1,h2,h3⟩:=mem_row.1 h
    exact ⟨i,j,List.mem_range.1 hi,h1,h2,h3⟩
  · rintro ⟨i,j,h1,h2,h3,h4⟩
    exact ⟨i,List.mem_range.2 h1,mem_row.2 ⟨j,h2,h3,h4⟩⟩
theorem mem_arcL {n : Nat} {p : Nat→Nat→Bool} {x : Int × Int} : x ∈ arcL n p ↔ ∃ i j,i < n∧j < n∧p i j = true∧x = ((i : Int),(j : Int)):=mem_arcP
theorem rowT_len (p : Nat→Nat→Bool) (i k : Nat) : (rowT p i k).length ≤ k:=by
  unfold rowT
  rw [List.length_map]
  exact Nat.le_trans (List.length_filter_le _ _) (by simp)
theorem arcP_len (n : Nat) (p : Nat→Nat→Bool) : ∀ k,(arcP n p k).length ≤ k * n
  | 0 => by simp [arcP]
  | k + 1 => by
    rw [arcP_succ,List.length_append]
    have h1:=arcP_len n p k
    have h2:=rowT_len p k n
    rw [Nat.succ_mul]
    omega
theorem row_sorted (p : Nat→Nat→Bool) (i : Nat) : ∀ k,(rowT p i k).Pairwise lexB
  | 0 => by simp [rowT]
  | k + 1 => by
    rw [rowT_succ]
    split
    · rw [List.pairwise_append]
      refine ⟨row_sorted p i k,by simp,fun x hx y hy => ?_⟩
      obtain ⟨j,h1,_,rfl⟩:=mem_row.1 hx
      rw [List.mem_singleton.1 hy]
      unfold lexB
      dsimp only
      omega
    · exact row_sorted p i k
theorem arcP_sorted (n : Nat) (p : Nat→Nat→Bool) : ∀ k,(arcP n p k).Pairwise lexB
  | 0 => by simp [arcP]
  | k + 1 => by
    rw [arcP_succ,List.pairwise_append]
    refine ⟨arcP_sorted n p k,row_sorted p k n,fun x hx y hy => ?_⟩
    obtain ⟨i,j,h1,_,_,rfl⟩:=mem_arcP.1 hx
    obtain ⟨j',_,_,rfl⟩:=mem_row.1 hy
    unfold lexB
    dsimp only
    omega
theorem valid_of {n : Nat} (hn : n ≤ 24) {a : List (Int × Int)} (hs : a.Pairwise lexB) (hm : ∀ x ∈ a,0 ≤ x.1∧x.1 < n∧0 ≤ x.2∧x.2 < n∧x.1 ≠ x.2) : validB (n : Int) a = true:=by
  unfold validB
  have h1 : decide (0 ≤ (n : Int)) = true:=by simp
  have h2 : decide ((n : Int) ≤ 24) = true:=by simp; omega
  rw [h1,h2,Bool.true_and,Bool.true_and,Bool.not_eq_true',any_range]
  intro i hi
  obtain ⟨g1,g2,g3,g4,g5⟩:=hm _ (nth_mem (0,0) hi)
  rw [Bool.not_eq_false']
  unfold okA
  dsimp only
  have e1 : (i == 0 || !(decide ((nth a (0,0) i).1 < (nth a (0,0) (i - 1)).1) || ((nth a (0,0) i).1 == (nth a (0,0) (i - 1)).1) && decide ((nth a (0,0) i).2 ≤ (nth a (0,0) (i - 1)).2))) = true:=by
    by_cases h0 : i = 0
    · simp [h0]
    · have:=(List.pairwise_iff_getElem.1 hs) (i - 1) i (by omega) hi (by omega)
      rw [← nth_get (0,0) (by omega),← nth_get (0,0) hi] at this
      unfold lexB at this
      generalize nth a (0,0) i = x at *
      generalize nth a (0,0) (i - 1) = y at *
      simp only [Bool.or_eq_true,beq_iff_eq,Bool.not_eq_true',Bool.or_eq_false_iff,decide_eq_false_iff_not,Bool.and_eq_false_iff,beq_eq_false_iff_ne]
      right
      omega
  rw [e1]
  simp [g1,g2,g3,g4,g5]
theorem arcL_valid {n : Nat} (hn : n ≤ 24) {p : Nat→Nat→Bool} (hp : ∀ i,i < n→p i i = false) : validB (n : Int) (arcL n p) = true:=by
  refine valid_of hn (arcP_sorted n p n) fun x hx => ?_
  obtain ⟨i,j,h1,h2,h3,rfl⟩:=mem_arcL.1 hx
  have : i ≠ j:=by rintro rfl; rw [hp i h1] at h3; cases h3
  dsimp only
  omega
theorem nat_mem {a : List (Int × Int)} {n : Nat} (h : ∀ x ∈ a,0 ≤ x.1∧0 ≤ x.2) {i j : Nat} : (i,j) ∈ natA a ↔ ((i : Int),(j : Int)) ∈ a:=by
  unfold natA
  rw [List.mem_map]
  constructor
  · rintro ⟨x,hx,e⟩
    obtain ⟨h1,h2⟩:=h x hx
    have e1 : x.1.toNat = i:=congrArg Prod.fst e
    have e2 : x.2.toNat = j:=congrArg Prod.snd e
    have : x = ((i : Int),(j : Int)):=by ext <;> dsimp only <;> omega
    rwa [← this]
  · intro hx
    exact ⟨_,hx,rfl⟩
theorem arcL_bit {n : Nat} {p : Nat→Nat→Bool} (i j : Nat) : (nextG (natA (arcL n p)) i).testBit j = (decide (i < n) && decide (j < n) && p i j):=by
  rw [next_bit]
  have h:=nat_mem (n:=n) (a:=arcL n p) (fun x hx => by obtain ⟨i,j,_,_,_,rfl⟩:=mem_arcL.1 hx; dsimp only; omega) (i:=i) (j:=j)
  rw [mem_arcL] at h
  rw [Bool.eq_iff_iff,List.contains_iff_mem,h]
  simp only [Bool.and_eq_true,decide_eq_true_eq]
  constructor
  · rintro ⟨i',j',h1,h2,h3,e⟩
    have e1 : (i : Int) = i':=congrArg Prod.fst e
    have e2 : (j : Int) = j':=congrArg Prod.snd e
    obtain rfl : i = i':=by omega
    obtain rfl : j = j':=by omega
    exact ⟨⟨h1,h2⟩,h3⟩
  · rintro ⟨⟨h1,h2⟩,h3⟩
    exact ⟨i,j,h1,h2,h3,rfl⟩
section
variable {n : Nat} {g : Nat→Nat}
def Rr (g : Nat→Nat) (n : Nat) (i j : Nat) : Bool:=(warr g n i).testBit j
theorem Rr_lt (hg : ∀ i j,(g i).testBit j = true→i < n∧j < n) {i j : Nat} (h : Rr g n i j = true) : i < n∧j < n :=
  warr_ind g (fun i j => i < n∧j < n) hg (fun i v j h1 h2 => ⟨h1.1,h2.2⟩) n i j h
theorem Rr_trans (hg : ∀ i j,(g i).testBit j = true→i < n∧j < n) {i v j : Nat} (h1 : Rr g n i v = true) (h2 : Rr g n v j = true) : Rr g n i j = true :=
  warr_trans g n v i j (Rr_lt hg h1).2 h1 h2
theorem filter_lt {α : Type} {p q : α→Bool} : ∀ (l : List α),(∀ x ∈ l,p x = true→q x = true)→(∃ x ∈ l,p x = false∧q x = true)→(l.filter p).length < (l.filter q).length
  | [],_,⟨x,hx,_⟩ => by cases hx
  | y :: l,h,⟨x,hx,h1,h2⟩ => by
    have hle : ∀ l : List α,(∀ x ∈ l,p x = true→q x = true)→(l.filter p).length ≤ (l.filter q).length:=by
      intro l
      induction l with
      | nil => intro _; exact Nat.le_refl _
      | cons z l ih =>
        intro h
        have:=ih fun x hx => h x (List.mem_cons_of_mem _ hx)
        have hz:=h z (List.mem_cons_self ..)
        rw [List.filter_cons,List.filter_cons]
        by_cases hp : p z = true
        · rw [if_pos hp,if_pos (hz hp)]; simpa using this
        · rw [if_neg hp]
          split
          · rw [List.length_cons]; omega
          · exact this
    have ht:=hle l fun x hx => h x (List.mem_cons_of_mem _ hx)
    rw [List.filter_cons,List.filter_cons]
    rcases List.mem_cons.1 hx with rfl | hx
    · rw [h1,h2]
      simp only [Bool.false_eq_true,if_false,if_true,List.length_cons]
      omega
    · have:=filter_lt l (fun x hx => h x (List.mem_cons_of_mem _ hx)) ⟨x,hx,h1,h2⟩
      by_cases hp : p y = true
      · rw [if_pos hp,if_pos (h y (List.mem_cons_self ..) hp)]; simpa using this
      · rw [if_neg hp]
        split
        · rw [List.length_cons]; omega
        · exact this
end
end Go.Mx
namespace Go.Mx
set_option linter.unusedVariables false
set_option linter.unusedSimpArgs false
set_option linter.unusedSectionVars false
open Go
theorem nod_sub : ∀ (l m : List Nat),l.Nodup→(∀ x ∈ l,x ∈ m)→l.length ≤ m.length
  | [],m,_,_ => by simp
  | x :: l,m,hn,hs => by
    obtain ⟨hx,hn⟩:=List.nodup_cons.1 hn
    have hm:=hs x (List.mem_cons_self ..)
    have:=nod_sub l (m.erase x) hn (fun y hy => by
      have : y ≠ x:=fun e => hx (e ▸ hy)
      exact (List.mem_erase_of_ne this).2 (hs y (List.mem_cons_of_mem _ hy)))
    rw [List.length_erase_of_mem hm] at this
    have hp : 0 < m.length:=List.length_pos_of_mem hm
    simp only [List.length_cons]
    omega
theorem nd_map {f : Nat→Nat} : ∀ {l : List Nat},l.Nodup→(∀ x ∈ l,∀ y ∈ l,f x = f y→x = y)→(l.map f).Nodup
  | [],_,_ => by simp
  | a :: l,h,hf => by
    obtain ⟨h1,h2⟩:=List.nodup_cons.1 h
    rw [List.map_cons,List.nodup_cons]
    refine ⟨fun hm => ?_,nd_map h2 fun x hx y hy => hf x (List.mem_cons_of_mem _ hx) y (List.mem_cons_of_mem _ hy)⟩
    obtain ⟨y,hy,e⟩:=List.mem_map.1 hm
    have:=hf a (List.mem_cons_self ..) y (List.mem_cons_of_mem _ hy) e.symm
    exact h1 (this ▸ hy)
theorem nod_filter {l : List Nat} (p : Nat→Bool) (h : l.Nodup) : (l.filter p).Nodup:=List.Pairwise.sublist List.filter_sublist h
theorem filt_split {α : Type} (p : α→Bool) : ∀ l : List α,(l.filter p).length + (l.filter fun x => !p x).length = l.length
  | [] => rfl
  | a :: l => by
    have:=filt_split p l
    cases h : p a <;> simp [List.filter_cons,h] <;> omega
open Classical in
theorem konig (n : Nat) (R : Nat→Nat→Prop) (m : Nat→Option Nat) (AA TT : Nat→Prop) (hm : ∀ u v,m u = some v→u < n∧v < n)
    (h1 : ∀ v,v < n→(∀ u,m u ≠ some v)→AA v) (h2 : ∀ x u,AA x→x < n→u < n→R x u→TT u) (h3 : ∀ u,TT u→∃ x,m u = some x∧AA x) :
    ∃ S : List Nat,S.Nodup∧(∀ v ∈ S,v < n)∧(∀ v ∈ S,∀ w ∈ S,¬ R v w)∧n ≤ S.length + ((List.range n).filter fun u => (m u).isSome).length:=by
  refine ⟨(List.range n).filter fun v => decide (AA v∧¬ TT v),nod_filter _ List.nodup_range,fun v hv => List.mem_range.1 (List.mem_filter.1 hv).1,fun v hv w hw hr => ?_,?_⟩
  · obtain ⟨a1,a2⟩:=List.mem_filter.1 hv
    obtain ⟨b1,b2⟩:=List.mem_filter.1 hw
    have a3:=of_decide_eq_true a2
    have b3:=of_decide_eq_true b2
    exact b3.2 (h2 v w a3.1 (List.mem_range.1 a1) (List.mem_range.1 b1) hr)
  · have hs:=filt_split (fun v => decide (AA v∧¬ TT v)) (List.range n)
    rw [List.length_range] at hs
    have hpart : ∀ v,v < n→¬ AA v→∃ u,m u = some v:=fun v hv ha => by
      by_cases h : ∃ u,m u = some v
      · exact h
      · exact absurd (h1 v hv fun u hu => h ⟨u,hu⟩) ha
    let g : Nat→Nat:=fun v => if TT v then v else if h : ∃ u,m u = some v then h.choose else v
    have hg : ∀ v,v ∈ (List.range n).filter (fun x => !decide (AA x∧¬ TT x))→(TT v∧g v = v) ∨ (¬ TT v∧¬ AA v∧m (g v) = some v):=by
      intro v hv
      obtain ⟨a1,a2⟩:=List.mem_filter.1 hv
      simp only [Bool.not_eq_true',decide_eq_false_iff_not,not_and,Classical.not_not] at a2
      by_cases ht : TT v
      · left; exact ⟨ht,by simp [g,ht]⟩
      · right
        have ha : ¬ AA v:=fun h => ht (a2 h)
        have he:=hpart v (List.mem_range.1 a1) ha
        refine ⟨ht,ha,?_⟩
        have : g v = he.choose:=by simp [g,ht,he]
        rw [this]
        exact he.choose_spec
    have hnd : (((List.range n).filter fun x => !decide (AA x∧¬ TT x)).map g).Nodup:=by
      refine nd_map (nod_filter _ List.nodup_range) fun x hx y hy e => ?_
      rcases hg x hx with ⟨x1,x2⟩ | ⟨x1,x2,x3⟩ <;> rcases hg y hy with ⟨y1,y2⟩ | ⟨y1,y2,y3⟩
      · rw [x2,y2] at e; exact e
      · rw [x2] at e
        obtain ⟨z,z1,z2⟩:=h3 x x1
        rw [← e,z1] at y3
        cases y3
        exact absurd z2 y2
      · rw [y2] at e
        obtain ⟨z,z1,z2⟩:=h3 y y1
        rw [e,z1] at x3
        cases x3
        exact absurd z2 x2
      · rw [e,y3] at x3
        cases x3
        rfl
    have hle:=nod_sub _ ((List.range n).filter fun u => (m u).isSome) hnd (fun x hx => by
      obtain ⟨v,hv,rfl⟩:=List.mem_map.1 hx
      rw [List.mem_filter,List.mem_range]
      rcases hg v hv with ⟨x1,x2⟩ | ⟨x1,x2,x3⟩
      · obtain ⟨z,z1,z2⟩:=h3 v x1
        rw [x2,z1]
        exact ⟨(hm _ _ z1).1,rfl⟩
      · rw [x3]
        exact ⟨(hm _ _ x3).1,rfl⟩)
    rw [List.length_map] at hle
    omega
end Go.Mx
namespace Go.Mx
set_option linter.unusedVariables false
set_option linter.unusedSimpArgs false
set_option linter.unusedSectionVars false
open Go
structure FS where
  ld : Nat→Option Nat
  tr : Nat→Bool
def trB (t : Nat→Bool) (u : Nat) : Nat→Bool:=fun x => x == u || t x
def ldB (l : Nat→Option Nat) (u v : Nat) : Nat→Option Nat:=fun x => if x = u then some v else l x
def folIn (rec : Nat→FS→Bool × FS) (R : Nat→Nat→Bool) (n v : Nat) : Nat→FS→Bool × FS
  | 0,s => (false,s)
  | k + 1,s =>
    if !R v (n - (k + 1)) || s.tr (n - (k + 1)) then folIn rec R n v k s
    else match s.ld (n - (k + 1)) with
      | none => (true,⟨ldB s.ld (n - (k + 1)) v,trB s.tr (n - (k + 1))⟩)
      | some x => match rec x ⟨s.ld,trB s.tr (n - (k + 1))⟩ with
        | (true,s2) => (true,⟨ldB s2.ld (n - (k + 1)) v,s2.tr⟩)
        | (false,s2) => folIn rec R n v k s2
def fol (R : Nat→Nat→Bool) (n : Nat) : Nat→Nat→FS→Bool × FS
  | 0,_,s => (false,s)
  | f + 1,v,s => folIn (fol R n f) R n v n s
def untr (n : Nat) (t : Nat→Bool) : Nat:=((List.range n).filter fun u => !t u).length
theorem untr_mono {n : Nat} {t t' : Nat→Bool} (h : ∀ u,t u = true→t' u = true) : untr n t' ≤ untr n t:=by
  unfold untr
  induction List.range n with
  | nil => exact Nat.le_refl _
  | cons a l ih =>
    rw [List.filter_cons,List.filter_cons]
    cases h1 : t a
    · cases h2 : t' a <;> simp <;> omega
    · rw [h a h1]; simpa using ih
theorem untr_lt {n : Nat} {t : Nat→Bool} {u : Nat} (hu : u < n) (h : t u = false) : untr n (trB t u) < untr n t:=by
  unfold untr
  have key : ∀ l : List Nat,u ∈ l→(l.filter fun x => !trB t u x).length < (l.filter fun x => !t x).length:=by
    intro l
    induction l with
    | nil => intro h; cases h
    | cons a l ih =>
      intro hm
      have hle : ∀ l : List Nat,(l.filter fun x => !trB t u x).length ≤ (l.filter fun x => !t x).length:=by
        intro l
        induction l with
        | nil => exact Nat.le_refl _
        | cons b l ih2 =>
          rw [List.filter_cons,List.filter_cons]
          unfold trB at *
          cases h1 : t b <;> by_cases h2 : b = u <;> simp [h2] at * <;> omega
      rw [List.filter_cons,List.filter_cons]
      by_cases ha : a = u
      · subst ha
        have e1 : (!trB t a a) = false:=by simp [trB]
        rw [e1,h]
        have:=hle l
        simp
        omega
      · have hm' : u ∈ l:=by
          rcases List.mem_cons.1 hm with h | h
          · exact absurd h.symm ha
          · exact h
        have:=ih hm'
        have e1 : trB t u a = t a:=by simp [trB,ha]
        rw [e1]
        cases t a <;> simp <;> omega
  exact key _ (List.mem_range.2 hu)
structure Fails (R : Nat→Nat→Bool) (n : Nat) (s s' : FS) (A : Nat→Prop) : Prop where
  ld : s'.ld = s.ld
  mono : ∀ u,s.tr u = true→s'.tr u = true
  out : ∀ x u,A x→u < n→R x u = true→s'.tr u = true
  back : ∀ u,s'.tr u = true→s.tr u = true ∨ (u < n∧∃ x,s.ld u = some x∧A x)
theorem folIn_fail {rec : Nat→FS→Bool × FS} {R : Nat→Nat→Bool} {n v c : Nat} (hrec : ∀ x s s',untr n s.tr < c→rec x s = (false,s')→∃ A,A x∧Fails R n s s' A) :
    ∀ (k : Nat) (s s' : FS),k ≤ n→untr n s.tr ≤ c→folIn rec R n v k s = (false,s')→∃ A,Fails R n s s' A∧∀ u,n - k ≤ u→u < n→R v u = true→s'.tr u = true
  | 0,s,s',_,_,h => by
    simp only [folIn,Prod.mk.injEq,true_and] at h
    subst h
    exact ⟨fun _ => False,⟨rfl,fun _ h => h,fun _ _ h => h.elim,fun _ h => .inl h⟩,fun u h1 h2 => by omega⟩
  | k + 1,s,s',hk,hc,h => by
    simp only [folIn] at h
    by_cases hb : (!R v (n - (k + 1)) || s.tr (n - (k + 1))) = true
    · rw [if_pos hb] at h
      obtain ⟨A,h1,h2⟩:=folIn_fail hrec k s s' (by omega) hc h
      refine ⟨A,h1,fun u g1 g2 g3 => ?_⟩
      by_cases hu : u = n - (k + 1)
      · subst hu
        rw [g3] at hb
        exact h1.mono _ (by simpa using hb)
      · exact h2 u (by omega) g2 g3
    · rw [if_neg hb] at h
      have hun : n - (k + 1) < n:=by omega
      have ht : s.tr (n - (k + 1)) = false:=by
        cases hh : s.tr (n - (k + 1)) with
        | false => rfl
        | true => rw [hh] at hb; simp at hb
      cases hl : s.ld (n - (k + 1)) with
      | none => rw [hl] at h; simp at h
      | some x =>
        rw [hl] at h
        dsimp only at h
        cases hr : rec x ⟨s.ld,trB s.tr (n - (k + 1))⟩ with
        | mk b s2 =>
          rw [hr] at h
          cases b with
          | true => simp at h
          | false =>
            dsimp only at h
            have hlt:=untr_lt hun ht
            obtain ⟨A1,a1,a2⟩:=hrec x _ s2 (show untr n (trB s.tr (n - (k + 1))) < c by omega) hr
            have hm1 : ∀ u,s.tr u = true→s2.tr u = true:=fun u hu => a2.mono u (by simp [trB,hu])
            obtain ⟨A2,b1,b2⟩:=folIn_fail hrec k s2 s' (by omega) (Nat.le_trans (untr_mono hm1) hc) h
            have hld : s2.ld = s.ld:=a2.ld
            refine ⟨fun y => A1 y ∨ A2 y,⟨b1.ld.trans hld,fun u hu => b1.mono u (hm1 u hu),fun y u hy hu hR => ?_,fun u hu => ?_⟩,fun u g1 g2 g3 => ?_⟩
            · rcases hy with hy | hy
              · exact b1.mono u (a2.out y u hy hu hR)
              · exact b1.out y u hy hu hR
            · rcases b1.back u hu with h1 | ⟨h1,y,h2,h3⟩
              · rcases a2.back u h1 with h4 | ⟨h4,y,h5,h6⟩
                · by_cases hu : u = n - (k + 1)
                  · subst hu; exact .inr ⟨hun,x,hl,.inl a1⟩
                  · left
                    have : trB s.tr (n - (k + 1)) u = s.tr u:=by simp [trB,hu]
                    rw [← this]; exact h4
                · exact .inr ⟨h4,y,h5,.inl h6⟩
              · exact .inr ⟨h1,y,by rw [← hld]; exact h2,.inr h3⟩
            · by_cases hu : u = n - (k + 1)
              · subst hu
                exact b1.mono _ (a2.mono _ (by simp [trB]))
              · exact b2 u (by omega) g2 g3
theorem fol_fail (R : Nat→Nat→Bool) (n : Nat) : ∀ (f v : Nat) (s s' : FS),untr n s.tr < f→fol R n f v s = (false,s')→∃ A,A v∧Fails R n s s' A
  | 0,v,s,s',h,_ => by omega
  | f + 1,v,s,s',hf,h => by
    obtain ⟨A,h1,h2⟩:=folIn_fail (c:=f) (fun x s s' hc hr => fol_fail R n f x s s' hc hr) n s s' (Nat.le_refl _) (by omega) h
    refine ⟨fun y => y = v ∨ A y,.inl rfl,h1.ld,h1.mono,fun x u hx hu hR => ?_,fun u hu => ?_⟩
    · rcases hx with rfl | hx
      · exact h2 u (by omega) hu hR
      · exact h1.out x u hx hu hR
    · rcases h1.back u hu with h3 | ⟨h3,y,h4,h5⟩
      · exact .inl h3
      · exact .inr ⟨h3,y,h4,.inr h5⟩
end Go.Mx
namespace Go.Mx
set_option linter.unusedVariables false
set_option linter.unusedSimpArgs false
set_option linter.unusedSectionVars false
open Go
structure Typ (R : Nat→Nat→Bool) (n : Nat) (l : Nat→Option Nat) : Prop where
  typ : ∀ u x,l u = some x→u < n∧x < n∧R x u = true
  inj : ∀ u u' x,l u = some x→l u' = some x→u = u'
structure Succs (R : Nat→Nat→Bool) (n v : Nat) (s s' : FS) : Prop where
  keep : ∀ w,s.tr w = true→s'.ld w = s.ld w
  typ : ∀ u x,s'.ld u = some x→u < n∧x < n∧R x u = true
  lef : ∀ x,(∃ u,s'.ld u = some x)→(∃ u,s.ld u = some x) ∨ x = v
  lef' : ∀ x,(∃ u,s.ld u = some x)→∃ u,s'.ld u = some x
  has : ∃ u,s.tr u = false∧s'.ld u = some v
  new : ∃ u,u < n∧s.ld u = none∧∀ w,(s'.ld w).isSome = ((s.ld w).isSome || w == u)
  inj : ∀ u u' x,s'.ld u = some x→s'.ld u' = some x→u = u' ∨ (x = v∧(s.tr u = true ∨ s.tr u' = true))
theorem folIn_succ {rec : Nat→FS→Bool × FS} {R : Nat→Nat→Bool} {n v c : Nat} (hvn : v < n)
    (hf : ∀ x s s',untr n s.tr < c→rec x s = (false,s')→∃ A,A x∧Fails R n s s' A)
    (hs : ∀ x s s',untr n s.tr < c→x < n→Typ R n s.ld→(∀ u,s.ld u = some x→s.tr u = true)→rec x s = (true,s')→Succs R n x s s') :
    ∀ (k : Nat) (s s' : FS),k ≤ n→untr n s.tr ≤ c→Typ R n s.ld→(∀ u,s.ld u = some v→s.tr u = true)→folIn rec R n v k s = (true,s')→Succs R n v s s'
  | 0,s,s',_,_,_,_,h => by simp [folIn] at h
  | k + 1,s,s',hk,hc,ht,hv,h => by
    simp only [folIn] at h
    by_cases hb : (!R v (n - (k + 1)) || s.tr (n - (k + 1))) = true
    · rw [if_pos hb] at h
      exact folIn_succ hvn hf hs k s s' (by omega) hc ht hv h
    · rw [if_neg hb] at h
      have hun : n - (k + 1) < n:=by omega
      have hR : R v (n - (k + 1)) = true:=by
        cases hh : R v (n - (k + 1)) with
        | true => rfl
        | false => rw [hh] at hb; simp at hb
      have htr : s.tr (n - (k + 1)) = false:=by
        cases hh : s.tr (n - (k + 1)) with
        | false => rfl
        | true => rw [hh] at hb; simp at hb
      generalize n - (k + 1) = u0 at *
      have hne : ∀ w,s.tr w = true→w ≠ u0:=fun w hw e => by rw [e,htr] at hw; cases hw
      cases hl : s.ld u0 with
      | none =>
        rw [hl] at h
        simp only [Prod.mk.injEq,true_and] at h
        subst h
        refine ⟨fun w hw => by simp [ldB,hne w hw],fun u x hx => ?_,fun x ⟨u,hu⟩ => ?_,fun x ⟨u,hu⟩ => ?_,⟨u0,htr,by simp [ldB]⟩,⟨u0,hun,hl,fun w => ?_⟩,fun u u' x h1 h2 => ?_⟩
        · simp only [ldB] at hx
          split at hx
          · rename_i e; subst e; cases hx; exact ⟨hun,hvn,hR⟩
          · exact ht.typ u x hx
        · simp only [ldB] at hu
          split at hu
          · cases hu; exact .inr rfl
          · exact .inl ⟨u,hu⟩
        · refine ⟨u,?_⟩
          have : u ≠ u0:=by rintro rfl; rw [hl] at hu; cases hu
          simp [ldB,this,hu]
        · by_cases e : w = u0
          · subst e; simp [ldB]
          · simp [ldB,e]
        · simp only [ldB] at h1 h2
          split at h1 <;> split at h2
          · rename_i a b; exact .inl (a.trans b.symm)
          · cases h1; exact .inr ⟨rfl,.inr (hv u' h2)⟩
          · cases h2; exact .inr ⟨rfl,.inl (hv u h1)⟩
          · exact .inl (ht.inj u u' x h1 h2)
      | some x =>
        rw [hl] at h
        dsimp only at h
        have hlt:=untr_lt hun htr
        have hxn : x < n:=(ht.typ _ _ hl).2.1
        cases hr : rec x ⟨s.ld,trB s.tr u0⟩ with
        | mk b s2 =>
          rw [hr] at h
          have hm : ∀ w,s.tr w = true→(trB s.tr u0) w = true:=fun w hw => by simp [trB,hw]
          cases b with
          | false =>
            dsimp only at h
            obtain ⟨A,a1,a2⟩:=hf x _ s2 (show untr n (trB s.tr u0) < c by omega) hr
            have hld : s2.ld = s.ld:=a2.ld
            have hmono : ∀ w,s.tr w = true→s2.tr w = true:=fun w hw => a2.mono w (hm w hw)
            have r:=folIn_succ hvn hf hs k s2 s' (by omega) (Nat.le_trans (untr_mono hmono) hc) (by rw [hld]; exact ht) (fun w hw => hmono w (hv w (by rw [← hld]; exact hw))) h
            have back : ∀ w,s2.tr w = true→s'.ld w = some v→s.tr w = true:=fun w h1 h2 => hv w (by rw [← hld,← r.keep w h1]; exact h2)
            refine ⟨fun w hw => by rw [r.keep w (hmono w hw),hld],r.typ,fun y hy => by rw [← hld]; exact r.lef y hy,fun y hy => r.lef' y (by rw [hld]; exact hy),?_,?_,fun w w' y h1 h2 => ?_⟩
            · obtain ⟨w,h1,h2⟩:=r.has
              refine ⟨w,?_,h2⟩
              cases hh : s.tr w with
              | false => rfl
              | true => rw [hmono w hh] at h1; cases h1
            · obtain ⟨w,h1,h2,h3⟩:=r.new
              rw [hld] at h2 h3
              exact ⟨w,h1,h2,h3⟩
            · rcases r.inj w w' y h1 h2 with h3 | ⟨rfl,h3 | h3⟩
              · exact .inl h3
              · exact .inr ⟨rfl,.inl (back w h3 h1)⟩
              · exact .inr ⟨rfl,.inr (back w' h3 h2)⟩
          | true =>
            simp only [Prod.mk.injEq,true_and] at h
            subst h
            have hxv : x ≠ v:=by rintro rfl; have:=hv u0 hl; rw [htr] at this; cases this
            have r:=hs x ⟨s.ld,trB s.tr u0⟩ s2 (show untr n (trB s.tr u0) < c by omega) hxn ht (fun w hw => by
              have : w = u0:=ht.inj w u0 x hw hl
              simp [trB,this]) hr
            have hu0 : s2.ld u0 = some x:=by rw [r.keep u0 (by simp [trB])]; exact hl
            have tr1 : ∀ w,w ≠ u0→(trB s.tr u0) w = s.tr w:=fun w hw => by simp [trB,hw]
            refine ⟨fun w hw => ?_,fun w y hy => ?_,fun y ⟨w,hw⟩ => ?_,fun y ⟨w,hw⟩ => ?_,⟨u0,htr,by simp [ldB]⟩,?_,fun w w' y h1 h2 => ?_⟩
            · simp only [ldB,if_neg (hne w hw)]
              exact r.keep w (hm w hw)
            · simp only [ldB] at hy
              split at hy
              · rename_i e; subst e; cases hy; exact ⟨hun,hvn,hR⟩
              · exact r.typ w y hy
            · simp only [ldB] at hw
              split at hw
              · cases hw; exact .inr rfl
              · rcases r.lef y ⟨w,hw⟩ with h1 | rfl
                · exact .inl h1
                · exact .inl ⟨u0,hl⟩
            · obtain ⟨w2,h2⟩:=r.lef' y ⟨w,hw⟩
              by_cases e : w2 = u0
              · subst e
                rw [hu0] at h2
                cases h2
                obtain ⟨w3,h3,h4⟩:=r.has
                have : w3 ≠ w2:=by rintro rfl; simp [trB] at h3
                exact ⟨w3,by simp [ldB,this,h4]⟩
              · exact ⟨w2,by simp [ldB,e,h2]⟩
            · obtain ⟨w,h1,h2,h3⟩:=r.new
              refine ⟨w,h1,h2,fun z => ?_⟩
              by_cases e : z = u0
              · subst e
                simp [ldB,hl]
              · simp only [ldB,if_neg e]
                exact h3 z
            · simp only [ldB] at h1 h2
              have side : ∀ z,z ≠ u0→s2.ld z = some v→s.tr z = true:=by
                intro z hz hzv
                rcases r.lef v ⟨z,hzv⟩ with ⟨q,hq⟩ | h4
                · have hq : s.ld q = some v:=hq
                  have hqt:=hv q hq
                  have hq2 : s2.ld q = some v:=by rw [r.keep q (hm q hqt)]; exact hq
                  rcases r.inj q z v hq2 hzv with h5 | ⟨h5,_⟩
                  · rw [← h5]; exact hqt
                  · exact absurd h5.symm hxv
                · exact absurd h4.symm hxv
              split at h1 <;> split at h2
              · rename_i a b; exact .inl (a.trans b.symm)
              · rename_i a b; cases h1; exact .inr ⟨rfl,.inr (side w' b h2)⟩
              · rename_i a b; cases h2; exact .inr ⟨rfl,.inl (side w a h1)⟩
              · rename_i a b
                rcases r.inj w w' y h1 h2 with h3 | ⟨rfl,h3 | h3⟩
                · exact .inl h3
                · have : s.ld w = some y:=by rw [← r.keep w h3]; exact h1
                  exact absurd (ht.inj w u0 y this hl) a
                · have : s.ld w' = some y:=by rw [← r.keep w' h3]; exact h2
                  exact absurd (ht.inj w' u0 y this hl) b
theorem fol_succ (R : Nat→Nat→Bool) (n : Nat) : ∀ (f v : Nat) (s s' : FS),untr n s.tr < f→v < n→Typ R n s.ld→(∀ u,s.ld u = some v→s.tr u = true)→fol R n f v s = (true,s')→Succs R n v s s'
  | 0,v,s,s',h,_,_,_,_ => by omega
  | f + 1,v,s,s',hf,hvn,ht,hv,h =>
    folIn_succ (c:=f) hvn (fun x s s' hc hr => fol_fail R n f x s s' hc hr) (fun x s s' hc hx ht hv hr => fol_succ R n f x s s' hc hx ht hv hr) n s s' (Nat.le_refl _) (by omega) ht hv h
end Go.Mx
namespace Go.Mx
set_option linter.unusedVariables false
set_option linter.unusedSimpArgs false
set_option linter.unusedSectionVars false
open Go
theorem nod_all {l m : List Nat} (hl : l.Nodup) (hs : ∀ x ∈ l,x ∈ m) (hlen : m.length ≤ l.length) : ∀ x ∈ m,x ∈ l:=by
  intro x hx
  by_cases h : x ∈ l
  · exact h
  · have:=nod_sub (x :: l) m (List.nodup_cons.2 ⟨h,hl⟩) (fun y hy => by
      rcases List.mem_cons.1 hy with rfl | hy
      · exact hx
      · exact hs y hy)
    simp only [List.length_cons] at this
    omega
structure Cert (R : Nat→Nat→Bool) (n : Nat) (l : Nat→Option Nat) (v : Nat) (A T : Nat→Prop) : Prop where
  me : A v
  out : ∀ x u,A x→u < n→R x u = true→T u
  back : ∀ u,T u→u < n∧∃ x,l u = some x∧A x
open Classical in
theorem Cert.keeps {R : Nat→Nat→Bool} {n v : Nat} {l l' : Nat→Option Nat} {A T : Nat→Prop} (h : Cert R n l v A T) (ht : Typ R n l) (ht' : Typ R n l')
    (lef : ∀ x,(∃ u,l u = some x)→∃ u,l' u = some x) : Cert R n l' v A T:=by
  refine ⟨h.me,h.out,fun u hu => ?_⟩
  refine ⟨(h.back u hu).1,?_⟩
  have hx : ∀ u,T u→∃ x u',l u = some x∧A x∧l' u' = some x∧T u':=by
    intro u hu
    obtain ⟨_,x,h1,h2⟩:=h.back u hu
    obtain ⟨u',h3⟩:=lef x ⟨u,h1⟩
    obtain ⟨g1,_,g2⟩:=ht'.typ u' x h3
    exact ⟨x,u',h1,h2,h3,h.out x u' h2 g1 g2⟩
  let φ : Nat→Nat:=fun u => if hu : T u then (hx u hu).choose_spec.choose else u
  have hφ : ∀ u,T u→∃ x,l u = some x∧A x∧l' (φ u) = some x∧T (φ u):=by
    intro u hu
    refine ⟨(hx u hu).choose,?_⟩
    have:=(hx u hu).choose_spec.choose_spec
    simp only [φ,dif_pos hu]
    exact this
  let L:=(List.range n).filter fun u => decide (T u)
  have hL : L.Nodup:=nod_filter _ List.nodup_range
  have mem : ∀ u,u ∈ L ↔ T u:=by
    intro u
    simp only [L,List.mem_filter,List.mem_range,decide_eq_true_eq]
    exact ⟨fun h => h.2,fun hu => ⟨(h.back u hu).1,hu⟩⟩
  have hnd : (L.map φ).Nodup:=nd_map hL fun x hx y hy e => by
    obtain ⟨a,a1,_,a3,_⟩:=hφ x ((mem x).1 hx)
    obtain ⟨b,b1,_,b3,_⟩:=hφ y ((mem y).1 hy)
    rw [e,b3] at a3
    cases a3
    exact ht.inj x y _ a1 b1
  have hall:=nod_all hnd (fun x hx => by
    obtain ⟨u,hu,rfl⟩:=List.mem_map.1 hx
    obtain ⟨_,_,_,_,h4⟩:=hφ u ((mem u).1 hu)
    exact (mem _).2 h4) (by simp) u ((mem u).2 hu)
  obtain ⟨w,hw,rfl⟩:=List.mem_map.1 hall
  obtain ⟨x,_,h2,h3,_⟩:=hφ w ((mem w).1 hw)
  exact ⟨x,h3,h2⟩
def kuh (R : Nat→Nat→Bool) (n : Nat) : Nat→Nat→Option Nat
  | 0 => fun _ => none
  | v + 1 => (fol R n (n + 1) v ⟨kuh R n v,fun _ => false⟩).2.ld
structure KInv (R : Nat→Nat→Bool) (n v : Nat) (l : Nat→Option Nat) : Prop where
  typ : Typ R n l
  low : ∀ u x,l u = some x→x < v
  cert : ∀ x,x < v→(∀ u,l u ≠ some x)→∃ A T,Cert R n l x A T
theorem untr_le (n : Nat) (t : Nat→Bool) : untr n t ≤ n:=by
  unfold untr
  exact Nat.le_trans (List.length_filter_le _ _) (by simp)
theorem kuh_inv (R : Nat→Nat→Bool) (n : Nat) : ∀ v,v ≤ n→KInv R n v (kuh R n v)
  | 0,_ => ⟨⟨by simp [kuh],by simp [kuh]⟩,by simp [kuh],by simp⟩
  | v + 1,hv => by
    obtain ⟨i1,i2,i3⟩:=kuh_inv R n v (by omega)
    have hu:=untr_le n fun _ => false
    have hno : ∀ u,kuh R n v u ≠ some v:=fun u h => by have:=i2 u v h; omega
    unfold kuh
    generalize kuh R n v = l at *
    cases hr : fol R n (n + 1) v ⟨l,fun _ => false⟩ with
    | mk b s' =>
      dsimp only
      cases b with
      | false =>
        obtain ⟨A,a1,a2⟩:=fol_fail R n (n + 1) v _ s' (show untr n (fun _ => false) < n + 1 by omega) hr
        rw [a2.ld]
        refine ⟨i1,fun u x h => by have:=i2 u x h; omega,fun x hx hxu => ?_⟩
        by_cases e : x = v
        · subst e
          refine ⟨A,fun u => s'.tr u = true,a1,fun y u h1 h2 h3 => a2.out y u h1 h2 h3,fun u h1 => ?_⟩
          rcases a2.back u h1 with h2 | h2
          · cases h2
          · exact h2
        · exact i3 x (by omega) hxu
      | true =>
        have r:=fol_succ R n (n + 1) v _ s' (show untr n (fun _ => false) < n + 1 by omega) (by omega) i1 (fun u h => absurd h (hno u)) hr
        have ht' : Typ R n s'.ld:=⟨r.typ,fun u u' x h1 h2 => by
          rcases r.inj u u' x h1 h2 with h3 | ⟨_,h3 | h3⟩
          · exact h3
          · cases h3
          · cases h3⟩
        refine ⟨ht',fun u x h => ?_,fun x hx hxu => ?_⟩
        · rcases r.lef x ⟨u,h⟩ with ⟨w,hw⟩ | rfl
          · have:=i2 w x hw; omega
          · omega
        · by_cases e : x = v
          · subst e
            obtain ⟨u,_,h2⟩:=r.has
            exact absurd h2 (hxu u)
          · have hxo : ∀ u,l u ≠ some x:=fun u h => by
              obtain ⟨w,hw⟩:=r.lef' x ⟨u,h⟩
              exact hxu w hw
            obtain ⟨A,T,hc⟩:=i3 x (by omega) hxo
            exact ⟨A,T,hc.keeps i1 ht' r.lef'⟩
theorem dilworth (R : Nat→Nat→Bool) (n : Nat) : ∃ S : List Nat,S.Nodup∧(∀ v ∈ S,v < n)∧(∀ v ∈ S,∀ w ∈ S,¬ R v w = true)∧n ≤ S.length + ((List.range n).filter fun u => (kuh R n n u).isSome).length:=by
  obtain ⟨i1,i2,i3⟩:=kuh_inv R n n (Nat.le_refl _)
  generalize kuh R n n = l at *
  refine konig n (fun v w => R v w = true) l (fun y => ∃ x,x < n∧(∀ u,l u ≠ some x)∧∃ A T,Cert R n l x A T∧A y) (fun u => ∃ x,x < n∧(∀ u,l u ≠ some x)∧∃ A T,Cert R n l x A T∧T u)
    (fun u v h => ⟨(i1.typ u v h).1,(i1.typ u v h).2.1⟩) (fun v hv hu => ?_) (fun x u hx hxn hun hr => ?_) (fun u hu => ?_)
  · obtain ⟨A,T,hc⟩:=i3 v hv hu
    exact ⟨v,hv,hu,A,T,hc,hc.me⟩
  · obtain ⟨v,h1,h2,A,T,hc,h3⟩:=hx
    exact ⟨v,h1,h2,A,T,hc,hc.out x u h3 hun hr⟩
  · obtain ⟨v,h1,h2,A,T,hc,h3⟩:=hu
    obtain ⟨_,x,h4,h5⟩:=hc.back u h3
    exact ⟨x,h4,v,h1,h2,A,T,hc,h5⟩
end Go.Mx
