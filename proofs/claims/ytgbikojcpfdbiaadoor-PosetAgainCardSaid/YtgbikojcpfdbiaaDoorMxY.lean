import Derived.Test.YtgbikojcpfdbiaaDoorMxX
import Derived.Test.YtgbikojcpfdbiaaDoorMxRa
/-
  Mx, part Y: how simp runs the machine: tests that stay open become cases.
-/
namespace Go.Mx
set_option linter.unusedVariables false
set_option linter.unusedSimpArgs false
set_option linter.unusedSectionVars false
open Go

abbrev R := Option (Ex × St)


/-! ### continuations -/
def ob {α β : Type} (o : Option α) (k : α → Option β) : Option β :=
  match o with
  | some x => k x
  | none => none
@[congr] theorem ob_congr {α β : Type} {o o' : Option α} {k : α → Option β} (h : ∀ _ : Unit, o = o') : ob o k = ob o' k := by rw [h ()]
@[simp, simp ↓] theorem ob_some {α β : Type} (x : α) (k : α → Option β) : ob (some x) k = k x := rfl
@[simp, simp ↓] theorem ob_none {α β : Type} (k : α → Option β) : ob none k = none := rfl
@[simp, simp ↓] theorem ob_ite {α β : Type} (c : Prop) [Decidable c] (a b : Option α) (k : α → Option β) : ob (if c then a else b) k = if c then ob a k else ob b k := by split <;> rfl

/-- What follows a piece of code that comes to its end. -/
noncomputable def rq (call : Oracle) (fuel : Nat) (b : MC) (r : R) : R :=
  match r with
  | some (.norm, st) => run call fuel b st
  | r => r
@[simp, simp ↓] theorem rq_norm (call : Oracle) (fuel : Nat) (b : MC) (st : St) : rq call fuel b (some (.norm, st)) = run call fuel b st := rfl
@[simp, simp ↓] theorem rq_ex (call : Oracle) (fuel : Nat) (b : MC) (i : Nat) (st : St) : rq call fuel b (some (.ex i, st)) = some (.ex i, st) := rfl
@[simp, simp ↓] theorem rq_ret (call : Oracle) (fuel : Nat) (b : MC) (st : St) : rq call fuel b (some (.ret, st)) = some (.ret, st) := rfl
@[simp, simp ↓] theorem rq_none (call : Oracle) (fuel : Nat) (b : MC) : rq call fuel b none = none := rfl
@[simp, simp ↓] theorem rq_ite (call : Oracle) (fuel : Nat) (b : MC) (c : Prop) [Decidable c] (x y : R) : rq call fuel b (if c then x else y) = if c then rq call fuel b x else rq call fuel b y := by split <;> rfl
@[congr] theorem rq_congr {call : Oracle} {fuel : Nat} {b : MC} {r r' : R} (h : ∀ _ : Unit, r = r') : rq call fuel b r = rq call fuel b r' := by rw [h ()]

/-- A block's end. -/
def bk (id : Nat) (r : R) : R :=
  match r with
  | some (.ex i, st) => if i = id then some (.norm, st) else some (.ex i, st)
  | r => r
@[simp, simp ↓] theorem bk_norm (id : Nat) (st : St) : bk id (some (.norm, st)) = some (.norm, st) := rfl
@[simp, simp ↓] theorem bk_ex (id i : Nat) (st : St) : bk id (some (.ex i, st)) = if i = id then some (.norm, st) else some (.ex i, st) := rfl
@[simp, simp ↓] theorem bk_ret (id : Nat) (st : St) : bk id (some (.ret, st)) = some (.ret, st) := rfl
@[simp, simp ↓] theorem bk_none (id : Nat) : bk id none = none := rfl
@[simp, simp ↓] theorem bk_ite (id : Nat) (c : Prop) [Decidable c] (a b : R) : bk id (if c then a else b) = if c then bk id a else bk id b := by split <;> rfl

/-- A test. -/
def cb (v : V) (a b : R) : R :=
  match v with
  | .sc (.bool t) => if t then a else b
  | _ => none
@[congr] theorem cb_congr {v v' : V} {a b : R} (h : ∀ _ : Unit, v = v') : cb v a b = cb v' a b := by rw [h ()]
@[simp, simp ↓] theorem cb_bool (t : Bool) (a b : R) : cb (.sc (.bool t)) a b = if t = true then a else b := rfl

/-- A guard. -/
def gb {α : Type} (o : Option Bool) (a b : Option α) : Option α :=
  match o with
  | some true => a
  | some false => b
  | none => none
@[congr] theorem gb_congr {α : Type} {o o' : Option Bool} {a b : Option α} (h : ∀ _ : Unit, o = o') : gb o a b = gb o' a b := by rw [h ()]
@[simp, simp ↓] theorem gb_some {α : Type} (t : Bool) (a b : Option α) : gb (some t) a b = if t = true then a else b := by cases t <;> rfl
def wb (v : Option V) (w : Bool) : Option Bool :=
  match v with
  | some (.sc (.bool b)) => some (b == w)
  | some (.sc _) => some false
  | _ => none
@[simp] theorem wb_bool (b w : Bool) : wb (some (.sc (.bool b))) w = some (b == w) := rfl
@[simp] theorem wb_undef (w : Bool) : wb (some (.sc undef)) w = some false := rfl

/-! ### slots -/
def evv (i : Nat) (v : Option V) : V :=
  match v with
  | some (.own _) => .ref i []
  | some x => x
  | none => .dead
@[simp] theorem evv_own (i : Nat) (d : D) : evv i (some (.own d)) = .ref i [] := rfl
@[simp] theorem evv_sc (i : Nat) (x : Value) : evv i (some (.sc x)) = .sc x := rfl
@[simp] theorem evv_ro (i : Nat) (x : D) : evv i (some (.ro x)) = .ro x := rfl
@[simp] theorem evv_ref (i r : Nat) (p : List Nat) : evv i (some (.ref r p)) = .ref r p := rfl
@[simp] theorem evv_sub (i r : Nat) (p : List Nat) (a b c : Nat) : evv i (some (.sub r p a b c)) = .sub r p a b c := rfl
@[simp] theorem evv_ad (i r : Nat) (p : List Nat) (c : Nat) : evv i (some (.ad r p c)) = .ad r p c := rfl
@[simp] theorem evv_rad (i : Nat) (k : List D) (c : Nat) : evv i (some (.rad k c)) = .rad k c := rfl
@[simp] theorem evv_vn (i : Nat) (k : K Bool) (c : List V) : evv i (some (.vn k c)) = .vn k c := rfl
@[simp] theorem evv_dead (i : Nat) : evv i (some .dead) = .dead := rfl
@[simp] theorem ev_t (st : St) (i : Nat) : ev st (.t i) = evv i st[i]? := by
  simp only [ev]
  split <;> simp_all [evv]
@[simp] theorem ev_c (st : St) (d : D) : ev st (.c d) = mkRo d := rfl
@[simp] theorem mkRo_v (x : Value) : mkRo (.v x) = .sc x := rfl
@[simp] theorem mkRo_nd (k : K Bool) (kids : List D) : mkRo (.nd k kids) = .ro (.nd k kids) := rfl
@[simp] theorem mkOwn_v (x : Value) : mkOwn (.v x) = .sc x := rfl
@[simp] theorem mkOwn_nd (k : K Bool) (kids : List D) : mkOwn (.nd k kids) = .own (.nd k kids) := rfl

def nd (v : V) : Option V :=
  match v with
  | .dead => none
  | x => some x
@[simp] theorem nd_sc (x : Value) : nd (.sc x) = some (.sc x) := rfl
@[simp] theorem nd_own (x : D) : nd (.own x) = some (.own x) := rfl
@[simp] theorem nd_ro (x : D) : nd (.ro x) = some (.ro x) := rfl
@[simp] theorem nd_ref (r : Nat) (p : List Nat) : nd (.ref r p) = some (.ref r p) := rfl
@[simp] theorem nd_sub (r : Nat) (p : List Nat) (a b c : Nat) : nd (.sub r p a b c) = some (.sub r p a b c) := rfl
@[simp] theorem nd_ad (r : Nat) (p : List Nat) (c : Nat) : nd (.ad r p c) = some (.ad r p c) := rfl
@[simp] theorem nd_rad (k : List D) (c : Nat) : nd (.rad k c) = some (.rad k c) := rfl
@[simp] theorem nd_vn (k : K Bool) (c : List V) : nd (.vn k c) = some (.vn k c) := rfl

def setw (o : Option V) (st : St) (dst : Nat) (x : V) : St :=
  match o with
  | some (.own _) => (kill dst [] st).set dst (x.kill dst [])
  | _ => st.set dst x
@[simp] theorem setv_eq (st : St) (dst : Nat) (x : V) : setv st dst x = setw st[dst]? st dst x := rfl
@[congr] theorem setw_congr {o o' : Option V} {st st' : St} {dst : Nat} {x x' : V} (h : o = o') (h2 : st = st') (h3 : x = x') : setw o st dst x = setw o' st' dst x' := by rw [h, h2, h3]
@[simp] theorem setw_own (d : D) (st : St) (dst : Nat) (x : V) : setw (some (.own d)) st dst x = (kill dst [] st).set dst (x.kill dst []) := rfl
@[simp] theorem setw_sc (d : Value) (st : St) (dst : Nat) (x : V) : setw (some (.sc d)) st dst x = st.set dst x := rfl
@[simp] theorem setw_ro (d : D) (st : St) (dst : Nat) (x : V) : setw (some (.ro d)) st dst x = st.set dst x := rfl
@[simp] theorem setw_ref (r : Nat) (p : List Nat) (st : St) (dst : Nat) (x : V) : setw (some (.ref r p)) st dst x = st.set dst x := rfl
@[simp] theorem setw_sub (r : Nat) (p : List Nat) (a b c : Nat) (st : St) (dst : Nat) (x : V) : setw (some (.sub r p a b c)) st dst x = st.set dst x := rfl
@[simp] theorem setw_ad (r : Nat) (p : List Nat) (c : Nat) (st : St) (dst : Nat) (x : V) : setw (some (.ad r p c)) st dst x = st.set dst x := rfl
@[simp] theorem setw_rad (k : List D) (c : Nat) (st : St) (dst : Nat) (x : V) : setw (some (.rad k c)) st dst x = st.set dst x := rfl
@[simp] theorem setw_vn (k : K Bool) (vs : List V) (st : St) (dst : Nat) (x : V) : setw (some (.vn k vs)) st dst x = st.set dst x := rfl
@[simp] theorem setw_dead (st : St) (dst : Nat) (x : V) : setw (some .dead) st dst x = st.set dst x := rfl

@[simp] theorem kill_nil (r : Nat) (p : List Nat) : kill r p [] = [] := rfl
@[simp] theorem kill_cons (r : Nat) (p : List Nat) (x : V) (s : St) : kill r p (x :: s) = V.kill r p x :: kill r p s := rfl
@[simp] theorem vk_sc (r : Nat) (p : List Nat) (x : Value) : V.kill r p (.sc x) = .sc x := rfl
@[simp] theorem vk_own (r : Nat) (p : List Nat) (x : D) : V.kill r p (.own x) = .own x := rfl
@[simp] theorem vk_ro (r : Nat) (p : List Nat) (x : D) : V.kill r p (.ro x) = .ro x := rfl
@[simp] theorem vk_dead (r : Nat) (p : List Nat) : V.kill r p .dead = .dead := rfl
@[simp] theorem vk_rad (r : Nat) (p : List Nat) (x : List D) (c : Nat) : V.kill r p (.rad x c) = .rad x c := rfl
@[simp] theorem vk_ref (r : Nat) (p : List Nat) (s : Nat) (q : List Nat) : V.kill r p (.ref s q) = if (s == r && pre p q) = true then .dead else .ref s q := rfl
@[simp] theorem vk_sub (r : Nat) (p : List Nat) (s : Nat) (q : List Nat) (a b c : Nat) : V.kill r p (.sub s q a b c) = if (s == r && pre p q) = true then .dead else .sub s q a b c := rfl
@[simp] theorem vk_ad (r : Nat) (p : List Nat) (s : Nat) (q : List Nat) (c : Nat) : V.kill r p (.ad s q c) = if (s == r && pre p q) = true then .dead else .ad s q c := rfl
@[simp] theorem vk_vn (r : Nat) (p : List Nat) (k : K Bool) (vs : List V) : V.kill r p (.vn k vs) = if V.underL r p vs = true then .dead else .vn k vs := rfl
attribute [simp] V.under V.underL pre

def roo (o : Option V) : Option D :=
  match o with
  | some (.own d) => some d
  | _ => none
@[simp] theorem rootD_eq (st : St) (r : Nat) : rootD st r = roo st[r]? := rfl
@[simp] theorem roo_own (d : D) : roo (some (.own d)) = some d := rfl
@[simp] theorem getAt_nil' (t : D) : getAt t [] = some t := getAt_nil t
@[simp] theorem getAt_cons (k : K Bool) (kids : List D) (i : Nat) (p : List Nat) : getAt (.nd k kids) (i :: p) = ob kids[i]? (fun t => getAt t p) := by
  simp only [getAt]; cases kids[i]? <;> rfl
@[simp] theorem setAt_nil' (t x : D) : setAt t [] x = x := setAt_nil t x
def setC (kids : List D) (i : Nat) (o : Option D) (p : List Nat) (x : D) : List D :=
  match o with
  | some t => kids.set i (setAt t p x)
  | none => kids
@[simp] theorem setC_some (kids : List D) (i : Nat) (t : D) (p : List Nat) (x : D) : setC kids i (some t) p x = kids.set i (setAt t p x) := rfl
@[simp] theorem setAt_cons (k : K Bool) (kids : List D) (i : Nat) (p : List Nat) (x : D) : setAt (.nd k kids) (i :: p) x = .nd k (setC kids i kids[i]? p x) := by
  rw [setAt]; cases kids[i]? <;> rfl
@[simp] theorem placeD_eq (st : St) (r : Nat) (p : List Nat) : placeD st r p = ob (roo st[r]?) (fun d => getAt d p) := by
  rw [placeD, rootD_eq]; cases roo st[r]? <;> rfl
@[simp] theorem leave_nil (st : St) (r : Nat) (d0 : D) : leave st r d0 [] = (kill r [] st).set r .dead := rfl
@[simp] theorem leave_cons (st : St) (r : Nat) (d0 : D) (i : Nat) (p : List Nat) : leave st r d0 (i :: p) = (kill r (i :: p) st).set r (.own (setAt d0 (i :: p) (.hole false))) := rfl

/-! ### reading -/
@[simp] theorem rd_sc (st : St) (x : Value) : rd st (.sc x) = some (.v x) := by rw [rd]
@[simp] theorem rd_ro (st : St) (d : D) : rd st (.ro d) = some d := by rw [rd]
@[simp] theorem rd_ref (st : St) (r : Nat) (p : List Nat) : rd st (.ref r p) = placeD st r p := by rw [rd]
@[simp] theorem rd_sub (st : St) (r : Nat) (p : List Nat) (lo es n : Nat) : rd st (.sub r p lo es n) = ob (placeD st r p) (subD lo es n) := by
  rw [rd]; cases placeD st r p <;> rfl
@[simp] theorem rd_vn (st : St) (k : K Bool) (vs : List V) : rd st (.vn k vs) = if memB k = true then mzD k vs else ob (rdL st vs) (fun ds => some (.nd k ds)) := by
  rw [rd]; split
  · rfl
  · cases rdL st vs <;> rfl
@[simp] theorem mzD_sl (es : Nat) : mzD (.sl false es 0) [] = some (.nd (.sl false es 0) []) := rfl
@[simp] theorem rdL_nil (st : St) : rdL st [] = some [] := by rw [rdL]
@[simp] theorem rdL_cons (st : St) (x : V) (xs : List V) : rdL st (x :: xs) = ob (rd st x) (fun d => ob (rdL st xs) (fun ds => some (d :: ds))) := by
  rw [rdL]; cases rd st x <;> simp; cases rdL st xs <;> rfl
@[simp] theorem rdAll_nil (st : St) : rdAll st [] = some [] := rfl
@[simp] theorem rdAll_cons (st : St) (x : MO) (xs : List MO) : rdAll st (x :: xs) = ob (rd st (ev st x)) (fun d => ob (rdAll st xs) (fun ds => some (d :: ds))) := by
  simp only [rdAll]; cases rd st (ev st x) <;> simp; cases rdAll st xs <;> rfl
attribute [simp] memB noMem isSc isOwn
@[simp] theorem noMemL_nil : noMemL [] = true := rfl
@[simp] theorem noMemL_cons (x : D) (xs : List D) : noMemL (x :: xs) = (noMem x && noMemL xs) := rfl

/-- What is taken from a place. -/
def takeP (st : St) (r : Nat) (d0 : D) (p : List Nat) : D → Option (D × St)
  | .nd .ag kids => if noMemL kids then some (.nd .ag kids, st) else some (.nd .ag kids, leave st r d0 p)
  | .nd k kids => some (.nd k kids, leave st r d0 p)
  | _ => none
@[simp] theorem takeP_ag (st : St) (r : Nat) (d0 : D) (p : List Nat) (kids : List D) : takeP st r d0 p (.nd .ag kids) = if noMemL kids = true then some (.nd .ag kids, st) else some (.nd .ag kids, leave st r d0 p) := rfl
@[simp] theorem takeP_sl (st : St) (r : Nat) (d0 : D) (p : List Nat) (b : Bool) (es n : Nat) (kids : List D) : takeP st r d0 p (.nd (.sl b es n) kids) = some (.nd (.sl b es n) kids, leave st r d0 p) := rfl
@[simp] theorem takeP_bx (st : St) (r : Nat) (d0 : D) (p : List Nat) (b : Bool) (kids : List D) : takeP st r d0 p (.nd (.bx b) kids) = some (.nd (.bx b) kids, leave st r d0 p) := rfl
@[simp] theorem takeP_tu (st : St) (r : Nat) (d0 : D) (p : List Nat) (kids : List D) : takeP st r d0 p (.nd .tu kids) = some (.nd .tu kids, leave st r d0 p) := rfl
@[simp] theorem takeP_fn (st : St) (r : Nat) (d0 : D) (p : List Nat) (f : Fn) (nf : Nat) (kids : List D) : takeP st r d0 p (.nd (.fn f nf) kids) = some (.nd (.fn f nf) kids, leave st r d0 p) := rfl
@[simp] theorem take_sc (st : St) (x : Value) : Mx.take st (.sc x) = some (.v x, st) := by rw [Mx.take]
@[simp] theorem take_ref (st : St) (r : Nat) (p : List Nat) : Mx.take st (.ref r p) = ob (roo st[r]?) (fun d0 => ob (getAt d0 p) (takeP st r d0 p)) := by
  rw [Mx.take, rootD_eq]
  cases roo st[r]? with
  | none => rfl
  | some d0 =>
    simp only [ob_some]
    cases getAt d0 p with
    | none => rfl
    | some t =>
      cases t with
      | nd k kids => cases k <;> rfl
      | _ => rfl
@[simp] theorem take_sub (st : St) (r : Nat) (p : List Nat) (lo es n : Nat) : Mx.take st (.sub r p lo es n) = ob (roo st[r]?) (fun d0 => ob (getAt d0 p) (fun d => ob (subD lo es n d) (fun s => some (s, leave st r d0 p)))) := by
  rw [Mx.take, rootD_eq]
  cases roo st[r]? with
  | none => rfl
  | some d0 =>
    simp only [ob_some]
    cases getAt d0 p with
    | none => rfl
    | some t => simp only [ob_some]; cases subD lo es n t <;> rfl
/-- A tree that is only read, taken as owned: when it has no memory. -/
def takeR (st : St) (d : D) : Option (D × St) :=
  match d with
  | .nd .ag kids => if noMemL kids then some (d, st) else none
  | d => if noMem d then some (d, st) else none
@[simp] theorem takeR_ag (st : St) (kids : List D) : takeR st (.nd .ag kids) = if noMemL kids = true then some (.nd .ag kids, st) else none := rfl
@[simp] theorem takeR_nil (st : St) (es : Nat) : takeR st (.nd (.sl true es 0) []) = some (.nd (.sl true es 0) [], st) := rfl
@[simp] theorem take_ro (st : St) (d : D) : Mx.take st (.ro d) = takeR st d := by
  cases d with
  | nd k kids => cases k <;> rw [Mx.take] <;> first | rfl | (intro kids h; cases h)
  | _ => rw [Mx.take] <;> first | rfl | (intro kids h; cases h)
@[simp] theorem take_vn (st : St) (k : K Bool) (vs : List V) : Mx.take st (.vn k vs) = if memB k = true then ob (mzD k vs) (fun d => some (d, st)) else ob (takeL st vs) (fun q => some (.nd k q.1, q.2)) := by
  rw [Mx.take]; split
  · cases mzD k vs <;> rfl
  · cases takeL st vs <;> rfl
@[simp] theorem takeL_nil (st : St) : takeL st [] = some ([], st) := by rw [takeL]
@[simp] theorem takeL_cons (st : St) (x : V) (xs : List V) : takeL st (x :: xs) = ob (Mx.take st x) (fun q => ob (takeL q.2 xs) (fun q2 => some (q.1 :: q2.1, q2.2))) := by
  rw [takeL]; cases Mx.take st x with
  | none => rfl
  | some q => obtain ⟨d, s1⟩ := q; simp only [ob_some]; cases takeL s1 xs <;> rfl
@[simp] theorem takeAll_nil (st : St) : takeAll st [] = some ([], st) := rfl
@[simp] theorem takeAll_cons (st : St) (x : MO) (xs : List MO) : takeAll st (x :: xs) = ob (Mx.take st (ev st x)) (fun q => ob (takeAll q.2 xs) (fun q2 => some (q.1 :: q2.1, q2.2))) := by
  simp only [takeAll]; cases Mx.take st (ev st x) with
  | none => rfl
  | some q => obtain ⟨d, s1⟩ := q; simp only [ob_some]; cases takeAll s1 xs <;> rfl

/-- 'x = y'. -/
@[simp] theorem assign_sc (st : St) (dst : Nat) (x : Value) : assign st dst (.sc x) = some (setv st dst (.sc x)) := rfl
@[simp] theorem assign_nil (st : St) (dst : Nat) (es : Nat) : assign st dst (.ro (.nd (.sl true es 0) [])) = some (setv st dst (.own (.nd (.sl true es 0) []))) := rfl
@[simp] theorem assign_own (st : St) (dst : Nat) (x : D) : assign st dst (.own x) = some (setv st dst (.own x)) := rfl
@[simp] theorem assign_ad (st : St) (dst r : Nat) (p : List Nat) (c : Nat) : assign st dst (.ad r p c) = some (setv st dst (.ad r p c)) := rfl
@[simp] theorem assign_rad (st : St) (dst : Nat) (k : List D) (c : Nat) : assign st dst (.rad k c) = some (setv st dst (.rad k c)) := rfl
@[simp] theorem assign_vn (st : St) (dst : Nat) (k : K Bool) (vs : List V) : assign st dst (.vn k vs) = some (setv st dst (.vn k vs)) := rfl
@[simp] theorem assign_ref_cons (st : St) (dst r i : Nat) (p : List Nat) : assign st dst (.ref r (i :: p)) = if dst < r then ob (Mx.take st (.ref r (i :: p))) (fun q => some (setv q.2 dst (mkOwn q.1))) else some (setv st dst (.ref r (i :: p))) := by
  simp only [assign]
  split
  · cases Mx.take st (.ref r (i :: p)) <;> rfl
  · rfl
@[simp] theorem assign_sub_cons (st : St) (dst r i : Nat) (p : List Nat) (a b c : Nat) : assign st dst (.sub r (i :: p) a b c) = some (setv st dst (.sub r (i :: p) a b c)) := rfl
@[simp] theorem assign_ref (st : St) (dst r : Nat) : assign st dst (.ref r []) = if r = dst then some st else ob (roo st[r]?) (fun d => if dst < st.length then some (setv (setv (setv st r .dead) dst (.own d)) r (.ref dst [])) else none) := by
  simp only [assign, rootD_eq]
  split
  · rfl
  · cases roo st[r]? <;> rfl
@[simp] theorem assign_sub (st : St) (dst r : Nat) (a b c : Nat) : assign st dst (.sub r [] a b c) = if r = dst then ob (Mx.take st (.sub r [] a b c)) (fun q => some (setv q.2 dst (mkOwn q.1))) else some (setv st dst (.sub r [] a b c)) := by
  simp only [assign]
  split
  · cases Mx.take st (.sub r [] a b c) <;> rfl
  · rfl
@[simp] theorem assign_ro_ag (st : St) (dst : Nat) (kids : List D) : assign st dst (.ro (.nd .ag kids)) = some (setv st dst (.ro (.nd .ag kids))) := rfl
@[simp] theorem assign_ro_bx (st : St) (dst : Nat) (b : Bool) (kids : List D) : assign st dst (.ro (.nd (.bx b) kids)) = some (setv st dst (.ro (.nd (.bx b) kids))) := rfl

/-! ### elements -/
def natOf (n : Int) : Option Nat := if 0 ≤ n then some n.toNat else none
@[simp] theorem asNat_int (k : IntKind) (n : Int) : asNat (.sc (.int k n)) = natOf n := rfl
@[simp] theorem natOf_nat (n : Nat) : natOf (n : Int) = some n := by simp [natOf]
@[simp] theorem natOf_lit (n : Nat) : natOf (OfNat.ofNat n : Int) = some (OfNat.ofNat n) := by
  have : (OfNat.ofNat n : Int).toNat = OfNat.ofNat n := rfl
  simp [natOf, this]
@[simp] theorem natOf_zero : natOf 0 = some 0 := rfl
@[simp] theorem natOf_one : natOf 1 = some 1 := rfl

/-- Where an element of a slice lies: the slice's tree, the element. -/
def elR (es i : Nat) : D → Option V
  | .nd (.sl _ _ n) kids => if i < n ∧ kids.length = n * es then some (.rad kids (i * es)) else none
  | _ => none
def elP (r : Nat) (p : List Nat) (es i : Nat) : D → Option V
  | .nd (.sl _ _ n) kids => if i < n ∧ kids.length = n * es then some (.ad r p (i * es)) else none
  | _ => none
def elS (r : Nat) (p : List Nat) (lo es' n es i : Nat) : D → Option V
  | .nd (.sl _ _ _) kids => if i < n ∧ es' = es ∧ lo + n * es ≤ kids.length then some (.ad r p (lo + i * es)) else none
  | _ => none
@[simp] theorem elemAt_ref (st : St) (es : Nat) (r : Nat) (p : List Nat) (i : Nat) : elemAt st es (.ref r p) i = ob (placeD st r p) (elP r p es i) := by
  simp only [elemAt]; cases placeD st r p with
  | none => rfl
  | some d => cases d with
    | nd k kids => cases k <;> rfl
    | _ => rfl
@[simp] theorem elemAt_sub (st : St) (es : Nat) (r : Nat) (p : List Nat) (lo es' n i : Nat) : elemAt st es (.sub r p lo es' n) i = ob (placeD st r p) (elS r p lo es' n es i) := by
  simp only [elemAt]; cases placeD st r p with
  | none => rfl
  | some d => cases d with
    | nd k kids => cases k <;> rfl
    | _ => rfl
@[simp] theorem elemAt_ro (st : St) (es : Nat) (d : D) (i : Nat) : elemAt st es (.ro d) i = elR es i d := by
  cases d with
  | nd k kids => cases k <;> rfl
  | _ => rfl
@[simp] theorem addAt_ad (st : St) (r : Nat) (p : List Nat) (c off : Nat) : addAt st (.ad r p c) off = some (.ad r p (c + off)) := rfl
@[simp] theorem addAt_rad (st : St) (k : List D) (c off : Nat) : addAt st (.rad k c) off = some (.rad k (c + off)) := rfl
def adB (r : Nat) (p : List Nat) (off : Nat) : D → Option V
  | .nd (.bx _) _ => some (.ad r p off)
  | _ => none
@[simp] theorem adB_bx (r : Nat) (p : List Nat) (off : Nat) (b : Bool) (kids : List D) : adB r p off (.nd (.bx b) kids) = some (.ad r p off) := rfl
@[simp] theorem addAt_ref (st : St) (r : Nat) (p : List Nat) (off : Nat) : addAt st (.ref r p) off = ob (placeD st r p) (adB r p off) := by
  simp only [addAt]; cases placeD st r p with
  | none => rfl
  | some d => cases d with
    | nd k kids => cases k <;> rfl
    | _ => rfl
@[simp] theorem addAt_ro (st : St) (b : Bool) (kids : List D) (off : Nat) : addAt st (.ro (.nd (.bx b) kids)) off = some (.rad kids off) := rfl

/-- One cell of a block. -/
def celD (c : Nat) : D → Option D
  | .nd (.sl _ _ _) kids => kids[c]?
  | .nd (.bx _) kids => kids[c]?
  | _ => none
@[simp] theorem celD_bx (c : Nat) (b : Bool) (kids : List D) : celD c (.nd (.bx b) kids) = kids[c]? := rfl
def celB : D → Option D
  | .nd (.bx _) kids => kids[0]?
  | _ => none
@[simp] theorem celB_bx (b : Bool) (kids : List D) : celB (.nd (.bx b) kids) = kids[0]? := rfl
def vP (r : Nat) (p : List Nat) (c : Nat) : D → Option V
  | .v x => some (.sc x)
  | .nd _ _ => some (.ref r (p ++ [c]))
  | .hole _ => none
@[simp] theorem vP_v (r : Nat) (p : List Nat) (c : Nat) (x : Value) : vP r p c (.v x) = some (.sc x) := rfl
@[simp] theorem vP_nd (r : Nat) (p : List Nat) (c : Nat) (k : K Bool) (kids : List D) : vP r p c (.nd k kids) = some (.ref r (p ++ [c])) := rfl
def vR : D → Option V
  | .v x => some (.sc x)
  | .nd k ks => some (.ro (.nd k ks))
  | .hole _ => none
@[simp] theorem vR_v (x : Value) : vR (.v x) = some (.sc x) := rfl
@[simp] theorem vR_nd (k : K Bool) (kids : List D) : vR (.nd k kids) = some (.ro (.nd k kids)) := rfl
theorem cellV_eq (r : Nat) (p : List Nat) (kids : List D) (c : Nat) : cellV r p kids c = ob kids[c]? (vP r p c) := by
  unfold cellV; cases kids[c]? with
  | none => rfl
  | some d => cases d <;> rfl
theorem cellR_eq (kids : List D) (c : Nat) : cellR kids c = ob kids[c]? vR := by
  unfold cellR; cases kids[c]? with
  | none => rfl
  | some d => cases d <;> rfl
@[simp] theorem load1_ad (st : St) (r : Nat) (p : List Nat) (c : Nat) : load1 st (.ad r p c) = ob (placeD st r p) (fun d => ob (celD c d) (vP r p c)) := by
  simp only [load1]; cases placeD st r p with
  | none => rfl
  | some d => cases d with
    | nd k kids => cases k <;> first | exact cellV_eq r p kids c | rfl
    | _ => rfl
@[simp] theorem load1_ref (st : St) (r : Nat) (p : List Nat) : load1 st (.ref r p) = ob (placeD st r p) (fun d => ob (celB d) (vP r p 0)) := by
  simp only [load1]; cases placeD st r p with
  | none => rfl
  | some d => cases d with
    | nd k kids => cases k <;> first | exact cellV_eq r p kids 0 | rfl
    | _ => rfl
@[simp] theorem load1_rad (st : St) (kids : List D) (c : Nat) : load1 st (.rad kids c) = ob kids[c]? vR := cellR_eq kids c
@[simp] theorem load1_ro (st : St) (b : Bool) (kids : List D) : load1 st (.ro (.nd (.bx b) kids)) = ob kids[0]? vR := cellR_eq kids 0

/-- Several cells. -/
def agD (r : Nat) (p : List Nat) (c m : Nat) : D → Option V
  | .nd (.sl _ _ _) kids => aggV r p kids c m
  | .nd (.bx _) kids => aggV r p kids c m
  | _ => none
def agB (r : Nat) (p : List Nat) (m : Nat) : D → Option V
  | .nd (.bx _) kids => aggV r p kids 0 m
  | _ => none
@[simp] theorem agD_bx (r : Nat) (p : List Nat) (c m : Nat) (b : Bool) (kids : List D) : agD r p c m (.nd (.bx b) kids) = aggV r p kids c m := rfl
@[simp] theorem agB_bx (r : Nat) (p : List Nat) (m : Nat) (b : Bool) (kids : List D) : agB r p m (.nd (.bx b) kids) = aggV r p kids 0 m := rfl
@[simp] theorem loadN_ad (st : St) (r : Nat) (p : List Nat) (c m : Nat) : loadN st (.ad r p c) m = ob (placeD st r p) (agD r p c m) := by
  simp only [loadN]; cases placeD st r p with
  | none => rfl
  | some d => cases d with
    | nd k kids => cases k <;> rfl
    | _ => rfl
@[simp] theorem loadN_ref (st : St) (r : Nat) (p : List Nat) (m : Nat) : loadN st (.ref r p) m = ob (placeD st r p) (agB r p m) := by
  simp only [loadN]; cases placeD st r p with
  | none => rfl
  | some d => cases d with
    | nd k kids => cases k <;> rfl
    | _ => rfl
@[simp] theorem loadN_rad (st : St) (kids : List D) (c m : Nat) : loadN st (.rad kids c) m = aggR kids c m := rfl
@[simp] theorem loadN_ro (st : St) (b : Bool) (kids : List D) (m : Nat) : loadN st (.ro (.nd (.bx b) kids)) m = aggR kids 0 m := rfl
theorem aggV_eq (r : Nat) (p : List Nat) (kids : List D) (c m : Nat) : aggV r p kids c m = if c + m ≤ kids.length then
    (if ((kids.drop c).take m).all isSc = true then some (.ro (.nd .ag ((kids.drop c).take m))) else ob (seqM ((List.range m).map fun i => cellV r p kids (c + i))) (fun vs => some (.vn .ag vs))) else none := by
  unfold aggV
  split
  · dsimp only
    split
    · rfl
    · cases seqM ((List.range m).map fun i => cellV r p kids (c + i)) <;> rfl
  · rfl

/-! ### stores -/
def celA (c : Nat) : D → Option D
  | .nd _ kids => kids[c]?
  | _ => none
@[simp] theorem celA_nd (c : Nat) (k : K Bool) (kids : List D) : celA c (.nd k kids) = kids[c]? := rfl
def killC (r : Nat) (p : List Nat) (c : Nat) (st : St) (old : D) : St := if isSc old then st else kill r (p ++ [c]) st
@[simp] theorem killC_v (r : Nat) (p : List Nat) (c : Nat) (st : St) (x : Value) : killC r p c st (.v x) = st := rfl
@[simp] theorem killC_nd (r : Nat) (p : List Nat) (c : Nat) (st : St) (k : K Bool) (x : List D) : killC r p c st (.nd k x) = kill r (p ++ [c]) st := rfl
@[simp] theorem killC_hole (r : Nat) (p : List Nat) (c : Nat) (st : St) (b : Bool) : killC r p c st (.hole b) = kill r (p ++ [c]) st := rfl
@[simp] theorem putCells_nil (r : Nat) (p : List Nat) (st : St) (c : Nat) : putCells r p st c [] = some st := rfl
@[simp] theorem putCells_cons (r : Nat) (p : List Nat) (st : St) (c : Nat) (d : D) (ds : List D) : putCells r p st c (d :: ds) = ob (roo st[r]?) (fun d0 => ob (getAt d0 p) (fun t => ob (celA c t) (fun old => putCells r p ((killC r p c st old).set r (.own (setAt d0 (p ++ [c]) d))) (c + 1) ds))) := by
  rw [putCells, rootD_eq]
  cases roo st[r]? with
  | none => rfl
  | some d0 =>
    simp only [ob_some]
    cases getAt d0 p with
    | none => rfl
    | some t =>
      simp only [ob_some]
      cases t with
      | nd k kids => simp only [celA]; cases kids[c]? <;> rfl
      | _ => rfl
def tgtB (r : Nat) (p : List Nat) : D → Option (Nat × List Nat × Nat)
  | .nd (.bx _) _ => some (r, p, 0)
  | _ => none
def tgtK (r : Nat) (p : List Nat) (c : Nat) : D → Option (Nat × List Nat × Nat)
  | .nd (.sl _ _ _) _ => some (r, p, c)
  | .nd (.bx _) _ => some (r, p, c)
  | _ => none
@[simp] theorem tgtB_bx (r : Nat) (p : List Nat) (b : Bool) (kids : List D) : tgtB r p (.nd (.bx b) kids) = some (r, p, 0) := rfl
@[simp] theorem tgtK_bx (r : Nat) (p : List Nat) (c : Nat) (b : Bool) (kids : List D) : tgtK r p c (.nd (.bx b) kids) = some (r, p, c) := rfl
@[simp] theorem target_ad (st : St) (r : Nat) (p : List Nat) (c : Nat) : target st (.ad r p c) = ob (placeD st r p) (tgtK r p c) := by
  simp only [target]; cases placeD st r p with
  | none => rfl
  | some d => cases d with
    | nd k kids => cases k <;> rfl
    | _ => rfl
@[simp] theorem target_ref (st : St) (r : Nat) (p : List Nat) : target st (.ref r p) = ob (placeD st r p) (tgtB r p) := by
  simp only [target]; cases placeD st r p with
  | none => rfl
  | some d => cases d with
    | nd k kids => cases k <;> rfl
    | _ => rfl
@[simp] theorem cells_v (x : Value) : cellsOfD (.v x) = [.v x] := rfl
@[simp] theorem cells_ag (l : List D) : cellsOfD (.nd .ag l) = l := rfl
@[simp] theorem cells_sl (b : Bool) (es n : Nat) (l : List D) : cellsOfD (.nd (.sl b es n) l) = [.nd (.sl b es n) l] := rfl
@[simp] theorem cells_bx (b : Bool) (l : List D) : cellsOfD (.nd (.bx b) l) = [.nd (.bx b) l] := rfl
@[simp] theorem cells_fn (f : Fn) (n : Nat) (l : List D) : cellsOfD (.nd (.fn f n) l) = [.nd (.fn f n) l] := rfl
attribute [simp] flatOk Value.oneCell'
@[simp] theorem store_eq (st : St) (x y : MO) (m : Nat) : Mx.store st x y m = ob (Mx.take st (ev st y)) (fun q => ob (target q.2 (ev q.2 x)) (fun t =>
    if (cellsOfD q.1).length = m ∧ (cellsOfD q.1).all flatOk = true then putCells t.1 t.2.1 q.2 t.2.2 (cellsOfD q.1) else none)) := by
  unfold Mx.store
  cases Mx.take st (ev st y) with
  | none => rfl
  | some q =>
    obtain ⟨d, s1⟩ := q
    simp only [ob_some]
    cases target s1 (ev s1 x) <;> rfl

/-! ### lengths, slices, append -/
def lenD : D → Option Nat
  | .nd (.sl _ _ n) _ => some n
  | _ => none
@[simp] theorem lenD_sl (b : Bool) (es n : Nat) (kids : List D) : lenD (.nd (.sl b es n) kids) = some n := rfl
@[simp] theorem lenOf_sub (st : St) (r : Nat) (p : List Nat) (lo es n : Nat) : lenOf st false (.sub r p lo es n) = some n := rfl
@[simp] theorem lenOf_ref (st : St) (r : Nat) (p : List Nat) : lenOf st false (.ref r p) = ob (placeD st r p) lenD := by
  simp only [lenOf, Bool.false_eq_true, if_false, rd_ref]; cases placeD st r p with
  | none => rfl
  | some d => cases d with
    | nd k kids => cases k <;> rfl
    | _ => rfl
@[simp] theorem lenOf_ro (st : St) (d : D) : lenOf st false (.ro d) = lenD d := by
  simp only [lenOf, Bool.false_eq_true, if_false, rd_ro]; cases d with
    | nd k kids => cases k <;> rfl
    | _ => rfl
@[simp] theorem lenOf_str (st : St) (s : ByteArray) : lenOf st true (.sc (.string s)) = some s.size := rfl
attribute [simp] i64

def slR (es : Nat) (lo hi : Option Nat) : D → Option V
  | .nd (.sl b es' n) kids =>
      let h := hi.getD n
      let l := lo.getD 0
      if l ≤ h ∧ h ≤ n ∧ (es' = es ∨ n = 0) ∧ kids.length = n * es then some (.ro (.nd (.sl b es (h - l)) ((kids.drop (l * es)).take ((h - l) * es)))) else none
  | _ => none
def slP (r : Nat) (p : List Nat) (es : Nat) (lo hi : Option Nat) : D → Option V
  | .nd (.sl b es' n) kids =>
      let h := hi.getD n
      let l := lo.getD 0
      if l ≤ h ∧ h ≤ n ∧ (es' = es ∨ n = 0) ∧ kids.length = n * es then some (if b then .ro (.nd (.sl true es 0) []) else .sub r p (l * es) es' (h - l)) else none
  | _ => none
def slS (r : Nat) (p : List Nat) (lo0 es' n es : Nat) (lo hi : Option Nat) : D → Option V
  | .nd (.sl false es'' _) kids =>
      let h := hi.getD n
      let l := lo.getD 0
      if l ≤ h ∧ h ≤ n ∧ es' = es ∧ es'' = es ∧ lo0 + n * es ≤ kids.length then some (.sub r p (lo0 + l * es) es (h - l)) else none
  | _ => none
@[simp] theorem slice_ro (st : St) (es : Nat) (d : D) (lo hi : Option Nat) : Mx.slice st es (.ro d) lo hi = slR es lo hi d := by
  cases d with
    | nd k kids => cases k <;> rfl
    | _ => rfl
@[simp] theorem slice_ref (st : St) (es : Nat) (r : Nat) (p : List Nat) (lo hi : Option Nat) : Mx.slice st es (.ref r p) lo hi = ob (placeD st r p) (slP r p es lo hi) := by
  simp only [Mx.slice]; cases placeD st r p with
  | none => rfl
  | some d => cases d with
    | nd k kids => cases k <;> rfl
    | _ => rfl
@[simp] theorem slice_sub (st : St) (es : Nat) (r : Nat) (p : List Nat) (lo0 es' n : Nat) (lo hi : Option Nat) : Mx.slice st es (.sub r p lo0 es' n) lo hi = ob (placeD st r p) (slS r p lo0 es' n es lo hi) := by
  simp only [Mx.slice]; cases placeD st r p with
  | none => rfl
  | some d => cases d with
    | nd k kids => cases k with
      | sl b _ _ => cases b <;> rfl
      | _ => rfl
    | _ => rfl

/-- What is appended: when it is scalars. -/
def apS (st : St) (es : Nat) (v : V) : D → Option (Nat × List D × St)
  | .nd (.sl _ es' n) kids =>
    if (es' = es ∨ n = 0) ∧ kids.length = n * es then
      if kids.all flatOk then
        if kids.all isSc then some (n, kids, st)
        else match Mx.take st v with
          | some (.nd (.sl _ _ n') kids', st1) => if n' = n ∧ kids'.length = n * es ∧ kids'.all flatOk then some (n, kids', st1) else none
          | _ => none
      else none
    else none
  | .v (.string s) => if es = 1 ∧ s.size ≤ most then some (s.size, bytesD s, st) else none
  | _ => none
theorem appSrc_eq (st : St) (es : Nat) (y : MO) : appSrc st es y = ob (rd st (ev st y)) (apS st es (ev st y)) := by
  unfold appSrc
  cases rd st (ev st y) with
  | none => rfl
  | some d =>
    cases d with
    | nd k kids => cases k <;> rfl
    | v x => cases x <;> rfl
    | hole b => rfl
/-- The slice that append gives. -/
def apD (es m : Nat) (ks : List D) : D → Option D
  | .nd (.sl b es' n) kids => if (es' = es ∨ b = true) ∧ kids.length = n * es ∧ n + m ≤ most then some (.nd (.sl (b && m == 0) es (n + m)) (kids ++ ks)) else none
  | _ => none
theorem append_eq (st : St) (es : Nat) (x y : MO) : Mx.append st es x y = ob (appSrc st es y) (fun q => ob (Mx.take q.2.2 (ev q.2.2 x)) (fun q2 => ob (apD es q.1 q.2.1 q2.1) (fun d => some (d, q2.2)))) := by
  unfold Mx.append
  cases appSrc st es y with
  | none => rfl
  | some q =>
    obtain ⟨m, ks, s1⟩ := q
    simp only [ob_some]
    cases Mx.take s1 (ev s1 x) with
    | none => rfl
    | some q2 =>
      obtain ⟨d, s2⟩ := q2
      simp only [ob_some]
      cases d with
      | nd k kids => cases k with
        | sl b es' n => simp only [apD]; split <;> rfl
        | _ => rfl
      | _ => rfl

/-! ### scalars -/
def bnd (bt : BT) (st : St) (op : BinOp) (vx vy : V) : Option V :=
  match bt with
  | .nilT ptr => match isNil st ptr vx, isNil st ptr vy with
      | some a, some b =>
        if a || b then match op with
          | .eql => some (.sc (.bool (a && b)))
          | .neq => some (.sc (.bool (!(a && b))))
          | _ => none
        else none
      | _, _ => none
  | .ag ks => match rd st vx, rd st vy with
      | some (.nd .ag as), some (.nd .ag bs) =>
        match eqAll ks as bs with
        | some t => match op with
          | .eql => some (.sc (.bool t))
          | .neq => some (.sc (.bool (!t)))
          | _ => none
        | none => none
      | _, _ => none
  | bt => match vx, vy with
      | .sc a, .sc b => match bin op bt a b with
        | some z => some (.sc z)
        | none => none
      | _, _ => none
theorem step_bin (call : Oracle) (st : St) (dst : Nat) (op : BinOp) (bt : BT) (x y : MO) : step call st (.bin dst op bt x y) = ob (bnd bt st op (ev st x) (ev st y)) (fun v => some (setv st dst v)) := by
  cases bt with
  | nilT ptr =>
    simp only [step, bnd]
    cases isNil st ptr (ev st x) <;> cases isNil st ptr (ev st y) <;> try rfl
    simp only
    split
    · cases op <;> rfl
    · rfl
  | ag ks =>
    simp only [step, bnd]
    generalize rd st (ev st x) = a
    generalize rd st (ev st y) = b
    rcases a with _ | (_ | _ | ⟨k, kids⟩) <;> rcases b with _ | (_ | _ | ⟨k', kids'⟩) <;> try (first | rfl | (cases k <;> rfl))
    cases k <;> cases k' <;> try rfl
    simp only
    cases eqAll ks kids kids' <;> cases op <;> rfl
  | _ =>
    simp only [step, bnd]
    generalize ev st x = a
    generalize ev st y = b
    cases a <;> cases b <;> try rfl
    rename_i a b
    simp only
    cases bin op _ a b <;> rfl
theorem val1_bin (call : Oracle) (st : St) (dst : Nat) (op : BinOp) (bt : BT) (x y : MO) : val1 call st (.bin dst op bt x y) = bnd bt st op (ev st x) (ev st y) := by
  cases bt <;> rfl
@[simp] theorem bnd_num (st : St) (op : BinOp) (k k' : IntKind) (a b : Int) : bnd .num st op (.sc (.int k a)) (.sc (.int k' b)) = ob (if isShift op = true then shiftBin op k a b else if k = k' then intBin op k a b else none) (fun z => some (.sc z)) := by
  simp only [bnd, bin]
  split <;> rename_i h <;> rw [h] <;> rfl
@[simp] theorem bnd_bool (st : St) (op : BinOp) (k k' : IntKind) (a b : Int) : bnd .bool st op (.sc (.int k a)) (.sc (.int k' b)) = ob (if isShift op = true then shiftBin op k a b else if k = k' then intBin op k a b else none) (fun z => some (.sc z)) := by
  simp only [bnd, bin]
  split <;> rename_i h <;> rw [h] <;> rfl
@[simp] theorem bnd_no (st : St) (op : BinOp) (k k' : IntKind) (a b : Int) : bnd .no st op (.sc (.int k a)) (.sc (.int k' b)) = ob (if isShift op = true then shiftBin op k a b else if k = k' then intBin op k a b else none) (fun z => some (.sc z)) := by
  simp only [bnd, bin]
  split <;> rename_i h <;> rw [h] <;> rfl
@[simp] theorem bnd_beq (st : St) (a b : Bool) : bnd .bool st .eql (.sc (.bool a)) (.sc (.bool b)) = some (.sc (.bool (a == b))) := rfl
@[simp] theorem bnd_bne (st : St) (a b : Bool) : bnd .bool st .neq (.sc (.bool a)) (.sc (.bool b)) = some (.sc (.bool (!(a == b)))) := rfl
@[simp] theorem bnd_seq (st : St) (bt : BT) (h : bt = .num ∨ bt = .no) (a b : ByteArray) : bnd bt st .eql (.sc (.string a)) (.sc (.string b)) = some (.sc (.bool (a.toList == b.toList))) := by
  rcases h with rfl | rfl <;> rfl
@[simp] theorem bnd_sne (st : St) (bt : BT) (h : bt = .num ∨ bt = .no) (a b : ByteArray) : bnd bt st .neq (.sc (.string a)) (.sc (.string b)) = some (.sc (.bool (!(a.toList == b.toList)))) := by
  rcases h with rfl | rfl <;> rfl
def eqA (op : BinOp) (ks : List Nat) (a b : D) : Option V :=
  match a, b with
  | .nd .ag as, .nd .ag bs => match eqAll ks as bs with
        | some t => match op with
          | .eql => some (.sc (.bool t))
          | .neq => some (.sc (.bool (!t)))
          | _ => none
        | none => none
  | _, _ => none
@[simp] theorem bnd_ag (st : St) (op : BinOp) (ks : List Nat) (vx vy : V) : bnd (.ag ks) st op vx vy = ob (rd st vx) (fun a => ob (rd st vy) (fun b => eqA op ks a b)) := by
  simp only [bnd]
  cases rd st vx with
  | none => rfl
  | some a =>
    cases rd st vy with
    | none => cases a with
      | nd k kids => cases k <;> rfl
      | _ => rfl
    | some b =>
      cases a with
      | nd k kids =>
        cases k <;> try rfl
        cases b with
        | nd k' kids' => cases k' <;> rfl
        | _ => rfl
      | _ => rfl
def eqO (op : BinOp) (t : Bool) : Option V :=
  match op with
  | .eql => some (.sc (.bool t))
  | .neq => some (.sc (.bool (!t)))
  | _ => none
@[simp] theorem eqO_eql (t : Bool) : eqO .eql t = some (.sc (.bool t)) := rfl
@[simp] theorem eqO_neq (t : Bool) : eqO .neq t = some (.sc (.bool (!t))) := rfl
@[simp] theorem eqA_ag (op : BinOp) (ks : List Nat) (as bs : List D) : eqA op ks (.nd .ag as) (.nd .ag bs) = ob (eqAll ks as bs) (eqO op) := by
  simp only [eqA]; cases eqAll ks as bs with
  | none => rfl
  | some t => cases op <;> rfl
@[simp] theorem eqAll_nil : eqAll [] [] [] = some true := rfl
@[simp] theorem eqAll_cons (k : Nat) (ks : List Nat) (a b : D) (as bs : List D) : eqAll (k :: ks) (a :: as) (b :: bs) = ob (eqSc k a b) (fun t => ob (eqAll ks as bs) (fun r => some (t && r))) := by
  rw [eqAll]; cases eqSc k a b with
  | none => rfl
  | some t => simp only [ob_some]; cases eqAll ks as bs <;> rfl
@[simp] theorem eqSc_int (k : IntKind) (a b : Int) : eqSc 0 (.v (.int k a)) (.v (.int k b)) = some (a == b) := by simp [eqSc]
@[simp] theorem eqSc_bool (a b : Bool) : eqSc 1 (.v (.bool a)) (.v (.bool b)) = some (a == b) := by simp [eqSc]
@[simp] theorem eqSc_str (a b : ByteArray) : eqSc 2 (.v (.string a)) (.v (.string b)) = some (a.toList == b.toList) := by simp [eqSc]
/-- Is it nil? -/
def nilD (ptr : Bool) : D → Option Bool
  | .nd (.sl b _ _) _ => if ptr then none else some b
  | .nd (.bx _) _ => if ptr then some false else none
  | .v (.pointer none) => if ptr then some true else none
  | _ => none
@[simp] theorem nilD_sl (b : Bool) (es n : Nat) (kids : List D) : nilD false (.nd (.sl b es n) kids) = some b := rfl
@[simp] theorem nilD_bx (b : Bool) (kids : List D) : nilD true (.nd (.bx b) kids) = some false := rfl
@[simp] theorem nilD_ptr : nilD true (.v (.pointer none)) = some true := rfl
@[simp] theorem bnd_nil (st : St) (op : BinOp) (ptr : Bool) (vx vy : V) : bnd (.nilT ptr) st op vx vy = ob (ob (rd st vx) (nilD ptr)) (fun a => ob (ob (rd st vy) (nilD ptr)) (fun b => if (a || b) = true then eqO op (a && b) else none)) := by
  have e : ∀ v, isNil st ptr v = ob (rd st v) (nilD ptr) := by
    intro v
    unfold isNil
    cases rd st v with
    | none => rfl
    | some d => cases d with
      | nd k kids => cases k <;> rfl
      | v x => cases x with
        | pointer a => cases a <;> rfl
        | _ => rfl
      | hole b => rfl
  simp only [bnd, e]
  generalize ob (rd st vx) (nilD ptr) = a
  generalize ob (rd st vy) (nilD ptr) = b
  cases a <;> cases b <;> try rfl
attribute [simp] isShift
section
variable (k : IntKind) (a b : Int)
@[simp] theorem intBin_add : intBin .add k a b = some (.int k (k.wrap (a + b))) := rfl
@[simp] theorem intBin_sub : intBin .sub k a b = some (.int k (k.wrap (a - b))) := rfl
@[simp] theorem intBin_mul : intBin .mul k a b = some (.int k (k.wrap (a * b))) := rfl
@[simp] theorem intBin_quo : intBin .quo k a b = if b = 0 then none else some (.int k (k.wrap (a.tdiv b))) := rfl
@[simp] theorem intBin_rem : intBin .rem k a b = if b = 0 then none else some (.int k (a.tmod b)) := rfl
@[simp] theorem intBin_eql : intBin .eql k a b = some (.bool (a == b)) := rfl
@[simp] theorem intBin_neq : intBin .neq k a b = some (.bool (a != b)) := rfl
@[simp] theorem intBin_lss : intBin .lss k a b = some (.bool (a < b)) := rfl
@[simp] theorem intBin_leq : intBin .leq k a b = some (.bool (a ≤ b)) := rfl
@[simp] theorem intBin_gtr : intBin .gtr k a b = some (.bool (a > b)) := rfl
@[simp] theorem intBin_geq : intBin .geq k a b = some (.bool (a ≥ b)) := rfl
end
@[simp] theorem un_neg (k : IntKind) (n : Int) : un .neg (.int k n) = some (.int k (k.wrap (0 - n))) := rfl
@[simp] theorem un_not (b : Bool) : un .not (.bool b) = some (.bool !b) := rfl
@[simp] theorem un_xor (k : IntKind) (n : Int) : un .xor (.int k n) = some (mask k (BitVec.ofInt k.bits (if k.signed then -1 else k.max) ^^^ BitVec.ofInt k.bits n)) := rfl
def scV (v : V) : Option Value :=
  match v with
  | .sc x => some x
  | _ => none
@[simp] theorem scV_sc (x : Value) : scV (.sc x) = some x := rfl
def boolV (v : V) : Option Bool :=
  match v with
  | .sc (.bool x) => some x
  | _ => none
@[simp] theorem boolV_bool (x : Bool) : boolV (.sc (.bool x)) = some x := rfl
def cviV (k : IntKind) (v : V) : Option V :=
  match v with
  | .sc (.int _ n) => some (.sc (.int k (k.wrap n)))
  | _ => none
@[simp] theorem cviV_int (k k' : IntKind) (n : Int) : cviV k (.sc (.int k' n)) = some (.sc (.int k (k.wrap n))) := rfl
def mmV (mx : Bool) (a b : V) : Option V :=
  match a, b with
  | .sc (.int k a), .sc (.int _ b) => some (.sc (.int k (if mx then (if b > a then b else a) else (if b < a then b else a))))
  | _, _ => none
@[simp] theorem mmV_max (k k' : IntKind) (a b : Int) : mmV true (.sc (.int k a)) (.sc (.int k' b)) = some (.sc (.int k (max a b))) := by
  simp only [mmV, if_true]
  have : (if b > a then b else a) = max a b := by split <;> omega
  rw [this]
@[simp] theorem mmV_min (k k' : IntKind) (a b : Int) : mmV false (.sc (.int k a)) (.sc (.int k' b)) = some (.sc (.int k (min a b))) := by
  simp only [mmV, Bool.false_eq_true, if_false]
  have : (if b < a then b else a) = min a b := by split <;> omega
  rw [this]
@[simp] theorem optNat_none (st : St) : optNat st none = some none := rfl
@[simp] theorem optNat_some (st : St) (x : MO) : optNat st (some x) = ob (asNat (ev st x)) (fun n => some (some n)) := by
  simp only [optNat]; cases asNat (ev st x) <;> rfl
attribute [simp] put

/-- A field of a struct that is a value. -/
def fldP (r : Nat) (p : List Nat) (off : Nat) : D → Option V
  | .nd .ag kids => ob kids[off]? (vP r p off)
  | _ => none
@[simp] theorem fldP_ag (r : Nat) (p : List Nat) (off : Nat) (kids : List D) : fldP r p off (.nd .ag kids) = ob kids[off]? (vP r p off) := rfl
@[simp] theorem fld_ref (st : St) (r : Nat) (p : List Nat) (off : Nat) : fieldV st (.ref r p) off none = ob (placeD st r p) (fldP r p off) := by
  simp only [fieldV]; cases placeD st r p with
  | none => rfl
  | some d => cases d with
    | nd k kids => cases k <;> first | exact cellV_eq r p kids off | rfl
    | _ => rfl
@[simp] theorem fld_ro (st : St) (kids : List D) (off : Nat) : fieldV st (.ro (.nd .ag kids)) off none = ob kids[off]? vR := cellR_eq kids off
@[simp] theorem fld_vn (st : St) (vs : List V) (off : Nat) : fieldV st (.vn .ag vs) off none = vs[off]? := rfl
def fldM (off m : Nat) : D → Option V
  | .nd .ag kids => if off + m ≤ kids.length ∧ ((kids.drop off).take m).all isSc then some (.ro (.nd .ag ((kids.drop off).take m))) else none
  | _ => none
@[simp] theorem fldM_ag (off m : Nat) (kids : List D) : fldM off m (.nd .ag kids) = if off + m ≤ kids.length ∧ ((kids.drop off).take m).all isSc = true then some (.ro (.nd .ag ((kids.drop off).take m))) else none := rfl
@[simp] theorem fld_m (st : St) (x : V) (off m : Nat) : fieldV st x off (some m) = ob (rd st x) (fldM off m) := by
  simp only [fieldV]; cases rd st x with
  | none => rfl
  | some d => cases d with
    | nd k kids => cases k <;> rfl
    | _ => rfl
def partK (st : St) (r : Nat) (d0 : D) (p : List Nat) (i : Nat) : D → Option (V × St)
  | .v y => some (.sc y, st)
  | .nd k ks => some (.own (.nd k ks), leave st r d0 (p ++ [i]))
  | _ => none
@[simp] theorem partK_v (st : St) (r : Nat) (d0 : D) (p : List Nat) (i : Nat) (y : Value) : partK st r d0 p i (.v y) = some (.sc y, st) := rfl
@[simp] theorem partK_nd (st : St) (r : Nat) (d0 : D) (p : List Nat) (i : Nat) (k : K Bool) (ks : List D) : partK st r d0 p i (.nd k ks) = some (.own (.nd k ks), leave st r d0 (p ++ [i])) := rfl
def tuK (i : Nat) : D → Option D
  | .nd .tu kids => kids[i]?
  | _ => none
@[simp] theorem tuK_tu (i : Nat) (kids : List D) : tuK i (.nd .tu kids) = kids[i]? := rfl
@[simp] theorem part_ref (st : St) (r : Nat) (p : List Nat) (i : Nat) : part st (.ref r p) i = ob (roo st[r]?) (fun d0 => ob (getAt d0 p) (fun t => ob (tuK i t) (partK st r d0 p i))) := by
  simp only [part, rootD_eq]
  cases roo st[r]? with
  | none => rfl
  | some d0 =>
    simp only [ob_some]
    cases getAt d0 p with
    | none => rfl
    | some t =>
      cases t with
      | nd k kids =>
        cases k <;> try rfl
        simp only [ob_some, tuK]
        cases kids[i]? with
        | none => rfl
        | some t => cases t <;> rfl
      | _ => rfl

/-! ### operations -/
section
variable (call : Oracle) (st : St)
@[simp] theorem step_mv (dst : Nat) (x : MO) : step call st (.mv dst x) = ob (nd (ev st x)) (fun y => some (setv st dst y)) := by
  simp only [step]; cases ev st x <;> rfl
@[simp] theorem step_asg (dst : Nat) (x : MO) : step call st (.asg dst x) = ob (nd (ev st x)) (fun y => assign st dst y) := by
  simp only [step]; cases ev st x <;> rfl
@[simp] theorem step_pick (dst : Nat) (c a b : MO) : step call st (.pick dst c a b) = ob (boolV (ev st c)) (fun t => if t = true then ob (nd (ev st a)) (fun y => some (setv st dst y)) else ob (nd (ev st b)) (fun y => some (setv st dst y))) := by
  simp only [step]
  cases ev st c with
  | sc x => cases x with
    | bool t =>
      simp only [boolV, ob_some]
      cases t
      · simp only [Bool.false_eq_true, if_false]; cases ev st b <;> rfl
      · simp only [if_true]; cases ev st a <;> rfl
    | _ => rfl
  | _ => rfl
@[simp] theorem step_ext (dst : Nat) (x : MO) (i : Nat) : step call st (.ext dst x i) = ob (part st (ev st x) i) (fun q => some (setv q.2 dst q.1)) := by
  simp only [step]; cases part st (ev st x) i <;> rfl
@[simp] theorem step_ixs (dst es : Nat) (x i : MO) : step call st (.ixs dst es x i) = ob (asNat (ev st i)) (fun n => ob (elemAt st es (ev st x) n) (fun y => some (setv st dst y))) := by
  simp only [step]; cases asNat (ev st i) with
  | none => rfl
  | some n => simp only [ob_some]; cases elemAt st es (ev st x) n <;> rfl
@[simp] theorem step_ixa (dst es len : Nat) (x i : MO) : step call st (.ixa dst es len x i) = ob (asNat (ev st i)) (fun n => if n < len then ob (addAt st (ev st x) (n * es)) (fun y => some (setv st dst y)) else none) := by
  simp only [step]; cases asNat (ev st i) with
  | none => rfl
  | some n => simp only [ob_some]; split
              · cases addAt st (ev st x) (n * es) <;> rfl
              · rfl
@[simp] theorem step_ld1 (dst : Nat) (x : MO) : step call st (.ld1 dst x) = ob (load1 st (ev st x)) (fun y => some (setv st dst y)) := by
  simp only [step]; cases load1 st (ev st x) <;> rfl
@[simp] theorem step_ldn (dst m : Nat) (x : MO) : step call st (.ldn dst m x) = ob (loadN st (ev st x) m) (fun y => some (setv st dst y)) := by
  simp only [step]; cases loadN st (ev st x) m <;> rfl
@[simp] theorem step_stn (dst : Option Nat) (m : Nat) (x y : MO) : step call st (.stn dst m x y) = ob (Mx.store st x y m) (fun s1 => some (put s1 dst (.sc undef))) := by
  simp only [step]; cases Mx.store st x y m <;> rfl
@[simp] theorem step_bin' (dst : Nat) (op : BinOp) (bt : BT) (x y : MO) : step call st (.bin dst op bt x y) = ob (bnd bt st op (ev st x) (ev st y)) (fun v => some (setv st dst v)) := step_bin call st dst op bt x y
@[simp] theorem step_un (dst : Nat) (op : UnOp) (x : MO) : step call st (.un dst op x) = ob (scV (ev st x)) (fun a => ob (un op a) (fun z => some (setv st dst (.sc z)))) := by
  simp only [step]; cases ev st x with
  | sc a => simp only [scV, ob_some]; cases un op a <;> rfl
  | _ => rfl
@[simp] theorem step_len (dst : Nat) (s : Bool) (x : MO) : step call st (.len dst s x) = ob (lenOf st s (ev st x)) (fun n => some (setv st dst (.sc (i64 n)))) := by
  simp only [step]; cases lenOf st s (ev st x) <;> rfl
@[simp] theorem step_app (dst es : Nat) (x y : MO) : step call st (.app dst es x y) = ob (rd st (ev st y)) (fun d0 => ob (apS st es (ev st y) d0) (fun q => ob (Mx.take q.2.2 (ev q.2.2 x)) (fun q2 => ob (apD es q.1 q.2.1 q2.1) (fun d => some (setv q2.2 dst (.own d)))))) := by
  simp only [step, append_eq, appSrc_eq]
  cases rd st (ev st y) with
  | none => rfl
  | some d0 =>
    simp only [ob_some]
    cases apS st es (ev st y) d0 with
    | none => rfl
    | some q =>
      simp only [ob_some]
      cases Mx.take q.2.2 (ev q.2.2 x) with
      | none => rfl
      | some q2 => simp only [ob_some]; cases apD es q.1 q.2.1 q2.1 <;> rfl
@[simp] theorem step_mm (dst : Nat) (mx : Bool) (x y : MO) : step call st (.mm dst mx x y) = ob (mmV mx (ev st x) (ev st y)) (fun v => some (setv st dst v)) := by
  simp only [step]
  cases ev st x with
  | sc a => cases a with
    | int k a => cases ev st y with
      | sc b => cases b <;> rfl
      | _ => rfl
    | _ => rfl
  | _ => rfl
@[simp] theorem step_call (dst : Option Nat) (f : FuncId) (args : List MO) : step call st (.call dst f args) = ob (rdAll st args) (fun ds => ob (call f ds) (fun d => some (put st dst (mkOwn d)))) := by
  simp only [step]; cases rdAll st args with
  | none => rfl
  | some ds => simp only [ob_some]; cases call f ds <;> rfl
def fnD (d : D) : Option (FuncId × Nat × List D) :=
  match d with
  | .nd (.fn (.func f) nf) kids => some (f, nf, kids)
  | _ => none
@[simp] theorem fnD_fn (f : FuncId) (nf : Nat) (kids : List D) : fnD (.nd (.fn (.func f) nf) kids) = some (f, nf, kids) := rfl
@[simp] theorem step_calv (dst : Option Nat) (g : MO) (args : List MO) : step call st (.calv dst g args) = ob (rd st (ev st g)) (fun d => ob (fnD d) (fun q => ob (rdAll st args) (fun ds => if q.1 < ioB then ob (call q.1 (q.2.2.take q.2.1 ++ ds ++ q.2.2.drop q.2.1)) (fun d => some (put st dst (mkOwn d))) else none))) := by
  simp only [step]; cases rd st (ev st g) with
  | none => rfl
  | some d =>
    cases d with
    | nd k kids => cases k with
      | fn f nf => cases f with
        | func f =>
          simp only [ob_some, fnD]
          cases rdAll st args with
          | none => rfl
          | some ds =>
            simp only [ob_some]
            by_cases hf : f < ioB
            · rw [if_pos hf, if_pos hf]; cases call f (kids.take nf ++ ds ++ kids.drop nf) <;> rfl
            · rw [if_neg hf, if_neg hf]
        | _ => rfl
      | _ => rfl
    | _ => rfl
@[simp] theorem step_bs (dst es n : Nat) (zero : List D) (parts : List (Nat × Nat × MO)) : step call st (.bs dst es n zero parts) = ob (takeAll st (parts.map (·.2.2))) (fun q => ob (lay (reps n zero) ((parts.zip q.1).map fun q => (q.1.1, q.1.2.1, q.2))) (fun cells => some (setv q.2 dst (.own (.nd (.sl false es n) cells))))) := by
  simp only [step]; cases takeAll st (parts.map (·.2.2)) with
  | none => rfl
  | some q => simp only [ob_some]; cases lay (reps n zero) ((parts.zip q.1).map fun q => (q.1.1, q.1.2.1, q.2)) <;> rfl
@[simp] theorem step_bld (dst : Nat) (zero : List D) (parts : List (Nat × Nat × MO)) : step call st (.bld dst zero parts) = ob (takeAll st (parts.map (·.2.2))) (fun q => ob (lay zero ((parts.zip q.1).map fun q => (q.1.1, q.1.2.1, q.2))) (fun cells => some (setv q.2 dst (.own (.nd .ag cells))))) := by
  simp only [step]; cases takeAll st (parts.map (·.2.2)) with
  | none => rfl
  | some q => simp only [ob_some]; cases lay zero ((parts.zip q.1).map fun q => (q.1.1, q.1.2.1, q.2)) <;> rfl
@[simp] theorem step_bv (dst : Nat) (zero : List D) (parts : List (Nat × Nat × MO)) : step call st (.bv dst zero parts) = ob (bvL st (zV zero) parts) (fun cs => some (setv st dst (.vn .ag cs))) := by
  simp only [step]; cases bvL st (zV zero) parts <;> rfl
@[simp] theorem step_box (dst : Nat) (x : MO) : step call st (.box dst x) = ob (Mx.take st (ev st x)) (fun q => if (cellsOfD q.1).all flatOk = true then some (setv q.2 dst (.own (.nd (.bx false) (cellsOfD q.1)))) else none) := by
  simp only [step]; cases Mx.take st (ev st x) <;> rfl
@[simp] theorem step_alc (dst : Nat) (zero : List D) : step call st (.alc dst zero) = some (setv st dst (.own (.nd (.bx false) zero))) := rfl
@[simp] theorem step_mks (dst es : Nat) (zero : List D) (l c : MO) : step call st (.mks dst es zero l c) = ob (asNat (ev st l)) (fun n => ob (asNat (ev st c)) (fun m => if n ≤ m ∧ m ≤ most then some (setv st dst (.own (.nd (.sl false es n) (reps n zero)))) else none)) := by
  simp only [step]; cases asNat (ev st l) with
  | none => rfl
  | some n => cases asNat (ev st c) <;> rfl
@[simp] theorem step_sl (dst es : Nat) (x : MO) (lo hi : Option MO) : step call st (.sl dst es x lo hi) = ob (optNat st lo) (fun l => ob (optNat st hi) (fun h => ob (Mx.slice st es (ev st x) l h) (fun y => some (setv st dst y)))) := by
  simp only [step]; cases optNat st lo with
  | none => rfl
  | some l => cases optNat st hi with
    | none => rfl
    | some h => simp only [ob_some]; cases Mx.slice st es (ev st x) l h <;> rfl
@[simp] theorem step_fa (dst off : Nat) (x : MO) : step call st (.fa dst off x) = ob (addAt st (ev st x) off) (fun y => some (setv st dst y)) := by
  simp only [step]; cases addAt st (ev st x) off <;> rfl
@[simp] theorem step_fld (dst off : Nat) (m : Option Nat) (x : MO) : step call st (.fld dst off m x) = ob (fieldV st (ev st x) off m) (fun y => some (setv st dst y)) := by
  simp only [step]; cases fieldV st (ev st x) off m <;> rfl
@[simp] theorem step_cvi (dst : Nat) (k : IntKind) (x : MO) : step call st (.cvi dst k x) = ob (cviV k (ev st x)) (fun y => some (setv st dst y)) := by
  simp only [step]; cases ev st x with
  | sc a => cases a <;> rfl
  | _ => rfl
@[simp] theorem step_mkf (dst : Nat) (f : FuncId) (caps : List MO) : step call st (.mkf dst f caps) = some (setv st dst (.vn (.fn (.func f) 0) (caps.map (ev st)))) := rfl
@[simp] theorem step_ix (dst es len : Nat) (x i : MO) : step call st (.ix dst es len x i) = ob (asNat (ev st i)) (fun n => if n < len then ob (fieldV st (ev st x) (n * es) (if es = 1 then none else some es)) (fun y => some (setv st dst y)) else none) := by
  simp only [step]; cases asNat (ev st i) with
  | none => rfl
  | some n => simp only [ob_some]; split
              · cases fieldV st (ev st x) (n * es) (if es = 1 then none else some es) <;> rfl
              · rfl

/-! ### drawn operations -/
@[simp] theorem cp_sc (x : Value) : cp st (.sc x) = some (.v x) := rfl
def cpD (d : D) : Option D :=
  match d with
  | .nd .ag kids => if noMemL kids then some (.nd .ag kids) else none
  | d => if noMem d then some d else none
def cpP (d : D) : Option D :=
  match d with
  | .nd .ag kids => if noMemL kids then some (.nd .ag kids) else none
  | _ => none
@[simp] theorem cpD_ag (kids : List D) : cpD (.nd .ag kids) = if noMemL kids = true then some (.nd .ag kids) else none := rfl
@[simp] theorem cpD_nil (es : Nat) : cpD (.nd (.sl true es 0) []) = some (.nd (.sl true es 0) []) := rfl
@[simp] theorem cpP_ag (kids : List D) : cpP (.nd .ag kids) = if noMemL kids = true then some (.nd .ag kids) else none := rfl
@[simp] theorem cp_ro (d : D) : cp st (.ro d) = cpD d := by
  cases d with
  | nd k kids => cases k <;> rfl
  | _ => rfl
@[simp] theorem cp_ref (r : Nat) (p : List Nat) : cp st (.ref r p) = ob (placeD st r p) cpP := by
  simp only [cp]; cases placeD st r p with
  | none => rfl
  | some d => cases d with
    | nd k kids => cases k <;> rfl
    | _ => rfl
@[simp] theorem cpAll_nil : cpAll st [] = some [] := rfl
@[simp] theorem cpAll_cons (x : MO) (xs : List MO) : cpAll st (x :: xs) = ob (cp st (ev st x)) (fun d => ob (cpAll st xs) (fun ds => some (d :: ds))) := by
  simp only [cpAll]; cases cp st (ev st x) with
  | none => rfl
  | some d => simp only [ob_some]; cases cpAll st xs <;> rfl
@[simp] theorem val1_mv (dst : Nat) (x : MO) : val1 call st (.mv dst x) = nd (ev st x) := by
  simp only [val1]; cases ev st x <;> rfl
@[simp] theorem val1_asg (dst : Nat) (x : MO) : val1 call st (.asg dst x) = ob (scV (ev st x)) (fun a => some (.sc a)) := by
  simp only [val1]; cases ev st x <;> rfl
@[simp] theorem val1_pick (dst : Nat) (c a b : MO) : val1 call st (.pick dst c a b) = ob (boolV (ev st c)) (fun t => if t = true then nd (ev st a) else nd (ev st b)) := by
  simp only [val1]
  cases ev st c with
  | sc x => cases x with
    | bool t =>
      simp only [boolV, ob_some]
      cases t
      · simp only [Bool.false_eq_true, if_false]; cases ev st b <;> rfl
      · simp only [if_true]; cases ev st a <;> rfl
    | _ => rfl
  | _ => rfl
@[simp] theorem val1_ixs (dst es : Nat) (x i : MO) : val1 call st (.ixs dst es x i) = ob (asNat (ev st i)) (fun n => elemAt st es (ev st x) n) := by
  simp only [val1]; cases asNat (ev st i) <;> rfl
@[simp] theorem val1_ixa (dst es len : Nat) (x i : MO) : val1 call st (.ixa dst es len x i) = ob (asNat (ev st i)) (fun n => if n < len then addAt st (ev st x) (n * es) else none) := by
  simp only [val1]; cases asNat (ev st i) <;> rfl
@[simp] theorem val1_ld1 (dst : Nat) (x : MO) : val1 call st (.ld1 dst x) = load1 st (ev st x) := rfl
@[simp] theorem val1_ldn (dst m : Nat) (x : MO) : val1 call st (.ldn dst m x) = loadN st (ev st x) m := rfl
@[simp] theorem val1_bin' (dst : Nat) (op : BinOp) (bt : BT) (x y : MO) : val1 call st (.bin dst op bt x y) = bnd bt st op (ev st x) (ev st y) := val1_bin call st dst op bt x y
@[simp] theorem val1_un (dst : Nat) (op : UnOp) (x : MO) : val1 call st (.un dst op x) = ob (scV (ev st x)) (fun a => ob (un op a) (fun z => some (.sc z))) := by
  simp only [val1]; cases ev st x with
  | sc a => simp only [scV, ob_some]; cases un op a <;> rfl
  | _ => rfl
@[simp] theorem val1_len (dst : Nat) (s : Bool) (x : MO) : val1 call st (.len dst s x) = ob (lenOf st s (ev st x)) (fun n => some (.sc (i64 n))) := by
  simp only [val1]; cases lenOf st s (ev st x) <;> rfl
@[simp] theorem val1_mm (dst : Nat) (mx : Bool) (x y : MO) : val1 call st (.mm dst mx x y) = mmV mx (ev st x) (ev st y) := by
  simp only [val1]
  cases ev st x with
  | sc a => cases a with
    | int k a => cases ev st y with
      | sc b => cases b <;> rfl
      | _ => rfl
    | _ => rfl
  | _ => rfl
@[simp] theorem val1_call (dst : Option Nat) (f : FuncId) (args : List MO) : val1 call st (.call dst f args) = ob (rdAll st args) (fun ds => ob (call f ds) (fun d => some (mkOwn d))) := by
  simp only [val1]; cases rdAll st args with
  | none => rfl
  | some ds => simp only [ob_some]; cases call f ds <;> rfl
@[simp] theorem val1_alc (dst : Nat) (zero : List D) : val1 call st (.alc dst zero) = some (.own (.nd (.bx false) zero)) := rfl
@[simp] theorem val1_mz (dst es : Nat) : val1 call st (.mz dst es) = some (.vn (.sl false es 0) []) := rfl
@[simp] theorem step_mz (dst es : Nat) : step call st (.mz dst es) = some (setv st dst (.vn (.sl false es 0) [])) := rfl
def vnz (v : V) : Option Nat :=
  match v with
  | .vn (.sl false es 0) [] => some es
  | _ => none
@[simp] theorem vnz_vn (es : Nat) : vnz (.vn (.sl false es 0) []) = some es := rfl
def apZ (es : Nat) (d : D) : Option V :=
  match d with
  | .nd (.sl _ es2 n) kids => if (es2 = es ∨ n = 0) ∧ kids.length = n * es ∧ kids.all flatOk = true ∧ kids.all isSc = true ∧ n ≤ most then some (.own (.nd (.sl false es n) kids)) else none
  | _ => none
@[simp] theorem val1_app (dst es : Nat) (x y : MO) : val1 call st (.app dst es x y) = ob (vnz (ev st x)) (fun e => ob (rd st (ev st y)) (fun d => if e = es then apZ es d else none)) := by
  simp only [val1]
  split
  · rename_i e he
    rw [he, vnz_vn, ob_some]
    split
    · rename_i b2 es2 n kids hy
      rw [hy, ob_some]
      by_cases h : e = es
      · simp only [h, true_and, if_true, apZ]
      · rw [if_neg h, if_neg (fun h' => h h'.1)]
    · rename_i hy
      cases hr : rd st (ev st y) with
      | none => rfl
      | some d =>
        rw [ob_some]
        by_cases h : e = es
        · rw [if_pos h]
          cases d with
          | nd k kids =>
            cases k with
            | sl b e2 n => exact absurd hr (hy b e2 n kids)
            | _ => rfl
          | _ => rfl
        · rw [if_neg h]
  · rename_i he
    have : vnz (ev st x) = none := by
      unfold vnz
      split
      · rename_i e he'; exact absurd he' (he e)
      · rfl
    rw [this]; rfl
@[simp] theorem val1_bs (dst es n : Nat) (zero : List D) (parts : List (Nat × Nat × MO)) : val1 call st (.bs dst es n zero parts) = ob (cpAll st (parts.map (·.2.2))) (fun ds => ob (lay (reps n zero) ((parts.zip ds).map fun q => (q.1.1, q.1.2.1, q.2))) (fun cells => some (.own (.nd (.sl false es n) cells)))) := by
  simp only [val1]; cases cpAll st (parts.map (·.2.2)) with
  | none => rfl
  | some q => simp only [ob_some]; cases lay (reps n zero) ((parts.zip q).map fun q => (q.1.1, q.1.2.1, q.2)) <;> rfl
@[simp] theorem val1_bld (dst : Nat) (zero : List D) (parts : List (Nat × Nat × MO)) : val1 call st (.bld dst zero parts) = ob (cpAll st (parts.map (·.2.2))) (fun ds => ob (lay zero ((parts.zip ds).map fun q => (q.1.1, q.1.2.1, q.2))) (fun cells => some (.own (.nd .ag cells)))) := by
  simp only [val1]; cases cpAll st (parts.map (·.2.2)) with
  | none => rfl
  | some q => simp only [ob_some]; cases lay zero ((parts.zip q).map fun q => (q.1.1, q.1.2.1, q.2)) <;> rfl
@[simp] theorem val1_bv (dst : Nat) (zero : List D) (parts : List (Nat × Nat × MO)) : val1 call st (.bv dst zero parts) = ob (bvL st (zV zero) parts) (fun cs => some (.vn .ag cs)) := by
  simp only [val1]; cases bvL st (zV zero) parts <;> rfl
@[simp] theorem bvL_nil (cells : List V) : bvL st cells [] = some cells := rfl
@[simp] theorem bvL_cons (cells : List V) (off sz : Nat) (x : MO) (ps : List (Nat × Nat × MO)) : bvL st cells ((off, sz, x) :: ps) = if sz = 1 ∧ off < cells.length ∧ oneV st (ev st x) = true then bvL st (cells.set off (ev st x)) ps else none := rfl
attribute [simp] zV oneV
@[simp] theorem val1_mks (dst es : Nat) (zero : List D) (l c : MO) : val1 call st (.mks dst es zero l c) = ob (asNat (ev st l)) (fun n => ob (asNat (ev st c)) (fun m => if n ≤ m ∧ m ≤ most then some (.own (.nd (.sl false es n) (reps n zero))) else none)) := by
  simp only [val1]; cases asNat (ev st l) with
  | none => rfl
  | some n => cases asNat (ev st c) <;> rfl
@[simp] theorem val1_sl (dst es : Nat) (x : MO) (lo hi : Option MO) : val1 call st (.sl dst es x lo hi) = ob (optNat st lo) (fun l => ob (optNat st hi) (fun h => Mx.slice st es (ev st x) l h)) := by
  simp only [val1]; cases optNat st lo with
  | none => rfl
  | some l => cases optNat st hi <;> rfl
@[simp] theorem val1_fa (dst off : Nat) (x : MO) : val1 call st (.fa dst off x) = addAt st (ev st x) off := rfl
@[simp] theorem val1_fld (dst off : Nat) (m : Option Nat) (x : MO) : val1 call st (.fld dst off m x) = fieldV st (ev st x) off m := rfl
@[simp] theorem val1_cvi (dst : Nat) (k : IntKind) (x : MO) : val1 call st (.cvi dst k x) = cviV k (ev st x) := by
  simp only [val1]; cases ev st x with
  | sc a => cases a <;> rfl
  | _ => rfl
@[simp] theorem val1_ix (dst es len : Nat) (x i : MO) : val1 call st (.ix dst es len x i) = ob (asNat (ev st i)) (fun n => if n < len then fieldV st (ev st x) (n * es) (if es = 1 then none else some es) else none) := by
  simp only [val1]; cases asNat (ev st i) <;> rfl

def exK (r : Nat) (p : List Nat) (i : Nat) : D → Option V
  | .v y => some (.sc y)
  | .nd _ _ => some (.ref r (p ++ [i]))
  | _ => none
@[simp] theorem exK_v (r : Nat) (p : List Nat) (i : Nat) (y : Value) : exK r p i (.v y) = some (.sc y) := rfl
@[simp] theorem exK_nd (r : Nat) (p : List Nat) (i : Nat) (k : K Bool) (ks : List D) : exK r p i (.nd k ks) = some (.ref r (p ++ [i])) := rfl
@[simp] theorem exV_ref (r : Nat) (p : List Nat) (i : Nat) : exV st (.ref r p) i = ob (placeD st r p) (fun t => ob (tuK i t) (exK r p i)) := by
  simp only [exV]
  cases placeD st r p with
  | none => rfl
  | some t =>
    cases t with
    | nd k kids =>
      cases k <;> try rfl
      simp only [ob_some, tuK]
      cases kids[i]? with
      | none => rfl
      | some t => cases t <;> rfl
    | _ => rfl
@[simp] theorem step_exb (dst : Nat) (x : MO) (i : Nat) : step call st (.exb dst x i) = ob (exV st (ev st x) i) (fun y => some (setv st dst y)) := by
  simp only [step]; cases exV st (ev st x) i <;> rfl
@[simp] theorem val1_exb (dst : Nat) (x : MO) (i : Nat) : val1 call st (.exb dst x i) = exV st (ev st x) i := rfl
theorem isNil_eq (ptr : Bool) (v : V) : isNil st ptr v = ob (rd st v) (nilD ptr) := by
  unfold isNil
  cases rd st v with
  | none => rfl
  | some d =>
    cases d with
    | v x => cases x <;> try rfl
             rename_i o; cases o <;> rfl
    | hole _ => rfl
    | nd k kids => cases k <;> rfl
/-- Is it a pointer that is not nil? -/
def ncK (b : Option Bool) (y : Option St) : Option St :=
  match b with
  | some false => y
  | _ => none
@[simp] theorem ncK_false (y : Option St) : ncK (some false) y = y := rfl
@[simp] theorem step_nc (dst : Nat) (x : MO) : step call st (.nc dst x) = ncK (ob (rd st (ev st x)) (nilD true)) (some (setv st dst (ev st x))) := by
  simp only [step, isNil_eq]; cases ob (rd st (ev st x)) (nilD true) with
  | none => rfl
  | some b => cases b <;> rfl
def ncV (b : Option Bool) (y : Option V) : Option V :=
  match b with
  | some false => y
  | _ => none
@[simp] theorem ncV_false (y : Option V) : ncV (some false) y = y := rfl
@[simp] theorem val1_nc (dst : Nat) (x : MO) : val1 call st (.nc dst x) = ncV (ob (rd st (ev st x)) (nilD true)) (some (ev st x)) := by
  simp only [val1, isNil_eq]; cases ob (rd st (ev st x)) (nilD true) with
  | none => rfl
  | some b => cases b <;> rfl
def strV (v : V) : Option ByteArray :=
  match v with
  | .sc (.string s) => some s
  | _ => none
@[simp] theorem strV_str (s : ByteArray) : strV (.sc (.string s)) = some s := rfl
@[simp] theorem step_ssl (dst : Nat) (x : MO) (lo hi : Option MO) : step call st (.ssl dst x lo hi) = ob (strV (ev st x)) (fun s => ob (optNat st lo) (fun l => ob (optNat st hi) (fun h => ob (strSl s l h) (fun y => some (setv st dst y))))) := by
  simp only [step]; cases ev st x with
  | sc v => cases v with
    | string s =>
      simp only [strV_str, ob_some]
      cases optNat st lo with
      | none => rfl
      | some l => cases optNat st hi with
        | none => rfl
        | some h => simp only [ob_some]; cases strSl s l h <;> rfl
    | _ => rfl
  | _ => rfl
@[simp] theorem val1_ssl (dst : Nat) (x : MO) (lo hi : Option MO) : val1 call st (.ssl dst x lo hi) = ob (strV (ev st x)) (fun s => ob (optNat st lo) (fun l => ob (optNat st hi) (fun h => strSl s l h))) := by
  simp only [val1]; cases ev st x with
  | sc v => cases v with
    | string s =>
      simp only [strV_str, ob_some]
      cases optNat st lo with
      | none => rfl
      | some l => cases optNat st hi with
        | none => rfl
        | some h => rfl
    | _ => rfl
  | _ => rfl
attribute [simp] strSl
/-- A call that changes what its first argument points to. -/
def bxO (d : D) : Option Unit :=
  match d with
  | .nd (.bx _) _ => some ()
  | _ => none
@[simp] theorem bxO_bx (b : Bool) (kids : List D) : bxO (.nd (.bx b) kids) = some () := rfl
def ciV (dst : Option Nat) (f : FuncId) (args : List MO) (v : V) : Option St :=
  match v with
  | .sc (.pointer none) => ob (rdAll st args) (fun ds => ob (call f (.v (.pointer none) :: ds)) (fun d => some (put st dst (mkOwn d))))
  | .ref r [] => ob (roo st[r]?) (fun d0 => ob (bxO d0) (fun _ => ob (rdAll ((kill r [] st).set r .dead) args) (fun ds => ioRes ((kill r [] st).set r .dead) dst r (call (f + ioB) (d0 :: ds)))))
  | _ => none
@[simp] theorem ciV_nil (dst : Option Nat) (f : FuncId) (args : List MO) : ciV call st dst f args (.sc (.pointer none)) = ob (rdAll st args) (fun ds => ob (call f (.v (.pointer none) :: ds)) (fun d => some (put st dst (mkOwn d)))) := rfl
@[simp] theorem ciV_ref (dst : Option Nat) (f : FuncId) (args : List MO) (r : Nat) : ciV call st dst f args (.ref r []) = ob (roo st[r]?) (fun d0 => ob (bxO d0) (fun _ => ob (rdAll ((kill r [] st).set r .dead) args) (fun ds => ioRes ((kill r [] st).set r .dead) dst r (call (f + ioB) (d0 :: ds))))) := rfl
@[simp] theorem ioRes_some (dst : Option Nat) (r : Nat) (d : D) (b : Bool) (kids : List D) : ioRes st dst r (some (.nd .tu [d, .nd (.bx b) kids])) = some (put (st.set r (.own (.nd (.bx b) kids))) dst (mkOwn d)) := rfl
@[simp] theorem step_calI (dst : Option Nat) (f : FuncId) (x : MO) (args : List MO) : step call st (.calI dst f x args) = ciV call st dst f args (ev st x) := by
  simp only [step]
  cases ev st x with
  | sc v => cases v with
    | pointer o => cases o with
      | none =>
        simp only [ciV]
        cases rdAll st args with
        | none => rfl
        | some ds => simp only [ob_some]; cases call f (.v (.pointer none) :: ds) <;> rfl
      | some a => rfl
    | _ => rfl
  | ref r p => cases p with
    | nil =>
      simp only [ciV, rootD_eq]
      cases roo st[r]? with
      | none => rfl
      | some d0 => cases d0 with
        | nd k kids => cases k with
          | bx b =>
            simp only [ob_some, bxO]
            cases rdAll ((kill r [] st).set r .dead) args <;> rfl
          | _ => rfl
        | _ => rfl
    | cons i p => rfl
  | _ => rfl

/-! ### code -/
attribute [simp] MOp.dst
theorem wanted_none : wanted st none = some true := rfl
theorem wanted_some (s : Nat) (w : Bool) : wanted st (some (s, w)) = wb st[s]? w := by
  simp only [wanted, wb]
  cases st[s]? with
  | none => rfl
  | some v => cases v with
    | sc x => cases x <;> rfl
    | _ => rfl
@[simp] theorem stepG_none (o : MOp) : Mx.stepG call st ⟨none, o⟩ = step call st o := rfl
theorem stepG_some (s : Nat) (w : Bool) (o : MOp) : Mx.stepG call st ⟨some (s, w), o⟩ = gb (wb st[s]? w) (step call st o) (some (put st o.dst (.sc undef))) := by
  simp only [Mx.stepG, wanted_some]
  cases wb st[s]? w with
  | none => rfl
  | some b => cases b <;> rfl
@[simp] theorem valG_none (o : MOp) : valG call st ⟨none, o⟩ = val1 call st o := rfl
theorem valG_some (s : Nat) (w : Bool) (o : MOp) : valG call st ⟨some (s, w), o⟩ = gb (wb st[s]? w) (val1 call st o) (some (.sc undef)) := by
  simp only [valG, wanted_some]
  cases wb st[s]? w with
  | none => rfl
  | some b => cases b <;> rfl
/-- The operations that follow. -/
def sG (os : List MG) (o : Option St) : Option St :=
  match o with
  | some s1 => stepsG call os s1
  | none => none
@[congr] theorem sG_congr {call : Oracle} {os : List MG} {o o' : Option St} (h : ∀ _ : Unit, o = o') : sG call os o = sG call os o' := by rw [h ()]
@[simp, simp ↓] theorem sG_some (os : List MG) (s1 : St) : sG call os (some s1) = stepsG call os s1 := rfl
@[simp, simp ↓] theorem sG_none (os : List MG) : sG call os none = none := rfl
@[simp, simp ↓] theorem sG_ite (os : List MG) (c : Prop) [Decidable c] (a b : Option St) : sG call os (if c then a else b) = if c then sG call os a else sG call os b := by split <;> rfl
@[simp] theorem stepsG_nil : stepsG call [] st = some st := rfl
@[simp] theorem stepsG_n (o : MOp) (os : List MG) : stepsG call (⟨none, o⟩ :: os) st = sG call os (step call st o) := by
  rw [stepsG, stepG_none]; cases step call st o <;> rfl
theorem stepsG_g (s : Nat) (w : Bool) (o : MOp) (os : List MG) : stepsG call (⟨some (s, w), o⟩ :: os) st = sG call os (gb (wb st[s]? w) (step call st o) (some (put st o.dst (.sc undef)))) := by
  rw [stepsG, stepG_some]; cases gb (wb st[s]? w) (step call st o) (some (put st o.dst (.sc undef))) <;> rfl
@[simp] theorem stepsG_tt (s : Nat) (o : MOp) (os : List MG) (h : st[s]? = some (.sc (.bool true))) : stepsG call (⟨some (s, true), o⟩ :: os) st = sG call os (step call st o) := by
  rw [stepsG_g, h]; rfl
@[simp] theorem stepsG_ff (s : Nat) (o : MOp) (os : List MG) (h : st[s]? = some (.sc (.bool false))) : stepsG call (⟨some (s, false), o⟩ :: os) st = sG call os (step call st o) := by
  rw [stepsG_g, h]; rfl
@[simp] theorem stepsG_tf (s : Nat) (o : MOp) (os : List MG) (h : st[s]? = some (.sc (.bool true))) : stepsG call (⟨some (s, false), o⟩ :: os) st = stepsG call os (put st o.dst (.sc undef)) := by
  rw [stepsG_g, h]; rfl
@[simp] theorem stepsG_ft (s : Nat) (o : MOp) (os : List MG) (h : st[s]? = some (.sc (.bool false))) : stepsG call (⟨some (s, true), o⟩ :: os) st = stepsG call os (put st o.dst (.sc undef)) := by
  rw [stepsG_g, h]; rfl
@[simp] theorem stepsG_u (s : Nat) (w : Bool) (o : MOp) (os : List MG) (h : st[s]? = some (.sc undef)) : stepsG call (⟨some (s, w), o⟩ :: os) st = stepsG call os (put st o.dst (.sc undef)) := by
  rw [stepsG_g, h]; rfl
/-- A guard that is open: both ways, each with the guard decided. -/
def gsel (l : List MG) (s : Nat) (v : Option V) : Option St :=
  match v with
  | some (.sc (.bool b)) => if b = true then stepsG call l (st.set s (.sc (.bool true))) else stepsG call l (st.set s (.sc (.bool false)))
  | _ => none
@[congr] theorem gsel_congr {call : Oracle} {st : St} {l : List MG} {s : Nat} {v v' : Option V} (h : ∀ _ : Unit, v = v') : gsel call st l s v = gsel call st l s v' := by rw [h ()]
@[simp, simp ↓] theorem gsel_bool (l : List MG) (s : Nat) (b : Bool) : gsel call st l s (some (.sc (.bool b))) = if b = true then stepsG call l (st.set s (.sc (.bool true))) else stepsG call l (st.set s (.sc (.bool false))) := rfl
theorem set_same (st : St) (s : Nat) (v : V) (h : st[s]? = some v) : st.set s v = st := by
  apply List.ext_getElem?
  intro j
  by_cases hj : j = s
  · subst hj; rw [List.getElem?_set_self (List.getElem?_eq_some_iff.1 h).1, h]
  · rw [List.getElem?_set_ne (Ne.symm hj)]
@[simp low] theorem stepsG_op (s : Nat) (w : Bool) (o : MOp) (os : List MG) (h : ∃ b, st[s]? = some (.sc (.bool b))) : stepsG call (⟨some (s, w), o⟩ :: os) st = gsel call st (⟨some (s, w), o⟩ :: os) s st[s]? := by
  obtain ⟨b, hb⟩ := h
  rw [hb]
  cases b
  · rw [gsel_bool, if_neg (by simp), set_same st s _ hb]
  · rw [gsel_bool, if_pos rfl, set_same st s _ hb]
def fre (o : Option V) : Bool :=
  match o with
  | some x => !isOwn x
  | none => true
@[simp] theorem fre_own (d : D) : fre (some (.own d)) = false := rfl
@[simp] theorem fre_sc (x : Value) : fre (some (.sc x)) = true := rfl
@[simp] theorem fre_ro (x : D) : fre (some (.ro x)) = true := rfl
@[simp] theorem fre_ref (r : Nat) (p : List Nat) : fre (some (.ref r p)) = true := rfl
@[simp] theorem fre_sub (r : Nat) (p : List Nat) (a b c : Nat) : fre (some (.sub r p a b c)) = true := rfl
@[simp] theorem fre_ad (r : Nat) (p : List Nat) (c : Nat) : fre (some (.ad r p c)) = true := rfl
@[simp] theorem fre_rad (k : List D) (c : Nat) : fre (some (.rad k c)) = true := rfl
@[simp] theorem fre_vn (k : K Bool) (c : List V) : fre (some (.vn k c)) = true := rfl
@[simp] theorem fre_dead : fre (some .dead) = true := rfl
/-- A drawn operation's value goes to its slot, and on. -/
def sF (os : List MG) (d : Option Nat) (y : Option V) : Option St :=
  match d, y with
  | some d, some y => if fre st[d]? = true then stepsF call os (st.set d y) else none
  | _, _ => none
@[congr] theorem sF_congr {call : Oracle} {st : St} {os : List MG} {d d' : Option Nat} {y y' : Option V} (h : ∀ _ : Unit, d = d') (h2 : ∀ _ : Unit, y = y') : sF call st os d y = sF call st os d' y' := by rw [h (), h2 ()]
@[simp, simp ↓] theorem sF_some (os : List MG) (d : Nat) (y : V) : sF call st os (some d) (some y) = if fre st[d]? = true then stepsF call os (st.set d y) else none := rfl
@[simp, simp ↓] theorem sF_none (os : List MG) (d : Nat) : sF call st os (some d) none = none := rfl
@[simp, simp ↓] theorem sF_ite (os : List MG) (d : Nat) (c : Prop) [Decidable c] (a b : Option V) : sF call st os (some d) (if c then a else b) = if c then sF call st os (some d) a else sF call st os (some d) b := by split <;> rfl
@[simp] theorem stepsF_nil : stepsF call [] st = some st := rfl
theorem stepsF_c (o : MG) (os : List MG) : stepsF call (o :: os) st = sF call st os o.op.dst (valG call st o) := by
  rw [stepsF]; cases o.op.dst with
  | none => rfl
  | some d =>
    show (if fre st[d]? = true then (match valG call st o with
      | some y => stepsF call os (st.set d y)
      | none => none) else none) = _
    cases valG call st o with
    | none => simp only [sF]; split <;> rfl
    | some y => rfl
@[simp] theorem stepsF_n (o : MOp) (os : List MG) : stepsF call (⟨none, o⟩ :: os) st = sF call st os o.dst (val1 call st o) := by
  rw [stepsF_c, valG_none]
theorem stepsF_g (s : Nat) (w : Bool) (o : MOp) (os : List MG) : stepsF call (⟨some (s, w), o⟩ :: os) st = sF call st os o.dst (gb (wb st[s]? w) (val1 call st o) (some (.sc undef))) := by
  rw [stepsF_c, valG_some]
@[simp] theorem stepsF_tt (s : Nat) (o : MOp) (os : List MG) (h : st[s]? = some (.sc (.bool true))) : stepsF call (⟨some (s, true), o⟩ :: os) st = sF call st os o.dst (val1 call st o) := by
  rw [stepsF_g, h]; rfl
@[simp] theorem stepsF_ff (s : Nat) (o : MOp) (os : List MG) (h : st[s]? = some (.sc (.bool false))) : stepsF call (⟨some (s, false), o⟩ :: os) st = sF call st os o.dst (val1 call st o) := by
  rw [stepsF_g, h]; rfl
@[simp] theorem stepsF_tf (s : Nat) (o : MOp) (os : List MG) (h : st[s]? = some (.sc (.bool true))) : stepsF call (⟨some (s, false), o⟩ :: os) st = sF call st os o.dst (some (.sc undef)) := by
  rw [stepsF_g, h]; rfl
@[simp] theorem stepsF_ft (s : Nat) (o : MOp) (os : List MG) (h : st[s]? = some (.sc (.bool false))) : stepsF call (⟨some (s, true), o⟩ :: os) st = sF call st os o.dst (some (.sc undef)) := by
  rw [stepsF_g, h]; rfl
@[simp] theorem stepsF_u (s : Nat) (w : Bool) (o : MOp) (os : List MG) (h : st[s]? = some (.sc undef)) : stepsF call (⟨some (s, w), o⟩ :: os) st = sF call st os o.dst (some (.sc undef)) := by
  rw [stepsF_g, h]; rfl
def fsel (l : List MG) (s : Nat) (v : Option V) : Option St :=
  match v with
  | some (.sc (.bool b)) => if b = true then stepsF call l (st.set s (.sc (.bool true))) else stepsF call l (st.set s (.sc (.bool false)))
  | _ => none
@[congr] theorem fsel_congr {call : Oracle} {st : St} {l : List MG} {s : Nat} {v v' : Option V} (h : ∀ _ : Unit, v = v') : fsel call st l s v = fsel call st l s v' := by rw [h ()]
@[simp, simp ↓] theorem fsel_bool (l : List MG) (s : Nat) (b : Bool) : fsel call st l s (some (.sc (.bool b))) = if b = true then stepsF call l (st.set s (.sc (.bool true))) else stepsF call l (st.set s (.sc (.bool false))) := rfl
@[simp low] theorem stepsF_op (s : Nat) (w : Bool) (o : MOp) (os : List MG) (h : ∃ b, st[s]? = some (.sc (.bool b))) : stepsF call (⟨some (s, w), o⟩ :: os) st = fsel call st (⟨some (s, w), o⟩ :: os) s st[s]? := by
  obtain ⟨b, hb⟩ := h
  rw [hb]
  cases b
  · rw [fsel_bool, if_neg (by simp), set_same st s _ hb]
  · rw [fsel_bool, if_pos rfl, set_same st s _ hb]
variable (fuel : Nat)
@[simp] theorem run_skip : run call fuel .skip st = some (.norm, st) := rfl
def oN (o : Option St) : R :=
  match o with
  | some s1 => some (.norm, s1)
  | none => none
@[simp, simp ↓] theorem oN_some (s1 : St) : oN (some s1) = some (.norm, s1) := rfl
@[simp, simp ↓] theorem oN_none : oN none = none := rfl
@[simp, simp ↓] theorem oN_ite (c : Prop) [Decidable c] (a b : Option St) : oN (if c then a else b) = if c then oN a else oN b := by split <;> rfl
@[simp] theorem run_ops (l : List MG) : run call fuel (.ops l) st = oN (stepsG call l st) := by
  simp only [run]; cases stepsG call l st <;> rfl
@[simp] theorem run_drw (f t : List MG) : run call fuel (.drw f t) st = oN (sG call t (stepsF call f st)) := by
  simp only [run]; cases stepsF call f st with
  | none => rfl
  | some s1 => simp only [sG]; cases stepsG call t s1 <;> rfl
/-- What may come later is left alone. -/
def rootOK (c c' : St) (o : Option V) : Prop := ∀ x, o = some x → ∀ r ∈ rootsV x, c'[r]? = c[r]?
def rdsOK (c c' : St) (l : List Nat) : Prop := ∀ i ∈ l, c'[i]? = c[i]? ∧ rootOK c c' c[i]?
@[simp] theorem rootOK_sc (c c' : St) (x : Value) : rootOK c c' (some (.sc x)) = True := by simp [rootOK, rootsV]
@[simp] theorem rootOK_own (c c' : St) (x : D) : rootOK c c' (some (.own x)) = True := by simp [rootOK, rootsV]
@[simp] theorem rootOK_ro (c c' : St) (x : D) : rootOK c c' (some (.ro x)) = True := by simp [rootOK, rootsV]
@[simp] theorem rootOK_rad (c c' : St) (x : List D) (n : Nat) : rootOK c c' (some (.rad x n)) = True := by simp [rootOK, rootsV]
@[simp] theorem rootOK_dead (c c' : St) : rootOK c c' (some .dead) = True := by simp [rootOK, rootsV]
@[simp] theorem rootOK_none (c c' : St) : rootOK c c' none = True := by simp [rootOK]
@[simp] theorem rootOK_ref (c c' : St) (r : Nat) (p : List Nat) : rootOK c c' (some (.ref r p)) = (c'[r]? = c[r]?) := by simp [rootOK, rootsV]
@[simp] theorem rootOK_sub (c c' : St) (r : Nat) (p : List Nat) (a b n : Nat) : rootOK c c' (some (.sub r p a b n)) = (c'[r]? = c[r]?) := by simp [rootOK, rootsV]
@[simp] theorem rootOK_ad (c c' : St) (r : Nat) (p : List Nat) (n : Nat) : rootOK c c' (some (.ad r p n)) = (c'[r]? = c[r]?) := by simp [rootOK, rootsV]
@[simp] theorem rootOK_vn (c c' : St) (k : K Bool) (vs : List V) : rootOK c c' (some (.vn k vs)) = ∀ r ∈ rootsL vs, c'[r]? = c[r]? := by simp [rootOK, rootsV]
attribute [simp] rootsV rootsL
@[simp] theorem rdsOK_nil (c c' : St) : rdsOK c c' [] = True := by simp [rdsOK]
@[simp] theorem rdsOK_cons (c c' : St) (i : Nat) (l : List Nat) : rdsOK c c' (i :: l) = ((c'[i]? = c[i]? ∧ rootOK c c' c[i]?) ∧ rdsOK c c' l) := by simp [rdsOK]
@[simp] theorem lateOK_nil (c c' : St) : lateOK c c' [] = True := by simp [lateOK]
@[simp] theorem lateOK_cons (c c' : St) (d : Nat) (rs : List Nat) (l : List (Nat × List Nat)) : lateOK c c' ((d, rs) :: l) = ((c'[d]? = c[d]? ∧ rdsOK c c' rs) ∧ lateOK c c' l) := by
  simp [lateOK, rdsOK, rootOK]
open Classical in
noncomputable def lX (call : Oracle) (st : St) (l : List (Nat × List Nat)) (os : List (MG × List (Nat × List Nat))) (o : Option St) : Option St :=
  match o with
  | some st1 => if lateOK st st1 l then stepsX call os st1 else none
  | none => none
@[congr] theorem lX_congr {call : Oracle} {st : St} {l : List (Nat × List Nat)} {os : List (MG × List (Nat × List Nat))} {o o' : Option St} (h : ∀ _ : Unit, o = o') : lX call st l os o = lX call st l os o' := by rw [h ()]
open Classical in
@[simp] theorem lX_some (l : List (Nat × List Nat)) (os : List (MG × List (Nat × List Nat))) (st1 : St) : lX call st l os (some st1) = if lateOK st st1 l then stepsX call os st1 else none := rfl
@[simp] theorem lX_none (l : List (Nat × List Nat)) (os : List (MG × List (Nat × List Nat))) : lX call st l os none = none := rfl
@[simp] theorem stepsX_nil : stepsX call [] st = some st := rfl
@[simp] theorem stepsX_n (o : MOp) (l : List (Nat × List Nat)) (os : List (MG × List (Nat × List Nat))) : stepsX call ((⟨none, o⟩, l) :: os) st = lX call st l os (step call st o) := by
  simp only [stepsX, stepG_none]; cases step call st o <;> rfl
noncomputable def sX (os : List (MG × List (Nat × List Nat))) (o : Option St) : Option St :=
  match o with
  | some s1 => stepsX call os s1
  | none => none
@[congr] theorem sX_congr {call : Oracle} {os : List (MG × List (Nat × List Nat))} {o o' : Option St} (h : ∀ _ : Unit, o = o') : sX call os o = sX call os o' := by rw [h ()]
@[simp, simp ↓] theorem sX_some (os : List (MG × List (Nat × List Nat))) (s1 : St) : sX call os (some s1) = stepsX call os s1 := rfl
@[simp, simp ↓] theorem sX_none (os : List (MG × List (Nat × List Nat))) : sX call os none = none := rfl
@[simp] theorem run_drx (f : List MG) (g : List (MG × List (Nat × List Nat))) (t : List MG) : run call fuel (.drx f g t) st = oN (sG call t (sX call g (stepsF call f st))) := by
  simp only [run]; cases stepsF call f st with
  | none => rfl
  | some s1 =>
    simp only [sX]; cases stepsX call g s1 with
    | none => rfl
    | some s2 => simp only [sG]; cases stepsG call t s2 <;> rfl
@[simp] theorem run_seq (a b : MC) : run call fuel (.seq a b) st = rq call fuel b (run call fuel a st) := by
  simp only [run]; cases run call fuel a st with
  | none => rfl
  | some q => obtain ⟨e, s1⟩ := q; cases e <;> rfl
@[simp] theorem run_cnd (c : MO) (a b : MC) : run call fuel (.cnd c a b) st = cb (ev st c) (run call fuel a st) (run call fuel b st) := by
  simp only [run]; cases ev st c with
  | sc x => cases x <;> rfl
  | _ => rfl
@[simp] theorem run_blk (id : Nat) (c : MC) : run call fuel (.blk id c) st = bk id (run call fuel c st) := by
  simp only [run]; cases run call fuel c st with
  | none => rfl
  | some q => obtain ⟨e, s1⟩ := q; cases e <;> rfl
@[simp] theorem run_lop (c : MC) : run call fuel (.lop c) st = run.loopN (run call fuel c) fuel st := rfl
@[simp] theorem run_ex (id : Nat) : run call fuel (.ex id) st = some (.ex id, st) := rfl
@[simp] theorem run_ret : run call fuel .ret st = some (.ret, st) := rfl
@[simp] theorem run_scr_eq (m : List Bool) : run call fuel (.scr m) st = some (.norm, drops st m) := rfl

/-- Only the slots that the mask names are kept: no owned one is given up. -/
def drk (o : Bool) (st : St) (m : List Bool) : St :=
  if o then
    match (ownOuts 0 m st).foldl drop1 st with
    | st' => if ownDrop m st' then st' else msk m st'
  else msk m st
@[congr] theorem drk_congr {o o' : Bool} {st st' : St} {m : List Bool} (h : o = o') (h2 : st = st') : drk o st m = drk o' st' m := by rw [h, h2]
theorem drops_eq (m : List Bool) : drops st m = drk (ownDrop m st) st m := rfl
@[simp] theorem drk_false (m : List Bool) : drk false st m = msk m st := rfl
def drj (o : Bool) (st : St) (m : List Bool) : St := if o then st else msk m st
@[congr] theorem drj_congr {o o' : Bool} {st st' : St} {m : List Bool} (h : o = o') (h2 : st = st') : drj o st m = drj o' st' m := by rw [h, h2]
@[simp] theorem drj_false (m : List Bool) : drj false st m = msk m st := rfl
def dri (st : St) (m : List Bool) : St := drj (ownDrop m st) st m
@[congr] theorem dri_congr {st st' : St} {m : List Bool} (h2 : st = st') : dri st m = dri st' m := by rw [h2]
@[simp] theorem dri_cons (x : V) (s : St) (m : List Bool) : dri (x :: s) m = drj (ownDrop m (x :: s)) (x :: s) m := rfl
@[simp] theorem drk_true (m : List Bool) : drk true st m = dri ((ownOuts 0 m st).foldl drop1 st) m := rfl
def drop1w (o : Option V) (st : St) (i : Nat) : St :=
  match o with
  | some (.own _) => (kill i [] st).set i .dead
  | _ => st.set i .dead
@[congr] theorem drop1w_congr {o o' : Option V} {st st' : St} {i : Nat} (h : o = o') (h2 : st = st') : drop1w o st i = drop1w o' st' i := by rw [h, h2]
@[simp] theorem drop1_eq (i : Nat) : drop1 st i = drop1w st[i]? st i := rfl
@[simp] theorem drop1w_own (d : D) (i : Nat) : drop1w (some (.own d)) st i = (kill i [] st).set i .dead := rfl
attribute [simp] ownDrop ownOuts msk

/-! ### functions -/
def fk (o : R) (k : St → Option D) : Option D :=
  match o with
  | some (.norm, st) => k st
  | some (.ret, st) => k st
  | _ => none
@[congr] theorem fk_congr {o o' : R} {k : St → Option D} (h : ∀ _ : Unit, o = o') : fk o k = fk o' k := by rw [h ()]
@[simp, simp ↓] theorem fk_norm (k : St → Option D) : fk (some (.norm, st)) k = k st := rfl
@[simp, simp ↓] theorem fk_ret (k : St → Option D) : fk (some (.ret, st)) k = k st := rfl
@[simp, simp ↓] theorem fk_none (k : St → Option D) : fk none k = none := rfl
@[simp, simp ↓] theorem fk_ite (c : Prop) [Decidable c] (a b : R) (k : St → Option D) : fk (if c then a else b) k = if c then fk a k else fk b k := by split <;> rfl
theorem callF_eq (mf : MF) (ds : List D) : callF call fuel mf ds = fk (run call fuel mf.code (enterF mf ds)) (fun st => resF st mf.res) := by
  unfold callF fk
  split <;> simp_all
attribute [simp] resCell resMark
def tuD (q : List D × St) : Option D :=
  match q with
  | ([d], _) => some d
  | (ds, _) => some (.nd .tu ds)
@[simp] theorem tuD_one (d : D) : tuD ([d], st) = some d := rfl
@[simp] theorem tuD_nil : tuD ([], st) = some (.nd .tu []) := rfl
@[simp] theorem tuD_two (d e : D) (ds : List D) : tuD (d :: e :: ds, st) = some (.nd .tu (d :: e :: ds)) := rfl
def rsK (c : Option (Nat × Nat)) (st : St) (rs : List Nat) : Option D :=
  match c with
  | some (a, m) => ob (loadN st (ev st (.t a)) m) (fun y => ob (take st y) (fun q => some q.1))
  | none => ob (takeAll st (rs.map .t)) tuD
@[congr] theorem rsK_congr {c c' : Option (Nat × Nat)} {st : St} {rs : List Nat} (h : ∀ _ : Unit, c = c') : rsK c st rs = rsK c' st rs := by rw [h ()]
@[simp, simp ↓] theorem rsK_none (rs : List Nat) : rsK none st rs = ob (takeAll st (rs.map .t)) tuD := rfl
@[simp, simp ↓] theorem rsK_some (a m : Nat) (rs : List Nat) : rsK (some (a, m)) st rs = ob (loadN st (ev st (.t a)) m) (fun y => ob (take st y) (fun q => some q.1)) := rfl
@[simp] theorem resF_eq (rs : List Nat) : resF st rs = rsK (resCell rs) st rs := by
  unfold resF
  cases resCell rs with
  | none =>
    simp only [rsK]
    cases takeAll st (rs.map .t) with
    | none => rfl
    | some q =>
      obtain ⟨ds, s2⟩ := q
      cases ds with
      | nil => rfl
      | cons d ds => cases ds <;> rfl
  | some q =>
    obtain ⟨a, m⟩ := q
    simp only [rsK]
    cases loadN st (ev st (.t a)) m with
    | none => rfl
    | some y =>
      simp only [ob_some]
      cases take st y <;> rfl

/-! ### loops -/
/-- A round's end, as the next head. -/
def nxt (h : List Bool) (r : R) : R :=
  match r with
  | some (.norm, st) => some (.norm, drops st h)
  | r => r
@[simp, simp ↓] theorem nxt_norm (h : List Bool) (st : St) : nxt h (some (.norm, st)) = some (.norm, drops st h) := rfl
@[simp, simp ↓] theorem nxt_ex (h : List Bool) (i : Nat) (st : St) : nxt h (some (.ex i, st)) = some (.ex i, st) := rfl
@[simp, simp ↓] theorem nxt_ret (h : List Bool) (st : St) : nxt h (some (.ret, st)) = some (.ret, st) := rfl
@[simp, simp ↓] theorem nxt_none (h : List Bool) : nxt h none = none := rfl
@[simp, simp ↓] theorem nxt_ite (h : List Bool) (c : Prop) [Decidable c] (a b : R) : nxt h (if c then a else b) = if c then nxt h a else nxt h b := by split <;> rfl
end

/-- A loop whose head states are a family: 'step' says where a round leads. -/
theorem loop_iter {α : Type} (call : Oracle) (fuel : Nat) (h : List Bool) (c : MC) (Inv : α → Prop) (I : α → St) (μ : α → Nat) (step : α → α ⊕ (Ex × St)) (res : α → Ex × St)
    (hs : ∀ a, Inv a → nxt h (run call fuel c (I a)) = (step a).elim (fun a' => some (.norm, I a')) some)
    (hl : ∀ a a', Inv a → step a = .inl a' → Inv a' ∧ μ a' < μ a ∧ res a' = res a)
    (hr : ∀ a r, Inv a → step a = .inr r → r = res a ∧ r.1 ≠ .norm) :
    ∀ (fu : Nat) (a : α) (st : St), Inv a → drops st h = I a → μ a < fu → run.loopN (run call fuel (.seq (.scr h) c)) fu st = some (res a) := by
  intro fu
  refine loop_by call fuel h c Inv I μ res ?_ fu
  intro a hi
  have h1 := hs a hi
  cases hst : step a with
  | inl a' =>
    left
    obtain ⟨h2, h3, h4⟩ := hl a a' hi hst
    rw [hst] at h1
    refine ⟨a', h2, h3, h4, ?_⟩
    cases hq : run call fuel c (I a) with
    | none => rw [hq] at h1; simp at h1
    | some q =>
      obtain ⟨e, s1⟩ := q
      rw [hq] at h1
      cases e with
      | norm => exact ⟨s1, rfl, by simpa using h1⟩
      | ex i => simp at h1
      | ret => simp at h1
  | inr r =>
    right
    obtain ⟨h2, h3⟩ := hr a r hi hst
    rw [hst] at h1
    subst h2
    refine ⟨h3, ?_⟩
    cases hq : run call fuel c (I a) with
    | none => rw [hq] at h1; simp at h1
    | some q =>
      obtain ⟨e, s1⟩ := q
      rw [hq] at h1
      cases e with
      | norm => exact absurd (by simpa using (congrArg (fun o => o.map (·.1)) h1).symm) h3
      | ex i => simpa using h1
      | ret => simpa using h1

/-- A counting loop: n rounds, then the end. -/
theorem loop_cnt (call : Oracle) (fuel : Nat) (h : List Bool) (c : MC) (n : Nat) (I : Nat → St) (res : Ex × St) (hne : res.1 ≠ .norm)
    (hs : ∀ i, i < n → nxt h (run call fuel c (I i)) = some (.norm, I (i + 1)))
    (he : nxt h (run call fuel c (I n)) = some res) :
    ∀ (fu : Nat) (st : St), drops st h = I 0 → n < fu → run.loopN (run call fuel (.seq (.scr h) c)) fu st = some res := by
  intro fu st hd hf
  refine loop_iter call fuel h c (fun i => i ≤ n) I (fun i => n - i) (fun i => if i < n then .inl (i + 1) else .inr res) (fun _ => res) ?_ ?_ ?_ fu 0 st (Nat.zero_le _) hd (by simpa using hf)
  · intro i hi
    by_cases hlt : i < n
    · simp only [if_pos hlt, Sum.elim_inl]; exact hs i hlt
    · have hi' : i ≤ n := hi
      have : i = n := by omega
      subst this
      simp only [if_neg hlt, Sum.elim_inr]; exact he
  · intro i j hi hj
    split at hj
    · rename_i hlt
      cases hj
      exact ⟨hlt, by show n - (i + 1) < n - i; omega, rfl⟩
    · cases hj
  · intro i r hi hj
    split at hj
    · cases hj
    · cases hj; exact ⟨rfl, hne⟩

/-- A counting loop with an early way out. -/
theorem loop_find (call : Oracle) (fuel : Nat) (h : List Bool) (c : MC) (n : Nat) (stop : Nat → Bool) (I : Nat → St) (out : Nat → Ex × St) (res : Ex × St) (hne : res.1 ≠ .norm) (hno : ∀ i, (out i).1 ≠ .norm)
    (hs : ∀ i, i < n → (∀ j, j < i → stop j = false) → nxt h (run call fuel c (I i)) = if stop i = true then some (out i) else some (.norm, I (i + 1)))
    (he : (∀ j, j < n → stop j = false) → nxt h (run call fuel c (I n)) = some res) :
    ∀ (fu : Nat) (st : St), drops st h = I 0 → n < fu → run.loopN (run call fuel (.seq (.scr h) c)) fu st = some (((List.range n).find? stop).elim res out) := by
  intro fu st hd hf
  have key : ∀ (r : R) (e : Ex) (s : St), nxt h r = some (e, s) → e ≠ .norm → r = some (e, s) := by
    intro r e s hr he
    cases r with
    | none => simp at hr
    | some q =>
      obtain ⟨e', s'⟩ := q
      cases e' with
      | norm => simp at hr; exact absurd hr.1.symm he
      | ex i => simpa using hr
      | ret => simpa using hr
  refine loop_until call fuel h c n stop I out res hne hno ?_ ?_ ?_ fu st hd hf
  · intro i hi hj hst
    have := hs i hi hj
    rw [hst, if_neg (by simp)] at this
    cases hq : run call fuel c (I i) with
    | none => rw [hq] at this; simp at this
    | some q =>
      obtain ⟨e, s1⟩ := q
      rw [hq] at this
      cases e with
      | norm => exact ⟨s1, rfl, by simpa using this⟩
      | ex i => simp at this
      | ret => simp at this
  · intro i hi hj hst
    have := hs i hi hj
    rw [hst, if_pos rfl] at this
    exact key _ _ _ this (hno i)
  · intro hj
    exact key _ _ _ (he hj) hne

end Go.Mx
