import Derived.Calls
import Derived.Below
import Derived.Laws.Sem
/-
  Mx,part A: data trees. A tree is a scalar,a taken-out place,or a node with children: a slice (with its cells),a variable behind a pointer,a struct or an array,several results,a function value.
  'T Bool' (D): plain data; 'T Dec' (C): the same with the addresses at which the model has it.
-/
namespace Go.Mx
set_option linter.unusedVariables false
set_option linter.unusedSimpArgs false
set_option linter.unusedSectionVars false
inductive K (δ : Type) where
  | sl (dec : δ) (es n : Nat)
  | bx (dec : δ)
  | ag
  | tu
  | fn (f : Fn) (nf : Nat)
inductive T (δ : Type) where
  | v (x : Value)
  | hole (dec : δ)
  | nd (k : K δ) (kids : List (T δ))
structure Dec where
  a : Option Addr
  cap : Nat
  x : Value
abbrev D:=T Bool
abbrev C:=T Dec
instance {δ : Type} : Inhabited (T δ):=⟨.v undef⟩
def K.er : K Dec→K Bool
  | .sl d es n => .sl d.a.isNone es n
  | .bx _ => .bx false
  | .ag => .ag
  | .tu => .tu
  | .fn f nf => .fn f nf
mutual
def er : C→D
  | .v x => .v x
  | .hole _ => .hole false
  | .nd k kids => .nd k.er (erL kids)
def erL : List C→List D
  | [] => []
  | t :: ts => er t :: erL ts
end
theorem erL_eq (l : List C) : erL l = l.map er:=by
  induction l with
  | nil => rfl
  | cons t ts ih => simp [erL,ih]
def K.val (vs : List Value) : K Dec→Value
  | .sl d _ n => .slice d.a n d.cap
  | .bx d => .pointer d.a
  | .ag => .agg vs.toArray
  | .tu => .tuple vs.toArray
  | .fn f nf => .func f (vs.take nf).toArray (vs.drop nf).toArray
mutual
def val : C→Value
  | .v x => x
  | .hole d => d.x
  | .nd k kids => k.val (valL kids)
def valL : List C→List Value
  | [] => []
  | t :: ts => val t :: valL ts
end
theorem valL_eq (l : List C) : valL l = l.map val:=by
  induction l with
  | nil => rfl
  | cons t ts ih => simp [valL,ih]
def K.own (b : Nat) : K Dec→Nat
  | .sl d _ _ => if d.cap ≠ 0∧d.a.map (·.block) = some b then 1 else 0
  | .bx d => if d.a.map (·.block) = some b then 1 else 0
  | _ => 0
mutual
def cnt (b : Nat) : C→Nat
  | .v _ => 0
  | .hole _ => 0
  | .nd k kids => k.own b + cntL b kids
def cntL (b : Nat) : List C→Nat
  | [] => 0
  | t :: ts => cnt b t + cntL b ts
end
def Cells (w : World) (a : Addr) (vs : List Value) : Prop:=∀ i u,vs[i]? = some u→w.cell? (a.add i) = some u
def Row (w : World) (b : Nat) (m : Nat) : Prop:=∃ arr e lo hi,w.heap[b]? = some (.cells arr e (lo,hi))∧m ≤ arr.size∧(lo = hi ∨ m ≤ lo)
def K.ok (w : World) (o : Bool) (vs : List Value) : K Dec→Prop
  | .sl d es n => vs.length = n * es∧n ≤ d.cap∧(d.a = none→d.cap = 0)∧∀ a,d.a = some a→Cells w a vs∧(o = true→d.cap ≠ 0→a.spot = none∧Row w a.block (a.off + d.cap * es))
  | .bx d => ∃ a,d.a = some a∧Cells w a vs∧(o = true→a.spot = none∧Row w a.block (a.off + vs.length))
  | _ => True
mutual
def Mem (w : World) (o : Bool) : C→Prop
  | .v _ => True
  | .hole _ => True
  | .nd k kids => k.ok w o (valL kids)∧MemL w o kids
def MemL (w : World) (o : Bool) : List C→Prop
  | [] => True
  | t :: ts => Mem w o t∧MemL w o ts
end
theorem MemL_iff {w : World} {o : Bool} {l : List C} : MemL w o l ↔ ∀ t ∈ l,Mem w o t:=by
  induction l with
  | nil => simp [MemL]
  | cons t ts ih => simp [MemL,ih]
def getAt {δ : Type} : T δ→List Nat→Option (T δ)
  | t,[] => some t
  | .nd _ kids,i :: p => match kids[i]? with | some t => getAt t p | none => none
  | _,_ :: _ => none
def setAt {δ : Type} : T δ→List Nat→T δ→T δ
  | _,[],x => x
  | .nd k kids,i :: p,x => .nd k (match kids[i]? with | some t => kids.set i (setAt t p x) | none => kids)
  | t,_ :: _,_ => t
theorem er_getAt (t : C) (p : List Nat) : getAt (er t) p = (getAt t p).map er:=by
  induction p generalizing t with
  | nil => cases t <;> rfl
  | cons i p ih =>
    cases t with
    | v x => rfl
    | hole d => rfl
    | nd k kids =>
      simp only [er,getAt,erL_eq,List.getElem?_map]
      cases kids[i]? with
      | none => rfl
      | some t => simpa using ih t
theorem er_setAt (t : C) (p : List Nat) (x : C) : er (setAt t p x) = setAt (er t) p (er x):=by
  induction p generalizing t with
  | nil => cases t <;> rfl
  | cons i p ih =>
    cases t with
    | v x => rfl
    | hole d => rfl
    | nd k kids =>
      simp only [er,setAt,erL_eq,List.getElem?_map]
      cases h : kids[i]? with
      | none => simp
      | some t => simp [List.map_set,ih t]
theorem cntL_set (b : Nat) (l : List C) (i : Nat) (t x : C) (h : l[i]? = some t) : cntL b (l.set i x) + cnt b t = cntL b l + cnt b x:=by
  induction l generalizing i with
  | nil => simp at h
  | cons s ss ih =>
    cases i with
    | zero => simp at h; subst h; simp only [List.set_cons_zero,cntL]; omega
    | succ i =>
      simp at h
      have:=ih i h
      simp only [List.set_cons_succ,cntL]; omega
theorem cntL_append (b : Nat) (l m : List C) : cntL b (l ++ m) = cntL b l + cntL b m:=by
  induction l with
  | nil => simp [cntL]
  | cons s ss ih => simp only [List.cons_append,cntL,ih]; omega
theorem cnt_le_cntL (b : Nat) (l : List C) (i : Nat) (t : C) (h : l[i]? = some t) : cnt b t ≤ cntL b l:=by
  induction l generalizing i with
  | nil => simp at h
  | cons s ss ih =>
    cases i with
    | zero => simp at h; subst h; simp only [cntL]; omega
    | succ i => simp at h; have:=ih i h; simp only [cntL]; omega
theorem cnt_setAt (b : Nat) (t : C) (p : List Nat) (s x : C) (h : getAt t p = some s) : cnt b (setAt t p x) + cnt b s = cnt b t + cnt b x:=by
  induction p generalizing t with
  | nil =>
    have : s = t:=by cases t <;> simpa [getAt] using h.symm
    subst this
    cases s <;> simp [setAt] <;> omega
  | cons i p ih =>
    cases t with
    | v x => simp [getAt] at h
    | hole d => simp [getAt] at h
    | nd k kids =>
      simp only [getAt] at h
      cases hk : kids[i]? with
      | none => simp [hk] at h
      | some t =>
        simp only [hk] at h
        simp only [setAt,hk,cnt]
        have h1:=ih t h
        have h2:=cntL_set b kids i t (setAt t p x) hk
        omega
theorem cnt_getAt (b : Nat) (t : C) (p : List Nat) (s : C) (h : getAt t p = some s) : cnt b s ≤ cnt b t:=by
  induction p generalizing t with
  | nil =>
    have : s = t:=by cases t <;> simpa [getAt] using h.symm
    subst this; exact Nat.le_refl _
  | cons i p ih =>
    cases t with
    | v x => simp [getAt] at h
    | hole d => simp [getAt] at h
    | nd k kids =>
      simp only [getAt] at h
      cases hk : kids[i]? with
      | none => simp [hk] at h
      | some t =>
        simp only [hk] at h
        have h1:=ih t h
        have h2:=cnt_le_cntL b kids i t hk
        simp only [cnt]; omega
theorem Mem_getAt {w : World} {o : Bool} {t : C} {p : List Nat} {s : C} (hm : Mem w o t) (h : getAt t p = some s) : Mem w o s:=by
  induction p generalizing t with
  | nil =>
    have : s = t:=by cases t <;> simpa [getAt] using h.symm
    subst this; exact hm
  | cons i p ih =>
    cases t with
    | v x => simp [getAt] at h
    | hole d => simp [getAt] at h
    | nd k kids =>
      simp only [getAt] at h
      cases hk : kids[i]? with
      | none => simp [hk] at h
      | some t =>
        simp only [hk] at h
        simp only [Mem,MemL_iff] at hm
        exact ih (hm.2 t (List.mem_of_getElem? hk)) h
theorem getAt_append {δ : Type} (t : T δ) (p q : List Nat) : getAt t (p ++ q) = (getAt t p).bind (getAt · q):=by
  induction p generalizing t with
  | nil => cases t <;> rfl
  | cons i p ih =>
    cases t with
    | v x => rfl
    | hole d => rfl
    | nd k kids =>
      simp only [List.cons_append,getAt]
      cases kids[i]? with
      | none => rfl
      | some t => exact ih t
theorem Cells.same {w w' : World} {a : Addr} {vs : List Value} (h : Cells w a vs) (hb : w'.heap[a.block]? = w.heap[a.block]?) : Cells w' a vs:=by
  intro i u hu
  have:=h i u hu
  rw [← this]
  have hbl : (a.add i).block = a.block:=by unfold Addr.add; split <;> rfl
  unfold World.cell?
  rw [hbl,hb]
theorem Row.same {w w' : World} {b m : Nat} (h : Row w b m) (hb : w'.heap[b]? = w.heap[b]?) : Row w' b m:=by
  obtain ⟨arr,e,lo,hi,h1,h2⟩:=h
  exact ⟨arr,e,lo,hi,by rw [hb]; exact h1,h2⟩
theorem K.ok_same {w w' : World} {o : Bool} {vs : List Value} {k : K Dec} (h : k.ok w o vs) (hb : ∀ b,k.own b ≠ 0→w'.heap[b]? = w.heap[b]?)
    (hz : ∀ a es n d,k = .sl d es n→d.a = some a→d.cap = 0→vs = []) : k.ok w' o vs:=by
  cases k with
  | sl d es n =>
    obtain ⟨h1,h2,h3,h4⟩:=h
    refine ⟨h1,h2,h3,fun a ha => ?_⟩
    obtain ⟨h5,h6⟩:=h4 a ha
    by_cases hc : d.cap = 0
    · have:=hz a es n d rfl ha hc
      subst this
      exact ⟨fun i u hu => by simp at hu,fun _ hne => absurd hc hne⟩
    · have:=hb a.block (by simp [K.own,hc,ha])
      exact ⟨h5.same this,fun ho hne => ⟨(h6 ho hne).1,(h6 ho hne).2.same this⟩⟩
  | bx d =>
    obtain ⟨a,ha,h1,h2⟩:=h
    have:=hb a.block (by simp [K.own,ha])
    exact ⟨a,ha,h1.same this,fun ho => ⟨(h2 ho).1,(h2 ho).2.same this⟩⟩
  | ag => trivial
  | tu => trivial
  | fn f nf => trivial
theorem K.ok_empty {w : World} {o : Bool} {vs : List Value} {k : K Dec} (h : k.ok w o vs) : ∀ a es n d,k = .sl d es n→d.a = some a→d.cap = 0→vs = []:=by
  intro a es n d hk ha hc
  subst hk
  obtain ⟨h1,h2,_⟩:=h
  have : n = 0:=by omega
  subst this
  simpa using h1
mutual
theorem Mem.same {w w' : World} {o : Bool} : ∀ {t : C},Mem w o t→(∀ b,cnt b t ≠ 0→w'.heap[b]? = w.heap[b]?)→Mem w' o t
  | .v _,_,_ => trivial
  | .hole _,_,_ => trivial
  | .nd k kids,h,hb => by
    simp only [Mem] at h ⊢
    exact ⟨K.ok_same h.1 (fun b hne => hb b (by simp only [cnt]; omega)) (K.ok_empty h.1),MemL.same h.2 (fun b hne => hb b (by simp only [cnt]; omega))⟩
theorem MemL.same {w w' : World} {o : Bool} : ∀ {l : List C},MemL w o l→(∀ b,cntL b l ≠ 0→w'.heap[b]? = w.heap[b]?)→MemL w' o l
  | [],_,_ => trivial
  | t :: ts,h,hb => by
    simp only [MemL] at h ⊢
    exact ⟨Mem.same h.1 (fun b hne => hb b (by simp only [cntL]; omega)),MemL.same h.2 (fun b hne => hb b (by simp only [cntL]; omega))⟩
end
end Go.Mx
namespace Go.Mx
set_option linter.unusedVariables false
set_option linter.unusedSimpArgs false
set_option linter.unusedSectionVars false
inductive V where
  | sc (x : Value)
  | own (d : D)
  | ro (d : D)
  | ref (r : Nat) (p : List Nat)
  | sub (r : Nat) (p : List Nat) (lo es n : Nat)
  | ad (r : Nat) (p : List Nat) (c : Nat)
  | rad (kids : List D) (c : Nat)
  | vn (k : K Bool) (vs : List V)
  | dead
abbrev St:=List V
inductive MO where
  | t (i : Nat)
  | c (d : D)
def mkOwn : D→V
  | .v x => .sc x
  | .nd k kids => .own (.nd k kids)
  | .hole _ => .dead
def mkRo : D→V
  | .v x => .sc x
  | d => .ro d
def ev (st : St) : MO→V
  | .t i => match st[i]? with
    | some (.own _) => .ref i []
    | some x => x
    | none => .dead
  | .c d => mkRo d
def pre : List Nat→List Nat→Bool
  | [],_ => true
  | _ :: _,[] => false
  | a :: p,b :: q => a == b && pre p q
mutual
def V.under (r : Nat) (p : List Nat) : V→Bool
  | .ref s q => s == r && pre p q
  | .sub s q _ _ _ => s == r && pre p q
  | .ad s q _ => s == r && pre p q
  | .vn _ vs => V.underL r p vs
  | _ => false
def V.underL (r : Nat) (p : List Nat) : List V→Bool
  | [] => false
  | x :: xs => V.under r p x || V.underL r p xs
end
def V.kill (r : Nat) (p : List Nat) (x : V) : V:=if x.under r p then .dead else x
def kill (r : Nat) (p : List Nat) (st : St) : St:=st.map (V.kill r p)
def setv (st : St) (dst : Nat) (x : V) : St :=
  match st[dst]? with
  | some (.own _) => (kill dst [] st).set dst (x.kill dst [])
  | _ => st.set dst x
def rootD (st : St) (r : Nat) : Option D :=
  match st[r]? with
  | some (.own d) => some d
  | _ => none
def placeD (st : St) (r : Nat) (p : List Nat) : Option D :=
  match rootD st r with
  | some d => getAt d p
  | none => none
def noMem : D→Bool
  | .v _ => true
  | .nd (.sl true _ 0) [] => true
  | _ => false
def noMemL (ds : List D) : Bool:=ds.all noMem
def isSc : D→Bool
  | .v _ => true
  | _ => false
def memB : K Bool→Bool
  | .sl .. => true
  | .bx .. => true
  | _ => false
def subD (lo es n : Nat) : D→Option D
  | .nd (.sl b es' _) kids => if b = false∧es' = es∧0 < es∧lo + n * es ≤ kids.length then some (.nd (.sl b es n) ((kids.drop lo).take (n * es))) else none
  | _ => none
def mzD (k : K Bool) (vs : List V) : Option D :=
  match k,vs with
  | .sl false es 0,[] => some (.nd (.sl false es 0) [])
  | _,_ => none
mutual
def rd (st : St) : V→Option D
  | .sc x => some (.v x)
  | .ro d => some d
  | .ref r p => placeD st r p
  | .sub r p lo es n => match placeD st r p with | some d => subD lo es n d | none => none
  | .vn k vs => if memB k then mzD k vs else match rdL st vs with | some ds => some (.nd k ds) | none => none
  | _ => none
def rdL (st : St) : List V→Option (List D)
  | [] => some []
  | x :: xs => match rd st x with
    | some d => match rdL st xs with
      | some ds => some (d :: ds)
      | none => none
    | none => none
end
def leave (st : St) (r : Nat) (d0 : D) (p : List Nat) : St :=
  match p with
  | [] => (kill r [] st).set r .dead
  | p => (kill r p st).set r (.own (setAt d0 p (.hole false)))
mutual
def take (st : St) : V→Option (D × St)
  | .sc x => some (.v x,st)
  | .ro d => match d with
    | .nd .ag kids => if noMemL kids then some (d,st) else none
    | d => if noMem d then some (d,st) else none
  | .ref r p => match rootD st r with
    | some d0 => match getAt d0 p with
      | some (.nd .ag kids) => if noMemL kids then some (.nd .ag kids,st) else some (.nd .ag kids,leave st r d0 p)
      | some (.nd k kids) => some (.nd k kids,leave st r d0 p)
      | _ => none
    | none => none
  | .sub r p lo es n => match rootD st r with
    | some d0 => match getAt d0 p with
      | some d => match subD lo es n d with
        | some s => some (s,leave st r d0 p)
        | none => none
      | none => none
    | none => none
  | .vn k vs => if memB k then match mzD k vs with | some d => some (d,st) | none => none else match takeL st vs with
    | some (ds,st') => some (.nd k ds,st')
    | none => none
  | _ => none
def takeL (st : St) : List V→Option (List D × St)
  | [] => some ([],st)
  | x :: xs => match take st x with
    | some (d,st1) => match takeL st1 xs with
      | some (ds,st2) => some (d :: ds,st2)
      | none => none
    | none => none
end
def assign (st : St) (dst : Nat) (x : V) : Option St :=
  match x with
  | .ref r [] =>
    if r = dst then some st else
    match rootD st r with
    | some d => if dst < st.length then some (setv (setv (setv st r .dead) dst (.own d)) r (.ref dst [])) else none
    | none => none
  | .ref r (i :: p) =>
    if dst < r then
      match take st (.ref r (i :: p)) with
      | some (d,st1) => some (setv st1 dst (mkOwn d))
      | none => none
    else some (setv st dst x)
  | .sub r [] lo es n =>
    if r = dst then
      match take st x with
      | some (d,st1) => some (setv st1 dst (mkOwn d))
      | none => none
    else some (setv st dst x)
  | .ro (.nd (.sl true es 0) []) => some (setv st dst (.own (.nd (.sl true es 0) [])))
  | x => some (setv st dst x)
def kidsOf : D→Option (List D)
  | .nd (.sl _ _ _) kids => some kids
  | .nd (.bx _) kids => some kids
  | _ => none
def boxKids : D→Option (List D)
  | .nd (.bx _) kids => some kids
  | _ => none
def cellV (r : Nat) (p : List Nat) (kids : List D) (c : Nat) : Option V :=
  match kids[c]? with
  | some (.v x) => some (.sc x)
  | some (.nd _ _) => some (.ref r (p ++ [c]))
  | _ => none
def cellR (kids : List D) (c : Nat) : Option V :=
  match kids[c]? with
  | some (.v x) => some (.sc x)
  | some (.nd k ks) => some (.ro (.nd k ks))
  | _ => none
def seqM {α : Type} : List (Option α)→Option (List α)
  | [] => some []
  | none :: _ => none
  | some x :: xs => match seqM xs with
    | some ys => some (x :: ys)
    | none => none
def load1 (st : St) (x : V) : Option V :=
  match x with
  | .ad r p c => match placeD st r p with
    | some d => match kidsOf d with
      | some kids => cellV r p kids c
      | none => none
    | none => none
  | .ref r p => match placeD st r p with
    | some d => match boxKids d with
      | some kids => cellV r p kids 0
      | none => none
    | none => none
  | .rad kids c => cellR kids c
  | .ro (.nd (.bx _) kids) => cellR kids 0
  | _ => none
def aggV (r : Nat) (p : List Nat) (kids : List D) (c m : Nat) : Option V :=
  if c + m ≤ kids.length then
    let ks:=(kids.drop c).take m
    if ks.all isSc then some (.ro (.nd .ag ks))
    else match seqM ((List.range m).map fun i => cellV r p kids (c + i)) with
      | some vs => some (.vn .ag vs)
      | none => none
  else none
def aggR (kids : List D) (c m : Nat) : Option V :=
  if c + m ≤ kids.length then some (.ro (.nd .ag ((kids.drop c).take m))) else none
def loadN (st : St) (x : V) (m : Nat) : Option V :=
  match x with
  | .ad r p c => match placeD st r p with
    | some d => match kidsOf d with
      | some kids => aggV r p kids c m
      | none => none
    | none => none
  | .ref r p => match placeD st r p with
    | some d => match boxKids d with
      | some kids => aggV r p kids 0 m
      | none => none
    | none => none
  | .rad kids c => aggR kids c m
  | .ro (.nd (.bx _) kids) => aggR kids 0 m
  | _ => none
def putCells (r : Nat) (p : List Nat) : St→Nat→List D→Option St
  | st,_,[] => some st
  | st,c,d :: ds =>
    match rootD st r with
    | some d0 => match getAt d0 p with
      | some (.nd k kids) => match kids[c]? with
        | some old =>
          let st1:=if isSc old then st else kill r (p ++ [c]) st
          putCells r p (st1.set r (.own (setAt d0 (p ++ [c]) d))) (c + 1) ds
        | none => none
      | _ => none
    | none => none
def cellsOfD : D→List D
  | .nd .ag kids => kids
  | d => [d]
def target (st : St) (x : V) : Option (Nat × List Nat × Nat) :=
  match x with
  | .ad r p c => match placeD st r p with
    | some d => match kidsOf d with
      | some _ => some (r,p,c)
      | none => none
    | none => none
  | .ref r p => match placeD st r p with
    | some d => match boxKids d with
      | some _ => some (r,p,0)
      | none => none
    | none => none
  | _ => none
def flatOk : D→Bool
  | .v x => x.oneCell'
  | .nd .ag _ => false
  | .nd .tu _ => false
  | .hole _ => false
  | _ => true
def store (st : St) (x y : MO) (m : Nat) : Option St :=
  match take st (ev st y) with
  | some (d,st1) => match target st1 (ev st1 x) with
    | some (r,p,c) => if (cellsOfD d).length = m∧(cellsOfD d).all flatOk then putCells r p st1 c (cellsOfD d) else none
    | none => none
  | none => none
def mask (k : IntKind) (r : BitVec k.bits) : Value:=.int k (k.wrap r.toNat)
def intBin (op : BinOp) (k : IntKind) (a b : Int) : Option Value :=
  match op with
  | .add => some (.int k (k.wrap (a + b)))
  | .sub => some (.int k (k.wrap (a - b)))
  | .mul => some (.int k (k.wrap (a * b)))
  | .quo => if b = 0 then none else some (.int k (k.wrap (a.tdiv b)))
  | .rem => if b = 0 then none else some (.int k (a.tmod b))
  | .and => some (mask k (BitVec.ofInt k.bits a &&& BitVec.ofInt k.bits b))
  | .or => some (mask k (BitVec.ofInt k.bits a ||| BitVec.ofInt k.bits b))
  | .xor => some (mask k (BitVec.ofInt k.bits a ^^^ BitVec.ofInt k.bits b))
  | .andNot => some (mask k (BitVec.ofInt k.bits a &&& ~~~ BitVec.ofInt k.bits b))
  | .eql => some (.bool (a == b))
  | .neq => some (.bool (a != b))
  | .lss => some (.bool (a < b))
  | .leq => some (.bool (a ≤ b))
  | .gtr => some (.bool (a > b))
  | .geq => some (.bool (a ≥ b))
  | _ => none
def shiftBin (op : BinOp) (k : IntKind) (a b : Int) : Option Value :=
  match op with
  | .shl => if b < 0 then none else some (.int k (k.wrap (a * 2 ^ (min b.toNat k.bits))))
  | .shr => if b < 0 then none else some (.int k (a.fdiv (2 ^ (min b.toNat k.bits))))
  | _ => none
def isShift : BinOp→Bool
  | .shl | .shr => true
  | _ => false
def strBin (op : BinOp) (a b : ByteArray) : Option Value :=
  match op with
  | .eql => some (.bool (a.toList == b.toList))
  | .neq => some (.bool !(a.toList == b.toList))
  | _ => none
inductive BT where
  | num | bool | nilT (ptr : Bool) | ag (ks : List Nat) | no
  deriving DecidableEq
def bin (op : BinOp) (bt : BT) (x y : Value) : Option Value :=
  match x,y with
  | .int k a,.int k' b =>
    if isShift op then shiftBin op k a b
    else if k = k' then intBin op k a b else none
  | .string a,.string b => strBin op a b
  | .bool a,.bool b => if bt = .bool then (match op with | .eql => some (.bool (a == b)) | .neq => some (.bool !(a == b)) | _ => none) else none
  | _,_ => none
def isNil (st : St) (ptr : Bool) (x : V) : Option Bool :=
  match rd st x with
  | some (.nd (.sl b _ _) _) => if ptr then none else some b
  | some (.nd (.bx _) _) => if ptr then some false else none
  | some (.v (.pointer none)) => if ptr then some true else none
  | _ => none
def eqSc (k : Nat) (x y : D) : Option Bool :=
  match x,y with
  | .v (.int k1 a),.v (.int k2 b) => if k = 0∧k1 = k2 then some (a == b) else none
  | .v (.bool a),.v (.bool b) => if k = 1 then some (a == b) else none
  | .v (.string a),.v (.string b) => if k = 2 then some (a.toList == b.toList) else none
  | _,_ => none
def eqAll : List Nat→List D→List D→Option Bool
  | [],[],[] => some true
  | k :: ks,a :: as,b :: bs => match eqSc k a b with
    | some t => match eqAll ks as bs with
      | some r => some (t && r)
      | none => none
    | none => none
  | _,_,_ => none
def un (op : UnOp) (x : Value) : Option Value :=
  match op,x with
  | .neg,.int k n => some (.int k (k.wrap (0 - n)))
  | .xor,.int k n => some (mask k (BitVec.ofInt k.bits (if k.signed then -1 else k.max) ^^^ BitVec.ofInt k.bits n))
  | .not,.bool b => some (.bool !b)
  | _,_ => none
def i64 (n : Int) : Value:=.int .i64 n
def lenOf (st : St) (str : Bool) (x : V) : Option Nat :=
  if str then match x with
    | .sc (.string s) => some s.size
    | _ => none
  else match x with
    | .sub _ _ _ _ n => some n
    | x => match rd st x with
      | some (.nd (.sl _ _ n) _) => some n
      | _ => none
def most : Nat:=2 ^ 36
def bytesD (s : ByteArray) : List D:=s.data.toList.map fun b => .v (.int .u8 b.toNat)
def appSrc (st : St) (es : Nat) (y : MO) : Option (Nat × List D × St) :=
  match rd st (ev st y) with
  | some (.nd (.sl _ es' n) kids) =>
    if (es' = es ∨ n = 0)∧kids.length = n * es then
      if kids.all flatOk then
        if kids.all isSc then some (n,kids,st)
        else match take st (ev st y) with
          | some (.nd (.sl _ _ n') kids',st1) => if n' = n∧kids'.length = n * es∧kids'.all flatOk then some (n,kids',st1) else none
          | _ => none
      else none
    else none
  | some (.v (.string s)) => if es = 1∧s.size ≤ most then some (s.size,bytesD s,st) else none
  | _ => none
def append (st : St) (es : Nat) (x y : MO) : Option (D × St) :=
  match appSrc st es y with
  | some (m,ks,st1) =>
    match take st1 (ev st1 x) with
    | some (.nd (.sl b es' n) kids,st2) =>
      if (es' = es ∨ b = true)∧kids.length = n * es∧n + m ≤ most then some (.nd (.sl (b && m == 0) es (n + m)) (kids ++ ks),st2) else none
    | _ => none
  | none => none
def layAt (cells : List D) (off : Nat) (ds : List D) : Option (List D) :=
  if off + ds.length ≤ cells.length then some (cells.take off ++ ds ++ cells.drop (off + ds.length)) else none
def lay (cells : List D) : List (Nat × Nat × D)→Option (List D)
  | [] => some cells
  | (off,sz,d) :: rest =>
    if (cellsOfD d).length = sz∧(cellsOfD d).all flatOk then
      match layAt cells off (cellsOfD d) with
      | some cells' => lay cells' rest
      | none => none
    else none
def takeAll (st : St) : List MO→Option (List D × St)
  | [] => some ([],st)
  | x :: xs => match take st (ev st x) with
    | some (d,st1) => match takeAll st1 xs with
      | some (ds,st2) => some (d :: ds,st2)
      | none => none
    | none => none
def rdAll (st : St) : List MO→Option (List D)
  | [] => some []
  | x :: xs => match rd st (ev st x) with
    | some d => match rdAll st xs with
      | some ds => some (d :: ds)
      | none => none
    | none => none
def reps {α : Type} (n : Nat) (l : List α) : List α:=(List.replicate n l).flatten
def asNat : V→Option Nat
  | .sc (.int _ n) => if 0 ≤ n then some n.toNat else none
  | _ => none
def slice (st : St) (es : Nat) (x : V) (lo hi : Option Nat) : Option V :=
  match x with
  | .ref r p => match placeD st r p with
    | some (.nd (.sl b es' n) kids) =>
      let h:=hi.getD n
      let l:=lo.getD 0
      if l ≤ h∧h ≤ n∧(es' = es ∨ n = 0)∧kids.length = n * es then some (if b then .ro (.nd (.sl true es 0) []) else .sub r p (l * es) es' (h - l)) else none
    | _ => none
  | .sub r p lo0 es' n => match placeD st r p with
    | some (.nd (.sl false es'' _) kids) =>
      let h:=hi.getD n
      let l:=lo.getD 0
      if l ≤ h∧h ≤ n∧es' = es∧es'' = es∧lo0 + n * es ≤ kids.length then some (.sub r p (lo0 + l * es) es (h - l)) else none
    | _ => none
  | .ro (.nd (.sl b es' n) kids) =>
      let h:=hi.getD n
      let l:=lo.getD 0
      if l ≤ h∧h ≤ n∧(es' = es ∨ n = 0)∧kids.length = n * es then some (.ro (.nd (.sl b es (h - l)) ((kids.drop (l * es)).take ((h - l) * es)))) else none
  | _ => none
def elemAt (st : St) (es : Nat) (x : V) (i : Nat) : Option V :=
  match x with
  | .ref r p => match placeD st r p with
    | some (.nd (.sl _ _ n) kids) => if i < n∧kids.length = n * es then some (.ad r p (i * es)) else none
    | _ => none
  | .sub r p lo es' n => match placeD st r p with
    | some (.nd (.sl _ _ _) kids) => if i < n∧es' = es∧lo + n * es ≤ kids.length then some (.ad r p (lo + i * es)) else none
    | _ => none
  | .ro (.nd (.sl _ _ n) kids) => if i < n∧kids.length = n * es then some (.rad kids (i * es)) else none
  | _ => none
def addAt (st : St) (x : V) (off : Nat) : Option V :=
  match x with
  | .ad r p c => some (.ad r p (c + off))
  | .rad kids c => some (.rad kids (c + off))
  | .ref r p => match placeD st r p with
    | some (.nd (.bx _) _) => some (.ad r p off)
    | _ => none
  | .ro (.nd (.bx _) kids) => some (.rad kids off)
  | _ => none
def fieldV (st : St) (x : V) (off : Nat) (m : Option Nat) : Option V :=
  match m with
  | none => match x with
    | .ref r p => match placeD st r p with
      | some (.nd .ag kids) => cellV r p kids off
      | _ => none
    | .ro (.nd .ag kids) => cellR kids off
    | .vn .ag vs => vs[off]?
    | _ => none
  | some m => match rd st x with
    | some (.nd .ag kids) => if off + m ≤ kids.length∧((kids.drop off).take m).all isSc then some (.ro (.nd .ag ((kids.drop off).take m))) else none
    | _ => none
def part (st : St) (x : V) (i : Nat) : Option (V × St) :=
  match x with
  | .ref r p => match rootD st r with
    | some d0 => match getAt d0 p with
      | some (.nd .tu kids) => match kids[i]? with
        | some (.v y) => some (.sc y,st)
        | some (.nd k ks) => some (.own (.nd k ks),leave st r d0 (p ++ [i]))
        | _ => none
      | _ => none
    | none => none
  | _ => none
inductive MOp where
  | mv (dst : Nat) (x : MO)
  | asg (dst : Nat) (x : MO)
  | pick (dst : Nat) (c a b : MO)
  | ext (dst : Nat) (x : MO) (i : Nat)
  | ixs (dst : Nat) (es : Nat) (x i : MO)
  | ixa (dst : Nat) (es len : Nat) (x i : MO)
  | ld1 (dst : Nat) (x : MO)
  | ldn (dst : Nat) (m : Nat) (x : MO)
  | stn (dst : Option Nat) (m : Nat) (x y : MO)
  | bin (dst : Nat) (op : BinOp) (bt : BT) (x y : MO)
  | un (dst : Nat) (op : UnOp) (x : MO)
  | len (dst : Nat) (str : Bool) (x : MO)
  | app (dst : Nat) (es : Nat) (x y : MO)
  | mm (dst : Nat) (max : Bool) (x y : MO)
  | call (dst : Option Nat) (f : FuncId) (args : List MO)
  | calv (dst : Option Nat) (g : MO) (args : List MO)
  | bs (dst : Nat) (es n : Nat) (zero : List D) (parts : List (Nat × Nat × MO))
  | bld (dst : Nat) (zero : List D) (parts : List (Nat × Nat × MO))
  | bv (dst : Nat) (zero : List D) (parts : List (Nat × Nat × MO))
  | box (dst : Nat) (x : MO)
  | alc (dst : Nat) (zero : List D)
  | mks (dst : Nat) (es : Nat) (zero : List D) (len cap : MO)
  | sl (dst : Nat) (es : Nat) (x : MO) (lo hi : Option MO)
  | sl0 (dst : Nat) (es : Nat) (x : MO)
  | fa (dst : Nat) (off : Nat) (x : MO)
  | fld (dst : Nat) (off : Nat) (m : Option Nat) (x : MO)
  | cvi (dst : Nat) (k : IntKind) (x : MO)
  | cvs (dst : Nat) (x : MO)
  | cvb (dst : Nat) (x : MO)
  | cvm (dst : Nat) (x : MO)
  | mz (dst : Nat) (es : Nat)
  | mkf (dst : Nat) (f : FuncId) (caps : List MO)
  | ix (dst : Nat) (es len : Nat) (x i : MO)
  | nc (dst : Nat) (x : MO)
  | exb (dst : Nat) (x : MO) (i : Nat)
  | ssl (dst : Nat) (x : MO) (lo hi : Option MO)
  | calI (dst : Option Nat) (f : FuncId) (x : MO) (args : List MO)
structure MG where
  g : Option (Nat × Bool)
  op : MOp
def MOp.dst : MOp→Option Nat
  | .mv d _ | .asg d _ | .pick d _ _ _ | .ext d _ _ | .ixs d _ _ _ | .ixa d _ _ _ _ | .ld1 d _ | .ldn d _ _ | .bin d _ _ _ _ | .un d _ _ | .len d _ _
  | .app d _ _ _ | .mm d _ _ _ | .bs d _ _ _ _ | .bld d _ _ | .bv d _ _ | .box d _ | .alc d _ | .mks d _ _ _ _ | .sl d _ _ _ _ | .sl0 d _ _ | .fa d _ _ | .fld d _ _ _
  | .cvi d _ _ | .cvs d _ | .cvb d _ | .cvm d _ | .mz d _ | .mkf d _ _ | .ix d _ _ _ _ | .nc d _ | .exb d _ _ | .ssl d _ _ _ => some d
  | .stn d _ _ _ | .call d _ _ | .calv d _ _ | .calI d _ _ _ => d
def MO.slots : MO→List Nat
  | .t i => [i]
  | .c _ => []
def oslots : Option MO→List Nat
  | some m => m.slots
  | none => []
def MOp.rds : MOp→List Nat
  | .mv _ x | .asg _ x | .ext _ x _ | .ld1 _ x | .ldn _ _ x | .un _ _ x | .len _ _ x | .box _ x | .sl0 _ _ x | .fa _ _ x | .fld _ _ _ x | .cvi _ _ x | .cvs _ x | .cvb _ x | .cvm _ x | .nc _ x | .exb _ x _ => x.slots
  | .pick _ c a b => c.slots ++ (a.slots ++ b.slots)
  | .ixs _ _ x i | .ixa _ _ _ x i | .ix _ _ _ x i => x.slots ++ i.slots
  | .stn _ _ x y | .bin _ _ _ x y | .app _ _ x y | .mm _ _ x y | .mks _ _ _ x y => x.slots ++ y.slots
  | .call _ _ xs => xs.flatMap MO.slots
  | .calv _ g xs => g.slots ++ xs.flatMap MO.slots
  | .bs _ _ _ _ ps | .bld _ _ ps | .bv _ _ ps => (ps.map (·.2.2)).flatMap MO.slots
  | .alc _ _ | .mz _ _ => []
  | .sl _ _ x l h | .ssl _ x l h => x.slots ++ (oslots l ++ oslots h)
  | .calI _ _ x xs => x.slots ++ xs.flatMap MO.slots
  | .mkf _ _ cs => cs.flatMap MO.slots
def MG.rds (o : MG) : List Nat :=
  match o.g with
  | some (s,_) => s :: o.op.rds
  | none => o.op.rds
def put (st : St) (dst : Option Nat) (x : V) : St :=
  match dst with
  | some d => setv st d x
  | none => st
def optNat (st : St) : Option MO→Option (Option Nat)
  | none => some none
  | some x => match asNat (ev st x) with
    | some n => some (some n)
    | none => none
def bytesOf : List D→Option (List UInt8)
  | [] => some []
  | .v (.int .u8 n) :: ds => match bytesOf ds with
    | some bs => some (UInt8.ofNat n.toNat :: bs)
    | none => none
  | _ => none
def zV (l : List D) : List V:=l.map mkRo
def oneV (st : St) (x : V) : Bool :=
  match rd st x with
  | some d => flatOk d
  | none => false
def bvL (st : St) : List V→List (Nat × Nat × MO)→Option (List V)
  | cells,[] => some cells
  | cells,(off,sz,x) :: ps => if sz = 1∧off < cells.length∧oneV st (ev st x) = true then bvL st (cells.set off (ev st x)) ps else none
abbrev Oracle:=FuncId→List D→Option D
abbrev ioB : Nat:=1048576
def exV (st : St) (x : V) (i : Nat) : Option V :=
  match x with
  | .ref r p => match placeD st r p with
    | some (.nd .tu kids) => match kids[i]? with
      | some (.v y) => some (.sc y)
      | some (.nd _ _) => some (.ref r (p ++ [i]))
      | _ => none
    | _ => none
  | _ => none
def strSl (s : ByteArray) (l h : Option Nat) : Option V :=
  if l.getD 0 ≤ h.getD s.size∧h.getD s.size ≤ s.size then some (.sc (.string (s.extract (l.getD 0) (h.getD s.size)))) else none
def ioRes (st : St) (dst : Option Nat) (r : Nat) : Option D→Option St
  | some (.nd .tu [d,.nd (.bx b) kids]) => some (put (st.set r (.own (.nd (.bx b) kids))) dst (mkOwn d))
  | _ => none
def step (call : Oracle) (st : St) : MOp→Option St
  | .mv dst x => match ev st x with
    | .dead => none
    | y => some (setv st dst y)
  | .asg dst x => match ev st x with
    | .dead => none
    | y => assign st dst y
  | .pick dst c a b => match ev st c with
    | .sc (.bool t) => match ev st (if t then a else b) with
      | .dead => none
      | y => some (setv st dst y)
    | _ => none
  | .ext dst x i => match part st (ev st x) i with
    | some (y,st1) => some (setv st1 dst y)
    | none => none
  | .ixs dst es x i => match asNat (ev st i) with
    | some n => match elemAt st es (ev st x) n with
      | some y => some (setv st dst y)
      | none => none
    | none => none
  | .ixa dst es len x i => match asNat (ev st i) with
    | some n => if n < len then match addAt st (ev st x) (n * es) with
        | some y => some (setv st dst y)
        | none => none
      else none
    | none => none
  | .ld1 dst x => match load1 st (ev st x) with
    | some y => some (setv st dst y)
    | none => none
  | .ldn dst m x => match loadN st (ev st x) m with
    | some y => some (setv st dst y)
    | none => none
  | .stn dst m x y => match store st x y m with
    | some st1 => some (put st1 dst (.sc undef))
    | none => none
  | .bin dst op bt x y => match bt with
    | .nilT ptr => match isNil st ptr (ev st x),isNil st ptr (ev st y) with
      | some a,some b =>
        if a || b then match op with
          | .eql => some (setv st dst (.sc (.bool (a && b))))
          | .neq => some (setv st dst (.sc (.bool (!(a && b)))))
          | _ => none
        else none
      | _,_ => none
    | .ag ks => match rd st (ev st x),rd st (ev st y) with
      | some (.nd .ag as),some (.nd .ag bs) =>
        match eqAll ks as bs with
        | some t => match op with
          | .eql => some (setv st dst (.sc (.bool t)))
          | .neq => some (setv st dst (.sc (.bool (!t))))
          | _ => none
        | none => none
      | _,_ => none
    | bt => match ev st x,ev st y with
      | .sc a,.sc b => match bin op bt a b with
        | some z => some (setv st dst (.sc z))
        | none => none
      | _,_ => none
  | .un dst op x => match ev st x with
    | .sc a => match un op a with
      | some z => some (setv st dst (.sc z))
      | none => none
    | _ => none
  | .len dst str x => match lenOf st str (ev st x) with
    | some n => some (setv st dst (.sc (i64 n)))
    | none => none
  | .app dst es x y => match append st es x y with
    | some (d,st1) => some (setv st1 dst (.own d))
    | none => none
  | .mm dst mx x y => match ev st x,ev st y with
    | .sc (.int k a),.sc (.int _ b) => some (setv st dst (.sc (.int k (if mx then (if b > a then b else a) else (if b < a then b else a)))))
    | _,_ => none
  | .call dst f args => match rdAll st args with
    | some ds => match call f ds with
      | some d => some (put st dst (mkOwn d))
      | none => none
    | none => none
  | .calv dst g args => match rd st (ev st g) with
    | some (.nd (.fn (.func f) nf) kids) => match rdAll st args with
      | some ds => if f < ioB then match call f (kids.take nf ++ ds ++ kids.drop nf) with
        | some d => some (put st dst (mkOwn d))
        | none => none
        else none
      | none => none
    | _ => none
  | .bs dst es n zero parts => match takeAll st (parts.map (·.2.2)) with
    | some (ds,st1) => match lay (reps n zero) ((parts.zip ds).map fun q => (q.1.1,q.1.2.1,q.2)) with
      | some cells => some (setv st1 dst (.own (.nd (.sl false es n) cells)))
      | none => none
    | none => none
  | .bld dst zero parts => match takeAll st (parts.map (·.2.2)) with
    | some (ds,st1) => match lay zero ((parts.zip ds).map fun q => (q.1.1,q.1.2.1,q.2)) with
      | some cells => some (setv st1 dst (.own (.nd .ag cells)))
      | none => none
    | none => none
  | .bv dst zero parts => match bvL st (zV zero) parts with
    | some cs => some (setv st dst (.vn .ag cs))
    | none => none
  | .box dst x => match take st (ev st x) with
    | some (d,st1) => if (cellsOfD d).all flatOk then some (setv st1 dst (.own (.nd (.bx false) (cellsOfD d)))) else none
    | none => none
  | .alc dst zero => some (setv st dst (.own (.nd (.bx false) zero)))
  | .mks dst es zero l c => match asNat (ev st l),asNat (ev st c) with
    | some n,some m => if n ≤ m∧m ≤ most then some (setv st dst (.own (.nd (.sl false es n) (reps n zero)))) else none
    | _,_ => none
  | .sl dst es x lo hi => match optNat st lo,optNat st hi with
    | some l,some h => match slice st es (ev st x) l h with
      | some y => some (setv st dst y)
      | none => none
    | _,_ => none
  | .sl0 dst es x => match rd st (ev st x) with
    | some (.nd (.sl b _ _) _) => some (setv st dst (.own (.nd (.sl b es 0) [])))
    | _ => none
  | .fa dst off x => match addAt st (ev st x) off with
    | some y => some (setv st dst y)
    | none => none
  | .fld dst off m x => match fieldV st (ev st x) off m with
    | some y => some (setv st dst y)
    | none => none
  | .cvi dst k x => match ev st x with
    | .sc (.int _ n) => some (setv st dst (.sc (.int k (k.wrap n))))
    | _ => none
  | .cvs dst x => match rd st (ev st x) with
    | some (.nd (.sl _ es n) kids) => if (es = 1 ∨ n = 0)∧kids.length = n then match bytesOf kids with
        | some bs => some (setv st dst (.sc (.string ⟨bs.toArray⟩)))
        | none => none
      else none
    | _ => none
  | .cvb dst x => match ev st x with
    | .sc (.string s) => if s.size ≤ most then some (setv st dst (.own (.nd (.sl false 1 s.size) (bytesD s)))) else none
    | _ => none
  | .mz dst es => some (setv st dst (.vn (.sl false es 0) []))
  | .cvm dst x => match ev st x with
    | .ref r p => match placeD st r p with
      | some (.nd (.sl false _ n) _) => if n ≠ 0 then some (setv st dst (.ref r p)) else none
      | _ => none
    | _ => none
  | .mkf dst f caps =>
    let vs:=caps.map (ev st)
    some (setv st dst (.vn (.fn (.func f) 0) vs))
  | .ix dst es len x i => match asNat (ev st i) with
    | some n => if n < len then match fieldV st (ev st x) (n * es) (if es = 1 then none else some es) with
        | some y => some (setv st dst y)
        | none => none
      else none
    | none => none
  | .nc dst x => match isNil st true (ev st x) with
    | some false => some (setv st dst (ev st x))
    | _ => none
  | .exb dst x i => match exV st (ev st x) i with
    | some y => some (setv st dst y)
    | none => none
  | .ssl dst x lo hi => match ev st x with
    | .sc (.string s) => match optNat st lo,optNat st hi with
      | some l,some h => match strSl s l h with
        | some y => some (setv st dst y)
        | none => none
      | _,_ => none
    | _ => none
  | .calI dst f x args => match ev st x with
    | .sc (.pointer none) => match rdAll st args with
      | some ds => match call f (.v (.pointer none) :: ds) with
        | some d => some (put st dst (mkOwn d))
        | none => none
      | none => none
    | .ref r [] => match rootD st r with
      | some (.nd (.bx b) kids) => match rdAll ((kill r [] st).set r .dead) args with
        | some ds => ioRes ((kill r [] st).set r .dead) dst r (call (f + ioB) (.nd (.bx b) kids :: ds))
        | none => none
      | _ => none
    | _ => none
def cp (st : St) (x : V) : Option D :=
  match x with
  | .sc y => some (.v y)
  | .ro d => match d with
    | .nd .ag kids => if noMemL kids then some d else none
    | d => if noMem d then some d else none
  | .ref r p => match placeD st r p with
    | some (.nd .ag kids) => if noMemL kids then some (.nd .ag kids) else none
    | _ => none
  | _ => none
def cpAll (st : St) : List MO→Option (List D)
  | [] => some []
  | x :: xs => match cp st (ev st x) with
    | some d => match cpAll st xs with
      | some ds => some (d :: ds)
      | none => none
    | none => none
def val1 (call : Oracle) (st : St) : MOp→Option V
  | .mv _ x => match ev st x with
    | .dead => none
    | y => some y
  | .asg _ x => match ev st x with
    | .sc v => some (.sc v)
    | _ => none
  | .pick _ c a b => match ev st c with
    | .sc (.bool t) => match ev st (if t then a else b) with
      | .dead => none
      | y => some y
    | _ => none
  | .ixs _ es x i => match asNat (ev st i) with
    | some n => elemAt st es (ev st x) n
    | none => none
  | .ixa _ es len x i => match asNat (ev st i) with
    | some n => if n < len then addAt st (ev st x) (n * es) else none
    | none => none
  | .ld1 _ x => load1 st (ev st x)
  | .ldn _ m x => loadN st (ev st x) m
  | .bin _ op bt x y => match bt with
    | .nilT ptr => match isNil st ptr (ev st x),isNil st ptr (ev st y) with
      | some a,some b =>
        if a || b then match op with
          | .eql => some (.sc (.bool (a && b)))
          | .neq => some (.sc (.bool (!(a && b))))
          | _ => none
        else none
      | _,_ => none
    | .ag ks => match rd st (ev st x),rd st (ev st y) with
      | some (.nd .ag as),some (.nd .ag bs) =>
        match eqAll ks as bs with
        | some t => match op with
          | .eql => some (.sc (.bool t))
          | .neq => some (.sc (.bool (!t)))
          | _ => none
        | none => none
      | _,_ => none
    | bt => match ev st x,ev st y with
      | .sc a,.sc b => match bin op bt a b with
        | some z => some (.sc z)
        | none => none
      | _,_ => none
  | .un _ op x => match ev st x with
    | .sc a => match un op a with
      | some z => some (.sc z)
      | none => none
    | _ => none
  | .len _ str x => match lenOf st str (ev st x) with
    | some n => some (.sc (i64 n))
    | none => none
  | .mm _ mx x y => match ev st x,ev st y with
    | .sc (.int k a),.sc (.int _ b) => some (.sc (.int k (if mx then (if b > a then b else a) else (if b < a then b else a))))
    | _,_ => none
  | .call _ f args => match rdAll st args with
    | some ds => match call f ds with
      | some d => some (mkOwn d)
      | none => none
    | none => none
  | .bs _ es n zero parts => match cpAll st (parts.map (·.2.2)) with
    | some ds => match lay (reps n zero) ((parts.zip ds).map fun q => (q.1.1,q.1.2.1,q.2)) with
      | some cells => some (.own (.nd (.sl false es n) cells))
      | none => none
    | none => none
  | .bld _ zero parts => match cpAll st (parts.map (·.2.2)) with
    | some ds => match lay zero ((parts.zip ds).map fun q => (q.1.1,q.1.2.1,q.2)) with
      | some cells => some (.own (.nd .ag cells))
      | none => none
    | none => none
  | .bv _ zero parts => match bvL st (zV zero) parts with
    | some cs => some (.vn .ag cs)
    | none => none
  | .mks _ es zero l c => match asNat (ev st l),asNat (ev st c) with
    | some n,some m => if n ≤ m∧m ≤ most then some (.own (.nd (.sl false es n) (reps n zero))) else none
    | _,_ => none
  | .sl _ es x lo hi => match optNat st lo,optNat st hi with
    | some l,some h => slice st es (ev st x) l h
    | _,_ => none
  | .fa _ off x => addAt st (ev st x) off
  | .fld _ off m x => fieldV st (ev st x) off m
  | .cvi _ k x => match ev st x with
    | .sc (.int _ n) => some (.sc (.int k (k.wrap n)))
    | _ => none
  | .ix _ es len x i => match asNat (ev st i) with
    | some n => if n < len then fieldV st (ev st x) (n * es) (if es = 1 then none else some es) else none
    | none => none
  | .nc _ x => match isNil st true (ev st x) with
    | some false => some (ev st x)
    | _ => none
  | .exb _ x i => exV st (ev st x) i
  | .ssl _ x lo hi => match ev st x with
    | .sc (.string s) => match optNat st lo,optNat st hi with
      | some l,some h => strSl s l h
      | _,_ => none
    | _ => none
  | .mz _ es => some (.vn (.sl false es 0) [])
  | .alc _ zero => some (.own (.nd (.bx false) zero))
  | .app _ es x y => match ev st x with
    | .vn (.sl false es' 0) [] => match rd st (ev st y) with
      | some (.nd (.sl _ es2 n) kids) => if es' = es∧(es2 = es ∨ n = 0)∧kids.length = n * es∧kids.all flatOk = true∧kids.all isSc = true∧n ≤ most then some (.own (.nd (.sl false es n) kids)) else none
      | _ => none
    | _ => none
  | _ => none
def wanted (st : St) (g : Option (Nat × Bool)) : Option Bool :=
  match g with
  | none => some true
  | some (s,want) => match st[s]? with
    | some (.sc (.bool b)) => some (b == want)
    | some (.sc _) => some false
    | _ => none
def stepG (call : Oracle) (st : St) (o : MG) : Option St :=
  match wanted st o.g with
  | some true => step call st o.op
  | some false => some (put st o.op.dst (.sc undef))
  | none => none
def stepsG (call : Oracle) : List MG→St→Option St
  | [],st => some st
  | o :: os,st => match stepG call st o with
    | some st1 => stepsG call os st1
    | none => none
def isOwn : V→Bool
  | .own _ => true
  | _ => false
def valG (call : Oracle) (st : St) (o : MG) : Option V :=
  match wanted st o.g with
  | some true => val1 call st o.op
  | some false => some (.sc undef)
  | none => none
def free (st : St) (d : Nat) : Bool :=
  match st[d]? with
  | some x => !isOwn x
  | none => true
mutual
def rootsV : V→List Nat
  | .ref r _ => [r]
  | .sub r _ _ _ _ => [r]
  | .ad r _ _ => [r]
  | .vn _ vs => rootsL vs
  | _ => []
def rootsL : List V→List Nat
  | [] => []
  | x :: xs => rootsV x ++ rootsL xs
end
def lateOK (c c' : St) (l : List (Nat × List Nat)) : Prop :=
  ∀ q ∈ l,c'[q.1]? = c[q.1]?∧∀ i ∈ q.2,c'[i]? = c[i]?∧∀ x,c[i]? = some x→∀ r ∈ rootsV x,c'[r]? = c[r]?
open Classical in
noncomputable def stepsX (call : Oracle) : List (MG × List (Nat × List Nat))→St→Option St
  | [],st => some st
  | (o,l) :: os,st => match stepG call st o with
    | some st1 => if lateOK st st1 l then stepsX call os st1 else none
    | none => none
def stepsF (call : Oracle) : List MG→St→Option St
  | [],st => some st
  | o :: os,st => match o.op.dst with
    | some d => if free st d then match valG call st o with
        | some y => stepsF call os (st.set d y)
        | none => none
      else none
    | none => none
inductive MC where
  | skip
  | ops (l : List MG)
  | drw (f t : List MG)
  | drx (f : List MG) (g : List (MG × List (Nat × List Nat))) (t : List MG)
  | seq (a b : MC)
  | cnd (x : MO) (a b : MC)
  | blk (id : Nat) (c : MC)
  | lop (c : MC)
  | ex (id : Nat)
  | ret
  | scr (m : List Bool)
inductive Ex where
  | norm
  | ex (id : Nat)
  | ret
  deriving DecidableEq
def drop1 (st : St) (i : Nat) : St :=
  match st[i]? with
  | some (.own _) => (kill i [] st).set i .dead
  | _ => st.set i .dead
def ownDrop : List Bool→St→Bool
  | b :: m,x :: s => (!b && isOwn x) || ownDrop m s
  | _,_ => false
def msk : List Bool→St→St
  | b :: m,x :: s => (if b then x else .dead) :: msk m s
  | _,s => s
def ownOuts : Nat→List Bool→St→List Nat
  | i,b :: m,x :: s => if !b && isOwn x then i :: ownOuts (i + 1) m s else ownOuts (i + 1) m s
  | _,_,_ => []
def drops (st : St) (m : List Bool) : St :=
  if ownDrop m st then
    match (ownOuts 0 m st).foldl drop1 st with
    | st' => if ownDrop m st' then st' else msk m st'
  else msk m st
noncomputable def run (call : Oracle) (fuel : Nat) : MC→St→Option (Ex × St)
  | .scr m,st => some (.norm,drops st m)
  | .skip,st => some (.norm,st)
  | .ops l,st => (stepsG call l st).map fun st1 => (.norm,st1)
  | .drw f t,st => match stepsF call f st with
    | some st1 => (stepsG call t st1).map fun st2 => (.norm,st2)
    | none => none
  | .drx f g t,st => match stepsF call f st with
    | some st1 => match stepsX call g st1 with
      | some st2 => (stepsG call t st2).map fun st3 => (.norm,st3)
      | none => none
    | none => none
  | .seq a b,st => match run call fuel a st with
    | some (.norm,st1) => run call fuel b st1
    | r => r
  | .cnd x a b,st => match ev st x with
    | .sc (.bool t) => if t then run call fuel a st else run call fuel b st
    | _ => none
  | .blk id c,st => match run call fuel c st with
    | some (.ex i,st1) => if i = id then some (.norm,st1) else some (.ex i,st1)
    | r => r
  | .lop c,st => loopN (run call fuel c) fuel st
  | .ex id,st => some (.ex id,st)
  | .ret,st => some (.ret,st)
where
  loopN (body : St→Option (Ex × St)) : Nat→St→Option (Ex × St)
  | 0,_ => none
  | n + 1,st => match body st with
    | some (.norm,st1) => loopN body n st1
    | r => r
end Go.Mx
