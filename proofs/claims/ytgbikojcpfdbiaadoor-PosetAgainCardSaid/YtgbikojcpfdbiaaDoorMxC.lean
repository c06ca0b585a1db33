import Derived.Test.YtgbikojcpfdbiaaDoorMxB
import Derived.Orders
/-
  Mx, part C: from the model's code to the machine's. 'compF' is a function that the kernel evaluates once for each Go function.
-/
namespace Go.Mx
set_option linter.unusedVariables false
set_option linter.unusedSimpArgs false
set_option linter.unusedSectionVars false

section
variable (P : Program)

def isAggT (t : TypeId) : Bool :=
  match P.underlying t with
  | some (.struct _) => true
  | some (.array _ _) => true
  | _ => false

def isStrT (t : TypeId) : Bool :=
  match P.underlying t with
  | some .string => true
  | _ => false

def sizeT (t : TypeId) : Option Nat := (P.info? t).map (·.size)

/-- The cells of an element, if this is a slice type. -/
def elemT (t : TypeId) : Option (TypeId × Nat) :=
  match P.underlying t with
  | some (.slice e) => match sizeT P e with
    | some n => some (e, n)
    | none => none
  | _ => none

def esT (t : TypeId) : Nat :=
  match elemT P t with
  | some (_, n) => n
  | none => 0

def scConst : Value → Bool
  | .bool _ => true
  | .int _ _ => true
  | .string _ => true
  | .nilFunc => true
  | .nilIface => true
  | .pointer none => true
  | .map none => true
  | _ => false

def constD (es : Nat) : Value → Option D
  | .slice none 0 0 => some (.nd (.sl true es 0) [])
  | .agg cs => if cs.toList.all scConst then some (.nd .ag (cs.toList.map .v)) else none
  | v => if scConst v then some (.v v) else none

def opd (es : Nat) : Operand → Option MO
  | .tmp t => some (.t t)
  | .const v => match constD es v with
    | some d => some (.c d)
    | none => none
  | .func f => some (.c (.nd (.fn (.func f) 0) []))
  | .global _ => none

def sameZ : D → Value → Bool
  | .v (.bool a), .bool b => a == b
  | .v (.int k a), .int k' b => k == k' && a == b
  | .v (.string a), .string b => a.size == 0 && b.size == 0
  | .v .nilFunc, .nilFunc => true
  | .v .nilIface, .nilIface => true
  | .v (.pointer none), .pointer none => true
  | .v (.map none), .map none => true
  | .nd (.sl true _ 0) [], .slice none 0 0 => true
  | _, _ => false

def sameZs : List D → List Value → Bool
  | [], [] => true
  | d :: ds, v :: vs => sameZ d v && sameZs ds vs
  | _, _ => false

/-- The zero of a type, cell by cell. -/
def zeroT : Nat → TypeId → Option (List D)
  | 0, _ => none
  | n + 1, t =>
    match P.underlying t with
    | some (.bool) => some [.v (.bool false)]
    | some (.int k) => some [.v (.int k 0)]
    | some (.string) => some [.v (.string .empty)]
    | some (.pointer _) => some [.v (.pointer none)]
    | some (.map _ _) => some [.v (.map none)]
    | some (.func _ _ _) => some [.v .nilFunc]
    | some (.slice e) => match sizeT P e with
      | some s => some [.nd (.sl true s 0) []]
      | none => none
    | some (.array m e) => match zeroT n e with
      | some ds => some (reps m ds)
      | none => none
    | some (.struct fs) => match seqM (fs.toList.map fun f => zeroT n f.type) with
      | some dss => some dss.flatten
      | none => none
    | _ => none

def zeroOf (t : TypeId) : Option (List D) :=
  match zeroT P 8 t, P.info? t with
  | some ds, some i => match i.zero with
    | some z => if sameZs ds z.cells.toList ∧ ds.length = i.size then some ds else none
    | none => none
  | _, _ => none

def zeroOf' (t : TypeId) (n : Nat) : Option (List D) := if n = 0 then some [] else zeroOf P t

def kindOf (t : TypeId) : Option Nat :=
  match P.underlying t with
  | some (.int _) => some 0
  | some .bool => some 1
  | some .string => some 2
  | _ => none

def kindsFrom : Nat → List Field → Option (List Nat)
  | _, [] => some []
  | i, f :: fs => if f.offset = i ∧ f.name ≠ "_" then match kindOf P f.type with
      | some k => match kindsFrom (i + 1) fs with
        | some ks => some (k :: ks)
        | none => none
      | none => none
    else none

/-- A struct whose fields are scalars that are compared cell by cell. -/
def plainStruct (t : TypeId) : Option (List Nat) :=
  match P.underlying t with
  | some (.struct fs) => if P.stoodInHeld t = false ∧ P.eqGuardType P.depth t = false then kindsFrom P 0 fs.toList else none
  | _ => none

def btOf (op : BinOp) (t : TypeId) : BT :=
  match op with
  | .eql | .neq => match P.underlying t with
    | some .bool => .bool
    | some (.int _) => .num
    | some .string => .num
    | some (.slice _) => .nilT false
    | some (.pointer _) => .nilT true
    | some (.struct _) => match plainStruct P t with
      | some m => .ag m
      | none => .no
    | _ => .no
  | _ => .num

def opds : List (Operand × Nat) → Option (List MO)
  | [] => some []
  | (x, es) :: xs => match opd es x with
    | some y => match opds xs with
      | some ys => some (y :: ys)
      | none => none
    | none => none

/-- The parts of a literal: offset, size, operand. -/
def partsOf (place : Nat → Option (Nat × Nat × Nat)) : List (Nat × Operand) → Option (List (Nat × Nat × MO))
  | [] => some []
  | (i, x) :: xs => match place i with
    | some (off, sz, es) => match opd es x with
      | some y => match partsOf place xs with
        | some ys => some ((off, sz, y) :: ys)
        | none => none
      | none => none
    | none => none

def fieldPl (fs : Array Field) (i : Nat) : Option (Nat × Nat × Nat) :=
  match fs[i]? with
  | some f => match sizeT P f.type with
    | some s => some (f.offset, s, esT P f.type)
    | none => none
  | none => none

def isZero : Option Operand → Bool
  | some (.const (.int _ 0)) => true
  | _ => false

/-! ### does a function change what its first argument points to -/
def opsOf : Code → List Oper
  | .region _ ops _ => ops.toList
  | .seq a b => opsOf a ++ opsOf b
  | .cond _ a b => opsOf a ++ opsOf b
  | .block _ c => opsOf c
  | .loop c => opsOf c
  | _ => []
/-- The slots that hold this pointer, or an address of its cells. -/
def aliasT (ops : List Oper) : List Nat → List Nat := fun l => l ++ ops.filterMap fun o => match o.op, o.dst with
  | .move (.tmp x), some d => if l.contains x then some d else none
  | .nilCheck (.tmp x), some d => if l.contains x then some d else none
  | .fieldAddr _ (.tmp x) _, some d => if l.contains x then some d else none
  | _, _ => none
def isIO (f : FuncId) : Bool :=
  match P.funcs[f]? with
  | some fn => match fn.body, fn.params.toList with
    | some c, t :: _ => match P.underlying t with
      | some (.pointer _) => let ops := opsOf c
        let l := aliasT ops (aliasT ops (aliasT ops [0]))
        ops.any fun o => match o.op with
          | .store _ (.tmp x) _ => l.contains x
          | _ => false
      | _ => false
    | _, _ => false
  | none => false

def compCall (dst : Option Nat) (c : Call) : Option MOp :=
  match c.callee with
  | .value (.func f) => match opds (c.args.toList.zip (c.argTypes.toList.map (esT P))) with
    | some as => if c.args.size = c.argTypes.size ∧ f < ioB then
        if isIO P f then match as with
          | x :: xs => some (.calI dst f x xs)
          | [] => none
        else some (.call dst f as)
      else none
    | none => none
  | .value (.tmp t) => match opds (c.args.toList.zip (c.argTypes.toList.map (esT P))) with
    | some as => if c.args.size = c.argTypes.size then some (.calv dst (.t t) as) else none
    | none => none
  | .builtin b => match dst, b, c.args.toList, c.argTypes.toList with
    | some d, .len, [x], [t] => match opd 0 x with
      | some x' => match P.underlying t with
        | some (.slice _) => some (.len d false x')
        | some .string => some (.len d true x')
        | _ => none
      | none => none
    | some d, .append, [x, y], [t, t'] => match elemT P t with
      | some (e, es) => match opd es x, opd es y with
        | some x', some y' => match P.underlying t', (P.info? e).bind (·.zero) with
          | some (.slice _), some z => if z.cells.size = es ∧ 0 < es ∧ (P.info? e).any (fun i => i.bytes ≤ 1024) then some (.app d es x' y') else none
          | some .string, some z => if z.cells.size = es ∧ 0 < es ∧ (P.info? e).any (fun i => i.bytes ≤ 1024) then some (.app d es x' y') else none
          | _, _ => none
        | _, _ => none
      | none => none
    | some d, .max, [x, y], _ => match opd 0 x, opd 0 y with
      | some x', some y' => some (.mm d true x' y')
      | _, _ => none
    | some d, .min, [x, y], _ => match opd 0 x, opd 0 y with
      | some x', some y' => some (.mm d false x' y')
      | _, _ => none
    | _, _, _, _ => none
  | _ => none

def compOp (o : Oper) : Option MOp :=
  match o.op with
  | .move x => match o.dst, opd (esT P o.type) x with
    | some d, some y => some (.mv d y)
    | _, _ => none
  | .assign x => match o.dst, opd (esT P o.type) x with
    | some d, some y => some (.asg d y)
    | _, _ => none
  | .pick c a b => match o.dst, opd 0 c, opd 0 a, opd 0 b with
    | some d, some c', some a', some b' => some (.pick d c' a' b')
    | _, _, _, _ => none
  | .extract x i => match o.dst, opd 0 x with
    | some d, some y => some (.ext d y i)
    | _, _ => none
  | .indexAddr t x i => match o.dst, opd 0 x, opd 0 i with
    | some d, some x', some i' => match P.underlying t with
      | some (.slice e) => match sizeT P e with
        | some es => some (.ixs d es x' i')
        | none => none
      | some (.array n e) => match sizeT P e with
        | some es => some (.ixa d es n x' i')
        | none => none
      | _ => none
    | _, _, _ => none
  | .load t x => match o.dst, opd 0 x with
    | some d, some x' => if isAggT P t then match sizeT P t with
        | some m => some (.ldn d m x')
        | none => none
      else match P.underlying t with
        | some _ => some (.ld1 d x')
        | none => none
    | _, _ => none
  | .store t x y => match opd 0 x, opd (esT P t) y, sizeT P t with
    | some x', some y', some m => some (.stn o.dst m x' y')
    | _, _, _ => none
  | .binOp op t x y _ => match o.dst, opd 0 x, opd 0 y with
    | some d, some x', some y' => some (.bin d op (btOf P op t) x' y')
    | _, _, _ => none
  | .unOp op _ x => match o.dst, opd 0 x with
    | some d, some x' => some (.un d op x')
    | _, _ => none
  | .call c => compCall P o.dst c
  | .buildSlice t n parts => match o.dst, elemT P t with
    | some d, some (e, es) => match zeroOf' P e (n * es), partsOf (fun i => some (i * es, es, esT P e)) parts.toList with
      | some z, some ps => if n * es ≤ 2 ^ 16 then some (.bs d es n z ps) else none
      | _, _ => none
    | _, _ => none
  | .build t parts => match o.dst, zeroOf P t with
    | some d, some z => match P.underlying t with
      | some (.struct fs) => match partsOf (fieldPl P fs) parts.toList with
        | some ps => if fs.toList.all (fun f => (sizeT P f.type).isSome) then some (.bld d z ps) else none
        | none => none
      | some (.array _ e) => match sizeT P e with
        | some es => match partsOf (fun i => some (i * es, es, esT P e)) parts.toList with
          | some ps => some (.bld d z ps)
          | none => none
        | none => none
      | _ => none
    | _, _ => none
  | .box t x => match o.dst, opd (esT P t) x with
    | some d, some x' => some (.box d x')
    | _, _ => none
  | .alloc t => match o.dst, zeroOf P t with
    | some d, some z => some (.alc d z)
    | _, _ => none
  | .makeSlice t l c => match o.dst, elemT P t with
    | some d, some (e, es) => match opd 0 l, opd 0 c, zeroOf P e with
      | some l', some c', some z => if 0 < es ∧ (P.info? e).any (fun i => i.bytes ≤ 4096) then some (.mks d es z l' c') else none
      | _, _, _ => none
    | _, _ => none
  | .nilCheck x => match o.dst, opd 0 x with
    | some d, some x' => some (.nc d x')
    | _, _ => none
  | .slice t x lo hi mx => match o.dst, opd 0 x with
    | some d, some x' => if isStrT P t then if mx.isSome then none else match lo, hi with
          | none, none => some (.ssl d x' none none)
          | some l, none => match opd 0 l with
            | some l' => some (.ssl d x' (some l') none)
            | none => none
          | none, some h => match opd 0 h with
            | some h' => some (.ssl d x' none (some h'))
            | none => none
          | some l, some h => match opd 0 l, opd 0 h with
            | some l', some h' => some (.ssl d x' (some l') (some h'))
            | _, _ => none
      else match elemT P t with
      | some (_, es) =>
        if isZero mx ∧ isZero hi ∧ (lo.isNone ∨ isZero lo) then some (.sl0 d es x')
        else if mx.isSome then none
        else match lo, hi with
          | none, none => some (.sl d es x' none none)
          | some l, none => match opd 0 l with
            | some l' => some (.sl d es x' (some l') none)
            | none => none
          | none, some h => match opd 0 h with
            | some h' => some (.sl d es x' none (some h'))
            | none => none
          | some l, some h => match opd 0 l, opd 0 h with
            | some l', some h' => some (.sl d es x' (some l') (some h'))
            | _, _ => none
      | none => none
    | _, _ => none
  | .fieldAddr t x i => match o.dst, opd 0 x with
    | some d, some x' => match P.underlying t with
      | some (.struct fs) => match fs[i]? with
        | some f => match sizeT P f.type with
          | some s => if s = 0 then none else some (.fa d f.offset x')
          | none => none
        | none => none
      | _ => none
    | _, _ => none
  | .field t x i => match o.dst, opd 0 x with
    | some d, some x' => match P.underlying t with
      | some (.struct fs) => match fs[i]? with
        | some f => if isAggT P f.type then match sizeT P f.type with
            | some m => some (.fld d f.offset (some m) x')
            | none => none
          else match P.underlying f.type with
            | some _ => some (.fld d f.offset none x')
            | none => none
        | none => none
      | _ => none
    | _, _ => none
  | .index t x i => match o.dst, opd 0 x, opd 0 i with
    | some d, some x', some i' => match P.underlying t with
      | some (.array n e) => if isAggT P e then none else match P.underlying e, sizeT P e with
        | some _, some 1 => some (.ix d 1 n x' i')
        | _, _ => none
      | _ => none
    | _, _, _ => none
  | .convert s t x => match o.dst, opd (esT P s) x with
    | some d, some x' => match P.underlying s, P.underlying t with
      | some (.int _), some (.int k) => some (.cvi d k x')
      | some (.slice e), some .string => match P.underlying e with
        | some (.int .u8) => some (.cvs d x')
        | _ => none
      | some .string, some (.slice e) => match P.underlying e with
        | some (.int .u8) => some (.cvb d x')
        | _ => none
      | some (.slice _), some (.slice e) => if s == t then match P.underlying e with
          | some (.int .u8) => some (.cvm d x')
          | _ => none
        else none
      | _, _ => none
    | _, _ => none
  | .makeFunc (.func f) first caps => match o.dst, opds (caps.toList.map fun x => (x, 0)) with
    | some d, some cs => if first.size = 0 then some (.mkf d f cs) else none
    | _, _ => none
  | _ => none

/-- An append in these operations takes the slot as its first argument. -/
def zSlot (ops : Array Oper) (d : Nat) : Bool := ops.toList.any fun o => match o.op with
  | .call c => match c.callee, c.args.toList with
    | .builtin .append, .tmp x :: _ => x == d
    | _, _ => false
  | _ => false

/-- An empty literal to which is appended has no room. -/
def zfix (ops : Array Oper) (m : MOp) : MOp :=
  match m with
  | .bs d es 0 _ [] => if zSlot ops d then .mz d es else m
  | m => m

def compG (ops : Array Oper) (o : Oper) : Option MG :=
  match compOp P o with
  | some m => match o.guard with
    | none => some ⟨none, zfix ops m⟩
    | some (j, want) => match (ops[j]?).bind (·.dst) with
      | some s => some ⟨some (s, want), zfix ops m⟩
      | none => none
  | none => none

def compOps (ops : Array Oper) : List Oper → Option (List MG)
  | [] => some []
  | o :: os => match compG P ops o with
    | some m => match compOps ops os with
      | some ms => some (m :: ms)
      | none => none
    | none => none

/-! ### regions whose order is open -/
def aftOf (o : Oper) : List Nat := (o.after.toList.filter (Region.binds .any)).map (·.on)

def afF (ops : Array Oper) (j : Nat) : List Nat :=
  match ops[j]? with
  | some o => aftOf o
  | none => []

/-- For each operation all that come before it, as a number's bits. -/
def ancM (af : Nat → List Nat) : Nat → List Nat
  | 0 => []
  | n + 1 => match ancM af n with
    | l => l ++ [(af n).foldl (fun acc k => acc ||| (2 ^ k ||| l.getD k 0)) 0]

def tailOk (an : List Nat) (j : Nat) : Bool := (List.range j).all fun i => (an.getD j 0).testBit i

def splitTail (an : List Nat) (n : Nat) : Nat := n - ((List.range n).reverse.takeWhile (tailOk an)).length

def dstK (f : List MG) (k : Nat) : Option Nat := (f[k]?).bind (·.op.dst)

def okF (af : Nat → List Nat) (f : List MG) : Bool := (List.range f.length).all fun j =>
  match f[j]? with
  | some m => (dstK f j).isSome && ((List.range f.length).all fun k => k == j || dstK f k != dstK f j) &&
      m.rds.all fun i => (List.range f.length).all fun k => dstK f k != some i || (decide (k < j) && (af j).contains k)
  | none => false

def okAf (af : Nat → List Nat) (n : Nat) : Bool := (List.range n).all fun j => (af j).all fun k => decide (k < j)

/-- An order that is allowed: again and again the first operation for which all is done. -/
def topo (af : Nat → List Nat) (n : Nat) : Nat → List Nat → List Nat
  | 0, done => done.reverse
  | k + 1, done => match (List.range n).find? fun i => !done.contains i && (af i).all done.contains with
    | some i => topo af n k (i :: done)
    | none => done.reverse

def sel (ops : Array Oper) : List Nat → Option (List Oper)
  | [] => some []
  | i :: is => match ops[i]? with
    | some o => match sel ops is with
      | some os => some (o :: os)
      | none => none
    | none => none

/-- What comes before, by places in the order. -/
def afP (af : Nat → List Nat) (sg : List Nat) (p : Nat) : List Nat := (List.range sg.length).filter fun q => (af (sg.getD p 0)).contains (sg.getD q 0)

def okPerm (af : Nat → List Nat) (sg : List Nat) (n : Nat) : Bool :=
  decide (sg.length = n) && ((List.range n).all fun i => sg.contains i) && ((List.range n).all fun p => (List.range n).all fun q => p == q || sg.getD p 0 != sg.getD q 0) && (sg.all fun i => decide (i < n)) &&
    (List.range n).all fun i => (af i).all fun k => decide (k < n)

/-- Moves that wait for nothing: they may be done first. -/
def isMv (ops : Array Oper) (i : Nat) : Bool :=
  match ops[i]? with
  | some o => (match o.op with | .move _ => true | _ => false) && o.guard.isNone && (aftOf o).isEmpty
  | none => false

def mvsOf (ops : Array Oper) : List Nat := (List.range ops.size).filter (isMv ops)

/-- Parts of slices that wait for such moves alone: they, too, may be done first. -/
def isSlc (ops : Array Oper) (i : Nat) : Bool :=
  match ops[i]? with
  | some o => (match o.op with | .slice _ _ _ _ none => true | _ => false) && o.guard.isNone && (aftOf o).all (isMv ops)
  | none => false
def mvsOf2 (ops : Array Oper) : List Nat := (List.range ops.size).filter fun i => isMv ops i || isSlc ops i

def doneL (n : Nat) (l : List Nat) : Array Bool := l.foldl (fun a i => a.setIfInBounds i true) (Array.replicate n false)

/-- The first 'mu' operations are moves that may be done first. -/
def okMv (ops : Array Oper) (sg : List Nat) (mu : Nat) : Bool :=
  (mu == 0 || Region.noSelect ops) && (List.range mu).all fun p => (isMv ops (sg.getD p 0) || isSlc ops (sg.getD p 0)) && Region.free .any ops (doneL ops.size (sg.take p)) (sg.getD p 0) && (Region.ready .any ops (doneL ops.size (sg.take p))).contains (sg.getD p 0)

def okTail (an : List Nat) (mu j : Nat) : Bool := (List.range j).all fun i => decide (i < mu) || (an.getD j 0).testBit i

def cutAt (an : List Nat) (mu n : Nat) : Nat := max mu (n - ((List.range n).reverse.takeWhile (okTail an mu)).length)

/-- How many operations may change their order; the others come behind all (but for moves that are done first). -/
def okDraw (ops : Array Oper) (sg : List Nat) (mu : Nat) (ms : List MG) : Option Nat :=
  let n := ops.size
  let af := afP (afF ops) sg
  let an := ancM af n
  let s := cutAt an mu n
  if okPerm (afF ops) sg n && decide (ms.length = n) && okAf af n && okF af (ms.take s) && ((List.range n).all fun j => decide (j < s) || okTail an mu j) && decide (s ≤ n) && okMv ops sg mu && decide (mu ≤ s) then some s else none

/-- A variable is first given what it stands for .. -/
def asMv (m : MG) : MG :=
  match m.op with
  | .asg d x => ⟨m.g, .mv d x⟩
  | .ext d x i => ⟨m.g, .exb d x i⟩
  | .bld d z ps => if z.all isSc then m else ⟨m.g, .bv d z ps⟩
  | _ => m
def msX (s : Nat) (ms : List MG) : List MG := (ms.take s).map asMv ++ ms.drop s
/-- .. and takes it over behind the region. -/
def gho : List MG → List Nat
  | [] => []
  | m :: ms => match m.op with
    | .asg d _ => d :: gho ms
    | _ => gho ms
def ghoG (l : List Nat) : List MG := l.map fun d => ⟨none, .asg d (.t d)⟩

/-- What is appended to is an empty literal, or stands in a variable. -/
def appFree (f : List MG) : Bool := f.all fun m => match m.op with
  | .app _ _ (.t x) _ => !f.any fun m' => match m'.op with
    | .mz _ _ => false
    | .mv _ _ => false
    | op => op.dst == some x
  | _ => true

/-- A literal into which something moves that is made in the region. -/
def ownsX (f : List MG) : List Nat → List Nat := fun l => l ++ f.filterMap fun m => match m.op with
  | .app d _ _ _ | .mks d _ _ _ _ | .alc d _ | .box d _ => some d
  | .bs d _ _ _ (_ :: _) => some d
  | .bld d _ ps | .bv d _ ps => if ps.any fun q => match q.2.2 with
      | .t x => l.contains x
      | _ => false then some d else none
  | _ => none
/-- An operation that changes more than its own slot. -/
def seedX (own : List Nat) (m : MG) : Bool := match m.op with
  | .calI .. => true
  | .bs _ _ _ _ ps => ps.any fun q => match q.2.2 with
      | .t x => own.contains x
      | _ => false
  | _ => false

/-- No such operation is among those that are free. -/
def seedFree (f : List MG) : Bool := !(f.any (seedX (ownsX f (ownsX f []))))

/-- A region: the order, the operations, how many are moves that are done first, how many are free, which variables take over. -/
def drawOf (ops : Array Oper) (mv : List Nat) : Option (List MG × Nat × List Nat) :=
  match sel ops (topo (afF ops) ops.size ops.size mv.reverse) with
  | some os => match compOps P ops os with
    | some ms => match okDraw ops (topo (afF ops) ops.size ops.size mv.reverse) mv.length ms with
      | some s0 => match okDraw ops (topo (afF ops) ops.size ops.size mv.reverse) mv.length (msX s0 ms) with
        | some s => if appFree ((msX s0 ms).take s) && seedFree ((msX s0 ms).take s) then some (msX s0 ms, s, gho (ms.take s0)) else none
        | none => none
      | none => none
    | none => none
  | none => none

/-! ### regions in which some operations change more than their own slot -/
/-- Operations before which others may be left. -/
def earlyOK : MOp → Bool
  | .calI .. | .bs .. | .bld .. | .box .. | .app .. => true
  | _ => false

/-- The operations that may come later. -/
def lateOf (an : List Nat) (mu s : Nat) (ms : List MG) (j : Nat) : List (Nat × List Nat) :=
  ((List.range s).filter fun i => decide (mu ≤ i) && !(an.getD j 0).testBit i).filterMap fun i => match ms[i]? with
    | some m => m.op.dst.map fun d => (d, m.rds)
    | none => none

/-- Where operations may come later: this one takes nothing that they give. -/
def okEarly (an : List Nat) (mu s : Nat) (ms : List MG) (j : Nat) : Bool :=
  ((List.range s).all fun i => decide (i < mu) || (an.getD j 0).testBit i) || match ms[j]? with
    | some m => earlyOK m.op && m.g.isNone && (m.op.rds.all fun i => (List.range s).all fun k => dstK (ms.take s) k != some i || decide (k < mu) || (an.getD j 0).testBit k) && (List.range s).all fun k => m.op.dst.isNone || dstK (ms.take s) k != m.op.dst
    | none => false

def okDrawX (ops : Array Oper) (sg : List Nat) (mu : Nat) (ms : List MG) (s : Nat) : Bool :=
  let n := ops.size
  let af := afP (afF ops) sg
  let an := ancM af n
  okPerm (afF ops) sg n && decide (ms.length = n) && okAf af n && okF af (ms.take s) && ((List.range n).all fun j => decide (j < s) || ((List.range j).all fun i => decide (i < s) || (an.getD j 0).testBit i) && okEarly an mu s ms j) && decide (s ≤ n) && okMv ops sg mu && decide (mu ≤ s)

/-- These operations and all that comes behind them. -/
def chainX (ops : Array Oper) (ms : List MG) : Nat → List Nat → List Nat
  | 0, l => l
  | k + 1, l => chainX ops ms k ((List.range ops.size).filter fun i => l.contains i || (afF ops i).any l.contains)

def drawX (ops : Array Oper) (mv : List Nat) : Option (List MG × Nat × List Nat × List (List (Nat × List Nat))) :=
  match compOps P ops ops.toList with
  | some ms0 =>
    let own := ownsX ms0 (ownsX ms0 [])
    let ch := chainX ops ms0 ops.size ((List.range ops.size).filter fun i => match ms0[i]? with | some m => seedX own m | none => false)
    let sg := topo (fun i => if ch.contains i then afF ops i ++ (List.range ops.size).filter (fun k => !ch.contains k) else afF ops i) ops.size ops.size mv.reverse
    let s := ops.size - ch.length
    match sel ops sg with
    | some os => match compOps P ops os with
      | some ms => if okDrawX ops sg mv.length (msX s ms) s then some (msX s ms, s, gho (ms.take s), (List.range (ops.size - s)).map fun k => lateOf (ancM (afP (afF ops) sg) ops.size) mv.length s (msX s ms) (s + k)) else none
      | none => none
    | none => none
  | none => none

/-- The code; 'hints': for each block and loop, in the text's order, the slots that are kept (behind the block, ahead of each round). -/
def compC : List (List Bool) → Code → Option (MC × List (List Bool))
  | h, .skip => some (.skip, h)
  | h, .region _ ops draw => if draw then
      if P.follows .mixedOrders then match drawOf P ops [] with
        | some (ms, s, g) => some (.drw (ms.take s) (ms.drop s ++ ghoG g), h)
        | none => match drawOf P ops (mvsOf ops) with
          | some (ms, s, g) => some (.drw (ms.take s) (ms.drop s ++ ghoG g), h)
          | none => match drawOf P ops (mvsOf2 ops) with
            | some (ms, s, g) => some (.drw (ms.take s) (ms.drop s ++ ghoG g), h)
            | none => match drawX P ops (mvsOf ops) with
              | some (ms, s, g, lt) => some (.drx (ms.take s) ((ms.drop s).zip lt) (ghoG g), h)
              | none => none
      else none
    else match compOps P ops ops.toList with
    | some ms => some (.ops ms, h)
    | none => none
  | h, .seq a b => match compC h a with
    | some (a', h1) => match compC h1 b with
      | some (b', h2) => some (.seq a' b', h2)
      | none => none
    | none => none
  | h, .cond x a b => match opd 0 x, compC h a with
    | some x', some (a', h1) => match compC h1 b with
      | some (b', h2) => some (.cnd x' a' b', h2)
      | none => none
    | _, _ => none
  | h, .block id c => match compC h.tail c with
    | some (c', h1) => some (.seq (.blk id c') (.scr (h.headD [])), h1)
    | none => none
  | h, .loop c => match compC h.tail c with
    | some (c', h1) => some (.lop (.seq (.scr (h.headD [])) c'), h1)
    | none => none
  | h, .exit id => some (.seq (.scr (h.headD [])) (.ex id), h.tail)
  | h, .ret => some (.seq (.scr (h.headD [])) .ret, h.tail)
  | _, _ => none

structure MF where
  code : MC
  ntmps : Nat
  res : List Nat

/-- Marks a result that is a row of cells: the slot of its address, the number of cells, this mark. -/
def resMark : Nat := 1000000

def resTmps : List ResultVar → Option (List Nat)
  | [] => some []
  | .tmp t :: rs => if t < resMark then match resTmps rs with
    | some l => some (t :: l)
    | none => none
    else none
  | _ => none

def resSlots (rs : List ResultVar) : Option (List Nat) :=
  match rs with
  | [.cell a t] => if isAggT P t then match sizeT P t with
    | some m => some [a, m, resMark]
    | none => none
    else none
  | rs => resTmps rs

def compF0 (hints : List (List Bool)) (f : FuncId) : Option MF :=
  match P.funcs[f]? with
  | some fn => match fn.body with
    | some c => if fn.name == "runtime.NumGoroutine" then none else match compC P hints c, resSlots P fn.results.toList with
      | some (mc, _), some rs => some ⟨mc, fn.ntmps, rs⟩
      | _, _ => none
    | none => none
  | none => none

/-- Nothing writes this slot. -/
def offG (i : Nat) (l : List MG) : Bool := l.all fun m => m.op.dst != some i
def offM (i : Nat) : MC → Bool
  | .ops l => offG i l
  | .drw f t => offG i f && offG i t
  | .drx f g t => offG i f && offG i (g.map (·.1)) && offG i t
  | .seq a b => offM i a && offM i b
  | .cnd _ a b => offM i a && offM i b
  | .blk _ c => offM i c
  | .lop c => offM i c
  | _ => true

/-! ### slices that are handed over and lie in memory for a closure: they are read only -/
def memT (t : TypeId) : Bool :=
  match P.underlying t with
  | some (.slice _) => true
  | some (.struct fl) => fl.toList.any fun f => match P.underlying f.type with
    | some (.slice _) => true
    | _ => false
  | _ => false
def boxP (np : Nat) (o : Oper) : Option (Nat × Nat) :=
  match o.op, o.dst, o.guard with
  | .box t (.tmp p), some d, none => if memT P t && decide (p < np) && decide (np ≤ d) then some (d, p) else none
  | _, _, _ => none

def leadB (np : Nat) : List Oper → List (Nat × Nat)
  | [] => []
  | o :: os => match boxP P np o with
    | some q => q :: leadB np os
    | none => []

def encB (bs : List (Nat × Nat)) : List MG := bs.map fun q => ⟨none, .sl0 q.1 0 (.t q.2)⟩

def leadG (m : MG) : Option (Nat × Nat) :=
  match m with
  | ⟨none, .sl0 d 0 (.t p)⟩ => some (d, p)
  | _ => none
def leadM : List MG → List (Nat × Nat)
  | [] => []
  | m :: ms => match leadG m with
    | some q => q :: leadM ms
    | none => []

def hasB : MC → Bool
  | .seq (.ops l) _ => !(leadM l).isEmpty
  | _ => false

def bodyB (np : Nat) (hints : List (List Bool)) (ops : Array Oper) (y : Code) : Option MC :=
  match compOps P ops (ops.toList.drop (leadB P np ops.toList).length), compC P hints y with
  | some ms, some (y', _) => if leadM (encB (leadB P np ops.toList) ++ ms) == leadB P np ops.toList then some (.seq (.ops (encB (leadB P np ops.toList) ++ ms)) y') else none
  | _, _ => none

def compF1 (hints : List (List Bool)) (f : FuncId) : Option MF :=
  match P.funcs[f]? with
  | some fn => match fn.body with
    | some (.seq (.region _ ops false) y) => if fn.name == "runtime.NumGoroutine" then none else match bodyB P fn.params.size hints ops y, resSlots P fn.results.toList with
      | some mc, some rs => if hasB mc then some ⟨mc, fn.ntmps, rs⟩ else none
      | _, _ => none
    | _ => none
  | none => none

def boxed (f : FuncId) : Bool :=
  match P.funcs[f]? with
  | some fn => match fn.body with
    | some (.seq (.region _ ops false) _) => !(leadB P fn.params.size ops.toList).isEmpty
    | _ => false
  | none => false

def compF (hints : List (List Bool)) (f : FuncId) : Option MF :=
  if ioB ≤ f then none else if boxed P f then compF1 P hints f else match compF0 P hints f with
    | some mf => if hasB mf.code then none else some mf
    | none => none

end

def enterF (mf : MF) (ds : List D) : St := ds.map mkRo ++ List.replicate (mf.ntmps - ds.length) (.sc undef)

def resCell : List Nat → Option (Nat × Nat)
  | [a, m, k] => if k = resMark then some (a, m) else none
  | _ => none

def resF (st : St) (rs : List Nat) : Option D :=
  match resCell rs with
  | some (a, m) => match loadN st (ev st (.t a)) m with
    | some y => match take st y with
      | some (d, _) => some d
      | none => none
    | none => none
  | none => match takeAll st (rs.map .t) with
    | some ([d], _) => some d
    | some (ds, _) => some (.nd .tu ds)
    | none => none

/-- A call. -/
noncomputable def callF (call : Oracle) (fuel : Nat) (mf : MF) (ds : List D) : Option D :=
  match run call fuel mf.code (enterF mf ds) with
  | some (.norm, st) => resF st mf.res
  | some (.ret, st) => resF st mf.res
  | _ => none

def boxV (ds : List D) (p : Nat) : V :=
  match ds[p]? with
  | some d => if (cellsOfD d).all flatOk then .ro (.nd (.bx false) (cellsOfD d)) else .dead
  | none => .dead
def enterB (ds : List D) : List (Nat × Nat) → St → St
  | [], st => st
  | q :: bs, st => enterB ds bs (st.set q.1 (boxV ds q.2))

/-- A call of a function that begins by putting slices into memory. -/
noncomputable def callB (call : Oracle) (fuel : Nat) (mf : MF) (ds : List D) : Option D :=
  match mf.code with
  | .seq (.ops l) y => match run call fuel (.seq (.ops (l.drop (leadM l).length)) y) (enterB ds (leadM l) (enterF mf ds)) with
    | some (.norm, st) => resF st mf.res
    | some (.ret, st) => resF st mf.res
    | _ => none
  | _ => none

noncomputable def callM (call : Oracle) (fuel : Nat) (mf : MF) (ds : List D) : Option D := if hasB mf.code then callB call fuel mf ds else callF call fuel mf ds

/-- At the start of a function that changes what its first argument points to. -/
def enterI (mf : MF) (d0 : D) (ds : List D) : St := .own d0 :: (ds.map mkRo ++ List.replicate (mf.ntmps - (ds.length + 1)) (.sc undef))
def fromD : List D → D
  | [d] => d
  | ds => .nd .tu ds
def resI (st : St) (rs : List Nat) : Option D :=
  match resCell rs with
  | some _ => none
  | none => match takeAll st (rs.map .t) with
    | some (ds, st1) => match (st1[0]? : Option V) with
      | some (.own (.nd (.bx b) kids)) => some (.nd .tu [fromD ds, .nd (.bx b) kids])
      | _ => none
    | none => none
/-- A call that changes what its first argument points to. -/
noncomputable def callI (call : Oracle) (fuel : Nat) (mf : MF) (d0 : D) (ds : List D) : Option D :=
  if offM 0 mf.code && !hasB mf.code then match run call fuel mf.code (enterI mf d0 ds) with
    | some (.norm, st) => resI st mf.res
    | some (.ret, st) => resI st mf.res
    | _ => none
  else none

/-- The functions of a table, with calls up to a depth. -/
noncomputable def sem (tbl : FuncId → Option MF) (fuel : Nat) : Nat → Oracle
  | 0 => fun _ _ => none
  | n + 1 => fun f ds => match tbl f with
    | some mf => callM (sem tbl fuel n) fuel mf ds
    | none => if ioB ≤ f then match tbl (f - ioB), ds with
        | some mf, d0 :: ds' => callI (sem tbl fuel n) fuel mf d0 ds'
        | _, _ => none
      else none

end Go.Mx
