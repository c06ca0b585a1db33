import Derived.Test.YthahhbbfhohhfaaMgA
import Derived.Orders
/-
  Mx,part C: from the model's code to the machine's. 'compF' is a function that the kernel evaluates once for each Go function.
-/
namespace Go.Mx
set_option linter.unusedVariables false
set_option linter.unusedSimpArgs false
set_option linter.unusedSectionVars false
section
variable (P : Program)
def isAggT (t : TypeId) : Bool :=
  match P.underlying t with
  | some (.struct _) => true
  | some (.array _ _) => true
  | _ => false
def isStrT (t : TypeId) : Bool :=
  match P.underlying t with
  | some .string => true
  | _ => false
def sizeT (t : TypeId) : Option Nat:=(P.info? t).map (·.size)
def elemT (t : TypeId) : Option (TypeId × Nat) :=
  match P.underlying t with
  | some (.slice e) => match sizeT P e with
    | some n => some (e,n)
    | none => none
  | _ => none
def esT (t : TypeId) : Nat :=
  match elemT P t with
  | some (_,n) => n
  | none => 0
def scConst : Value→Bool
  | .bool _ => true
  | .int _ _ => true
  | .string _ => true
  | .nilFunc => true
  | .nilIface => true
  | .pointer none => true
  | .map none => true
  | _ => false
def constD (es : Nat) : Value→Option D
  | .slice none 0 0 => some (.nd (.sl true es 0) [])
  | .agg cs => if cs.toList.all scConst then some (.nd .ag (cs.toList.map .v)) else none
  | v => if scConst v then some (.v v) else none
def opd (es : Nat) : Operand→Option MO
  | .tmp t => some (.t t)
  | .const v => match constD es v with
    | some d => some (.c d)
    | none => none
  | .func f => some (.c (.nd (.fn (.func f) 0) []))
  | .global _ => none
def sameZ : D→Value→Bool
  | .v (.bool a),.bool b => a == b
  | .v (.int k a),.int k' b => k == k' && a == b
  | .v (.string a),.string b => a.size == 0 && b.size == 0
  | .v .nilFunc,.nilFunc => true
  | .v .nilIface,.nilIface => true
  | .v (.pointer none),.pointer none => true
  | .v (.map none),.map none => true
  | .nd (.sl true _ 0) [],.slice none 0 0 => true
  | _,_ => false
def sameZs : List D→List Value→Bool
  | [],[] => true
  | d :: ds,v :: vs => sameZ d v && sameZs ds vs
  | _,_ => false
def zeroT : Nat→TypeId→Option (List D)
  | 0,_ => none
  | n + 1,t =>
    match P.underlying t with
    | some (.bool) => some [.v (.bool false)]
    | some (.int k) => some [.v (.int k 0)]
    | some (.string) => some [.v (.string .empty)]
    | some (.pointer _) => some [.v (.pointer none)]
    | some (.map _ _) => some [.v (.map none)]
    | some (.func _ _ _) => some [.v .nilFunc]
    | some (.slice e) => match sizeT P e with
      | some s => some [.nd (.sl true s 0) []]
      | none => none
    | some (.array m e) => match zeroT n e with
      | some ds => some (reps m ds)
      | none => none
    | some (.struct fs) => match seqM (fs.toList.map fun f => zeroT n f.type) with
      | some dss => some dss.flatten
      | none => none
    | _ => none
def zeroOf (t : TypeId) : Option (List D) :=
  match zeroT P 8 t,P.info? t with
  | some ds,some i => match i.zero with
    | some z => if sameZs ds z.cells.toList∧ds.length = i.size then some ds else none
    | none => none
  | _,_ => none
def zeroOf' (t : TypeId) (n : Nat) : Option (List D):=if n = 0 then some [] else zeroOf P t
def kindOf (t : TypeId) : Option Nat :=
  match P.underlying t with
  | some (.int _) => some 0
  | some .bool => some 1
  | some .string => some 2
  | _ => none
def kindsFrom : Nat→List Field→Option (List Nat)
  | _,[] => some []
  | i,f :: fs => if f.offset = i∧f.name ≠ "_" then match kindOf P f.type with
      | some k => match kindsFrom (i + 1) fs with
        | some ks => some (k :: ks)
        | none => none
      | none => none
    else none
def plainStruct (t : TypeId) : Option (List Nat) :=
  match P.underlying t with
  | some (.struct fs) => if P.stoodInHeld t = false∧P.eqGuardType P.depth t = false then kindsFrom P 0 fs.toList else none
  | _ => none
def btOf (op : BinOp) (t : TypeId) : BT :=
  match op with
  | .eql | .neq => match P.underlying t with
    | some .bool => .bool
    | some (.int _) => .num
    | some .string => .num
    | some (.slice _) => .nilT false
    | some (.pointer _) => .nilT true
    | some (.struct _) => match plainStruct P t with
      | some m => .ag m
      | none => .no
    | _ => .no
  | _ => .num
def opds : List (Operand × Nat)→Option (List MO)
  | [] => some []
  | (x,es) :: xs => match opd es x with
    | some y => match opds xs with
      | some ys => some (y :: ys)
      | none => none
    | none => none
def partsOf (place : Nat→Option (Nat × Nat × Nat)) : List (Nat × Operand)→Option (List (Nat × Nat × MO))
  | [] => some []
  | (i,x) :: xs => match place i with
    | some (off,sz,es) => match opd es x with
      | some y => match partsOf place xs with
        | some ys => some ((off,sz,y) :: ys)
        | none => none
      | none => none
    | none => none
def fieldPl (fs : Array Field) (i : Nat) : Option (Nat × Nat × Nat) :=
  match fs[i]? with
  | some f => match sizeT P f.type with
    | some s => some (f.offset,s,esT P f.type)
    | none => none
  | none => none
def isZero : Option Operand→Bool
  | some (.const (.int _ 0)) => true
  | _ => false
def opsOf : Code→List Oper
  | .region _ ops _ => ops.toList
  | .seq a b => opsOf a ++ opsOf b
  | .cond _ a b => opsOf a ++ opsOf b
  | .block _ c => opsOf c
  | .loop c => opsOf c
  | _ => []
def aliasT (ops : List Oper) : List Nat→List Nat:=fun l => l ++ ops.filterMap fun o => match o.op,o.dst with
  | .move (.tmp x),some d => if l.contains x then some d else none
  | .nilCheck (.tmp x),some d => if l.contains x then some d else none
  | .fieldAddr _ (.tmp x) _,some d => if l.contains x then some d else none
  | _,_ => none
def isIO (f : FuncId) : Bool :=
  match P.funcs[f]? with
  | some fn => match fn.body,fn.params.toList with
    | some c,t :: _ => match P.underlying t with
      | some (.pointer _) => let ops:=opsOf c
        let l:=aliasT ops (aliasT ops (aliasT ops [0]))
        ops.any fun o => match o.op with
          | .store _ (.tmp x) _ => l.contains x
          | _ => false
      | _ => false
    | _,_ => false
  | none => false
def compCall (dst : Option Nat) (c : Call) : Option MOp :=
  match c.callee with
  | .value (.func f) => match opds (c.args.toList.zip (c.argTypes.toList.map (esT P))) with
    | some as => if c.args.size = c.argTypes.size∧f < ioB then
        if isIO P f then match as with
          | x :: xs => some (.calI dst f x xs)
          | [] => none
        else some (.call dst f as)
      else none
    | none => none
  | .value (.tmp t) => match opds (c.args.toList.zip (c.argTypes.toList.map (esT P))) with
    | some as => if c.args.size = c.argTypes.size then some (.calv dst (.t t) as) else none
    | none => none
  | .builtin b => match dst,b,c.args.toList,c.argTypes.toList with
    | some d,.len,[x],[t] => match opd 0 x with
      | some x' => match P.underlying t with
        | some (.slice _) => some (.len d false x')
        | some .string => some (.len d true x')
        | _ => none
      | none => none
    | some d,.append,[x,y],[t,t'] => match elemT P t with
      | some (e,es) => match opd es x,opd es y with
        | some x',some y' => match P.underlying t',(P.info? e).bind (·.zero) with
          | some (.slice _),some z => if z.cells.size = es∧0 < es∧(P.info? e).any (fun i => i.bytes ≤ 1024) then some (.app d es x' y') else none
          | some .string,some z => if z.cells.size = es∧0 < es∧(P.info? e).any (fun i => i.bytes ≤ 1024) then some (.app d es x' y') else none
          | _,_ => none
        | _,_ => none
      | none => none
    | some d,.max,[x,y],_ => match opd 0 x,opd 0 y with
      | some x',some y' => some (.mm d true x' y')
      | _,_ => none
    | some d,.min,[x,y],_ => match opd 0 x,opd 0 y with
      | some x',some y' => some (.mm d false x' y')
      | _,_ => none
    | _,_,_,_ => none
  | _ => none
def compOp (o : Oper) : Option MOp :=
  match o.op with
  | .move x => match o.dst,opd (esT P o.type) x with
    | some d,some y => some (.mv d y)
    | _,_ => none
  | .assign x => match o.dst,opd (esT P o.type) x with
    | some d,some y => some (.asg d y)
    | _,_ => none
  | .pick c a b => match o.dst,opd 0 c,opd 0 a,opd 0 b with
    | some d,some c',some a',some b' => some (.pick d c' a' b')
    | _,_,_,_ => none
  | .extract x i => match o.dst,opd 0 x with
    | some d,some y => some (.ext d y i)
    | _,_ => none
  | .indexAddr t x i => match o.dst,opd 0 x,opd 0 i with
    | some d,some x',some i' => match P.underlying t with
      | some (.slice e) => match sizeT P e with
        | some es => some (.ixs d es x' i')
        | none => none
      | some (.array n e) => match sizeT P e with
        | some es => some (.ixa d es n x' i')
        | none => none
      | _ => none
    | _,_,_ => none
  | .load t x => match o.dst,opd 0 x with
    | some d,some x' => if isAggT P t then match sizeT P t with
        | some m => some (.ldn d m x')
        | none => none
      else match P.underlying t with
        | some _ => some (.ld1 d x')
        | none => none
    | _,_ => none
  | .store t x y => match opd 0 x,opd (esT P t) y,sizeT P t with
    | some x',some y',some m => some (.stn o.dst m x' y')
    | _,_,_ => none
  | .binOp op t x y _ => match o.dst,opd 0 x,opd 0 y with
    | some d,some x',some y' => some (.bin d op (btOf P op t) x' y')
    | _,_,_ => none
  | .unOp op _ x => match o.dst,opd 0 x with
    | some d,some x' => some (.un d op x')
    | _,_ => none
  | .call c => compCall P o.dst c
  | .buildSlice t n parts => match o.dst,elemT P t with
    | some d,some (e,es) => match zeroOf' P e (n * es),partsOf (fun i => some (i * es,es,esT P e)) parts.toList with
      | some z,some ps => if n * es ≤ 2 ^ 16 then some (.bs d es n z ps) else none
      | _,_ => none
    | _,_ => none
  | .build t parts => match o.dst,zeroOf P t with
    | some d,some z => match P.underlying t with
      | some (.struct fs) => match partsOf (fieldPl P fs) parts.toList with
        | some ps => if fs.toList.all (fun f => (sizeT P f.type).isSome) then some (.bld d z ps) else none
        | none => none
      | some (.array _ e) => match sizeT P e with
        | some es => match partsOf (fun i => some (i * es,es,esT P e)) parts.toList with
          | some ps => some (.bld d z ps)
          | none => none
        | none => none
      | _ => none
    | _,_ => none
  | .box t x => match o.dst,opd (esT P t) x with
    | some d,some x' => some (.box d x')
    | _,_ => none
  | .alloc t => match o.dst,zeroOf P t with
    | some d,some z => some (.alc d z)
    | _,_ => none
  | .makeSlice t l c => match o.dst,elemT P t with
    | some d,some (e,es) => match opd 0 l,opd 0 c,zeroOf P e with
      | some l',some c',some z => if 0 < es∧(P.info? e).any (fun i => i.bytes ≤ 4096) then some (.mks d es z l' c') else none
      | _,_,_ => none
    | _,_ => none
  | .nilCheck x => match o.dst,opd 0 x with
    | some d,some x' => some (.nc d x')
    | _,_ => none
  | .slice t x lo hi mx => match o.dst,opd 0 x with
    | some d, some x' => if isStrT P t then if mx.isSome then none else match lo, hi with
          | none,none => some (.ssl d x' none none)
          | some l,none => match opd 0 l with
            | some l' => some (.ssl d x' (some l') none)
            | none => none
          | none,some h => match opd 0 h with
            | some h' => some (.ssl d x' none (some h'))
            | none => none
          | some l,some h => match opd 0 l,opd 0 h with
            | some l',some h' => some (.ssl d x' (some l') (some h'))
            | _,_ => none
      else match elemT P t with
      | some (_,es) =>
        if isZero mx∧isZero hi∧(lo.isNone ∨ isZero lo) then some (.sl0 d es x')
        else if mx.isSome then none
        else match lo,hi with
          | none,none => some (.sl d es x' none none)
          | some l,none => match opd 0 l with
            | some l' => some (.sl d es x' (some l') none)
            | none => none
          | none,some h => match opd 0 h with
            | some h' => some (.sl d es x' none (some h'))
            | none => none
          | some l,some h => match opd 0 l,opd 0 h with
            | some l',some h' => some (.sl d es x' (some l') (some h'))
            | _,_ => none
      | none => none
    | _,_ => none
  | .fieldAddr t x i => match o.dst,opd 0 x with
    | some d,some x' => match P.underlying t with
      | some (.struct fs) => match fs[i]? with
        | some f => match sizeT P f.type with
          | some s => if s = 0 then none else some (.fa d f.offset x')
          | none => none
        | none => none
      | _ => none
    | _,_ => none
  | .field t x i => match o.dst,opd 0 x with
    | some d,some x' => match P.underlying t with
      | some (.struct fs) => match fs[i]? with
        | some f => if isAggT P f.type then match sizeT P f.type with
            | some m => some (.fld d f.offset (some m) x')
            | none => none
          else match P.underlying f.type with
            | some _ => some (.fld d f.offset none x')
            | none => none
        | none => none
      | _ => none
    | _,_ => none
  | .index t x i => match o.dst,opd 0 x,opd 0 i with
    | some d,some x',some i' => match P.underlying t with
      | some (.array n e) => if isAggT P e then none else match P.underlying e,sizeT P e with
        | some _,some 1 => some (.ix d 1 n x' i')
        | _,_ => none
      | _ => none
    | _,_,_ => none
  | .convert s t x => match o.dst,opd (esT P s) x with
    | some d,some x' => match P.underlying s,P.underlying t with
      | some (.int _),some (.int k) => some (.cvi d k x')
      | some (.slice e),some .string => match P.underlying e with
        | some (.int .u8) => some (.cvs d x')
        | _ => none
      | some .string,some (.slice e) => match P.underlying e with
        | some (.int .u8) => some (.cvb d x')
        | _ => none
      | some (.slice _),some (.slice e) => if s == t then match P.underlying e with
          | some (.int .u8) => some (.cvm d x')
          | _ => none
        else none
      | _,_ => none
    | _,_ => none
  | .makeFunc (.func f) first caps => match o.dst,opds (caps.toList.map fun x => (x,0)) with
    | some d,some cs => if first.size = 0 then some (.mkf d f cs) else none
    | _,_ => none
  | _ => none
def zSlot (ops : Array Oper) (d : Nat) : Bool:=ops.toList.any fun o => match o.op with
  | .call c => match c.callee,c.args.toList with
    | .builtin .append,.tmp x :: _ => x == d
    | _,_ => false
  | _ => false
def zfix (ops : Array Oper) (m : MOp) : MOp :=
  match m with
  | .bs d es 0 _ [] => if zSlot ops d then .mz d es else m
  | m => m
def compG (ops : Array Oper) (o : Oper) : Option MG :=
  match compOp P o with
  | some m => match o.guard with
    | none => some ⟨none,zfix ops m⟩
    | some (j,want) => match (ops[j]?).bind (·.dst) with
      | some s => some ⟨some (s,want),zfix ops m⟩
      | none => none
  | none => none
def compOps (ops : Array Oper) : List Oper→Option (List MG)
  | [] => some []
  | o :: os => match compG P ops o with
    | some m => match compOps ops os with
      | some ms => some (m :: ms)
      | none => none
    | none => none
def aftOf (o : Oper) : List Nat:=(o.after.toList.filter (Region.binds .any)).map (·.on)
def afF (ops : Array Oper) (j : Nat) : List Nat :=
  match ops[j]? with
  | some o => aftOf o
  | none => []
def ancM (af : Nat→List Nat) : Nat→List Nat
  | 0 => []
  | n + 1 => match ancM af n with
    | l => l ++ [(af n).foldl (fun acc k => acc ||| (2 ^ k ||| l.getD k 0)) 0]
def dstK (f : List MG) (k : Nat) : Option Nat:=(f[k]?).bind (·.op.dst)
def okF (af : Nat→List Nat) (f : List MG) : Bool:=(List.range f.length).all fun j =>
  match f[j]? with
  | some m => (dstK f j).isSome && ((List.range f.length).all fun k => k == j || dstK f k != dstK f j) &&
      m.rds.all fun i => (List.range f.length).all fun k => dstK f k != some i || (decide (k < j) && (af j).contains k)
  | none => false
def okAf (af : Nat→List Nat) (n : Nat) : Bool:=(List.range n).all fun j => (af j).all fun k => decide (k < j)
def topo (af : Nat→List Nat) (n : Nat) : Nat→List Nat→List Nat
  | 0,done => done.reverse
  | k + 1,done => match (List.range n).find? fun i => !done.contains i && (af i).all done.contains with
    | some i => topo af n k (i :: done)
    | none => done.reverse
def sel (ops : Array Oper) : List Nat→Option (List Oper)
  | [] => some []
  | i :: is => match ops[i]? with
    | some o => match sel ops is with
      | some os => some (o :: os)
      | none => none
    | none => none
def afP (af : Nat→List Nat) (sg : List Nat) (p : Nat) : List Nat:=(List.range sg.length).filter fun q => (af (sg.getD p 0)).contains (sg.getD q 0)
def okPerm (af : Nat→List Nat) (sg : List Nat) (n : Nat) : Bool :=
  decide (sg.length = n) && ((List.range n).all fun i => sg.contains i) && ((List.range n).all fun p => (List.range n).all fun q => p == q || sg.getD p 0 != sg.getD q 0) && (sg.all fun i => decide (i < n)) &&
    (List.range n).all fun i => (af i).all fun k => decide (k < n)
def isMv (ops : Array Oper) (i : Nat) : Bool :=
  match ops[i]? with
  | some o => (match o.op with | .move _ => true | _ => false) && o.guard.isNone && (aftOf o).isEmpty
  | none => false
def mvsOf (ops : Array Oper) : List Nat:=(List.range ops.size).filter (isMv ops)
def isSlc (ops : Array Oper) (i : Nat) : Bool :=
  match ops[i]? with
  | some o => (match o.op with | .slice _ _ _ _ none => true | _ => false) && o.guard.isNone && (aftOf o).all (isMv ops)
  | none => false
def mvsOf2 (ops : Array Oper) : List Nat:=(List.range ops.size).filter fun i => isMv ops i || isSlc ops i
def doneL (n : Nat) (l : List Nat) : Array Bool:=l.foldl (fun a i => a.setIfInBounds i true) (Array.replicate n false)
def okMv (ops : Array Oper) (sg : List Nat) (mu : Nat) : Bool :=
  (mu == 0 || Region.noSelect ops) && (List.range mu).all fun p => (isMv ops (sg.getD p 0) || isSlc ops (sg.getD p 0)) && Region.free .any ops (doneL ops.size (sg.take p)) (sg.getD p 0) && (Region.ready .any ops (doneL ops.size (sg.take p))).contains (sg.getD p 0)
def okTail (an : List Nat) (mu j : Nat) : Bool:=(List.range j).all fun i => decide (i < mu) || (an.getD j 0).testBit i
def cutAt (an : List Nat) (mu n : Nat) : Nat:=max mu (n - ((List.range n).reverse.takeWhile (okTail an mu)).length)
def okDraw (ops : Array Oper) (sg : List Nat) (mu : Nat) (ms : List MG) : Option Nat :=
  let n:=ops.size
  let af:=afP (afF ops) sg
  let an:=ancM af n
  let s:=cutAt an mu n
  if okPerm (afF ops) sg n && decide (ms.length = n) && okAf af n && okF af (ms.take s) && ((List.range n).all fun j => decide (j < s) || okTail an mu j) && decide (s ≤ n) && okMv ops sg mu && decide (mu ≤ s) then some s else none
def asMv (m : MG) : MG :=
  match m.op with
  | .asg d x => ⟨m.g,.mv d x⟩
  | .ext d x i => ⟨m.g,.exb d x i⟩
  | .bld d z ps => if z.all isSc then m else ⟨m.g,.bv d z ps⟩
  | _ => m
def msX (s : Nat) (ms : List MG) : List MG:=(ms.take s).map asMv ++ ms.drop s
def gho : List MG→List Nat
  | [] => []
  | m :: ms => match m.op with
    | .asg d _ => d :: gho ms
    | _ => gho ms
def ghoG (l : List Nat) : List MG:=l.map fun d => ⟨none,.asg d (.t d)⟩
def appFree (f : List MG) : Bool:=f.all fun m => match m.op with
  | .app _ _ (.t x) _ => !f.any fun m' => match m'.op with
    | .mz _ _ => false
    | .mv _ _ => false
    | op => op.dst == some x
  | _ => true
def ownsX (f : List MG) : List Nat→List Nat:=fun l => l ++ f.filterMap fun m => match m.op with
  | .app d _ _ _ | .mks d _ _ _ _ | .alc d _ | .box d _ => some d
  | .bs d _ _ _ (_ :: _) => some d
  | .bld d _ ps | .bv d _ ps => if ps.any fun q => match q.2.2 with
      | .t x => l.contains x
      | _ => false then some d else none
  | _ => none
def seedX (own : List Nat) (m : MG) : Bool:=match m.op with
  | .calI .. => true
  | .bs _ _ _ _ ps => ps.any fun q => match q.2.2 with
      | .t x => own.contains x
      | _ => false
  | _ => false
def seedFree (f : List MG) : Bool:=!(f.any (seedX (ownsX f (ownsX f []))))
def drawOf (ops : Array Oper) (mv : List Nat) : Option (List MG × Nat × List Nat) :=
  match sel ops (topo (afF ops) ops.size ops.size mv.reverse) with
  | some os => match compOps P ops os with
    | some ms => match okDraw ops (topo (afF ops) ops.size ops.size mv.reverse) mv.length ms with
      | some s0 => match okDraw ops (topo (afF ops) ops.size ops.size mv.reverse) mv.length (msX s0 ms) with
        | some s => if appFree ((msX s0 ms).take s) && seedFree ((msX s0 ms).take s) then some (msX s0 ms,s,gho (ms.take s0)) else none
        | none => none
      | none => none
    | none => none
  | none => none
def earlyOK : MOp→Bool
  | .calI .. | .bs .. | .bld .. | .box .. | .app .. => true
  | _ => false
def lateOf (an : List Nat) (mu s : Nat) (ms : List MG) (j : Nat) : List (Nat × List Nat) :=
  ((List.range s).filter fun i => decide (mu ≤ i) && !(an.getD j 0).testBit i).filterMap fun i => match ms[i]? with
    | some m => m.op.dst.map fun d => (d,m.rds)
    | none => none
def okEarly (an : List Nat) (mu s : Nat) (ms : List MG) (j : Nat) : Bool :=
  ((List.range s).all fun i => decide (i < mu) || (an.getD j 0).testBit i) || match ms[j]? with
    | some m => earlyOK m.op && m.g.isNone && (m.op.rds.all fun i => (List.range s).all fun k => dstK (ms.take s) k != some i || decide (k < mu) || (an.getD j 0).testBit k) && (List.range s).all fun k => m.op.dst.isNone || dstK (ms.take s) k != m.op.dst
    | none => false
def okDrawX (ops : Array Oper) (sg : List Nat) (mu : Nat) (ms : List MG) (s : Nat) : Bool :=
  let n:=ops.size
  let af:=afP (afF ops) sg
  let an:=ancM af n
  okPerm (afF ops) sg n && decide (ms.length = n) && okAf af n && okF af (ms.take s) && ((List.range n).all fun j => decide (j < s) || ((List.range j).all fun i => decide (i < s) || (an.getD j 0).testBit i) && okEarly an mu s ms j) && decide (s ≤ n) && okMv ops sg mu && decide (mu ≤ s)
def chainX (ops : Array Oper) (ms : List MG) : Nat→List Nat→List Nat
  | 0,l => l
  | k + 1,l => chainX ops ms k ((List.range ops.size).filter fun i => l.contains i || (afF ops i).any l.contains)
def appBad (f : List MG) (m : MG) : Bool:=match m.op with
  | .app _ _ (.t x) _ => f.any fun m' => match m'.op with
    | .mz _ _ => false
    | .mv _ _ => false
    | op => op.dst == some x
  | _ => false
def seedsX (ms : List MG) : List Nat :=
  let own:=ownsX ms (ownsX ms [])
  let l:=(List.range ms.length).filter fun i => match ms[i]? with | some m => seedX own m | none => false
  if l.isEmpty then (List.range ms.length).filter fun i => match ms[i]? with | some m => appBad ms m | none => false else l
def drawX (ops : Array Oper) (mv : List Nat) : Option (List MG × Nat × List Nat × List (List (Nat × List Nat))) :=
  match compOps P ops ops.toList with
  | some ms0 =>
    let ch:=chainX ops ms0 ops.size (seedsX ms0)
    let sg:=topo (fun i => if ch.contains i then afF ops i ++ (List.range ops.size).filter (fun k => !ch.contains k) else afF ops i) ops.size ops.size mv.reverse
    let s:=ops.size - ch.length
    match sel ops sg with
    | some os => match compOps P ops os with
      | some ms => if okDrawX ops sg mv.length (msX s ms) s then some (msX s ms,s,gho (ms.take s),(List.range (ops.size - s)).map fun k => lateOf (ancM (afP (afF ops) sg) ops.size) mv.length s (msX s ms) (s + k)) else none
      | none => none
    | none => none
  | none => none
def compC : List (List Bool)→Code→Option (MC × List (List Bool))
  | h,.skip => some (.skip,h)
  | h,.region _ ops draw => if draw then
      if P.follows .mixedOrders then match drawOf P ops [] with
        | some (ms,s,g) => some (.drw (ms.take s) (ms.drop s ++ ghoG g),h)
        | none => match drawOf P ops (mvsOf ops) with
          | some (ms,s,g) => some (.drw (ms.take s) (ms.drop s ++ ghoG g),h)
          | none => match drawOf P ops (mvsOf2 ops) with
            | some (ms,s,g) => some (.drw (ms.take s) (ms.drop s ++ ghoG g),h)
            | none => match drawX P ops (mvsOf ops) with
              | some (ms,s,g,lt) => some (.drx (ms.take s) ((ms.drop s).zip lt) (ghoG g),h)
              | none => none
      else none
    else match compOps P ops ops.toList with
    | some ms => some (.ops ms,h)
    | none => none
  | h,.seq a b => match compC h a with
    | some (a',h1) => match compC h1 b with
      | some (b',h2) => some (.seq a' b',h2)
      | none => none
    | none => none
  | h,.cond x a b => match opd 0 x,compC h a with
    | some x',some (a',h1) => match compC h1 b with
      | some (b',h2) => some (.cnd x' a' b',h2)
      | none => none
    | _,_ => none
  | h,.block id c => match compC h.tail c with
    | some (c',h1) => some (.seq (.blk id c') (.scr (h.headD [])),h1)
    | none => none
  | h,.loop c => match compC h.tail c with
    | some (c',h1) => some (.lop (.seq (.scr (h.headD [])) c'),h1)
    | none => none
  | h,.exit id => some (.seq (.scr (h.headD [])) (.ex id),h.tail)
  | h,.ret => some (.seq (.scr (h.headD [])) .ret,h.tail)
  | _,_ => none
structure MF where
  code : MC
  ntmps : Nat
  res : List Nat
def resMark : Nat:=1000000
def resTmps : List ResultVar→Option (List Nat)
  | [] => some []
  | .tmp t :: rs => if t < resMark then match resTmps rs with
    | some l => some (t :: l)
    | none => none
    else none
  | _ => none
def resSlots (rs : List ResultVar) : Option (List Nat) :=
  match rs with
  | [.cell a t] => if isAggT P t then match sizeT P t with
    | some m => some [a,m,resMark]
    | none => none
    else none
  | rs => resTmps rs
def compF0 (hints : List (List Bool)) (f : FuncId) : Option MF :=
  match P.funcs[f]? with
  | some fn => match fn.body with
    | some c => if fn.name == "runtime.NumGoroutine" then none else match compC P hints c,resSlots P fn.results.toList with
      | some (mc,_),some rs => some ⟨mc,fn.ntmps,rs⟩
      | _,_ => none
    | none => none
  | none => none
def offG (i : Nat) (l : List MG) : Bool:=l.all fun m => m.op.dst != some i
def offM (i : Nat) : MC→Bool
  | .ops l => offG i l
  | .drw f t => offG i f && offG i t
  | .drx f g t => offG i f && offG i (g.map (·.1)) && offG i t
  | .seq a b => offM i a && offM i b
  | .cnd _ a b => offM i a && offM i b
  | .blk _ c => offM i c
  | .lop c => offM i c
  | _ => true
def memT (t : TypeId) : Bool :=
  match P.underlying t with
  | some (.slice _) => true
  | some (.struct fl) => fl.toList.any fun f => match P.underlying f.type with
    | some (.slice _) => true
    | _ => false
  | _ => false
def boxP (np : Nat) (o : Oper) : Option (Nat × Nat) :=
  match o.op,o.dst,o.guard with
  | .box t (.tmp p),some d,none => if memT P t && decide (p < np) && decide (np ≤ d) then some (d,p) else none
  | _,_,_ => none
def leadB (np : Nat) : List Oper→List (Nat × Nat)
  | [] => []
  | o :: os => match boxP P np o with
    | some q => q :: leadB np os
    | none => []
def encB (bs : List (Nat × Nat)) : List MG:=bs.map fun q => ⟨none,.sl0 q.1 0 (.t q.2)⟩
def leadG (m : MG) : Option (Nat × Nat) :=
  match m with
  | ⟨none,.sl0 d 0 (.t p)⟩ => some (d,p)
  | _ => none
def leadM : List MG→List (Nat × Nat)
  | [] => []
  | m :: ms => match leadG m with
    | some q => q :: leadM ms
    | none => []
def hasB : MC→Bool
  | .seq (.ops l) _ => !(leadM l).isEmpty
  | _ => false
def bodyB (np : Nat) (hints : List (List Bool)) (ops : Array Oper) (y : Code) : Option MC :=
  match compOps P ops (ops.toList.drop (leadB P np ops.toList).length),compC P hints y with
  | some ms,some (y',_) => if leadM (encB (leadB P np ops.toList) ++ ms) == leadB P np ops.toList then some (.seq (.ops (encB (leadB P np ops.toList) ++ ms)) y') else none
  | _,_ => none
def compF1 (hints : List (List Bool)) (f : FuncId) : Option MF :=
  match P.funcs[f]? with
  | some fn => match fn.body with
    | some (.seq (.region _ ops false) y) => if fn.name == "runtime.NumGoroutine" then none else match bodyB P fn.params.size hints ops y,resSlots P fn.results.toList with
      | some mc,some rs => if hasB mc then some ⟨mc,fn.ntmps,rs⟩ else none
      | _,_ => none
    | _ => none
  | none => none
def boxed (f : FuncId) : Bool :=
  match P.funcs[f]? with
  | some fn => match fn.body with
    | some (.seq (.region _ ops false) _) => !(leadB P fn.params.size ops.toList).isEmpty
    | _ => false
  | none => false
def compF (hints : List (List Bool)) (f : FuncId) : Option MF :=
  if ioB ≤ f then none else if boxed P f then compF1 P hints f else match compF0 P hints f with
    | some mf => if hasB mf.code then none else some mf
    | none => none
end
def enterF (mf : MF) (ds : List D) : St:=ds.map mkRo ++ List.replicate (mf.ntmps - ds.length) (.sc undef)
def resCell : List Nat→Option (Nat × Nat)
  | [a,m,k] => if k = resMark then some (a,m) else none
  | _ => none
def resF (st : St) (rs : List Nat) : Option D :=
  match resCell rs with
  | some (a,m) => match loadN st (ev st (.t a)) m with
    | some y => match take st y with
      | some (d,_) => some d
      | none => none
    | none => none
  | none => match takeAll st (rs.map .t) with
    | some ([d],_) => some d
    | some (ds,_) => some (.nd .tu ds)
    | none => none
noncomputable def callF (call : Oracle) (fuel : Nat) (mf : MF) (ds : List D) : Option D :=
  match run call fuel mf.code (enterF mf ds) with
  | some (.norm,st) => resF st mf.res
  | some (.ret,st) => resF st mf.res
  | _ => none
def boxV (ds : List D) (p : Nat) : V :=
  match ds[p]? with
  | some d => if (cellsOfD d).all flatOk then .ro (.nd (.bx false) (cellsOfD d)) else .dead
  | none => .dead
def enterB (ds : List D) : List (Nat × Nat)→St→St
  | [],st => st
  | q :: bs,st => enterB ds bs (st.set q.1 (boxV ds q.2))
noncomputable def callB (call : Oracle) (fuel : Nat) (mf : MF) (ds : List D) : Option D :=
  match mf.code with
  | .seq (.ops l) y => match run call fuel (.seq (.ops (l.drop (leadM l).length)) y) (enterB ds (leadM l) (enterF mf ds)) with
    | some (.norm,st) => resF st mf.res
    | some (.ret,st) => resF st mf.res
    | _ => none
  | _ => none
noncomputable def callM (call : Oracle) (fuel : Nat) (mf : MF) (ds : List D) : Option D:=if hasB mf.code then callB call fuel mf ds else callF call fuel mf ds
def enterI (mf : MF) (d0 : D) (ds : List D) : St:=.own d0 :: (ds.map mkRo ++ List.replicate (mf.ntmps - (ds.length + 1)) (.sc undef))
def fromD : List D→D
  | [d] => d
  | ds => .nd .tu ds
def resI (st : St) (rs : List Nat) : Option D :=
  match resCell rs with
  | some _ => none
  | none => match takeAll st (rs.map .t) with
    | some (ds,st1) => match (st1[0]? : Option V) with
      | some (.own (.nd (.bx b) kids)) => some (.nd .tu [fromD ds,.nd (.bx b) kids])
      | _ => none
    | none => none
noncomputable def callI (call : Oracle) (fuel : Nat) (mf : MF) (d0 : D) (ds : List D) : Option D :=
  if offM 0 mf.code && !hasB mf.code then match run call fuel mf.code (enterI mf d0 ds) with
    | some (.norm,st) => resI st mf.res
    | some (.ret,st) => resI st mf.res
    | _ => none
  else none
noncomputable def sem (tbl : FuncId→Option MF) (fuel : Nat) : Nat→Oracle
  | 0 => fun _ _ => none
  | n + 1 => fun f ds => match tbl f with
    | some mf => callM (sem tbl fuel n) fuel mf ds
    | none => if ioB ≤ f then match tbl (f - ioB),ds with
        | some mf,d0 :: ds' => callI (sem tbl fuel n) fuel mf d0 ds'
        | _,_ => none
      else none
end Go.Mx
namespace Go.Mx
set_option linter.unusedVariables false
set_option linter.unusedSimpArgs false
set_option linter.unusedSectionVars false
open Go
structure Glob where
  blk : Nat→Prop
  ok : World→Prop
  st : ∀ w w',(∀ b,blk b→w'.heap[b]? = w.heap[b]?)→ok w→ok w'
structure Glob.At (g : Glob) (w : World) : Prop where
  ok : g.ok w
  lt : ∀ b,g.blk b→b < w.heap.size
def Glob.none : Glob:=⟨fun _ => False,fun _ => True,fun _ _ _ _ => trivial⟩
theorem Glob.none_at (w : World) : Glob.none.At w:=⟨trivial,fun _ h => h.elim⟩
structure Env where
  base : Nat
  W : Nat→Prop
  w0 : World
  g : Glob
  gold : ∀ b,g.blk b→b < base∧¬ W b
  gok : g.ok w0
def Env.ent (g : Glob) (w : World) (h : g.At w) : Env:=⟨w.heap.size,fun _ => False,w,g,fun b hb => ⟨h.lt b hb,fun h => h⟩,h.ok⟩
structure Keep (E : Env) (w : World) : Prop where
  os : w.os = E.w0.os
  tape : w.tape = E.w0.tape
  output : w.output = E.w0.output
  size : E.w0.heap.size ≤ w.heap.size
  block : ∀ k,k < E.base→¬ E.W k→w.heap[k]? = E.w0.heap[k]?
  low : E.base ≤ E.w0.heap.size
theorem Keep.at' {E : Env} {w : World} (k : Keep E w) : E.g.At w :=
  ⟨E.g.st _ _ (fun b hb => k.block b (E.gold b hb).1 (E.gold b hb).2) E.gok,fun b hb => Nat.lt_of_lt_of_le (E.gold b hb).1 (Nat.le_trans k.low k.size)⟩
def Old (E : Env) (b : Nat) : Prop:=b < E.base∧¬ E.W b
def addrOf : C→Option Addr
  | .nd (.sl d _ _) _ => d.a
  | .nd (.bx d) _ => d.a
  | _ => none
def kv : K Bool→List Value→Value
  | .ag,us => .agg us.toArray
  | .tu,us => .tuple us.toArray
  | .fn f nf,us => .func f (us.take nf).toArray (us.drop nf).toArray
  | _,_ => undef
def KV (k : K Bool) (us : List Value) (u : Value) : Prop :=
  match k with
  | .sl _ _ _ => us = []∧∃ a,u = .slice (some a) 0 0
  | k => u = kv k us
mutual
def VRel (E : Env) (ts : List C) : V→Value→Prop
  | .sc x,u => u = x
  | .own _,_ => False
  | .ro d,u => ∃ t : C,er t = d∧val t = u∧Mem E.w0 false t∧∀ b,cnt b t ≠ 0→Old E b
  | .ref r p,u => ∃ t0 k kids,ts[r]? = some t0∧getAt t0 p = some (.nd k kids)∧val (.nd k kids) = u
  | .sub r p lo es n,u => ∃ t0 d n' kids c a ad,ts[r]? = some t0∧getAt t0 p = some (.nd (.sl d es n') kids)∧n ≤ c∧lo + c * es ≤ d.cap * es∧d.a = some a ∧
      (c ≠ 0→ad = a.add lo)∧u = .slice (some ad) n c
  | .ad r p c,u => ∃ t0 k kids a,ts[r]? = some t0∧getAt t0 p = some (.nd k kids)∧addrOf (.nd k kids) = some a∧u = .pointer (some (a.add c))
  | .rad kids c,u => ∃ (ks : List C) (a : Addr),erL ks = kids∧Cells E.w0 a (valL ks)∧MemL E.w0 false ks∧(∀ b,cntL b ks ≠ 0→Old E b)∧(kids ≠ []→Old E a.block)∧u = .pointer (some (a.add c))
  | .vn k vs,u => ∃ us,VRelL E ts vs us∧KV k us u
  | .dead,_ => True
def VRelL (E : Env) (ts : List C) : List V→List Value→Prop
  | [],us => us = []
  | x :: xs,us => ∃ u us',us = u :: us'∧VRel E ts x u∧VRelL E ts xs us'
end
def SRel (E : Env) (ts : List C) (i : Nat) (x : V) (u : Value) : Prop :=
  match x with
  | .own d => ∃ k kids,ts[i]? = some (.nd k kids)∧er (.nd k kids) = d∧val (.nd k kids) = u
  | x => VRel E ts x u∧∃ y,ts[i]? = some (.v y)
structure Rel (E : Env) (st : St) (ts : List C) (tm : Array Value) (w : World) : Prop where
  lenT : ts.length = st.length
  lenM : tm.size = st.length
  slot : ∀ (i : Nat) x u,st[i]? = some x→tm[i]? = some u→SRel E ts i x u
  mem : ∀ (i : Nat) t,ts[i]? = some t→Mem w true t
  uniq : ∀ b,cntL b ts ≤ 1
  dom : ∀ b,cntL b ts ≠ 0→¬ Old E b∧b < w.heap.size
  keep : Keep E w
def getAt' (ts : List C) (i : Nat) (q : List Nat) : Option C :=
  match ts[i]? with
  | some t => getAt t q
  | none => none
theorem getAt_nil {δ : Type} (t : T δ) : getAt t [] = some t:=by cases t <;> rfl
theorem setAt_nil {δ : Type} (t x : T δ) : setAt t [] x = x:=by cases t <;> rfl
theorem val_nd (k : K Dec) (kids : List C) : val (.nd k kids) = k.val (kids.map val):=by rw [val,valL_eq]
theorem val_setAt_up {t : C} {q p1 : List Nat} {s x : C} (h : getAt t q = some s) (hv : val (setAt s p1 x) = val s) : val (setAt t (q ++ p1) x) = val t:=by
  induction q generalizing t with
  | nil => rw [getAt_nil] at h; cases h; simpa using hv
  | cons i q ih =>
    cases t with
    | v y => simp [getAt] at h
    | hole d => simp [getAt] at h
    | nd k kids =>
      simp only [getAt] at h
      cases hk : kids[i]? with
      | none => simp [hk] at h
      | some t =>
        simp only [hk] at h
        have:=ih h
        simp only [List.cons_append,setAt,hk,val_nd]
        congr 1
        rw [List.map_set,this]
        apply List.ext_getElem?
        intro j
        rw [List.getElem?_set]
        split
        · rename_i hj; subst hj
          split
          · simp [hk]
          · rename_i hlt; simp at hlt; simp [List.getElem?_eq_none hlt]
        · rfl
theorem val_setAt_same {t : C} {p : List Nat} {s x : C} (h : getAt t p = some s) (hv : val x = val s) : val (setAt t p x) = val t:=by
  have:=val_setAt_up (p1:=[]) (x:=x) h (by rw [setAt_nil]; exact hv)
  simpa using this
def memK : K Dec→Bool
  | .sl .. => true
  | .bx .. => true
  | _ => false
theorem val_setAt_mem {k : K Dec} {kids : List C} {c : Nat} {p : List Nat} {x : C} (hk : memK k = true) : val (setAt (.nd k kids) (c :: p) x) = val (.nd k kids):=by
  simp only [setAt,val_nd]
  cases k <;> simp [memK] at hk <;> rfl
def Quiet (t : C) (p : List Nat) (x : C) : Prop:=∀ q p1 s,p = q ++ p1→p1 ≠ []→getAt t q = some s→val (setAt s p1 x) = val s
theorem quiet_hole {t : C} {p : List Nat} {s x : C} (h : getAt t p = some s) (hv : val x = val s) : Quiet t p x:=by
  intro q p1 s' hp _ hq
  refine val_setAt_same (s:=s) ?_ hv
  rw [hp,getAt_append,hq] at h
  simpa using h
theorem quiet_cell {t : C} {p : List Nat} {c : Nat} {k : K Dec} {kids : List C} {x : C} (h : getAt t p = some (.nd k kids)) (hk : memK k = true) : Quiet t (p ++ [c]) x:=by
  intro q p1 s hp hne hq
  -- p1 ends in c: p1 = p2 ++ [c]
  obtain ⟨p2,rfl⟩ : ∃ p2,p1 = p2 ++ [c]:=by
    have : p1 = p1.dropLast ++ [p1.getLast hne]:=(List.dropLast_concat_getLast hne).symm
    rw [this,← List.append_assoc] at hp
    have h2:=List.append_inj' hp rfl
    exact ⟨p1.dropLast,by rw [List.cons.inj h2.2 |>.1]; exact this⟩
  have hp' : p = q ++ p2:=by
    rw [← List.append_assoc] at hp
    exact (List.append_inj' hp rfl).1
  rw [hp',getAt_append,hq] at h
  exact val_setAt_up (p1:=[c]) h (val_setAt_mem hk)
theorem getAt_setAt {t : C} {p q : List Nat} {x s : C} {k : K Dec} {kids : List C} (hs : getAt t p = some s) (hq : getAt t q = some (.nd k kids)) (hpre : pre p q = false) (hqt : Quiet t p x) :
    ∃ kids',getAt (setAt t p x) q = some (.nd k kids')∧val (.nd k kids') = val (.nd k kids):=by
  induction p generalizing t q with
  | nil => simp [pre] at hpre
  | cons i p ih =>
    cases t with
    | v y => simp [getAt] at hs
    | hole d => simp [getAt] at hs
    | nd k0 kids0 =>
      simp only [getAt] at hs
      cases hk : kids0[i]? with
      | none => simp [hk] at hs
      | some t1 =>
        simp only [hk] at hs
        cases q with
        | nil =>
          simp only [getAt,Option.some.injEq,T.nd.injEq] at hq
          obtain ⟨rfl,rfl⟩:=hq
          refine ⟨_,?_,hqt [] (i :: p) (.nd k0 kids0) rfl (by simp) (by rfl)⟩
          simp only [setAt,getAt]
        | cons j q =>
          simp only [getAt] at hq
          simp only [setAt,hk,getAt]
          by_cases hj : i = j
          · subst hj
            simp only [hk] at hq
            have hlt : i < kids0.length:=by
              rcases Nat.lt_or_ge i kids0.length with h | h
              · exact h
              · simp [List.getElem?_eq_none h] at hk
            rw [List.getElem?_set_self hlt]
            simp only [pre,beq_self_eq_true,Bool.true_and] at hpre
            refine ih hs hq hpre ?_
            intro q' p1 s' hp hne hq'
            refine hqt (i :: q') p1 s' (by rw [hp]; rfl) hne ?_
            simp only [getAt,hk]
            exact hq'
          · rw [List.getElem?_set_ne hj]
            exact ⟨kids,hq,rfl⟩
theorem VRel_kill {E : Env} {ts ts' : List C} {r : Nat} {p : List Nat} {x : V} {u : Value} (h : VRel E ts x u) (hk : x.under r p = false→VRel E ts x u→VRel E ts' x u) : VRel E ts' (x.kill r p) u:=by
  unfold V.kill
  split
  · trivial
  · rename_i hn; exact hk (by simpa using hn) h
mutual
theorem VRel_mono {E : Env} {ts ts' : List C} {r : Nat} {p : List Nat}
    (hr : ∀ i q k kids,getAt' ts i q = some (.nd k kids)→(i = r→pre p q = false)→∃ kids',getAt' ts' i q = some (.nd k kids')∧val (.nd k kids') = val (.nd k kids)) :
    ∀ (x : V) (u : Value),x.under r p = false→VRel E ts x u→VRel E ts' x u
  | .sc _,_,_,h => h
  | .own _,_,_,h => h
  | .ro _,_,_,h => h
  | .ref i q,u,hu,h => by
    obtain ⟨t0,k,kids,h1,h2,h3⟩:=h
    simp only [V.under,Bool.and_eq_false_iff] at hu
    obtain ⟨kids',h4,h5⟩:=hr i q k kids (by simp [getAt',h1,h2]) (by rintro rfl; simpa using hu)
    unfold getAt' at h4
    cases ht : ts'[i]? with
    | none => simp [ht] at h4
    | some t1 => simp only [ht] at h4; exact ⟨t1,k,kids',ht,h4,by rw [h5,h3]⟩
  | .sub i q lo es n,u,hu,h => by
    obtain ⟨t0,d,n',kids,c,a,ad,h1,h2,h3⟩:=h
    simp only [V.under,Bool.and_eq_false_iff] at hu
    obtain ⟨kids',h4,h5⟩:=hr i q (.sl d es n') kids (by simp [getAt',h1,h2]) (by rintro rfl; simpa using hu)
    unfold getAt' at h4
    cases ht : ts'[i]? with
    | none => simp [ht] at h4
    | some t1 => simp only [ht] at h4; exact ⟨t1,d,n',kids',c,a,ad,ht,h4,h3⟩
  | .ad i q c,u,hu,h => by
    obtain ⟨t0,k,kids,a,h1,h2,h3,h6⟩:=h
    simp only [V.under,Bool.and_eq_false_iff] at hu
    obtain ⟨kids',h4,h5⟩:=hr i q k kids (by simp [getAt',h1,h2]) (by rintro rfl; simpa using hu)
    unfold getAt' at h4
    cases ht : ts'[i]? with
    | none => simp [ht] at h4
    | some t1 => simp only [ht] at h4; exact ⟨t1,k,kids',a,ht,h4,by cases k <;> exact h3,h6⟩
  | .rad _ _,_,_,h => h
  | .vn k vs,u,hu,h => by
    obtain ⟨us,h1,h2⟩:=h
    exact ⟨us,VRelL_mono hr vs us (by simpa [V.under] using hu) h1,h2⟩
  | .dead,_,_,_ => trivial
theorem VRelL_mono {E : Env} {ts ts' : List C} {r : Nat} {p : List Nat}
    (hr : ∀ i q k kids,getAt' ts i q = some (.nd k kids)→(i = r→pre p q = false)→∃ kids',getAt' ts' i q = some (.nd k kids')∧val (.nd k kids') = val (.nd k kids)) :
    ∀ (xs : List V) (us : List Value),V.underL r p xs = false→VRelL E ts xs us→VRelL E ts' xs us
  | [],_,_,h => h
  | x :: xs,us,hu,h => by
    obtain ⟨u,us',h1,h2,h3⟩:=h
    simp only [V.underL,Bool.or_eq_false_iff] at hu
    exact ⟨u,us',h1,VRel_mono hr x u hu.1 h2,VRelL_mono hr xs us' hu.2 h3⟩
end
end Go.Mx
namespace Go.Mx
set_option linter.unusedVariables false
set_option linter.unusedSimpArgs false
set_option linter.unusedSectionVars false
open Go
theorem kill_get (r : Nat) (p : List Nat) (st : St) (i : Nat) : (kill r p st)[i]? = (st[i]?).map (V.kill r p):=by simp [kill]
@[simp] theorem kill_len (r : Nat) (p : List Nat) (st : St) : (kill r p st).length = st.length:=by simp [kill]
@[simp] theorem setv_len (st : St) (d : Nat) (x : V) : (setv st d x).length = st.length:=by
  unfold setv; split <;> simp
mutual
theorem under_leaf {E : Env} {ts : List C} {i : Nat} {p : List Nat} {y : Value} (hl : ts[i]? = some (.v y)) :
    ∀ (x : V) (u : Value),VRel E ts x u→x.under i p = false
  | .sc _,_,_ => rfl
  | .own _,_,_ => rfl
  | .ro _,_,_ => rfl
  | .ref j q,u,h => by
    obtain ⟨t0,k,kids,h1,h2,h3⟩:=h
    simp only [V.under,Bool.and_eq_false_iff]
    by_cases hj : j = i
    · subst hj; rw [hl] at h1; cases h1; cases q <;> simp [getAt] at h2
    · left; simpa using hj
  | .sub j q lo es n,u,h => by
    obtain ⟨t0,d,n',kids,c,a,ad,h1,h2,h3⟩:=h
    simp only [V.under,Bool.and_eq_false_iff]
    by_cases hj : j = i
    · subst hj; rw [hl] at h1; cases h1; cases q <;> simp [getAt] at h2
    · left; simpa using hj
  | .ad j q c,u,h => by
    obtain ⟨t0,k,kids,a,h1,h2,h3,h6⟩:=h
    simp only [V.under,Bool.and_eq_false_iff]
    by_cases hj : j = i
    · subst hj; rw [hl] at h1; cases h1; cases q <;> simp [getAt] at h2
    · left; simpa using hj
  | .rad _ _,_,_ => rfl
  | .vn k vs,u,h => by
    obtain ⟨us,h1,h2⟩:=h
    simpa [V.under] using under_leafL hl vs us h1
  | .dead,_,_ => rfl
theorem under_leafL {E : Env} {ts : List C} {i : Nat} {p : List Nat} {y : Value} (hl : ts[i]? = some (.v y)) :
    ∀ (xs : List V) (us : List Value),VRelL E ts xs us→V.underL i p xs = false
  | [],_,_ => rfl
  | x :: xs,us,h => by
    obtain ⟨u,us',h1,h2,h3⟩:=h
    simp only [V.underL,Bool.or_eq_false_iff]
    exact ⟨under_leaf hl x u h2,under_leafL hl xs us' h3⟩
end
mutual
theorem under_none {E : Env} {ts : List C} {i : Nat} {p : List Nat} (hl : ts[i]? = none) :
    ∀ (x : V) (u : Value),VRel E ts x u→x.under i p = false
  | .sc _,_,_ => rfl
  | .own _,_,_ => rfl
  | .ro _,_,_ => rfl
  | .ref j q,u,h => by
    obtain ⟨t0,k,kids,h1,h2,h3⟩:=h
    simp only [V.under,Bool.and_eq_false_iff]
    left
    have : j ≠ i:=fun e => by rw [e,hl] at h1; cases h1
    simpa using this
  | .sub j q lo es n,u,h => by
    obtain ⟨t0,d,n',kids,c,a,ad,h1,h2,h3⟩:=h
    simp only [V.under,Bool.and_eq_false_iff]
    left
    have : j ≠ i:=fun e => by rw [e,hl] at h1; cases h1
    simpa using this
  | .ad j q c,u,h => by
    obtain ⟨t0,k,kids,a,h1,h2,h3,h6⟩:=h
    simp only [V.under,Bool.and_eq_false_iff]
    left
    have : j ≠ i:=fun e => by rw [e,hl] at h1; cases h1
    simpa using this
  | .rad _ _,_,_ => rfl
  | .vn k vs,u,h => by
    obtain ⟨us,h1,h2⟩:=h
    simpa [V.under] using under_noneL hl vs us h1
  | .dead,_,_ => rfl
theorem under_noneL {E : Env} {ts : List C} {i : Nat} {p : List Nat} (hl : ts[i]? = none) :
    ∀ (xs : List V) (us : List Value),VRelL E ts xs us→V.underL i p xs = false
  | [],_,_ => rfl
  | x :: xs,us,h => by
    obtain ⟨u,us',h1,h2,h3⟩:=h
    simp only [V.underL,Bool.or_eq_false_iff]
    exact ⟨under_none hl x u h2,under_noneL hl xs us' h3⟩
end
theorem SRel.nonown {E : Env} {ts : List C} {i : Nat} {x : V} {u : Value} (h : SRel E ts i x u) (hx : ∀ d,x ≠ .own d) : VRel E ts x u∧∃ y,ts[i]? = some (.v y):=by
  cases x <;> first | exact h | exact absurd rfl (hx _)
theorem SRel.mk {E : Env} {ts : List C} {i : Nat} {x : V} {u : Value} (h : VRel E ts x u) (hl : ∃ y,ts[i]? = some (.v y)) : SRel E ts i x u:=by
  cases x <;> first | exact ⟨h,hl⟩ | exact h.elim
theorem mono_set {E : Env} {ts : List C} {dst : Nat} {t : C} {x : V} {u : Value} (h : VRel E ts x u) : VRel E (ts.set dst t) (x.kill dst []) u:=by
  refine VRel_kill h fun hu hv => VRel_mono ?_ x u hu hv
  intro i q k kids hq hi
  refine ⟨kids,?_,rfl⟩
  have hne : i ≠ dst:=fun e => by simpa [pre] using hi e
  unfold getAt' at *
  rw [List.getElem?_set_ne (Ne.symm hne)]
  exact hq
theorem kill_id {E : Env} {ts : List C} {i : Nat} {p : List Nat} {x : V} {u : Value} {y : Value} (hl : ts[i]? = some (.v y)) (h : VRel E ts x u) : x.kill i p = x:=by
  unfold V.kill; rw [under_leaf hl x u h]; rfl
theorem Rel.upd {E : Env} {st : St} {ts : List C} {tm : Array Value} {w : World} (h : Rel E st ts tm w) (dst : Nat) (t : C) (x : V) (u : Value)
    (hx : dst < st.length→SRel E (ts.set dst t) dst (x.kill dst []) u)
    (hx' : ∀ y,ts[dst]? = some (.v y)→x.kill dst [] = x)
    (hm : Mem w true t) (hc : ∀ b,cnt b t ≠ 0→cntL b ts = 0∧cnt b t ≤ 1∧¬ Old E b∧b < w.heap.size) :
    Rel E (setv st dst x) (ts.set dst t) (tm.setIfInBounds dst u) w:=by
  have hcnt : ∀ b,cntL b (ts.set dst t) ≤ cntL b ts + cnt b t:=by
    intro b
    cases hd : ts[dst]? with
    | none =>
      have hge : ts.length ≤ dst := by rcases Nat.lt_or_ge dst ts.length with h | h; · simp [List.getElem?_eq_getElem h] at hd
                                       · exact h
      rw [List.set_eq_of_length_le hge]; omega
    | some t0 => have:=cntL_set b ts dst t0 t hd; omega
  -- the new list of slots,in one form
  have hst : ∀ i : Nat,i ≠ dst→(setv st dst x)[i]? = (st[i]?).map (V.kill dst []) ∨ (setv st dst x)[i]? = st[i]?∧∃ y,ts[dst]? = some (.v y):=by
    intro i hi
    unfold setv
    split
    · left; rw [List.getElem?_set_ne (Ne.symm hi),kill_get]
    · rename_i hno
      rw [List.getElem?_set_ne (Ne.symm hi)]
      rcases Nat.lt_or_ge dst st.length with hlt | hge
      · right
        refine ⟨rfl,?_⟩
        have hs:=h.slot dst st[dst] tm[dst]! (by simp [hlt]) (by have:=h.lenM; simp [this,hlt,getElem!_pos])
        exact (hs.nonown (fun d e => hno d (by rw [List.getElem?_eq_getElem hlt,e]))).2
      · -- nothing is there: nobody borrows from it
        left
        cases hsi : st[i]? with
        | none => rfl
        | some y =>
          simp only [Option.map_some,Option.some.injEq]
          -- y is not under dst,for there is no tree
          by_cases hy : ∃ d,y = .own d
          · obtain ⟨d,rfl⟩:=hy; rfl
          · have hlti : i < tm.size:=by
              rw [h.lenM]
              rcases Nat.lt_or_ge i st.length with h' | h'
              · exact h'
              · simp [List.getElem?_eq_none h'] at hsi
            have hs:=(h.slot i y tm[i] hsi (by simp [hlti])).nonown (fun d e => hy ⟨d,e⟩)
            have hnone : ts[dst]? = none:=List.getElem?_eq_none (by rw [h.lenT]; exact hge)
            unfold V.kill
            rw [show y.under dst [] = false from ?_]; rfl
            have hv:=hs.1
            clear hs
            -- whoever is under dst names a tree
            have:=under_none (p:=[]) hnone y tm[i] hv
            exact this
  refine ⟨by simp [h.lenT],by simp [h.lenM],?_,?_,?_,?_,h.keep⟩
  · intro i y v hy hv
    by_cases hi : i = dst
    · subst hi
      rcases Nat.lt_or_ge i st.length with hlt | hge
      · have hv' : v = u:=by
          rw [Array.getElem?_setIfInBounds_self_of_lt (by rw [h.lenM]; exact hlt)] at hv
          simpa using hv.symm
        subst hv'
        have hy' : y = x.kill i []:=by
          unfold setv at hy
          split at hy
          · rw [List.getElem?_set_self (by simpa using hlt)] at hy; simpa using hy.symm
          · rename_i hno
            rw [List.getElem?_set_self hlt] at hy
            have hs:=h.slot i st[i] tm[i]! (by simp [hlt]) (by have:=h.lenM; simp [this,hlt,getElem!_pos])
            obtain ⟨_,z,hz⟩:=hs.nonown (fun d e => hno d (by rw [List.getElem?_eq_getElem hlt,e]))
            rw [hx' z hz]; simpa using hy.symm
        subst hy'
        exact hx hlt
      · have : (setv st i x)[i]? = none:=List.getElem?_eq_none (by simpa using hge)
        rw [this] at hy; cases hy
    · rw [Array.getElem?_setIfInBounds_ne (fun e => hi e.symm)] at hv
      have key : ∀ z,st[i]? = some z→SRel E (ts.set dst t) i (z.kill dst []) v:=by
        intro z hz
        have hs:=h.slot i z v hz hv
        by_cases ho : ∃ d,z = .own d
        · obtain ⟨d,rfl⟩:=ho
          obtain ⟨k,kids,h1,h2,h3⟩:=hs
          exact ⟨k,kids,by rw [List.getElem?_set_ne (fun e => hi e.symm)]; exact h1,h2,h3⟩
        · obtain ⟨h1,y',h2⟩:=hs.nonown (fun d e => ho ⟨d,e⟩)
          exact SRel.mk (mono_set h1) ⟨y',by rw [List.getElem?_set_ne (fun e => hi e.symm)]; exact h2⟩
      rcases hst i hi with he | ⟨he,z,hz⟩
      · rw [he] at hy
        cases hsi : st[i]? with
        | none => simp [hsi] at hy
        | some z =>
          simp only [hsi,Option.map_some,Option.some.injEq] at hy
          subst hy
          exact key z hsi
      · rw [he] at hy
        have:=key y hy
        by_cases ho : ∃ d,y = .own d
        · obtain ⟨d,rfl⟩:=ho; exact this
        · obtain ⟨h1,_⟩:=(h.slot i y v hy hv).nonown (fun d e => ho ⟨d,e⟩)
          rwa [kill_id hz h1] at this
  · intro i s hs
    by_cases hi : i = dst
    · subst hi
      rcases Nat.lt_or_ge i ts.length with hlt | hge
      · rw [List.getElem?_set_self hlt] at hs; cases hs; exact hm
      · rw [List.getElem?_eq_none (by simpa using hge)] at hs; cases hs
    · rw [List.getElem?_set_ne (fun e => hi e.symm)] at hs; exact h.mem i s hs
  · intro b
    by_cases hb : cnt b t = 0
    · have:=hcnt b; have:=h.uniq b; omega
    · obtain ⟨h1,h2,_⟩:=hc b hb; have:=hcnt b; omega
  · intro b hb
    by_cases hz : cnt b t = 0
    · exact h.dom b (by have:=hcnt b; omega)
    · exact (hc b hz).2.2
end Go.Mx
namespace Go.Mx
set_option linter.unusedVariables false
set_option linter.unusedSimpArgs false
set_option linter.unusedSectionVars false
open Go
theorem lt_of_get {α : Type} {l : List α} {i : Nat} {x : α} (h : l[i]? = some x) : i < l.length:=by
  rcases Nat.lt_or_ge i l.length with h' | h'
  · exact h'
  · simp [List.getElem?_eq_none h'] at h
theorem Rel.tm_get {E : Env} {st : St} {ts : List C} {tm : Array Value} {w : World} (h : Rel E st ts tm w) {i : Nat} {x : V} (hx : st[i]? = some x) : tm[i]? = some (tm.getD i undef):=by
  have:=lt_of_get hx
  have hl:=h.lenM
  simp [Array.getD,show i < tm.size by omega]
theorem Rel.slot' {E : Env} {st : St} {ts : List C} {tm : Array Value} {w : World} (h : Rel E st ts tm w) {i : Nat} {x : V} (hx : st[i]? = some x) : SRel E ts i x (tm.getD i undef):=h.slot i x _ hx (h.tm_get hx)
theorem Rel.set {E : Env} {st : St} {ts : List C} {tm : Array Value} {w : World} (h : Rel E st ts tm w) (dst : Nat) {x : V} {u : Value} (hx : VRel E ts x u) :
    Rel E (setv st dst x) (ts.set dst (.v undef)) (tm.setIfInBounds dst u) w :=
  h.upd dst (.v undef) x u (fun hlt => SRel.mk (mono_set hx) ⟨undef,List.getElem?_set_self (by rw [h.lenT]; exact hlt)⟩) (fun y hy => kill_id hy hx) trivial (fun b hb => absurd rfl hb)
theorem Rel.setOwn {E : Env} {st : St} {ts : List C} {tm : Array Value} {w : World} (h : Rel E st ts tm w) (dst : Nat) {t : C} (hn : ∃ k kids,t = .nd k kids) (hm : Mem w true t)
    (hc : ∀ b,cnt b t ≠ 0→cntL b ts = 0∧cnt b t ≤ 1∧¬ Old E b∧b < w.heap.size) :
    Rel E (setv st dst (.own (er t))) (ts.set dst t) (tm.setIfInBounds dst (val t)) w :=
  h.upd dst t (.own (er t)) (val t) (fun hlt => by
    obtain ⟨k,kids,rfl⟩:=hn
    exact ⟨k,kids,List.getElem?_set_self (by rw [h.lenT]; exact hlt),rfl,rfl⟩) (fun _ _ => rfl) hm hc
theorem Rel.setMk {E : Env} {st : St} {ts : List C} {tm : Array Value} {w : World} (h : Rel E st ts tm w) (dst : Nat) {t : C} (hm : Mem w true t)
    (hc : ∀ b,cnt b t ≠ 0→cntL b ts = 0∧cnt b t ≤ 1∧¬ Old E b∧b < w.heap.size) :
    ∃ ts',Rel E (setv st dst (mkOwn (er t))) ts' (tm.setIfInBounds dst (val t)) w:=by
  cases t with
  | v x => exact ⟨_,h.set dst (x:=.sc x) (u:=x) rfl⟩
  | hole d => exact ⟨_,h.set dst (x:=.dead) (u:=d.x) trivial⟩
  | nd k kids =>
    have:=h.setOwn dst ⟨k,kids,rfl⟩ hm hc
    rw [er] at this
    exact ⟨_,by rw [er]; exact this⟩
theorem rootD_some {st : St} {r : Nat} {d : D} (h : rootD st r = some d) : st[r]? = some (.own d):=by
  unfold rootD at h
  split at h
  · rename_i d' hd; cases h; exact hd
  · cases h
theorem Rel.root {E : Env} {st : St} {ts : List C} {tm : Array Value} {w : World} (h : Rel E st ts tm w) {r : Nat} {d : D} (hr : rootD st r = some d) :
    ∃ k kids,ts[r]? = some (.nd k kids)∧er (.nd k kids) = d∧val (.nd k kids) = tm.getD r undef :=
  h.slot' (rootD_some hr)
theorem er_eq_nd {t : C} {k : K Bool} {kids : List D} (h : er t = .nd k kids) : ∃ k' kids',t = .nd k' kids'∧k'.er = k∧erL kids' = kids:=by
  cases t with
  | v x => simp [er] at h
  | hole d => simp [er] at h
  | nd k' kids' => simp only [er,T.nd.injEq] at h; exact ⟨k',kids',rfl,h.1,h.2⟩
theorem er_eq_v {t : C} {x : Value} (h : er t = .v x) : t = .v x:=by
  cases t with
  | v x => simp only [er,T.v.injEq] at h; rw [h]
  | hole d => simp [er] at h
  | nd k' kids' => simp [er] at h
theorem Rel.place {E : Env} {st : St} {ts : List C} {tm : Array Value} {w : World} (h : Rel E st ts tm w) {r : Nat} {p : List Nat} {d : D} (hp : placeD st r p = some d) :
    ∃ t0 s,ts[r]? = some t0∧getAt t0 p = some s∧er s = d∧rootD st r = some (er t0)∧(∃ k kids,t0 = .nd k kids):=by
  unfold placeD at hp
  cases hr : rootD st r with
  | none => simp [hr] at hp
  | some d0 =>
    simp only [hr] at hp
    obtain ⟨k,kids,h1,h2,h3⟩:=h.root hr
    subst h2
    rw [er_getAt] at hp
    cases hg : getAt (T.nd k kids) p with
    | none => simp [hg] at hp
    | some s =>
      simp only [hg,Option.map_some,Option.some.injEq] at hp
      exact ⟨_,s,h1,hg,hp,rfl,k,kids,rfl⟩
def Evolve (ts ts' : List C) : Prop :=
  ∀ i q k kids',getAt' ts' i q = some (.nd k kids')→∃ kids,getAt' ts i q = some (.nd k kids)∧val (.nd k kids') = val (.nd k kids)
theorem Evolve.refl (ts : List C) : Evolve ts ts:=fun _ _ _ kids' h => ⟨kids',h,rfl⟩
theorem Evolve.trans {a b c : List C} (h : Evolve a b) (k : Evolve b c) : Evolve a c:=fun i q kk kids' hq => by
  obtain ⟨k1,h1,h2⟩:=k i q kk kids' hq
  obtain ⟨k2,h3,h4⟩:=h i q kk k1 h1
  exact ⟨k2,h3,by rw [h2,h4]⟩
theorem evolve_leaf (ts : List C) (r : Nat) (x : Value) : Evolve ts (ts.set r (.v x)):=by
  intro i q k kids' h
  unfold getAt' at *
  by_cases hi : r = i
  · subst hi
    rcases Nat.lt_or_ge r ts.length with hlt | hge
    · rw [List.getElem?_set_self hlt] at h
      cases q <;> simp [getAt] at h
    · rw [List.getElem?_eq_none (by simpa using hge)] at h; simp at h
  · rw [List.getElem?_set_ne hi] at h; exact ⟨kids',h,rfl⟩
theorem getAt_setAt_hole {t : C} {p q : List Nat} {d : Dec} {s : C} {k : K Dec} {kids' : List C} (hs : getAt t p = some s) (h : getAt (setAt t p (.hole d)) q = some (.nd k kids')) :
    pre p q = false∧∃ kids,getAt t q = some (.nd k kids):=by
  induction p generalizing t q with
  | nil => rw [setAt_nil] at h; cases q <;> simp [getAt] at h
  | cons i p ih =>
    cases t with
    | v y => simp [getAt] at hs
    | hole d => simp [getAt] at hs
    | nd k0 kids0 =>
      simp only [getAt] at hs
      cases hk : kids0[i]? with
      | none => simp [hk] at hs
      | some t1 =>
        simp only [hk] at hs
        cases q with
        | nil =>
          simp only [setAt,getAt,Option.some.injEq,T.nd.injEq] at h
          exact ⟨rfl,kids0,by simp [getAt,h.1]⟩
        | cons j q =>
          simp only [setAt,hk,getAt] at h
          by_cases hj : i = j
          · subst hj
            rw [List.getElem?_set_self (lt_of_get hk)] at h
            obtain ⟨h1,kids,h2⟩:=ih hs h
            exact ⟨by simpa [pre] using h1,kids,by simp only [getAt,hk]; exact h2⟩
          · rw [List.getElem?_set_ne hj] at h
            exact ⟨by simp [pre,hj],kids',by simp only [getAt]; exact h⟩
theorem evolve_hole {ts : List C} {r : Nat} {t0 : C} {p : List Nat} {s : C} {d : Dec} (hr : ts[r]? = some t0) (hs : getAt t0 p = some s) (hd : d.x = val s) :
    Evolve ts (ts.set r (setAt t0 p (.hole d))):=by
  intro i q k kids' h
  unfold getAt' at *
  by_cases hi : r = i
  · subst hi
    rw [List.getElem?_set_self (lt_of_get hr)] at h
    rw [hr]
    obtain ⟨h1,kids,h2⟩:=getAt_setAt_hole hs h
    obtain ⟨kids'',h3,h4⟩:=getAt_setAt hs h2 h1 (quiet_hole (x:=.hole d) hs (by simp [val,hd]))
    have h' : getAt (setAt t0 p (.hole d)) q = some (.nd k kids'):=h
    rw [h'] at h3
    cases h3
    exact ⟨kids,h2,h4⟩
  · rw [List.getElem?_set_ne hi] at h; exact ⟨kids',h,rfl⟩
theorem getAt_pre {t : C} {p q : List Nat} {s : C} {k : K Dec} {kids : List C} (hs : getAt t p = some s) (hsn : ∀ (k' : K Dec) (kids' : List C),s ≠ .nd k' kids') (hq : getAt t q = some (.nd k kids)) : pre p q = false:=by
  induction p generalizing t q with
  | nil =>
    rw [getAt_nil] at hs
    have hs' : s = t:=by simpa using hs.symm
    subst hs'
    cases s with
    | v y => cases q <;> simp [getAt] at hq
    | hole d => cases q <;> simp [getAt] at hq
    | nd k' kids' => exact absurd rfl (hsn k' kids')
  | cons i p ih =>
    cases t with
    | v y => simp [getAt] at hs
    | hole d => simp [getAt] at hs
    | nd k0 kids0 =>
      simp only [getAt] at hs
      cases hk : kids0[i]? with
      | none => simp [hk] at hs
      | some t1 =>
        simp only [hk] at hs
        cases q with
        | nil => rfl
        | cons j q =>
          by_cases hj : i = j
          · subst hj
            simp only [getAt,hk] at hq
            simpa [pre] using ih hs hq
          · simp [pre,hj]
mutual
theorem under_noleaf {E : Env} {ts : List C} {r : Nat} {p : List Nat} {t0 s : C} (hr : ts[r]? = some t0) (hs : getAt t0 p = some s) (hsn : ∀ (k' : K Dec) (kids' : List C),s ≠ .nd k' kids') :
    ∀ (x : V) (u : Value),VRel E ts x u→x.under r p = false
  | .sc _,_,_ => rfl
  | .own _,_,_ => rfl
  | .ro _,_,_ => rfl
  | .ref j q,u,h => by
    obtain ⟨t1,k,kids,h1,h2,h3⟩:=h
    simp only [V.under,Bool.and_eq_false_iff]
    by_cases hj : j = r
    · subst hj; rw [hr] at h1; cases h1; right; exact getAt_pre hs hsn h2
    · left; simpa using hj
  | .sub j q lo es n,u,h => by
    obtain ⟨t1,d,n',kids,c,a,ad,h1,h2,h3⟩:=h
    simp only [V.under,Bool.and_eq_false_iff]
    by_cases hj : j = r
    · subst hj; rw [hr] at h1; cases h1; right; exact getAt_pre hs hsn h2
    · left; simpa using hj
  | .ad j q c,u,h => by
    obtain ⟨t1,k,kids,a,h1,h2,h3,h6⟩:=h
    simp only [V.under,Bool.and_eq_false_iff]
    by_cases hj : j = r
    · subst hj; rw [hr] at h1; cases h1; right; exact getAt_pre hs hsn h2
    · left; simpa using hj
  | .rad _ _,_,_ => rfl
  | .vn k vs,u,h => by
    obtain ⟨us,h1,h2⟩:=h
    simpa [V.under] using under_noleafL hr hs hsn vs us h1
  | .dead,_,_ => rfl
theorem under_noleafL {E : Env} {ts : List C} {r : Nat} {p : List Nat} {t0 s : C} (hr : ts[r]? = some t0) (hs : getAt t0 p = some s) (hsn : ∀ (k' : K Dec) (kids' : List C),s ≠ .nd k' kids') :
    ∀ (xs : List V) (us : List Value),VRelL E ts xs us→V.underL r p xs = false
  | [],_,_ => rfl
  | x :: xs,us,h => by
    obtain ⟨u,us',h1,h2,h3⟩:=h
    simp only [V.underL,Bool.or_eq_false_iff]
    exact ⟨under_noleaf hr hs hsn x u h2,under_noleafL hr hs hsn xs us' h3⟩
end
theorem Rel.change {E : Env} {st : St} {ts : List C} {tm : Array Value} {w w' : World} (h : Rel E st ts tm w) {r : Nat} {k : K Dec} {kids : List C} (hr : ts[r]? = some (.nd k kids))
    {p : List Nat} {s x : C} (hs : getAt (.nd k kids) p = some s) (hne : p ≠ []) (hq : Quiet (.nd k kids) p x) {d0 : D} (hd : st[r]? = some (.own d0)) {st1 : St}
    (hst : st1 = kill r p st ∨ (st1 = st∧∀ (k' : K Dec) (kids' : List C),s ≠ .nd k' kids'))
    (hm : ∀ (i : Nat) t,(ts.set r (setAt (.nd k kids) p x))[i]? = some t→Mem w' true t)
    (hc : ∀ b,cnt b x ≠ 0→cntL b ts - cnt b s + cnt b x ≤ 1∧¬ Old E b∧b < w'.heap.size) (hsz : w.heap.size ≤ w'.heap.size) (hk : Keep E w') :
    Rel E (st1.set r (.own (setAt d0 p (er x)))) (ts.set r (setAt (.nd k kids) p x)) tm w':=by
  obtain ⟨k1,kids1,h1,h2,h3⟩:=h.slot' hd
  rw [hr] at h1; cases h1
  have hlen : st1.length = st.length:=by rcases hst with rfl | ⟨rfl,_⟩ <;> simp
  obtain ⟨i0,p',hp'⟩ : ∃ i0 p',p = i0 :: p':=by cases p with | nil => exact absurd rfl hne | cons a b => exact ⟨a,b,rfl⟩
  have hv : val (setAt (.nd k kids) p x) = val (.nd k kids):=hq [] p _ rfl hne (getAt_nil _)
  have hnd : ∃ kids',setAt (T.nd k kids) p x = .nd k kids':=by subst hp'; simp [setAt]
  obtain ⟨kids',hnd⟩:=hnd
  have hcnt : ∀ b,cntL b (ts.set r (setAt (.nd k kids) p x)) + cnt b s = cntL b ts + cnt b x:=by
    intro b
    have e1:=cntL_set b ts r _ (setAt (.nd k kids) p x) hr
    have e2:=cnt_setAt b (.nd k kids) p s x hs
    omega
  refine ⟨by simp [h.lenT,hlen],by simp [h.lenM,hlen],?_,hm,?_,?_,hk⟩
  · intro i y v hy hv'
    by_cases hi : i = r
    · subst hi
      rw [List.getElem?_set_self (by rw [hlen]; exact lt_of_get hd)] at hy
      cases hy
      refine ⟨k,kids',?_,?_,?_⟩
      · rw [List.getElem?_set_self (lt_of_get hr),hnd]
      · rw [← hnd,er_setAt,h2]
      · rw [← hnd,hv,h3]; have:=h.tm_get hd; rw [this] at hv'; simpa using hv'
    · rw [List.getElem?_set_ne (fun e => hi e.symm)] at hy
      have hmono : ∀ z,z.under r p = false→VRel E ts z v→VRel E (ts.set r (setAt (.nd k kids) p x)) z v:=by
        intro z hz hzv
        refine VRel_mono (r:=r) (p:=p) ?_ z v hz hzv
        intro i' q k' kids'' hq' hpre
        unfold getAt' at *
        by_cases hi' : r = i'
        · subst hi'
          rw [hr] at hq'
          rw [List.getElem?_set_self (lt_of_get hr)]
          exact getAt_setAt hs hq' (hpre rfl) hq
        · rw [List.getElem?_set_ne hi']; exact ⟨kids'',hq',rfl⟩
      have hleaf : ∀ y',ts[i]? = some (.v y')→(ts.set r (setAt (T.nd k kids) p x))[i]? = some (.v y'):=fun y' hy' => by rw [List.getElem?_set_ne (fun e => hi e.symm)]; exact hy'
      rcases hst with rfl | ⟨rfl,hsn⟩
      · rw [kill_get] at hy
        cases hsi : st[i]? with
        | none => simp [hsi] at hy
        | some z =>
          simp only [hsi,Option.map_some,Option.some.injEq] at hy
          subst hy
          have hs':=h.slot i z v hsi hv'
          by_cases ho : ∃ d,z = .own d
          · obtain ⟨d,rfl⟩:=ho
            obtain ⟨k2,kids2,g1,g2,g3⟩:=hs'
            exact ⟨k2,kids2,by rw [List.getElem?_set_ne (fun e => hi e.symm)]; exact g1,g2,g3⟩
          · obtain ⟨g1,y',g2⟩:=hs'.nonown (fun d e => ho ⟨d,e⟩)
            exact SRel.mk (VRel_kill g1 fun hu hz => hmono z hu hz) ⟨y',hleaf y' g2⟩
      · have hs':=h.slot i y v hy hv'
        by_cases ho : ∃ d,y = .own d
        · obtain ⟨d,rfl⟩:=ho
          obtain ⟨k2,kids2,g1,g2,g3⟩:=hs'
          exact ⟨k2,kids2,by rw [List.getElem?_set_ne (fun e => hi e.symm)]; exact g1,g2,g3⟩
        · obtain ⟨g1,y',g2⟩:=hs'.nonown (fun d e => ho ⟨d,e⟩)
          exact SRel.mk (hmono y (under_noleaf hr hs hsn y v g1) g1) ⟨y',hleaf y' g2⟩
  · intro b
    have:=hcnt b; have:=h.uniq b
    by_cases hb : cnt b x = 0
    · omega
    · have:=(hc b hb).1
      have hle : cnt b s ≤ cntL b ts:=Nat.le_trans (cnt_getAt b _ p s hs) (cnt_le_cntL b ts r _ hr)
      omega
  · intro b hb
    by_cases hx : cnt b x = 0
    · have:=hcnt b
      obtain ⟨g1,g2⟩:=h.dom b (by omega)
      exact ⟨g1,by omega⟩
    · exact (hc b hx).2
end Go.Mx
namespace Go.Mx
set_option linter.unusedVariables false
set_option linter.unusedSimpArgs false
set_option linter.unusedSectionVars false
open Go
theorem Addr.add_add' (a : Addr) (i j : Nat) : (a.add i).add j = a.add (i + j):=by
  unfold Addr.add
  by_cases hi : i = 0
  · subst hi; simp
  · by_cases hj : j = 0
    · subst hj; simp
    · rw [if_neg hj,if_neg hi,if_neg (by omega)]; simp [Nat.add_assoc]
theorem Addr.add_block (a : Addr) (i : Nat) : (a.add i).block = a.block:=by unfold Addr.add; split <;> rfl
theorem Cells.drop {w : World} {a : Addr} {vs : List Value} (h : Cells w a vs) (lo : Nat) : Cells w (a.add lo) (vs.drop lo):=by
  intro i u hu
  rw [Addr.add_add']
  exact h (lo + i) u (by simpa using hu)
theorem Cells.take {w : World} {a : Addr} {vs : List Value} (h : Cells w a vs) (n : Nat) : Cells w a (vs.take n):=by
  intro i u hu
  refine h i u ?_
  rw [List.getElem?_take] at hu
  split at hu
  · exact hu
  · cases hu
theorem Row.le {w : World} {b m m' : Nat} (h : Row w b m) (hl : m' ≤ m) : Row w b m':=by
  obtain ⟨arr,e,lo,hi,h1,h2,h3⟩:=h
  exact ⟨arr,e,lo,hi,h1,by omega,by omega⟩
theorem K.ok_weak {w : World} {vs : List Value} {k : K Dec} (h : k.ok w true vs) : k.ok w false vs:=by
  cases k with
  | sl d es n =>
    obtain ⟨h1,h2,h3,h4⟩:=h
    exact ⟨h1,h2,h3,fun a ha => ⟨(h4 a ha).1,fun hf => by cases hf⟩⟩
  | bx d =>
    obtain ⟨a,ha,h1,h2⟩:=h
    exact ⟨a,ha,h1,fun hf => by cases hf⟩
  | ag => trivial
  | tu => trivial
  | fn f nf => trivial
mutual
theorem Mem.weak {w : World} : ∀ {t : C},Mem w true t→Mem w false t
  | .v _,_ => trivial
  | .hole _,_ => trivial
  | .nd k kids,h => by
    simp only [Mem] at h ⊢
    exact ⟨K.ok_weak h.1,MemL.weak h.2⟩
theorem MemL.weak {w : World} : ∀ {l : List C},MemL w true l→MemL w false l
  | [],_ => trivial
  | t :: ts,h => by
    simp only [MemL] at h ⊢
    exact ⟨Mem.weak h.1,MemL.weak h.2⟩
end
theorem Mem_setAt {w : World} {o : Bool} {t : C} {p : List Nat} {s x : C} (hm : Mem w o t) (h : getAt t p = some s) (hx : Mem w o x) (hv : val x = val s) : Mem w o (setAt t p x):=by
  induction p generalizing t with
  | nil => rw [setAt_nil]; exact hx
  | cons i p ih =>
    cases t with
    | v x => simp [getAt] at h
    | hole d => simp [getAt] at h
    | nd k kids =>
      simp only [getAt] at h
      cases hk : kids[i]? with
      | none => simp [hk] at h
      | some t =>
        simp only [hk] at h
        simp only [Mem,MemL_iff] at hm
        simp only [setAt,hk,Mem,MemL_iff]
        refine ⟨?_,?_⟩
        · have hsame : valL (kids.set i (setAt t p x)) = valL kids:=by
            rw [valL_eq,valL_eq,List.map_set,val_setAt_same h hv]
            apply List.ext_getElem?
            intro j
            rw [List.getElem?_set]
            split
            · rename_i hj; subst hj
              split
              · simp [hk]
              · rename_i hlt; simp at hlt; simp [List.getElem?_eq_none hlt]
            · rfl
          rw [hsame]; exact hm.1
        · intro t' ht'
          rcases List.mem_or_eq_of_mem_set ht' with h' | h'
          · exact hm.2 t' h'
          · rw [h']; exact ih (hm.2 t (List.mem_of_getElem? hk)) h
theorem leave_ok {E : Env} {st : St} {ts : List C} {tm : Array Value} {w : World} (h : Rel E st ts tm w) {r : Nat} {d0 : D} (hd : rootD st r = some d0) {t0 : C} (ht : ts[r]? = some t0)
    {p : List Nat} {k : K Dec} {kids : List C} (hs : getAt t0 p = some (.nd k kids)) :
    ∃ ts',Rel E (leave st r d0 p) ts' tm w∧(∀ b,cntL b ts' + cnt b (.nd k kids) = cntL b ts)∧Evolve ts ts'∧Mem w true (.nd k kids):=by
  have hd':=rootD_some hd
  obtain ⟨k0,kids0,h1,h2,h3⟩:=h.root hd
  rw [ht] at h1; cases h1
  have hmem : Mem w true (.nd k kids):=Mem_getAt (h.mem r _ ht) hs
  cases p with
  | nil =>
    rw [getAt_nil] at hs; cases hs
    refine ⟨ts.set r (.v undef),?_,?_,evolve_leaf _ _ _,hmem⟩
    · have:=h.set r (x:=.dead) (u:=tm.getD r undef) trivial
      have e1 : setv st r .dead = leave st r d0 []:=by simp [setv,hd',leave,V.kill,V.under]
      have e2 : tm.setIfInBounds r (tm.getD r undef) = tm:=by
        have hg:=h.tm_get hd'
        apply Array.ext_getElem?
        intro i
        by_cases hi : r = i
        · subst hi
          have hlt : r < tm.size:=by have:=lt_of_get hd'; have:=h.lenM; omega
          rw [Array.getElem?_setIfInBounds_self_of_lt hlt,hg]
        · rw [Array.getElem?_setIfInBounds_ne hi]
      rw [e1,e2] at this
      exact this
    · intro b
      have:=cntL_set b ts r _ (.v undef) ht
      simp only [cnt] at this ⊢; omega
  | cons i p =>
    have hx : val (T.hole (δ:=Dec) ⟨none,0,val (.nd k kids)⟩) = val (.nd k kids):=by rw [val]
    refine ⟨ts.set r (setAt (.nd k0 kids0) (i :: p) (.hole ⟨none,0,val (.nd k kids)⟩)),?_,?_,evolve_hole ht hs rfl,hmem⟩
    · have:=h.change (w':=w) ht hs (x:=.hole ⟨none,0,val (.nd k kids)⟩) (by simp) (quiet_hole hs hx) hd' (st1:=kill r (i :: p) st) (.inl rfl) ?_ (fun b hb => absurd rfl hb) (Nat.le_refl _) h.keep
      · exact this
      · intro j t hj
        by_cases hi : r = j
        · subst hi
          rw [List.getElem?_set_self (lt_of_get ht)] at hj
          cases hj
          exact Mem_setAt (h.mem r _ ht) hs trivial hx
        · rw [List.getElem?_set_ne hi] at hj; exact h.mem j t hj
    · intro b
      have e1:=cntL_set b ts r _ (setAt (.nd k0 kids0) (i :: p) (.hole ⟨none,0,val (.nd k kids)⟩)) ht
      have e2:=cnt_setAt b (.nd k0 kids0) (i :: p) _ (.hole ⟨none,0,val (.nd k kids)⟩) hs
      have e3 : cnt b (T.hole (δ:=Dec) ⟨none,0,val (.nd k kids)⟩) = 0:=rfl
      omega
theorem noMem_ok {w0 w : World} {o : Bool} {t : C} (h : noMem (er t) = true) (hm : Mem w0 false t) : Mem w o t∧∀ b,cnt b t = 0:=by
  cases t with
  | v x => exact ⟨trivial,fun _ => rfl⟩
  | hole d => exact ⟨trivial,fun _ => rfl⟩
  | nd k kids =>
    cases k with
    | sl d es n =>
      simp only [er,K.er] at h
      cases n with
      | succ n => simp [noMem] at h
      | zero =>
        cases kids with
        | cons a b => simp [erL,noMem] at h
        | nil =>
          cases hd : d.a with
          | some a => simp [hd,noMem] at h
          | none =>
            obtain ⟨⟨h1,h2,h3,h4⟩,_⟩:=hm
            refine ⟨⟨⟨h1,h2,h3,fun a ha => by rw [hd] at ha; cases ha⟩,trivial⟩,fun b => by simp [cnt,K.own,hd,cntL]⟩
    | bx d => simp [er,K.er,noMem] at h
    | ag => simp [er,K.er,noMem] at h
    | tu => simp [er,K.er,noMem] at h
    | fn f nf => simp [er,K.er,noMem] at h
theorem noMemL_ok {w0 w : World} {o : Bool} {l : List C} (h : noMemL (erL l) = true) (hm : MemL w0 false l) : MemL w o l∧∀ b,cntL b l = 0:=by
  induction l with
  | nil => exact ⟨trivial,fun _ => rfl⟩
  | cons t l ih =>
    simp only [erL,noMemL,List.all_cons,Bool.and_eq_true] at h
    simp only [MemL] at hm ⊢
    obtain ⟨h1,h2⟩:=noMem_ok (w:=w) (o:=o) h.1 hm.1
    obtain ⟨h3,h4⟩:=ih h.2 hm.2
    exact ⟨⟨h1,h3⟩,fun b => by simp [cntL,h2 b,h4 b]⟩
theorem subD_some {lo es n : Nat} {d s : D} (h : subD lo es n d = some s) : ∃ n' kids,d = .nd (.sl false es n') kids∧0 < es∧lo + n * es ≤ kids.length∧s = .nd (.sl false es n) ((kids.drop lo).take (n * es)):=by
  unfold subD at h
  split at h
  · rename_i b es' n' kids
    split at h
    · rename_i hc
      obtain ⟨rfl,rfl,h3,h4⟩:=hc
      cases h
      exact ⟨n',kids,rfl,h3,h4,rfl⟩
    · cases h
  · cases h
theorem erL_drop (l : List C) (n : Nat) : erL (l.drop n) = (erL l).drop n:=by rw [erL_eq,erL_eq,List.map_drop]
theorem erL_take (l : List C) (n : Nat) : erL (l.take n) = (erL l).take n:=by rw [erL_eq,erL_eq,List.map_take]
theorem erL_len (l : List C) : (erL l).length = l.length:=by rw [erL_eq,List.length_map]
theorem valL_drop (l : List C) (n : Nat) : valL (l.drop n) = (valL l).drop n:=by rw [valL_eq,valL_eq,List.map_drop]
theorem valL_take (l : List C) (n : Nat) : valL (l.take n) = (valL l).take n:=by rw [valL_eq,valL_eq,List.map_take]
theorem valL_len (l : List C) : (valL l).length = l.length:=by rw [valL_eq,List.length_map]
theorem cntL_take_drop (b : Nat) (l : List C) (n : Nat) : cntL b (l.take n) + cntL b (l.drop n) = cntL b l:=by rw [← cntL_append,List.take_append_drop]
theorem MemL_take {w : World} {o : Bool} {l : List C} (h : MemL w o l) (n : Nat) : MemL w o (l.take n):=MemL_iff.2 fun t ht => MemL_iff.1 h t (List.mem_of_mem_take ht)
theorem MemL_drop {w : World} {o : Bool} {l : List C} (h : MemL w o l) (n : Nat) : MemL w o (l.drop n):=MemL_iff.2 fun t ht => MemL_iff.1 h t (List.mem_of_mem_drop ht)
theorem part_ok {w : World} {o : Bool} {d : Dec} {es n' : Nat} {kids : List C} (hm : Mem w o (.nd (.sl d es n') kids)) {lo n c : Nat} (hes : 0 < es) (hlen : lo + n * es ≤ kids.length)
    (hnc : n ≤ c) (hcap : lo + c * es ≤ d.cap * es) {a ad : Addr} (ha : d.a = some a) (had : c ≠ 0→ad = a.add lo) :
    ∃ t : C,er t = .nd (.sl false es n) (((erL kids).drop lo).take (n * es))∧val t = .slice (some ad) n c∧Mem w o t ∧
      (∀ b,cnt b t ≤ cnt b (.nd (.sl d es n') kids)):=by
  have hcd : c ≠ 0→d.cap ≠ 0:=by
    intro hc0 h0
    rw [h0] at hcap
    have : 0 < c * es:=Nat.mul_pos (by omega) hes
    omega
  refine ⟨.nd (.sl ⟨some ad,c,undef⟩ es n) ((kids.drop lo).take (n * es)),?_,?_,?_,?_⟩
  · simp [er,K.er,erL_take,erL_drop]
  · simp [val,K.val]
  · obtain ⟨⟨h1,h2,h3,h4⟩,h5⟩:=hm
    obtain ⟨h6,h7⟩:=h4 a ha
    refine ⟨⟨?_,hnc,by simp,?_⟩,MemL_take (MemL_drop h5 lo) _⟩
    · rw [valL_len,List.length_take,List.length_drop]
      omega
    · intro a' ha'
      simp only [Option.some.injEq] at ha'
      subst ha'
      rw [valL_take,valL_drop]
      refine ⟨?_,?_⟩
      · by_cases hc0 : c = 0
        · have : n = 0:=by omega
          subst this
          intro i u hu
          simp at hu
        · rw [had hc0]; exact (h6.drop lo).take _
      · intro ho hc0
        simp only [] at hc0
        rw [had hc0]
        obtain ⟨g1,g2⟩:=h7 ho (hcd hc0)
        refine ⟨?_,?_⟩
        · unfold Addr.add; split
          · exact g1
          · rfl
        · rw [Addr.add_block]
          refine g2.le ?_
          have : (a.add lo).off = a.off + lo:=by unfold Addr.add; split <;> simp_all
          rw [this]
          show a.off + lo + c * es ≤ _
          omega
  · intro b
    have e1:=cntL_take_drop b (kids.drop lo) (n * es)
    have e2:=cntL_take_drop b kids lo
    simp only [cnt]
    have : K.own b (.sl ⟨some ad,c,undef⟩ es n) ≤ K.own b (.sl d es n'):=by
      simp only [K.own,ha]
      by_cases hc0 : c = 0
      · simp [hc0]
      · rw [had hc0]
        simp [hc0,hcd hc0,Addr.add_block]
    omega
theorem mz_ok {E : Env} {ts : List C} {w : World} {o : Bool} {k : K Bool} {vs : List V} {u : Value} {d : D} (hv : VRel E ts (.vn k vs) u) (h : mzD k vs = some d) :
    ∃ (es : Nat) (t : C),d = .nd (.sl false es 0) []∧er t = d∧val t = u∧Mem w o t∧∀ b,cnt b t = 0:=by
  unfold mzD at h
  split at h
  · rename_i es
    cases h
    obtain ⟨us,_,h2⟩:=hv
    obtain ⟨_,a,rfl⟩:=h2
    refine ⟨es,.nd (.sl ⟨some a,0,undef⟩ es 0) [],rfl,rfl,rfl,?_,fun b => ?_⟩
    · refine ⟨⟨by simp [valL],Nat.le_refl _,fun _ => rfl,fun a' _ => ⟨fun i x hx => by simp [valL] at hx,fun _ hne => absurd rfl hne⟩⟩,trivial⟩
    · simp [cnt,cntL,K.own]
  · cases h
mutual
theorem take_ok {E : Env} {tm : Array Value} {w : World} {ts0 : List C} :
    ∀ (x : V) {u : Value} {st st' : St} {ts : List C} {d : D},VRel E ts0 x u→Evolve ts0 ts→Rel E st ts tm w→take st x = some (d,st') →
      ∃ (t : C) (ts' : List C),er t = d∧val t = u∧Mem w true t∧Rel E st' ts' tm w∧Evolve ts ts'∧∀ b,cntL b ts' + cnt b t ≤ cntL b ts
  | .sc x,u,st,st',ts,d,hv,he,hr,ht => by
    simp only [take,Option.some.injEq,Prod.mk.injEq] at ht
    obtain ⟨rfl,rfl⟩:=ht
    exact ⟨.v x,ts,rfl,hv.symm,trivial,hr,Evolve.refl _,fun b => by simp [cnt]⟩
  | .own _,_,_,_,_,_,_,_,_,ht => by simp [take] at ht
  | .ro dd,u,st,st',ts,d,hv,he,hr,ht => by
    obtain ⟨t,h1,h2,h3,_⟩:=hv
    have key : noMem dd = true→dd = d→st = st'→∃ (t : C) (ts' : List C),er t = d∧val t = u∧Mem w true t∧Rel E st' ts' tm w∧Evolve ts ts'∧∀ b,cntL b ts' + cnt b t ≤ cntL b ts:=by
      rintro hn rfl rfl
      obtain ⟨h4,h5⟩:=noMem_ok (w:=w) (o:=true) (by rw [h1]; exact hn) h3
      exact ⟨t,ts,h1,h2,h4,hr,Evolve.refl _,fun b => by simp [h5 b]⟩
    cases dd with
    | v x => simp only [take,noMem,if_true,Option.some.injEq,Prod.mk.injEq] at ht; exact key rfl ht.1 ht.2
    | hole b => simp [take,noMem] at ht
    | nd k kids =>
      cases k with
      | ag =>
        simp only [take] at ht
        split at ht
        · rename_i hn
          simp only [Option.some.injEq,Prod.mk.injEq] at ht
          obtain ⟨rfl,rfl⟩:=ht
          obtain ⟨k',kids',rfl,hk,hks⟩:=er_eq_nd h1
          cases k' <;> simp [K.er] at hk
          simp only [Mem] at h3
          obtain ⟨h4,h5⟩:=noMemL_ok (w:=w) (o:=true) (by rw [hks]; exact hn) h3.2
          exact ⟨.nd .ag kids',ts,h1,h2,⟨trivial,h4⟩,hr,Evolve.refl _,fun b => by simp [cnt,K.own,h5 b]⟩
        · cases ht
      | sl a b c =>
        simp only [take] at ht
        split at ht
        · rename_i hn
          simp only [Option.some.injEq,Prod.mk.injEq] at ht; exact key hn ht.1 ht.2
        · cases ht
      | bx a => simp [take,noMem] at ht
      | tu => simp [take,noMem] at ht
      | fn f nf => simp [take,noMem] at ht
  | .ref r p,u,st,st',ts,d,hv,he,hr,ht => by
    simp only [take] at ht
    cases hd : rootD st r with
    | none => simp [hd] at ht
    | some d0 =>
      simp only [hd] at ht
      obtain ⟨k0,kids0,g1,g2,g3⟩:=hr.root hd
      subst g2
      rw [er_getAt] at ht
      cases hg : getAt (T.nd k0 kids0) p with
      | none => simp [hg] at ht
      | some s =>
        simp only [hg,Option.map_some] at ht
        cases s with
        | v x => simp [er] at ht
        | hole x => simp [er] at ht
        | nd k kids =>
          have hval : val (.nd k kids) = u:=by
            obtain ⟨kids1,e1,e2⟩:=he r p k kids (by simp [getAt',g1,hg])
            obtain ⟨t0,k2,kids2,f1,f2,f3⟩:=hv
            simp only [getAt',f1,f2,Option.some.injEq] at e1
            rw [e2,← f3,e1]
          have fin : T.nd k.er (erL kids) = d→leave st r (er (T.nd k0 kids0)) p = st'→∃ (t : C) (ts' : List C),er t = d∧val t = u∧Mem w true t∧Rel E st' ts' tm w∧Evolve ts ts'∧∀ b,cntL b ts' + cnt b t ≤ cntL b ts:=by
            rintro rfl rfl
            obtain ⟨ts',h1,h2,h3,h4⟩:=leave_ok hr hd g1 hg
            exact ⟨.nd k kids,ts',by rw [er],hval,h4,h1,h3,fun b => Nat.le_of_eq (h2 b)⟩
          cases k with
          | ag =>
            simp only [er,K.er] at ht
            split at ht
            · rename_i hn
              simp only [Option.some.injEq,Prod.mk.injEq] at ht
              obtain ⟨rfl,rfl⟩:=ht
              have hm:=Mem_getAt (hr.mem r _ g1) hg
              simp only [Mem] at hm
              obtain ⟨h4,h5⟩:=noMemL_ok (w:=w) (o:=true) hn hm.2.weak
              exact ⟨.nd .ag kids,ts,by rw [er]; rfl,hval,⟨trivial,h4⟩,hr,Evolve.refl _,fun b => by simp [cnt,K.own,h5 b]⟩
            · simp only [Option.some.injEq,Prod.mk.injEq] at ht
              exact fin ht.1 ht.2
          | sl a b c => simp only [er,K.er,Option.some.injEq,Prod.mk.injEq] at ht; exact fin ht.1 ht.2
          | bx a => simp only [er,K.er,Option.some.injEq,Prod.mk.injEq] at ht; exact fin ht.1 ht.2
          | tu => simp only [er,K.er,Option.some.injEq,Prod.mk.injEq] at ht; exact fin ht.1 ht.2
          | fn f nf => simp only [er,K.er,Option.some.injEq,Prod.mk.injEq] at ht; exact fin ht.1 ht.2
  | .sub r p lo es n,u,st,st',ts,d,hv,he,hr,ht => by
    simp only [take] at ht
    cases hd : rootD st r with
    | none => simp [hd] at ht
    | some d0 =>
      simp only [hd] at ht
      obtain ⟨k0,kids0,g1,g2,g3⟩:=hr.root hd
      subst g2
      rw [er_getAt] at ht
      cases hg : getAt (T.nd k0 kids0) p with
      | none => simp [hg] at ht
      | some s =>
        simp only [hg,Option.map_some] at ht
        cases hs : subD lo es n (er s) with
        | none => simp [hs] at ht
        | some sd =>
          simp only [hs,Option.some.injEq,Prod.mk.injEq] at ht
          obtain ⟨rfl,rfl⟩:=ht
          obtain ⟨n',kidsD,e1,e2,e3,e4⟩:=subD_some hs
          obtain ⟨k',kids',rfl,hk,hks⟩:=er_eq_nd e1
          obtain ⟨ts',h1,h2,h3,h4⟩:=leave_ok hr hd g1 hg
          obtain ⟨kids1,q1,q2⟩:=he r p k' kids' (by simp [getAt',g1,hg])
          obtain ⟨t0,dd,n2,kids2,c,aa,ad,f1,f2,f3,f4,f5,f6',f6⟩:=hv
          simp only [getAt',f1,f2,Option.some.injEq,T.nd.injEq] at q1
          obtain ⟨rfl,rfl⟩:=q1
          obtain ⟨t,p1,p2,p3,p4⟩:=part_ok h4 (lo:=lo) (n:=n) (c:=c) e2 (by rw [← erL_len kids',hks]; exact e3) f3 f4 f5 f6'
          refine ⟨t,ts',?_,by rw [p2,f6],p3,h1,h3,fun b => ?_⟩
          · rw [p1,e4,hks]
          · have:=h2 b; have:=p4 b; omega
  | .ad _ _ _,_,_,_,_,_,_,_,_,ht => by simp [take] at ht
  | .rad _ _,_,_,_,_,_,_,_,_,ht => by simp [take] at ht
  | .vn k vs,u,st,st',ts,d,hv,he,hr,ht => by
    simp only [take] at ht
    split at ht
    · cases hz : mzD k vs with
      | none => simp [hz] at ht
      | some d1 =>
        simp only [hz,Option.some.injEq,Prod.mk.injEq] at ht
        obtain ⟨rfl,rfl⟩:=ht
        obtain ⟨es,t,e1,e2,e3,e4,e5⟩:=mz_ok (w:=w) (o:=true) hv hz
        exact ⟨t,ts,e2,e3,e4,hr,Evolve.refl _,fun b => by rw [e5]; omega⟩
    · rename_i hk
      obtain ⟨us,hv1,hkv⟩:=hv
      cases hts : takeL st vs with
      | none => simp [hts] at ht
      | some dst =>
        obtain ⟨ds,st1⟩:=dst
        simp only [hts,Option.some.injEq,Prod.mk.injEq] at ht
        obtain ⟨rfl,rfl⟩:=ht
        obtain ⟨l,ts',h1,h2,h3,h4,h5,h6⟩:=takeL_ok vs hv1 he hr hts
        cases k with
        | sl _ _ _ => simp [memB] at hk
        | bx _ => simp [memB] at hk
        | ag => exact ⟨.nd .ag l,ts',by simp [er,K.er,h1],by rw [show _ = _ from hkv]; simp [val,K.val,kv,h2],⟨trivial,h3⟩,h4,h5,fun b => by simpa [cnt,K.own] using h6 b⟩
        | tu => exact ⟨.nd .tu l,ts',by simp [er,K.er,h1],by rw [show _ = _ from hkv]; simp [val,K.val,kv,h2],⟨trivial,h3⟩,h4,h5,fun b => by simpa [cnt,K.own] using h6 b⟩
        | fn f nf => exact ⟨.nd (.fn f nf) l,ts',by simp [er,K.er,h1],by rw [show _ = _ from hkv]; simp [val,K.val,kv,h2],⟨trivial,h3⟩,h4,h5,fun b => by simpa [cnt,K.own] using h6 b⟩
  | .dead,_,_,_,_,_,_,_,_,ht => by simp [take] at ht
theorem takeL_ok {E : Env} {tm : Array Value} {w : World} {ts0 : List C} :
    ∀ (xs : List V) {us : List Value} {st st' : St} {ts : List C} {ds : List D},VRelL E ts0 xs us→Evolve ts0 ts→Rel E st ts tm w→takeL st xs = some (ds,st') →
      ∃ (l : List C) (ts' : List C),erL l = ds∧valL l = us∧MemL w true l∧Rel E st' ts' tm w∧Evolve ts ts'∧∀ b,cntL b ts' + cntL b l ≤ cntL b ts
  | [],us,st,st',ts,ds,hv,he,hr,ht => by
    simp only [takeL,Option.some.injEq,Prod.mk.injEq] at ht
    obtain ⟨rfl,rfl⟩:=ht
    exact ⟨[],ts,rfl,hv.symm,trivial,hr,Evolve.refl _,fun b => by simp [cntL]⟩
  | x :: xs,us,st,st',ts,ds,hv,he,hr,ht => by
    obtain ⟨u,us',rfl,hv1,hv2⟩:=hv
    simp only [takeL] at ht
    cases h1 : take st x with
    | none => simp [h1] at ht
    | some r1 =>
      obtain ⟨d1,st1⟩:=r1
      simp only [h1] at ht
      cases h2 : takeL st1 xs with
      | none => simp [h2] at ht
      | some r2 =>
        obtain ⟨ds2,st2⟩:=r2
        simp only [h2,Option.some.injEq,Prod.mk.injEq] at ht
        obtain ⟨rfl,rfl⟩:=ht
        obtain ⟨t,ts1,a1,a2,a3,a4,a5,a6⟩:=take_ok x hv1 he hr h1
        obtain ⟨l,ts2,b1,b2,b3,b4,b5,b6⟩:=takeL_ok xs hv2 (he.trans a5) a4 h2
        exact ⟨t :: l,ts2,by simp [erL,a1,b1],by simp [valL,a2,b2],⟨a3,b3⟩,b4,a5.trans b5,fun b => by have:=a6 b; have:=b6 b; simp only [cntL]; omega⟩
end
theorem Keep.old {E : Env} {w : World} (h : Keep E w) {t : C} (hm : Mem E.w0 false t) (ho : ∀ b,cnt b t ≠ 0→Old E b) : Mem w false t :=
  hm.same fun b hb => h.block b (ho b hb).1 (ho b hb).2
theorem Keep.lt {E : Env} {w : World} (h : Keep E w) {b : Nat} (ho : Old E b) : b < w.heap.size:=by have:=ho.1; have:=h.low; have:=h.size; omega
mutual
theorem rd_ok' {E : Env} {tm : Array Value} {w : World} {st : St} {ts : List C} (hr : Rel E st ts tm w) :
    ∀ (x : V) {u : Value} {d : D},VRel E ts x u→rd st x = some d→∃ t : C,er t = d∧val t = u∧Mem w false t∧∀ b,cnt b t ≠ 0→Old E b ∨ cntL b ts ≠ 0
  | .sc x,u,d,hv,h => by
    simp only [rd,Option.some.injEq] at h
    subst h
    exact ⟨.v x,rfl,hv.symm,trivial,fun b hb => absurd rfl hb⟩
  | .own _,_,_,hv,_ => hv.elim
  | .ro dd,u,d,hv,h => by
    simp only [rd,Option.some.injEq] at h
    subst h
    obtain ⟨t,h1,h2,h3,h4⟩:=hv
    exact ⟨t,h1,h2,hr.keep.old h3 h4,fun b hb => .inl (h4 b hb)⟩
  | .ref r p,u,d,hv,h => by
    simp only [rd] at h
    obtain ⟨t0,s,h1,h2,h3,_⟩:=hr.place h
    obtain ⟨t1,k,kids,f1,f2,f3⟩:=hv
    rw [h1] at f1; cases f1
    rw [h2] at f2; cases f2
    refine ⟨_,h3,f3,(Mem_getAt (hr.mem r _ h1) h2).weak,fun b hb => .inr ?_⟩
    have:=cnt_getAt b _ p _ h2
    have:=cnt_le_cntL b ts r _ h1
    omega
  | .sub r p lo es n,u,d,hv,h => by
    simp only [rd] at h
    cases hp : placeD st r p with
    | none => simp [hp] at h
    | some d1 =>
      simp only [hp] at h
      obtain ⟨t0,s,h1,h2,h3,_⟩:=hr.place hp
      obtain ⟨t1,dd,n2,kids2,c,aa,ad,f1,f2,f3,f4,f5,f6',f6⟩:=hv
      rw [h1] at f1; cases f1
      rw [h2] at f2; cases f2
      obtain ⟨n',kidsD,e1,e2,e3,e4⟩:=subD_some h
      subst e1
      simp only [er,K.er,T.nd.injEq,K.sl.injEq] at h3
      obtain ⟨⟨g1,_,_⟩,g4⟩:=h3
      have hm:=(Mem_getAt (hr.mem r _ h1) h2).weak
      obtain ⟨t,p1,p2,p3,p4⟩:=part_ok hm (lo:=lo) (n:=n) (c:=c) e2 (by rw [← erL_len kids2,g4]; exact e3) f3 f4 f5 f6'
      refine ⟨t,?_,by rw [p2,f6],p3,fun b hb => .inr ?_⟩
      · rw [p1,e4,g4]
      · have:=p4 b
        have:=cnt_getAt b _ p _ h2
        have:=cnt_le_cntL b ts r _ h1
        omega
  | .ad _ _ _,_,_,_,h => by simp [rd] at h
  | .rad _ _,_,_,_,h => by simp [rd] at h
  | .vn k vs,u,d,hv,h => by
    simp only [rd] at h
    split at h
    · obtain ⟨es,t,e1,e2,e3,e4,e5⟩:=mz_ok (w:=w) (o:=false) hv h
      exact ⟨t,e2,e3,e4,fun b hb => absurd (e5 b) hb⟩
    · rename_i hk
      obtain ⟨us,hv1,hkv⟩:=hv
      cases hts : rdL st vs with
      | none => simp [hts] at h
      | some ds =>
        simp only [hts,Option.some.injEq] at h
        subst h
        obtain ⟨l,h1,h2,h3,h4⟩:=rdL_ok' hr vs hv1 hts
        cases k with
        | sl _ _ _ => simp [memB] at hk
        | bx _ => simp [memB] at hk
        | ag => exact ⟨.nd .ag l,by simp [er,K.er,h1],by rw [show _ = _ from hkv]; simp [val,K.val,kv,h2],⟨trivial,h3⟩,fun b hb => h4 b (by simpa [cnt,K.own] using hb)⟩
        | tu => exact ⟨.nd .tu l,by simp [er,K.er,h1],by rw [show _ = _ from hkv]; simp [val,K.val,kv,h2],⟨trivial,h3⟩,fun b hb => h4 b (by simpa [cnt,K.own] using hb)⟩
        | fn f nf => exact ⟨.nd (.fn f nf) l,by simp [er,K.er,h1],by rw [show _ = _ from hkv]; simp [val,K.val,kv,h2],⟨trivial,h3⟩,fun b hb => h4 b (by simpa [cnt,K.own] using hb)⟩
  | .dead,_,_,_,h => by simp [rd] at h
theorem rdL_ok' {E : Env} {tm : Array Value} {w : World} {st : St} {ts : List C} (hr : Rel E st ts tm w) :
    ∀ (xs : List V) {us : List Value} {ds : List D},VRelL E ts xs us→rdL st xs = some ds→∃ l : List C,erL l = ds∧valL l = us∧MemL w false l∧∀ b,cntL b l ≠ 0→Old E b ∨ cntL b ts ≠ 0
  | [],us,ds,hv,h => by
    simp only [rdL,Option.some.injEq] at h
    subst h
    exact ⟨[],rfl,hv.symm,trivial,fun b hb => absurd rfl hb⟩
  | x :: xs,us,ds,hv,h => by
    obtain ⟨u,us',rfl,hv1,hv2⟩:=hv
    simp only [rdL] at h
    cases h1 : rd st x with
    | none => simp [h1] at h
    | some d1 =>
      simp only [h1] at h
      cases h2 : rdL st xs with
      | none => simp [h2] at h
      | some ds2 =>
        simp only [h2,Option.some.injEq] at h
        subst h
        obtain ⟨t,a1,a2,a3,a4⟩:=rd_ok' hr x hv1 h1
        obtain ⟨l,b1,b2,b3,b4⟩:=rdL_ok' hr xs hv2 h2
        exact ⟨t :: l,by simp [erL,a1,b1],by simp [valL,a2,b2],⟨a3,b3⟩,fun b hb => by
          simp only [cntL] at hb
          by_cases h0 : cnt b t = 0
          · exact b4 b (by omega)
          · exact a4 b h0⟩
end
theorem Rel.below {E : Env} {tm : Array Value} {w : World} {st : St} {ts : List C} (hr : Rel E st ts tm w) {b : Nat} (h : Old E b ∨ cntL b ts ≠ 0) : b < w.heap.size:=by
  rcases h with h | h
  · exact hr.keep.lt h
  · exact (hr.dom b h).2
theorem rd_ok {E : Env} {tm : Array Value} {w : World} {st : St} {ts : List C} (hr : Rel E st ts tm w) (x : V) {u : Value} {d : D} (hv : VRel E ts x u) (h : rd st x = some d) : ∃ t : C,er t = d∧val t = u∧Mem w false t∧∀ b,cnt b t ≠ 0→b < w.heap.size:=by
  obtain ⟨t,h1,h2,h3,h4⟩:=rd_ok' hr x hv h
  exact ⟨t,h1,h2,h3,fun b hb => hr.below (h4 b hb)⟩
def Kon (d : D) (u : Value) : Prop:=∃ t : C,er t = d∧val t = u∧(∀ w o,Mem w o t)∧∀ b,cnt b t = 0
theorem Kon.ro {E : Env} {ts : List C} {d : D} {u : Value} (h : Kon d u) : VRel E ts (mkRo d) u:=by
  obtain ⟨t,rfl,rfl,h3,h4⟩:=h
  cases t with
  | v x => rfl
  | hole x => exact ⟨.hole x,rfl,rfl,trivial,fun b hb => absurd rfl hb⟩
  | nd k kids => exact ⟨.nd k kids,rfl,rfl,h3 _ _,fun b hb => absurd (h4 b) hb⟩
def MORel (tm : Array Value) : MO→Value→Prop
  | .t i,u => u = tm.getD i undef
  | .c d,u => Kon d u
theorem ev_ok {E : Env} {tm : Array Value} {w : World} {st : St} {ts : List C} (hr : Rel E st ts tm w) {m : MO} {u : Value} (hm : MORel tm m u) : VRel E ts (ev st m) u:=by
  cases m with
  | t i =>
    simp only [MORel] at hm
    subst hm
    simp only [ev]
    cases hs : st[i]? with
    | none => trivial
    | some x =>
      have h:=hr.slot' hs
      cases x with
      | own d =>
        obtain ⟨k,kids,h1,h2,h3⟩:=h
        exact ⟨_,k,kids,h1,getAt_nil _,h3⟩
      | sc _ => exact h.1
      | ro _ => exact h.1
      | ref _ _ => exact h.1
      | sub _ _ _ _ _ => exact h.1
      | ad _ _ _ => exact h.1
      | rad _ _ => exact h.1
      | vn _ _ => exact h.1
      | dead => exact h.1
  | c d => exact Kon.ro hm
def MORelL (tm : Array Value) : List MO→List Value→Prop
  | [],us => us = []
  | m :: ms,us => ∃ u us',us = u :: us'∧MORel tm m u∧MORelL tm ms us'
theorem rdAll_ok' {E : Env} {tm : Array Value} {w : World} {st : St} {ts : List C} (hr : Rel E st ts tm w) :
    ∀ (ms : List MO) {us : List Value} {ds : List D},MORelL tm ms us→rdAll st ms = some ds→∃ l : List C,erL l = ds∧valL l = us∧MemL w false l∧∀ b,cntL b l ≠ 0→Old E b ∨ cntL b ts ≠ 0
  | [],us,ds,hm,h => by
    simp only [rdAll,Option.some.injEq] at h
    subst h
    exact ⟨[],rfl,hm.symm,trivial,fun b hb => absurd rfl hb⟩
  | m :: ms,us,ds,hm,h => by
    obtain ⟨u,us',rfl,hm1,hm2⟩:=hm
    simp only [rdAll] at h
    cases h1 : rd st (ev st m) with
    | none => simp [h1] at h
    | some d1 =>
      simp only [h1] at h
      cases h2 : rdAll st ms with
      | none => simp [h2] at h
      | some ds2 =>
        simp only [h2,Option.some.injEq] at h
        subst h
        obtain ⟨t,a1,a2,a3,a4⟩:=rd_ok' hr _ (ev_ok hr hm1) h1
        obtain ⟨l,b1,b2,b3,b4⟩:=rdAll_ok' hr ms hm2 h2
        exact ⟨t :: l,by simp [erL,a1,b1],by simp [valL,a2,b2],⟨a3,b3⟩,fun b hb => by
          simp only [cntL] at hb
          by_cases h0 : cnt b t = 0
          · exact b4 b (by omega)
          · exact a4 b h0⟩
theorem rdAll_ok {E : Env} {tm : Array Value} {w : World} {st : St} {ts : List C} (hr : Rel E st ts tm w) (ms : List MO) {us : List Value} {ds : List D} (hm : MORelL tm ms us) (h : rdAll st ms = some ds) : ∃ l : List C,erL l = ds∧valL l = us∧MemL w false l∧∀ b,cntL b l ≠ 0→b < w.heap.size:=by
  obtain ⟨t,h1,h2,h3,h4⟩:=rdAll_ok' hr ms hm h
  exact ⟨t,h1,h2,h3,fun b hb => hr.below (h4 b hb)⟩
theorem takeAll_ok {E : Env} {tm : Array Value} {w : World} :
    ∀ (ms : List MO) {us : List Value} {st st' : St} {ts : List C} {ds : List D},MORelL tm ms us→Rel E st ts tm w→takeAll st ms = some (ds,st') →
      ∃ (l : List C) (ts' : List C),erL l = ds∧valL l = us∧MemL w true l∧Rel E st' ts' tm w∧Evolve ts ts'∧∀ b,cntL b ts' + cntL b l ≤ cntL b ts
  | [],us,st,st',ts,ds,hv,hr,ht => by
    simp only [takeAll,Option.some.injEq,Prod.mk.injEq] at ht
    obtain ⟨rfl,rfl⟩:=ht
    exact ⟨[],ts,rfl,hv.symm,trivial,hr,Evolve.refl _,fun b => by simp [cntL]⟩
  | x :: xs,us,st,st',ts,ds,hv,hr,ht => by
    obtain ⟨u,us',rfl,hv1,hv2⟩:=hv
    simp only [takeAll] at ht
    cases h1 : take st (ev st x) with
    | none => simp [h1] at ht
    | some r1 =>
      obtain ⟨d1,st1⟩:=r1
      simp only [h1] at ht
      cases h2 : takeAll st1 xs with
      | none => simp [h2] at ht
      | some r2 =>
        obtain ⟨ds2,st2⟩:=r2
        simp only [h2,Option.some.injEq,Prod.mk.injEq] at ht
        obtain ⟨rfl,rfl⟩:=ht
        obtain ⟨t,ts1,a1,a2,a3,a4,a5,a6⟩:=take_ok _ (ev_ok hr hv1) (Evolve.refl _) hr h1
        obtain ⟨l,ts2,b1,b2,b3,b4,b5,b6⟩:=takeAll_ok xs hv2 a4 h2
        exact ⟨t :: l,ts2,by simp [erL,a1,b1],by simp [valL,a2,b2],⟨a3,b3⟩,b4,a5.trans b5,fun b => by have:=a6 b; have:=b6 b; simp only [cntL]; omega⟩
end Go.Mx
