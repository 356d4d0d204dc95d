/- The evaluator of regions, code and functions. Definitions alone. -/
import Derived.Test.YtcndhbamkipifaaDoorPsA
namespace Go.Ps

/-- What a function's evaluation is told: the slots whose variables are written again; contracts that change objects. -/
structure Fc where
  own : Tmp → Bool
  ee : FuncId → List T → Hp → Option (T × Hp)

structure Fx where
  fr : List T
  H : Hp
  pend : Option (Tmp × TypeId)

def ownD (F : Fc) (o : Oper) : Bool :=
  match o.dst with
  | some d => F.own d
  | none => false

def touchesT (ops : Array Oper) (o : Oper) (d : Tmp) : Bool := (o.looksAt ops).contains d || o.dst == some d

def allOne : List T → Bool
  | [] => true
  | t :: ts => t.one && allOne ts

def storeT (P : Program) (H : Hp) (t : TypeId) (p x : T) : Option Hp :=
  match p with
  | .ptr l off => match H.get l, szT P t with
    | some o, some n => if x.cells.length = n ∧ off + n ≤ o.cells.length ∧ allOne x.cells = true then some (H.put l { o with cells := spliceT o.cells off x.cells }) else none
    | _, _ => none
  | _ => none

/-- The cells of a list of elements of a slice, and its elements read off an owned row. -/
def srcCells (H : Hp) : T → Option (List T)
  | .nils => some []
  | .sl _ xs => some (xs.flatMap T.cells)
  | .slf _ n f => some ((List.range n).flatMap fun i => (f i).cells)
  | .osl l sz i len => match H.get l with
    | some o => if (i + len) * sz ≤ o.cells.length then some ((o.cells.drop (i * sz)).take (len * sz)) else none
    | none => none
  | .str s => some (s.map fun b => .int .u8 b.toNat)
  | _ => none

def lenOfT : T → Option Nat
  | .nils => some 0
  | .sl _ xs => some xs.length
  | .slf _ n _ => some n
  | .osl _ _ _ len => some len
  | .str s => some s.length
  | _ => none

def srcOk (P : Program) (tx : TypeId) (sz : Nat) (x : T) : Bool :=
  match P.underlying tx, x with
  | some (.slice _), .nils | some (.slice _), .sl .. | some (.slice _), .slf .. => true
  | some (.slice _), .osl _ sz' _ _ => sz' == sz
  | some .string, .str _ => sz == 1
  | _, _ => false

def roomT (m bytes : Nat) : Bool := decide (m * bytes ≤ 70368744177664) && decide (m ≤ 70368744177664)

/-- append to nil, to a row without room, to an owned row (which is gone behind it). -/
def appendT (P : Program) (H : Hp) (t tx : TypeId) (s x : T) : Option (T × Hp) :=
  match P.underlying t with
  | some (.slice e) =>
    match P.info? e, srcCells H x, lenOfT x with
    | some i, some new, some m =>
      if i.size = 0 ∨ new.length ≠ m * i.size ∨ allOne new = false ∨ (i.zero.map fun z => z.cells.size) ≠ some i.size ∨ srcOk P tx i.size x = false then none else
      match s with
      | .nils => if m = 0 then some (.nils, H) else if roomT m i.bytes then
          some (.osl H.next i.size 0 m, H.new { elem := e, sz := i.size, cells := new }) else none
      | .sl true xs => if m = 0 then some (.sl true xs, H) else if roomT (xs.length + m) i.bytes && headOk i.size xs then
          some (.osl H.next i.size 0 (xs.length + m), H.new { elem := e, sz := i.size, cells := xs.flatMap T.cells ++ new }) else none
      | .osl l sz' 0 len => if m = 0 then some (.osl l sz' 0 len, H) else match H.get l with
        | some o => if sz' = i.size ∧ o.sz = i.size ∧ o.elem = e ∧ o.cells.length = len * i.size ∧ roomT (len + m) i.bytes = true then
            some (.osl H.next i.size 0 (len + m), (H.drop l).new { elem := e, sz := i.size, cells := o.cells ++ new }) else none
        | none => none
      | _ => none
    | _, _, _ => none
  | _ => none

def makeSliceT (P : Program) (H : Hp) (t : TypeId) (l c : T) : Option (T × Hp) :=
  match P.underlying t, l, c with
  | some (.slice e), .int .i64 n, .int .i64 m =>
    match szT P e, (P.info? e).map (·.bytes), zeroT P e with
    | some sz, some bytes, some z => if 0 < sz ∧ z.cells.length = sz ∧ 0 ≤ n ∧ n = m ∧ n.toNat * bytes ≤ 70368744177664 ∧ n ≤ 70368744177664 then
        some (.osl H.next sz 0 n.toNat, H.new { elem := e, sz := sz, cells := (List.replicate n.toNat z).flatMap T.cells }) else none
    | _, _, _ => none
  | _, _, _ => none

/-- An operation that changes the abstract heap: the value, the heap behind it. -/
def effT (P : Program) (E : Env) (F : Fc) (H : Hp) (fr : List T) (o : Oper) : Option (T × Hp) :=
  let ev := evalT E.gl fr
  match o.op with
  | .alloc t => match zeroT P t with
    | some z => some (.ptr H.next 0, H.new { elem := t, sz := 0, cells := z.cells })
    | none => none
  | .box t x => match ev x with
    | some y => some (.ptr H.next 0, H.new { elem := t, sz := 0, cells := y.cells })
    | none => none
  | .buildSlice t len parts => match pairsT E.gl fr parts.toList with
    | some l => match P.underlying t, buildSliceT P t len l with
      | some (.slice e), some (.sl _ xs) => match szT P e with
        | some s => some (.osl H.next s 0 len, H.new { elem := e, sz := s, cells := xs.flatMap T.cells })
        | none => none
      | _, _ => none
    | none => none
  | .store t p x => match ev p, ev x with
    | some q, some y => match storeT P H t q y with
      | some H' => some (undefT, H')
      | none => none
    | _, _ => none
  | .makeSlice t l c => match ev l, ev c with
    | some n, some m => makeSliceT P H t n m
    | _, _ => none
  | .call c => match c.callee with
    | .value f => match ev f with
      | some (.fn (.func g) first cap) => match evalAll E.gl fr c.args.toList with
        | some as => F.ee g (first ++ as ++ cap) H
        | none => none
      | _ => none
    | .builtin .append => match c.args.toList, c.argTypes.toList with
      | [s, x], [t, t'] => match ev s, ev x with
        | some a, some b => appendT P H t t' a b
        | _, _ => none
      | _, _ => none
    | _ => none
  | _ => none

def notSlot : Operand → Tmp → Bool
  | .tmp y, d => y != d
  | _, _ => true

/-- A new variable that is written once. -/
def allocOf (F : Fc) (o : Oper) : Option (Tmp × TypeId) :=
  match o.op with
  | .alloc t => match o.dst with
    | some d => if F.own d then none else some (d, t)
    | none => none
  | _ => none

/-- An operation, no pending variable in sight. -/
def plainE (P : Program) (E : Env) (F : Fc) (ops : Array Oper) (s : Fx) (o : Oper) : Option Fx :=
  if wantedT ops s.fr o then
    match evalP P E (ownD F o) s.H s.fr o with
    | some v => some { s with fr := putT s.fr o.dst v }
    | none =>
      match allocOf F o with
      | some (d, t) => if s.pend.isSome then none else match szT P t, zeroT P t with
        | some n, some z => if z.cells.length = n ∧ d < s.fr.length then some { s with fr := s.fr.set d undefT, pend := some (d, t) } else none
        | _, _ => none
      | none => match effT P E F s.H s.fr o with
        | some (v, H') => some { s with fr := putT s.fr o.dst v, H := H' }
        | none => none
  else some { s with fr := putT s.fr o.dst undefT }

/-- One operation behind another. -/
def stepE (P : Program) (E : Env) (F : Fc) (ops : Array Oper) (s : Fx) (o : Oper) : Option Fx :=
  match s.pend with
  | none => plainE P E F ops s o
  | some (d, t) =>
    match o.op, o.dst, o.guard with
    | .store t' (.tmp d') x, none, none =>
      if d' = d then
        if t' = t ∧ notSlot x d = true then
          match evalT E.gl s.fr x, szT P t with
          | some y, some n => if y.cells.length = n ∧ allOne y.cells = true then some { s with fr := s.fr.set d (.ref y 0), pend := none } else none
          | _, _ => none
        else none
      else if touchesT ops o d then none else plainE P E F ops s o
    | _, _, _ => if touchesT ops o d then none else plainE P E F ops s o

def evalSeq (P : Program) (E : Env) (F : Fc) (ops : Array Oper) : List Oper → Fx → Option Fx
  | [], s => some s
  | o :: rest, s => match stepE P E F ops s o with
    | some s' => evalSeq P E F ops rest s'
    | none => none

/-! ### Regions that draw their order -/
def ancMask (acc : List Nat) (o : Oper) : Nat := o.after.toList.foldl (fun s e => if Region.binds .any e then s ||| (2 ^ e.on ||| acc.getD e.on 0) else s) 0

def ancs : List Oper → List Nat → List Nat
  | [], acc => acc
  | o :: os, acc => ancs os (acc ++ [ancMask acc o])

def prec (A : List Nat) (i j : Nat) : Bool := (A.getD i 0).testBit j

def namesT (ops : Array Oper) (o : Oper) : List Tmp := o.dst.toList ++ o.looksAt ops

/-- Writers and readers of one slot are in a fixed order, by their places. -/
def tmpsOk (ops : Array Oper) (A : List Nat) : Bool :=
  ops.toList.zipIdx.all fun p => ops.toList.zipIdx.all fun q =>
    p.2 == q.2 || (match q.1.dst with
      | some d => !(namesT ops p.1).contains d || (if q.2 < p.2 then prec A p.2 q.2 else prec A q.2 p.2)
      | none => true)

def edgesBack (ops : Array Oper) : Bool := ops.toList.zipIdx.all fun p => p.1.after.toList.all fun e => !Region.binds .any e || decide (e.on < p.2)

def drawOk (ops : Array Oper) : Bool := edgesBack ops && Region.noSelect ops && tmpsOk ops (ancs ops.toList [])

/-- From place m on each operation waits for all before it. -/
def chained (A : List Nat) (m n : Nat) : Bool := (List.range' m (n - m)).all fun i => (List.range i).all fun j => prec A i j

def pendHit (ops : Array Oper) (s : Fx) (o : Oper) : Bool :=
  match s.pend with
  | some (d, _) => touchesT ops o d
  | none => false

def dstIn (s : Fx) (o : Oper) : Bool :=
  match o.dst with
  | some d => decide (d < s.fr.length)
  | none => true

/-- The operations in the order of the text; one that changes something only where all behind it are in a fixed order. -/
def evalDraw (P : Program) (E : Env) (F : Fc) (ops : Array Oper) : List Oper → Nat → Fx → Option Fx
  | [], _, s => match s.pend with
    | none => some s
    | some _ => none
  | o :: rest, m, s =>
    if pendHit ops s o then
      if chained (ancs ops.toList []) m ops.size then evalSeq P E F ops (o :: rest) s else none
    else if dstIn s o = false then none
    else if wantedT ops s.fr o then
      match evalP P E (ownD F o) s.H s.fr o with
      | some v => evalDraw P E F ops rest (m + 1) { s with fr := putT s.fr o.dst v }
      | none => match allocOf F o with
        | some (d, t) => if s.pend.isSome then none else match szT P t, zeroT P t with
          | some n, some z => if z.cells.length = n then evalDraw P E F ops rest (m + 1) { s with fr := s.fr.set d undefT, pend := some (d, t) } else none
          | _, _ => none
        | none => if chained (ancs ops.toList []) m ops.size then evalSeq P E F ops (o :: rest) s else none
    else evalDraw P E F ops rest (m + 1) { s with fr := putT s.fr o.dst undefT }

inductive X where
  | normal
  | exit (id : Nat)
  | ret

/-- The code of a function; a loop goes round at most n times. -/
def evalCode (P : Program) (E : Env) (F : Fc) (n : Nat) : Code → List T → Hp → Option (X × List T × Hp)
  | .skip, fr, H | .label _, fr, H => some (.normal, fr, H)
  | .region _ ops draw, fr, H =>
    match (if draw then evalDraw P E F ops ops.toList 0 ⟨fr, H, none⟩ else evalSeq P E F ops ops.toList ⟨fr, H, none⟩) with
    | some ⟨fr', H', none⟩ => some (.normal, fr', H')
    | _ => none
  | .seq a b, fr, H => match evalCode P E F n a fr H with
    | some (.normal, fr', H') => evalCode P E F n b fr' H'
    | r => r
  | .cond c a b, fr, H => match evalT E.gl fr c with
    | some (.bool t) => if t then evalCode P E F n a fr H else evalCode P E F n b fr H
    | _ => none
  | .block id c, fr, H => match evalCode P E F n c fr H with
    | some (.exit id', fr', H') => if id' = id then some (.normal, fr', H') else some (.exit id', fr', H')
    | r => r
  | .loop c, fr, H => loopN (fun fr H => evalCode P E F n c fr H) n fr H
  | .scope c, fr, H => evalCode P E F n c fr H
  | .exit id, fr, H => some (.exit id, fr, H)
  | .ret, fr, H => some (.ret, fr, H)
  | _, _, _ => none
where
  loopN (f : List T → Hp → Option (X × List T × Hp)) : Nat → List T → Hp → Option (X × List T × Hp)
    | 0, _, _ => none
    | k + 1, fr, H => match f fr H with
      | some (.normal, fr', H') => loopN f k fr' H'
      | r => r

def resT (P : Program) (fr : List T) (H : Hp) : ResultVar → Option T
  | .tmp t => some (getT fr t)
  | .cell a t => loadT P H t (getT fr a)

def resAll (P : Program) (fr : List T) (H : Hp) : List ResultVar → Option (List T)
  | [] => some []
  | r :: rs => match resT P fr H r with
    | some t => match resAll P fr H rs with
      | some ts => some (t :: ts)
      | none => none
    | none => none

/-- A call: the result and the heap behind it. -/
def evalFn (P : Program) (E : Env) (F : Fc) (n : Nat) (f : FuncId) (args : List T) (H : Hp) : Option (T × Hp) :=
  match P.funcs[f]? with
  | some fn => match fn.body with
    | some c => match evalCode P E F n c (args ++ List.replicate (fn.ntmps - args.length) undefT) H with
      | some (.normal, fr, H') | some (.ret, fr, H') => match resAll P fr H' fn.results.toList with
        | some [t] => some (t, H')
        | some ts => some (.tup ts, H')
        | none => none
      | _ => none
    | none => none
  | none => none

/-- The regions of a function that draw are such that the order of the text serves every order. -/
def codeOk : Code → Bool
  | .region _ ops true => drawOk ops
  | .seq a b | .cond _ a b => codeOk a && codeOk b
  | .block _ c | .loop c | .scope c => codeOk c
  | _ => true

def fnOk (P : Program) (f : FuncId) : Bool :=
  match P.funcs[f]? with
  | some fn => match fn.body with
    | some c => codeOk c
    | none => false
  | none => false

end Go.Ps
