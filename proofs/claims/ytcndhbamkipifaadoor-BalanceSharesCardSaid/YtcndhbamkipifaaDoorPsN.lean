/- The evaluator along one way: tests are answered by a list; what was answered, and what must hold for the operations, is listed. -/
import Derived.Test.YtcndhbamkipifaaDoorPsM
namespace Go.Ps

inductive RD (α : Type) where
  | ok (a : α) (ds log : List Bool)
  | need (c : Bool) (log : List Bool)
  | fail (why : Nat)

/-- Contracts with what they ask. -/
structure Ed where
  gl : Nat → Option T
  pd : Hp → FuncId → List T → Option (T × List Bool)

def tag0 : Option T → Option (T × List Bool)
  | some r => some (r, [])
  | none => none

def tagH : Option (T × Hp) → Option (T × Hp × List Bool)
  | some (v, H') => some (v, H', [])
  | none => none

def indexAddrD (P : Program) (t : TypeId) (x i : T) : Option (T × List Bool) :=
  match i with
  | .int _ n =>
    match P.underlying t, x with
    | some (.slice e), .sl _ xs => match szT P e with
      | some s => some (.ref (xs.getD n.toNat undefT) 0, [decide (0 ≤ n), decide (n < xs.length), decide ((xs.getD n.toNat undefT).cells.length = s)])
      | none => none
    | some (.slice e), .slf _ len f => match szT P e with
      | some s => some (.ref (f n.toNat) 0, [decide (0 ≤ n), decide (n < len), decide ((f n.toNat).cells.length = s)])
      | none => none
    | some (.slice e), .osl l sz j len => match szT P e with
      | some s => if sz = s then some (.ptr l ((j + n.toNat) * sz), [decide (0 ≤ n), decide (n < len)]) else none
      | none => none
    | some (.array len e), x => match szT P e with
      | some s => match addT x (n.toNat * s) with
        | some y => some (y, [decide (0 ≤ n), decide (n < len)])
        | none => none
      | none => none
    | _, _ => none
  | _ => none

def indexD (P : Program) (t : TypeId) (x i : T) : Option (T × List Bool) :=
  match i with
  | .int _ n =>
    match P.underlying t, x with
    | some (.array len e), .agg cs => match szT P e with
      | some s => match partT P e cs (n.toNat * s) with
        | some y => some (y, [decide (0 ≤ n), decide (n < len)])
        | none => none
      | none => none
    | some .string, .str s => some (.int .u8 (s.getD n.toNat 0).toNat, [decide (0 ≤ n), decide (n < s.length)])
    | _, _ => none
  | _ => none

def boundD (x : Option T) (dflt top : Nat) : Option (Nat × List Bool) :=
  match x with
  | none => some (dflt, [])
  | some (.int _ n) => some (n.toNat, [decide (0 ≤ n), decide (n ≤ top)])
  | some _ => none

def sliceD (P : Program) (t : TypeId) (x : T) (lo hi : Option T) : Option (T × List Bool) :=
  match P.underlying t, x with
  | some .string, .str s =>
    match boundD hi s.length s.length with
    | some (h, c1) => match boundD lo 0 h with
      | some (l, c2) => some (.str ((s.take h).drop l), c1 ++ c2)
      | none => none
    | none => none
  | some (.slice e), .sl full xs =>
    match boundD hi xs.length xs.length with
    | some (h, c1) => match boundD lo 0 h with
      | some (l, c2) => match szT P e with
        | some s => some (.sl (full && h == xs.length) ((xs.take h).drop l), c1 ++ c2 ++ [headOk s xs])
        | none => none
      | none => none
    | none => none
  | some (.slice e), .slf full n f =>
    match boundD hi n n with
    | some (h, c1) => match boundD lo 0 h with
      | some (l, c2) => match szT P e with
        | some s => some (.slf (full && h == n) (h - l) (fun i => f (l + i)), c1 ++ c2 ++ [decide ((f l).cells.length = s)])
        | none => none
      | none => none
    | none => none
  | _, _ => none

def binD (P : Program) (op : BinOp) (t : TypeId) (x y : T) : Option (T × List Bool) :=
  match op, x, y with
  | .quo, .int k a, .int k' b => if k = k' then some (.int k (k.wrap (a.tdiv b)), [b != 0]) else none
  | .rem, .int k a, .int k' b => if k = k' then some (.int k (a.tmod b), [b != 0]) else none
  | .add, .str a, .str b => some (.str (a ++ b), [decide (a.length + b.length ≤ maxStr)])
  | op, x, y => tag0 (binT P op t x y)

def intv : T → Int
  | .int _ n => n
  | _ => 0

def isInt (k : IntKind) : T → Bool
  | .int k' _ => decide (k' = k)
  | _ => false

/-- A number read off a row: told by a view, whatever the row's list is. -/
def loadD (P : Program) (H : Hp) (t : TypeId) (p : T) : Option (T × List Bool) :=
  match p with
  | .ptr l off => match H.get l with
    | some o => if o.sz = 0 then tag0 (loadT P H t p) else match P.underlying t with
      | some (.int k) => some (.int k (intv (o.cells.getD off undefT)), [isInt k (o.cells.getD off undefT), decide (off < o.cells.length), decide (aggT P t = some false)])
      | _ => tag0 (loadT P H t p)
    | none => none
  | p => tag0 (loadT P H t p)

/-- One operation that changes no object, and what must hold for it. -/
def evalPD (P : Program) (E : Ed) (own : Bool) (H : Hp) (fr : List T) (o : Oper) : Option (T × List Bool) :=
  let ev := evalT E.gl fr
  match o.op with
  | .indexAddr t x i => match ev x, ev i with
    | some a, some b => indexAddrD P t a b
    | _, _ => none
  | .index t x i => match ev x, ev i with
    | some a, some b => indexD P t a b
    | _, _ => none
  | .load t a => match ev a with
    | some p => loadD P H t p
    | none => none
  | .binOp op t x y _ => match ev x, ev y with
    | some a, some b => binD P op t a b
    | _, _ => none
  | .slice t x lo hi mx => match mx with
    | some _ => none
    | none => match ev x with
      | some a => match optT ev lo, optT ev hi with
        | some l, some h => sliceD P t a l h
        | _, _ => none
      | none => none
  | .call c => match c.callee with
    | .value f => match ev f with
      | some (.fn (.func g) first cap) => match evalAll E.gl fr c.args.toList with
        | some as => E.pd H g (first ++ as ++ cap)
        | none => none
      | _ => none
    | .invoke _ _ => none
    | .builtin _ => tag0 (evalC P ⟨E.gl, fun _ _ _ => none⟩ H fr c)
  | _ => tag0 (evalP P ⟨E.gl, fun _ _ _ => none⟩ own H fr o)

def appendD (P : Program) (H : Hp) (t tx : TypeId) (s x : T) : Option (T × Hp × List Bool) :=
  match P.underlying t with
  | some (.slice e) =>
    match P.info? e, srcCells H x, lenOfT x with
    | some i, some new, some m =>
      if i.size = 0 ∨ (i.zero.map fun z => z.cells.size) ≠ some i.size ∨ srcOk P tx i.size x = false then none else
      match s with
      | .nils => if m = 0 then some (.nils, H, [decide (new.length = m * i.size), allOne new]) else
          some (.osl H.next i.size 0 m, H.new { elem := e, sz := i.size, cells := new }, [decide (new.length = m * i.size), allOne new, roomT m i.bytes])
      | .sl true xs => if m = 0 then some (.sl true xs, H, [decide (new.length = m * i.size), allOne new]) else
          some (.osl H.next i.size 0 (xs.length + m), H.new { elem := e, sz := i.size, cells := xs.flatMap T.cells ++ new }, [decide (new.length = m * i.size), allOne new, roomT (xs.length + m) i.bytes, headOk i.size xs])
      | .osl l sz' 0 len => if m = 0 then some (.osl l sz' 0 len, H, [decide (new.length = m * i.size), allOne new]) else match H.get l with
        | some o => if sz' = i.size ∧ o.sz = i.size ∧ o.elem = e then
            some (.osl H.next i.size 0 (len + m), (H.drop l).new { elem := e, sz := i.size, cells := o.cells ++ new }, [decide (new.length = m * i.size), allOne new, decide (o.cells.length = len * i.size), roomT (len + m) i.bytes]) else none
        | none => none
      | _ => none
    | _, _, _ => none
  | _ => none

def makeSliceD (P : Program) (H : Hp) (t : TypeId) (l c : T) : Option (T × Hp × List Bool) :=
  match P.underlying t, l, c with
  | some (.slice e), .int .i64 n, .int .i64 m =>
    match szT P e, (P.info? e).map (·.bytes), zeroT P e with
    | some sz, some bytes, some z => if 0 < sz ∧ z.cells.length = sz then
        some (.osl H.next sz 0 n.toNat, H.new { elem := e, sz := sz, cells := (List.replicate n.toNat z).flatMap T.cells }, [decide (0 ≤ n), decide (n = m), decide (n.toNat * bytes ≤ 70368744177664), decide (n ≤ 70368744177664)]) else none
    | _, _, _ => none
  | _, _, _ => none

def storeD (P : Program) (H : Hp) (t : TypeId) (p x : T) : Option (Hp × List Bool) :=
  match p with
  | .ptr l off => match H.get l, szT P t with
    | some o, some n => some (H.put l { o with cells := spliceT o.cells off x.cells }, [decide (x.cells.length = n), decide (off + n ≤ o.cells.length), allOne x.cells])
    | _, _ => none
  | _ => none

def effD (P : Program) (E : Ed) (F : Fc) (H : Hp) (fr : List T) (o : Oper) : Option (T × Hp × List Bool) :=
  let ev := evalT E.gl fr
  match o.op with
  | .store t p x => match ev p, ev x with
    | some q, some y => match storeD P H t q y with
      | some (H', c) => some (undefT, H', c)
      | none => none
    | _, _ => none
  | .makeSlice t l c => match ev l, ev c with
    | some n, some m => makeSliceD P H t n m
    | _, _ => none
  | .call c => match c.callee with
    | .builtin .append => match c.args.toList, c.argTypes.toList with
      | [s, x], [t, t'] => match ev s, ev x with
        | some a, some b => appendD P H t t' a b
        | _, _ => none
      | _, _ => none
    | _ => tagH (effT P ⟨E.gl, fun _ _ _ => none⟩ F H fr o)
  | _ => tagH (effT P ⟨E.gl, fun _ _ _ => none⟩ F H fr o)

/-- An operation that is no plain one. -/
def effKind (own : Bool) (o : Oper) : Bool :=
  match o.op with
  | .alloc _ | .store .. | .makeSlice .. => true
  | .box .. | .buildSlice .. => own
  | .call c => match c.callee with
    | .builtin .append => true
    | .value _ => true
    | _ => false
  | _ => false

/-- The contracts as an environment. -/
def allT : List Bool → Bool
  | [] => true
  | c :: cs => c && allT cs

def Ed.env (D : Ed) : Env := { gl := D.gl, pe := fun H f ts => match D.pd H f ts with
  | some (r, cs) => if allT cs then some r else none
  | none => none }

/-- Is the operation wanted? A guard's Bool is answered by the list. -/
def guardD (ops : Array Oper) (fr : List T) (o : Oper) (ds log : List Bool) : RD Bool :=
  match o.guard with
  | none => .ok true ds log
  | some (j, want) =>
    match ((ops[j]?).bind (·.dst)).bind (fun d => fr[d]?) with
    | some (.bool b) => match ds with
      | [] => .need b log
      | d :: ds' => .ok (d == want) ds' ((if d then b else !b) :: log)
    | _ => .ok false ds log

/-- A plain operation; a pick's test is answered by the list. -/
def pureD (P : Program) (E : Ed) (own : Bool) (H : Hp) (fr : List T) (o : Oper) (ds log : List Bool) : RD (Option T) :=
  match o.op with
  | .pick c a b => match evalT E.gl fr c with
    | some (.bool t) => match ds with
      | [] => .need t log
      | d :: ds' => match evalT E.gl fr (if d then a else b) with
        | some v => .ok (some v) ds' ((if d then t else !t) :: log)
        | none => .fail 30
    | _ => .fail 31
  | _ => match evalPD P E own H fr o with
    | some (v, c) => .ok (some v) ds (c ++ log)
    | none => if effKind own o then .ok none ds log else .fail 9

def plainD (P : Program) (E : Ed) (F : Fc) (ops : Array Oper) (s : Fx) (o : Oper) (ds log : List Bool) : RD Fx :=
  match guardD ops s.fr o ds log with
  | .ok true ds log =>
    match pureD P E (ownD F o) s.H s.fr o ds log with
    | .ok (some v) ds log => .ok { s with fr := putT s.fr o.dst v } ds log
    | .need c l => .need c l
    | .fail n => .fail n
    | .ok none ds log =>
      match allocOf F o with
      | some (d, t) => if s.pend.isSome then .fail 3 else match szT P t, zeroT P t with
        | some n, some z => if z.cells.length = n ∧ d < s.fr.length then .ok { s with fr := s.fr.set d undefT, pend := some (d, t) } ds log else .fail 1
        | _, _ => .fail 2
      | none => match effD P E F s.H s.fr o with
        | some (v, H', c) => .ok { s with fr := putT s.fr o.dst v, H := H' } ds (c ++ log)
        | none => .fail 4
  | .ok false ds log => .ok { s with fr := putT s.fr o.dst undefT } ds log
  | .need c log => .need c log
  | .fail n => .fail n

def stepD (P : Program) (E : Ed) (F : Fc) (ops : Array Oper) (s : Fx) (o : Oper) (ds log : List Bool) : RD Fx :=
  match s.pend with
  | none => plainD P E F ops s o ds log
  | some (d, t) =>
    match o.op, o.dst, o.guard with
    | .store t' (.tmp d') x, none, none =>
      if d' = d then
        if t' = t ∧ notSlot x d = true then
          match evalT E.gl s.fr x, szT P t with
          | some y, some n => .ok { s with fr := s.fr.set d (.ref y 0), pend := none } ds (decide (y.cells.length = n) :: allOne y.cells :: log)
          | _, _ => .fail 5
        else .fail 6
      else if touchesT ops o d then .fail 7 else plainD P E F ops s o ds log
    | _, _, _ => if touchesT ops o d then .fail 8 else plainD P E F ops s o ds log

def evalSeqD (P : Program) (E : Ed) (F : Fc) (ops : Array Oper) : List Oper → Fx → List Bool → List Bool → RD Fx
  | [], s, ds, log => .ok s ds log
  | o :: rest, s, ds, log => match stepD P E F ops s o ds log with
    | .ok s' ds' log' => evalSeqD P E F ops rest s' ds' log'
    | .need c l => .need c l
    | .fail n => .fail n

def evalDrawD (P : Program) (E : Ed) (F : Fc) (ops : Array Oper) : List Oper → Nat → Fx → List Bool → List Bool → RD Fx
  | [], _, s, ds, log => match s.pend with
    | none => .ok s ds log
    | some _ => .fail 10
  | o :: rest, m, s, ds, log =>
    if pendHit ops s o then
      if chained (ancs ops.toList []) m ops.size then evalSeqD P E F ops (o :: rest) s ds log else .fail 11
    else if dstIn s o = false then .fail 12
    else match guardD ops s.fr o ds log with
      | .ok true ds' log' =>
        match pureD P E (ownD F o) s.H s.fr o ds' log' with
        | .ok (some v) ds' log' => evalDrawD P E F ops rest (m + 1) { s with fr := putT s.fr o.dst v } ds' log'
        | .need c l => .need c l
        | .fail n => .fail n
        | .ok none ds' log' => match allocOf F o with
          | some (d, t) => if s.pend.isSome then .fail 17 else match szT P t, zeroT P t with
            | some n, some z => if z.cells.length = n then evalDrawD P E F ops rest (m + 1) { s with fr := s.fr.set d undefT, pend := some (d, t) } ds' log' else .fail 13
            | _, _ => .fail 14
          | none => if o.guard.isNone && chained (ancs ops.toList []) m ops.size then evalSeqD P E F ops (o :: rest) s ds log else .fail 15
      | .ok false ds' log' => evalDrawD P E F ops rest (m + 1) { s with fr := putT s.fr o.dst undefT } ds' log'
      | .need c l => .need c l
      | .fail n => .fail n

/-- Code without loops. -/
def evalCodeD (P : Program) (E : Ed) (F : Fc) : Code → List T → Hp → List Bool → List Bool → RD (X × List T × Hp)
  | .skip, fr, H, ds, log | .label _, fr, H, ds, log => .ok (.normal, fr, H) ds log
  | .region _ ops draw, fr, H, ds, log =>
    match (if draw then evalDrawD P E F ops ops.toList 0 ⟨fr, H, none⟩ ds log else evalSeqD P E F ops ops.toList ⟨fr, H, none⟩ ds log) with
    | .ok ⟨fr', H', none⟩ ds' log' => .ok (.normal, fr', H') ds' log'
    | .ok _ _ _ => .fail 20
    | .need c l => .need c l
    | .fail n => .fail n
  | .seq a b, fr, H, ds, log => match evalCodeD P E F a fr H ds log with
    | .ok (.normal, fr', H') ds' log' => evalCodeD P E F b fr' H' ds' log'
    | r => r
  | .cond c a b, fr, H, ds, log => match evalT E.gl fr c with
    | some (.bool t) => match ds with
      | [] => .need t log
      | d :: ds' => if d then evalCodeD P E F a fr H ds' (t :: log) else evalCodeD P E F b fr H ds' ((!t) :: log)
    | _ => .fail 21
  | .block id c, fr, H, ds, log => match evalCodeD P E F c fr H ds log with
    | .ok (.exit id', fr', H') ds' log' => if id' = id then .ok (.normal, fr', H') ds' log' else .ok (.exit id', fr', H') ds' log'
    | r => r
  | .scope c, fr, H, ds, log => evalCodeD P E F c fr H ds log
  | .exit id, fr, H, ds, log => .ok (.exit id, fr, H) ds log
  | .ret, fr, H, ds, log => .ok (.ret, fr, H) ds log
  | _, _, _, _, _ => .fail 22

end Go.Ps
