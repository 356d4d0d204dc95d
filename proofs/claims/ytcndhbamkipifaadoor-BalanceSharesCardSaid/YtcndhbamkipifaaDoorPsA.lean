/- The pure tree semantics: trees, the abstract heap, the evaluator of operations and code. Nothing is proved here; the definitions alone. -/
import Derived.Still
import Derived.Laws.Sem
namespace Go.Ps

/-- A Go value as a tree. 'ref', 'sl': memory that is written no more. 'ptr', 'osl': objects of the abstract heap. -/
inductive T where
  | int (k : IntKind) (n : Int)
  | bool (b : Bool)
  | str (s : List UInt8)
  | nilp
  | ptr (l off : Nat)
  | ref (x : T) (off : Nat)
  | nils
  | sl (full : Bool) (xs : List T)
  | slf (full : Bool) (n : Nat) (f : Nat → T)
  | osl (l sz i len : Nat)
  | nilf
  | fn (f : Fn) (first captured : List T)
  | nili
  | iface (t : TypeId) (x : T)
  | nilm
  | agg (cs : List T)
  | tup (xs : List T)

instance : Inhabited T := ⟨.nilp⟩

abbrev undefT : T := .tup []

def T.cells : T → List T
  | .agg cs => cs
  | t => [t]

/-- The tree of one cell. -/
def T.one : T → Bool
  | .agg _ | .tup _ => false
  | _ => true

def T.isAgg : T → Bool
  | .agg _ => true
  | _ => false

/-- The tree of a constant of one cell. -/
def ofCell : Value → Option T
  | .int k n => some (.int k n)
  | .bool b => some (.bool b)
  | .string s => some (.str s.data.toList)
  | .pointer none => some .nilp
  | .slice none 0 0 => some .nils
  | .nilFunc => some .nilf
  | .nilIface => some .nili
  | .map none => some .nilm
  | _ => none

def ofCells : List Value → Option (List T)
  | [] => some []
  | v :: vs => match ofCell v with
    | some t => match ofCells vs with
      | some ts => some (t :: ts)
      | none => none
    | none => none

def ofVal : Value → Option T
  | .agg cs => match ofCells cs.toList with
    | some ts => some (.agg ts)
    | none => none
  | .tuple vs => match vs.toList with
    | [] => some (.tup [])
    | _ => none
  | v => ofCell v

/-- An object of the abstract heap: 'sz' is 0 for a variable, else the size of a row's elements. -/
structure Ob where
  elem : TypeId
  sz : Nat
  cells : List T

structure Hp where
  next : Nat
  objs : List (Nat × Ob)

def findOb : List (Nat × Ob) → Nat → Option Ob
  | [], _ => none
  | (m, o) :: r, l => if m = l then some o else findOb r l

def Hp.get (H : Hp) (l : Nat) : Option Ob := findOb H.objs l

def setOb : List (Nat × Ob) → Nat → Ob → List (Nat × Ob)
  | [], _, _ => []
  | (m, o) :: r, l, o' => if m = l then (m, o') :: r else (m, o) :: setOb r l o'

def dropOb : List (Nat × Ob) → Nat → List (Nat × Ob)
  | [], _ => []
  | (m, o) :: r, l => if m = l then dropOb r l else (m, o) :: dropOb r l

def Hp.put (H : Hp) (l : Nat) (o : Ob) : Hp := { H with objs := setOb H.objs l o }
def Hp.drop (H : Hp) (l : Nat) : Hp := { H with objs := dropOb H.objs l }
def Hp.new (H : Hp) (o : Ob) : Hp := { next := H.next + 1, objs := (H.next, o) :: H.objs }
def Hp.empty : Hp := { next := 0, objs := [] }

/-- What a program's text tells the evaluator of its types. -/
def aggT (P : Program) (t : TypeId) : Option Bool :=
  match P.underlying t with
  | some (.struct _) | some (.array _ _) => some true
  | some _ => some false
  | none => none

def szT (P : Program) (t : TypeId) : Option Nat := (P.info? t).map (·.size)

def zeroT (P : Program) (t : TypeId) : Option T :=
  match P.info? t with
  | some i => match i.zero with
    | some v => ofVal v
    | none => none
  | none => none

def getT (fr : List T) (t : Tmp) : T := fr.getD t undefT

def evalT (gl : Nat → Option T) (fr : List T) : Operand → Option T
  | .tmp t => some (getT fr t)
  | .const v => ofVal v
  | .global g => gl g
  | .func f => some (.fn (.func f) [] [])

def evalAll (gl : Nat → Option T) (fr : List T) : List Operand → Option (List T)
  | [] => some []
  | x :: xs => match evalT gl fr x with
    | some t => match evalAll gl fr xs with
      | some ts => some (t :: ts)
      | none => none
    | none => none

/-- The cells that a pointer leads to, and where among them. -/
def cellsAt (H : Hp) : T → Option (List T × Nat)
  | .ref x off => some (x.cells, off)
  | .ptr l off => match H.get l with
    | some o => some (o.cells, off)
    | none => none
  | _ => none

/-- A part of cells, as a value of type t. -/
def partT (P : Program) (t : TypeId) (cs : List T) (off : Nat) : Option T :=
  match aggT P t with
  | some true => match szT P t with
    | some n => if off + n ≤ cs.length then some (.agg ((cs.drop off).take n)) else none
    | none => none
  | some false => cs[off]?
  | none => none

def loadT (P : Program) (H : Hp) (t : TypeId) (p : T) : Option T :=
  match cellsAt H p with
  | some (cs, off) => partT P t cs off
  | none => none

def addT : T → Nat → Option T
  | .ref x off, n => some (.ref x (off + n))
  | .ptr l off, n => some (.ptr l (off + n))
  | _, _ => none

def intBin (op : BinOp) (k : IntKind) (a b : Int) : Option T :=
  match op with
  | .add => some (.int k (k.wrap (a + b)))
  | .sub => some (.int k (k.wrap (a - b)))
  | .mul => some (.int k (k.wrap (a * b)))
  | .quo => if b = 0 then none else some (.int k (k.wrap (a.tdiv b)))
  | .rem => if b = 0 then none else some (.int k (a.tmod b))
  | .and => some (.int k (k.wrap (BitVec.ofInt k.bits a &&& BitVec.ofInt k.bits b).toNat))
  | .or => some (.int k (k.wrap (BitVec.ofInt k.bits a ||| BitVec.ofInt k.bits b).toNat))
  | .xor => some (.int k (k.wrap (BitVec.ofInt k.bits a ^^^ BitVec.ofInt k.bits b).toNat))
  | .andNot => some (.int k (k.wrap (BitVec.ofInt k.bits a &&& ~~~ BitVec.ofInt k.bits b).toNat))
  | .eql => some (.bool (a == b))
  | .neq => some (.bool (a != b))
  | .lss => some (.bool (decide (a < b)))
  | .leq => some (.bool (decide (a ≤ b)))
  | .gtr => some (.bool (decide (a > b)))
  | .geq => some (.bool (decide (a ≥ b)))
  | _ => none

def shiftBin (op : BinOp) (k : IntKind) (a b : Int) : Option T :=
  match op with
  | .shl => if b < 0 then none else some (.int k (k.wrap (a * 2 ^ (min b.toNat k.bits))))
  | .shr => if b < 0 then none else some (.int k (a.fdiv (2 ^ (min b.toNat k.bits))))
  | _ => none

def maxStr : Nat := 4611686018427387904

def strBin (op : BinOp) (a b : List UInt8) : Option T :=
  match op with
  | .add => if a.length + b.length ≤ maxStr then some (.str (a ++ b)) else none
  | .eql => some (.bool (a == b))
  | .neq => some (.bool (!(a == b)))
  | .lss => some (.bool (Op.bytesLess a b))
  | .leq => some (.bool (Op.bytesLess a b || a == b))
  | .gtr => some (.bool (!(Op.bytesLess a b || a == b)))
  | .geq => some (.bool (!Op.bytesLess a b))
  | _ => none

/-- Whether a value is nil, if it can be told. -/
def nilT : T → Option Bool
  | .nilp | .nils | .nilf | .nili | .nilm => some true
  | .ptr .. | .ref .. | .sl .. | .osl .. | .fn .. | .iface .. => some false
  | _ => none

/-- Equality of values whose kind the type allows; only what needs no memory. -/
def eqT (P : Program) (t : TypeId) (x y : T) : Option Bool :=
  match P.underlying t, x, y with
  | some .bool, .bool a, .bool b => some (a == b)
  | some (.slice _), .nils, .nils => some true
  | some (.slice _), .nils, .sl .. => some false
  | some (.slice _), .sl .., .nils => some false
  | some (.slice _), .nils, .osl .. => some false
  | some (.slice _), .osl .., .nils => some false
  | some (.pointer _), .nilp, .nilp => some true
  | some (.pointer _), .nilp, .ptr .. => some false
  | some (.pointer _), .ptr .., .nilp => some false
  | some (.pointer _), .nilp, .ref .. => some false
  | some (.pointer _), .ref .., .nilp => some false
  | some (.func ..), .nilf, .nilf => some true
  | some (.func ..), .nilf, .fn .. => some false
  | some (.func ..), .fn .., .nilf => some false
  | _, _, _ => none

def binT (P : Program) (op : BinOp) (t : TypeId) (x y : T) : Option T :=
  match op, x, y with
  | .shl, .int k a, .int _ b => shiftBin .shl k a b
  | .shr, .int k a, .int _ b => shiftBin .shr k a b
  | op, .int k a, .int k' b => if k = k' then intBin op k a b else none
  | op, .str a, .str b => strBin op a b
  | .eql, x, y => (eqT P t x y).map .bool
  | .neq, x, y => (eqT P t x y).map fun b => .bool (!b)
  | _, _, _ => none

def unT (op : UnOp) (x : T) : Option T :=
  match op, x with
  | .neg, .int k n => some (.int k (k.wrap (0 - n)))
  | .not, .bool b => some (.bool (!b))
  | _, _ => none

def convT (P : Program) (src dst : TypeId) (x : T) : Option T :=
  match P.underlying src, P.underlying dst, x with
  | some _, some (.int k), .int _ n => some (.int k (k.wrap n))
  | some _, some .string, .str s => some (.str s)
  | _, _, _ => none

def fieldT (P : Program) (s : TypeId) (f : Nat) : Option Field :=
  match P.underlying s with
  | some (.struct fs) => fs[f]?
  | _ => none

def fieldAddrT (P : Program) (s : TypeId) (x : T) (f : Nat) : Option T :=
  match fieldT P s f with
  | some fd => match szT P fd.type with
    | some n => if n = 0 then none else addT x fd.offset
    | none => none
  | none => none

def indexAddrT (P : Program) (t : TypeId) (x i : T) : Option T :=
  match i with
  | .int _ n =>
    match P.underlying t, x with
    | some (.slice e), .sl _ xs => if 0 ≤ n then match xs[n.toNat]? with
        | some y => match szT P e with
          | some s => if y.cells.length = s then some (.ref y 0) else none
          | none => none
        | none => none
      else none
    | some (.slice e), .slf _ len f => if 0 ≤ n ∧ n < len then match szT P e with
        | some s => if (f n.toNat).cells.length = s then some (.ref (f n.toNat) 0) else none
        | none => none
      else none
    | some (.slice e), .osl l sz j len => if 0 ≤ n ∧ n < len then match szT P e with
        | some s => if sz = s then some (.ptr l ((j + n.toNat) * sz)) else none
        | none => none
      else none
    | some (.array len e), x => if 0 ≤ n ∧ n < len then match szT P e with
        | some s => addT x (n.toNat * s)
        | none => none
      else none
    | _, _ => none
  | _ => none

def indexT (P : Program) (t : TypeId) (x i : T) : Option T :=
  match i with
  | .int _ n =>
    match P.underlying t, x with
    | some (.array len e), .agg cs => if 0 ≤ n ∧ n < len then match szT P e with
        | some s => partT P e cs (n.toNat * s)
        | none => none
      else none
    | some .string, .str s => if 0 ≤ n then (s[n.toNat]?).map fun b => .int .u8 b.toNat else none
    | _, _ => none
  | _ => none

/-- The bounds of a slice expression within a length. -/
def boundT (x : Option T) (dflt top : Nat) : Option Nat :=
  match x with
  | none => some dflt
  | some (.int _ n) => if 0 ≤ n ∧ n ≤ top then some n.toNat else none
  | some _ => none

/-- The elements have this size. -/
def headOk (s : Nat) : List T → Bool
  | [] => true
  | x :: _ => x.cells.length == s

def sliceT (P : Program) (t : TypeId) (x : T) (lo hi : Option T) : Option T :=
  match P.underlying t, x with
  | some .string, .str s =>
    match boundT hi s.length s.length with
    | some h => match boundT lo 0 h with
      | some l => some (.str ((s.take h).drop l))
      | none => none
    | none => none
  | some (.slice e), .sl full xs =>
    match boundT hi xs.length xs.length with
    | some h => match boundT lo 0 h with
      | some l => match szT P e with
        | some s => if headOk s xs then some (.sl (full && h == xs.length) ((xs.take h).drop l)) else none
        | none => none
      | none => none
    | none => none
  | some (.slice e), .slf full n f =>
    match boundT hi n n with
    | some h => match boundT lo 0 h with
      | some l => match szT P e with
        | some s => if l < h ∧ (f l).cells.length ≠ s then none else some (.slf (full && h == n) (h - l) (fun i => f (l + i)))
        | none => none
      | none => none
    | none => none
  | some (.slice e), .nils =>
    match boundT hi 0 0 with
    | some _ => match boundT lo 0 0 with
      | some _ => if (szT P e).isSome then some .nils else none
      | none => none
    | none => none
  | some (.slice e), .osl l sz j len =>
    match boundT hi len len with
    | some h => match boundT lo 0 h with
      | some k => match szT P e with
        | some s => if s = sz then some (.osl l sz (j + k) (h - k)) else none
        | none => none
      | none => none
    | none => none
  | _, _ => none

def lenT (P : Program) (t : TypeId) (x : T) : Option T :=
  match P.underlying t, x with
  | some .string, .str s => some (.int .i64 s.length)
  | some (.slice _), .sl _ xs => some (.int .i64 xs.length)
  | some (.slice _), .nils => some (.int .i64 0)
  | some (.slice _), .slf _ n _ => some (.int .i64 n)
  | some (.slice _), .osl _ _ _ len => some (.int .i64 len)
  | some (.array n _), _ => some (.int .i64 n)
  | some (.map ..), .nilm => some (.int .i64 0)
  | _, _ => none

def minT : T → T → Option T
  | .int k x, .int _ y => some (.int k (if y < x then y else x))
  | _, _ => none
def maxT : T → T → Option T
  | .int k x, .int _ y => some (.int k (if x < y then y else x))
  | _, _ => none
def foldT (f : T → T → Option T) : T → List T → Option T
  | x, [] => some x
  | x, y :: r => match f x y with
    | some z => foldT f z r
    | none => none

def spliceT (cs : List T) (off : Nat) (new : List T) : List T := cs.take off ++ new ++ cs.drop (off + new.length)

/-- The parts of a struct or an array laid into its cells. -/
def fillT (place : Nat → Option (Nat × Nat)) : List T → List (Nat × T) → Option (List T)
  | cs, [] => some cs
  | cs, (i, v) :: r =>
    match place i with
    | none => none
    | some (off, size) => if v.cells.length = size ∧ off + size ≤ cs.length then fillT place (spliceT cs off v.cells) r else none

def placesT (P : Program) : List Field → Option (List (Nat × Nat))
  | [] => some []
  | f :: r => match szT P f.type with
    | some s => match placesT P r with
      | some l => some ((f.offset, s) :: l)
      | none => none
    | none => none

def pairsT (gl : Nat → Option T) (fr : List T) : List (Nat × Operand) → Option (List (Nat × T))
  | [] => some []
  | (i, x) :: r => match evalT gl fr x with
    | some t => match pairsT gl fr r with
      | some l => some ((i, t) :: l)
      | none => none
    | none => none

def buildT (P : Program) (t : TypeId) (parts : List (Nat × T)) : Option T :=
  match zeroT P t with
  | some z =>
    match P.underlying t with
    | some (.struct fs) => match placesT P fs.toList with
      | some pl => (fillT (pl[·]?) z.cells parts).map .agg
      | none => none
    | some (.array _ e) => match szT P e with
      | some s => (fillT (fun i => some (i * s, s)) z.cells parts).map .agg
      | none => none
    | _ => none
  | none => none

/-- Elements set one by one. -/
def setsT (sz : Nat) (ag : Bool) : List T → List (Nat × T) → Option (List T)
  | xs, [] => some xs
  | xs, (i, v) :: r => if v.cells.length = sz ∧ v.isAgg = ag ∧ i < xs.length then setsT sz ag (xs.set i v) r else none

def buildSliceT (P : Program) (t : TypeId) (len : Nat) (parts : List (Nat × T)) : Option T :=
  match P.underlying t with
  | some (.slice e) => match szT P e, aggT P e, zeroT P e with
    | some s, some ag, some z => if 0 < s ∧ len * s ≤ 65536 ∧ z.cells.length = s ∧ z.isAgg = ag then
        (setsT s ag (List.replicate len z) parts).map (.sl true)
      else none
    | _, _, _ => none
  | _ => none

def nilCheckT : T → Option T
  | .ptr l o => some (.ptr l o)
  | .ref x o => some (.ref x o)
  | .fn (.func f) a c => some (.fn (.func f) a c)
  | .iface t x => some (.iface t x)
  | _ => none

/-- The environment: contracts of functions that leave all memory alone but for what is new; package variables that hold what they held. -/
structure Env where
  gl : Nat → Option T
  pe : Hp → FuncId → List T → Option T

/-- An operand that may lack. -/
def optT (ev : Operand → Option T) : Option Operand → Option (Option T)
  | none => some none
  | some x => match ev x with
    | some t => some (some t)
    | none => none

/-- A call of a function with a contract, or of a builtin that only computes. -/
def evalC (P : Program) (E : Env) (H : Hp) (fr : List T) (c : Call) : Option T :=
  match c.callee with
  | .value f => match evalT E.gl fr f with
    | some (.fn (.func g) first cap) => match evalAll E.gl fr c.args.toList with
      | some as => E.pe H g (first ++ as ++ cap)
      | none => none
    | _ => none
  | .invoke _ _ => none
  | .builtin b => match b with
    | .len => match c.args.toList, c.argTypes.toList with
      | [x], t :: _ => match evalT E.gl fr x with
        | some a => lenT P t a
        | none => none
      | _, _ => none
    | .min => match evalAll E.gl fr c.args.toList with
      | some (x :: r) => foldT minT x r
      | _ => none
    | .max => match evalAll E.gl fr c.args.toList with
      | some (x :: r) => foldT maxT x r
      | _ => none
    | _ => none

/-- One operation that changes no object. 'own': the slot holds a variable that is written again. -/
def evalP (P : Program) (E : Env) (own : Bool) (H : Hp) (fr : List T) (o : Oper) : Option T :=
  let ev := evalT E.gl fr
  match o.op with
  | .move x | .assign x => ev x
  | .pick c a b => match ev c with
    | some (.bool b') => if b' then ev a else ev b
    | _ => none
  | .box _ x => if own then none else (ev x).map (.ref · 0)
  | .build t parts => match pairsT E.gl fr parts.toList with
    | some l => buildT P t l
    | none => none
  | .buildSlice t len parts => if own then none else match pairsT E.gl fr parts.toList with
    | some l => buildSliceT P t len l
    | none => none
  | .load t a => match ev a with
    | some p => loadT P H t p
    | none => none
  | .nilCheck x => match ev x with
    | some p => nilCheckT p
    | none => none
  | .binOp op t x y _ => match ev x, ev y with
    | some a, some b => binT P op t a b
    | _, _ => none
  | .unOp op _ x => match ev x with
    | some a => unT op a
    | none => none
  | .convert s d x => match ev x with
    | some a => convT P s d a
    | none => none
  | .makeFunc f first captured => match evalAll E.gl fr first.toList, evalAll E.gl fr captured.toList with
    | some a, some c => some (.fn f a c)
    | _, _ => none
  | .fieldAddr s x f => match ev x with
    | some a => fieldAddrT P s a f
    | none => none
  | .field t x f => match ev x with
    | some (.agg cs) => match fieldT P t f with
      | some fd => partT P fd.type cs fd.offset
      | none => none
    | _ => none
  | .indexAddr t x i => match ev x, ev i with
    | some a, some b => indexAddrT P t a b
    | _, _ => none
  | .index t x i => match ev x, ev i with
    | some a, some b => indexT P t a b
    | _, _ => none
  | .slice t x lo hi mx => match mx with
    | some _ => none
    | none => match ev x with
      | some a => match optT ev lo, optT ev hi with
        | some l, some h => sliceT P t a l h
        | _, _ => none
      | none => none
  | .extract x i => match ev x with
    | some (.tup xs) => xs[i]?
    | _ => none
  | .call c => evalC P E H fr c
  | _ => none

def putT (fr : List T) (dst : Option Tmp) (v : T) : List T :=
  match dst with
  | some d => fr.set d v
  | none => fr

def yieldedT (ops : Array Oper) (fr : List T) (j : Nat) : Option Bool :=
  match ((ops[j]?).bind (·.dst)).bind (fun d => fr[d]?) with
  | some (.bool b) => some b
  | _ => none

def wantedT (ops : Array Oper) (fr : List T) (o : Oper) : Bool :=
  match o.guard with
  | none => true
  | some (j, want) => yieldedT ops fr j == some want

end Go.Ps
