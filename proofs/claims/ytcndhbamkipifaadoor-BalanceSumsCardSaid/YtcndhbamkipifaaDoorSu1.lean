/- Texts merged: PsN, PsO, PsP, PsQ, PsR, PsS, PsT, PsU, PsV, PsW, PsX, Shelf, Known, Shares, Shares2, PsY, PsZ, PsDat, A, Ac, Bs. -/
import Derived.Test.YtcndhbamkipifaaDoorSu0
import Derived.Shelf.Strings.OnBuilder
import Derived.Shelf.LaysM
import Derived.Shelf.Strconv.Itoa3
import Derived.Test.YtcndhbamkipifaaDoorProg
import Derived.KernelRfl
import Derived.IntWalk
import Derived.Lib.LaidTab
/- The evaluator along one way: tests are answered by a list; what was answered, and what must hold for the operations, is listed. -/
namespace Go.Ps
noncomputable section

inductive RD (α : Type) where
  | ok (a : α) (ds log : List Bool)
  | need (c : Bool) (log : List Bool)
  | fail (why : Nat)

/-- Contracts with what they ask. -/
structure Ed where
  gl : Nat → Option T
  pd : Hp → FuncId → List T → Option (T × List Bool)

def tag0 : Option T → Option (T × List Bool)
  | some r => some (r, [])
  | none => none

def tagH : Option (T × Hp) → Option (T × Hp × List Bool)
  | some (v, H') => some (v, H', [])
  | none => none

def indexAddrD (P : Program) (t : TypeId) (x i : T) : Option (T × List Bool) :=
  match i with
  | .int _ n =>
    match P.underlying t, x with
    | some (.slice e), .sl _ xs => match szT P e with
      | some s => some (.ref (xs.getD n.toNat undefT) 0, [decide (0 ≤ n), decide (n < xs.length), decide ((xs.getD n.toNat undefT).cells.length = s)])
      | none => none
    | some (.slice e), .slf _ len f => match szT P e with
      | some s => some (.ref (f n.toNat) 0, [decide (0 ≤ n), decide (n < len), decide ((f n.toNat).cells.length = s)])
      | none => none
    | some (.slice e), .osl l sz j len => match szT P e with
      | some s => if sz = s then some (.ptr l ((j + n.toNat) * sz), [decide (0 ≤ n), decide (n < len)]) else none
      | none => none
    | some (.array len e), x => match szT P e with
      | some s => match addT x (n.toNat * s) with
        | some y => some (y, [decide (0 ≤ n), decide (n < len)])
        | none => none
      | none => none
    | _, _ => none
  | _ => none

def indexD (P : Program) (t : TypeId) (x i : T) : Option (T × List Bool) :=
  match i with
  | .int _ n =>
    match P.underlying t, x with
    | some (.array len e), .agg cs => match szT P e with
      | some s => match partT P e cs (n.toNat * s) with
        | some y => some (y, [decide (0 ≤ n), decide (n < len)])
        | none => none
      | none => none
    | some .string, .str s => some (.int .u8 (s.getD n.toNat 0).toNat, [decide (0 ≤ n), decide (n < s.length)])
    | _, _ => none
  | _ => none

def boundD (x : Option T) (dflt top : Nat) : Option (Nat × List Bool) :=
  match x with
  | none => some (dflt, [])
  | some (.int _ n) => some (n.toNat, [decide (0 ≤ n), decide (n ≤ top)])
  | some _ => none

def sliceD (P : Program) (t : TypeId) (x : T) (lo hi : Option T) : Option (T × List Bool) :=
  match P.underlying t, x with
  | some .string, .str s =>
    match boundD hi s.length s.length with
    | some (h, c1) => match boundD lo 0 h with
      | some (l, c2) => some (.str ((s.take h).drop l), c1 ++ c2)
      | none => none
    | none => none
  | some (.slice e), .sl full xs =>
    match boundD hi xs.length xs.length with
    | some (h, c1) => match boundD lo 0 h with
      | some (l, c2) => match szT P e with
        | some s => some (.sl (full && h == xs.length) ((xs.take h).drop l), c1 ++ c2 ++ [headOk s xs])
        | none => none
      | none => none
    | none => none
  | some (.slice e), .slf full n f =>
    match boundD hi n n with
    | some (h, c1) => match boundD lo 0 h with
      | some (l, c2) => match szT P e with
        | some s => some (.slf (full && h == n) (h - l) (fun i => f (l + i)), c1 ++ c2 ++ [decide ((f l).cells.length = s)])
        | none => none
      | none => none
    | none => none
  | _, _ => none

def binD (P : Program) (op : BinOp) (t : TypeId) (x y : T) : Option (T × List Bool) :=
  match op, x, y with
  | .quo, .int k a, .int k' b => if k = k' then some (.int k (k.wrap (a.tdiv b)), [b != 0]) else none
  | .rem, .int k a, .int k' b => if k = k' then some (.int k (a.tmod b), [b != 0]) else none
  | .add, .str a, .str b => some (.str (a ++ b), [decide (a.length + b.length ≤ maxStr)])
  | op, x, y => tag0 (binT P op t x y)

def intv : T → Int
  | .int _ n => n
  | _ => 0

def isInt (k : IntKind) : T → Bool
  | .int k' _ => decide (k' = k)
  | _ => false

/-- A number read off a row: told by a view, whatever the row's list is. -/
def loadD (P : Program) (H : Hp) (t : TypeId) (p : T) : Option (T × List Bool) :=
  match p with
  | .ptr l off => match H.get l with
    | some o => if o.sz = 0 then tag0 (loadT P H t p) else match P.underlying t with
      | some (.int k) => some (.int k (intv (o.cells.getD off undefT)), [isInt k (o.cells.getD off undefT), decide (off < o.cells.length), decide (aggT P t = some false)])
      | _ => tag0 (loadT P H t p)
    | none => none
  | p => tag0 (loadT P H t p)

/-- One operation that changes no object, and what must hold for it. -/
def evalPD (P : Program) (E : Ed) (own : Bool) (H : Hp) (fr : List T) (o : Oper) : Option (T × List Bool) :=
  let ev := evalT E.gl fr
  match o.op with
  | .indexAddr t x i => match ev x, ev i with
    | some a, some b => indexAddrD P t a b
    | _, _ => none
  | .index t x i => match ev x, ev i with
    | some a, some b => indexD P t a b
    | _, _ => none
  | .load t a => match ev a with
    | some p => loadD P H t p
    | none => none
  | .binOp op t x y _ => match ev x, ev y with
    | some a, some b => binD P op t a b
    | _, _ => none
  | .slice t x lo hi mx => match mx with
    | some _ => none
    | none => match ev x with
      | some a => match optT ev lo, optT ev hi with
        | some l, some h => sliceD P t a l h
        | _, _ => none
      | none => none
  | .call c => match c.callee with
    | .value f => match ev f with
      | some (.fn (.func g) first cap) => match evalAll E.gl fr c.args.toList with
        | some ars => E.pd H g (first ++ ars ++ cap)
        | none => none
      | _ => none
    | .invoke _ _ => none
    | .builtin _ => tag0 (evalC P ⟨E.gl, fun _ _ _ => none⟩ H fr c)
  | _ => tag0 (evalP P ⟨E.gl, fun _ _ _ => none⟩ own H fr o)

/-- Views of an object at whatever number. -/
def obv (H : Hp) (l : Nat) : Ob := match H.get l with
  | some o => o
  | none => ⟨0, 0, []⟩
def obIn (H : Hp) (l k : Nat) : Bool := match H.get l with
  | some o => decide (k ≤ o.cells.length)
  | none => false
def obApp (H : Hp) (l : Nat) (e : TypeId) (sz len : Nat) : Bool := match H.get l with
  | some o => if o.sz = sz ∧ o.elem = e then decide (o.cells.length = len * sz) else false
  | none => false
def isNils : T → Bool
  | .nils => true
  | _ => false
def isOsl1 : T → Bool
  | .osl _ 1 0 _ => true
  | _ => false
def oslL : T → Nat
  | .osl l _ _ _ => l
  | _ => 0
def oslN : T → Nat
  | .osl _ _ _ n => n
  | _ => 0

def appendD (P : Program) (H : Hp) (t tx : TypeId) (s x : T) : Option (T × Hp × List Bool) :=
  match P.underlying t with
  | some (.slice e) =>
    match P.info? e, srcCells H x, lenOfT x with
    | some i, some new, some m =>
      if i.size = 0 ∨ (i.zero.map fun z => z.cells.size) ≠ some i.size ∨ srcOk P tx i.size x = false then none else
      match s with
      | .nils => if m = 0 then some (.nils, H, [decide (new.length = m * i.size), allOne new]) else
          some (.osl H.next i.size 0 m, H.new { elem := e, sz := i.size, cells := new }, [decide (new.length = m * i.size), allOne new, roomT m i.bytes])
      | .sl true xs => if m = 0 then some (.sl true xs, H, [decide (new.length = m * i.size), allOne new]) else
          some (.osl H.next i.size 0 (xs.length + m), H.new { elem := e, sz := i.size, cells := xs.flatMap T.cells ++ new }, [decide (new.length = m * i.size), allOne new, roomT (xs.length + m) i.bytes, headOk i.size xs])
      | .osl l sz' 0 len => if m = 0 then some (.osl l sz' 0 len, H, [decide (new.length = m * i.size), allOne new]) else if sz' = i.size then
            some (.osl H.next i.size 0 (len + m), (H.drop l).new { elem := e, sz := i.size, cells := (obv H l).cells ++ new }, [decide (new.length = m * i.size), allOne new, obApp H l e i.size len, roomT (len + m) i.bytes]) else none
      | _ => none
    | _, _, _ => none
  | _ => none

def makeSliceD (P : Program) (H : Hp) (t : TypeId) (l c : T) : Option (T × Hp × List Bool) :=
  match P.underlying t, l, c with
  | some (.slice e), .int .i64 n, .int .i64 m =>
    match szT P e, (P.info? e).map (·.bytes), zeroT P e with
    | some sz, some bytes, some z => if 0 < sz ∧ z.cells.length = sz then
        some (.osl H.next sz 0 n.toNat, H.new { elem := e, sz := sz, cells := (List.replicate n.toNat z).flatMap T.cells }, [decide (0 ≤ n), decide (n = m), decide (n.toNat * bytes ≤ 70368744177664), decide (n ≤ 70368744177664)]) else none
    | _, _, _ => none
  | _, _, _ => none

def storeD (P : Program) (H : Hp) (t : TypeId) (p x : T) : Option (Hp × List Bool) :=
  match p with
  | .ptr l off => match szT P t with
    | some n => some (H.put l { obv H l with cells := spliceT (obv H l).cells off x.cells }, [decide (x.cells.length = n), obIn H l (off + n), allOne x.cells])
    | none => none
  | _ => none

def effD (P : Program) (E : Ed) (F : Fc) (H : Hp) (fr : List T) (o : Oper) : Option (T × Hp × List Bool) :=
  let ev := evalT E.gl fr
  match o.op with
  | .store t p x => match ev p, ev x with
    | some q, some y => match storeD P H t q y with
      | some (H', c) => some (undefT, H', c)
      | none => none
    | _, _ => none
  | .makeSlice t l c => match ev l, ev c with
    | some n, some m => makeSliceD P H t n m
    | _, _ => none
  | .call c => match c.callee with
    | .builtin .append => match c.args.toList, c.argTypes.toList with
      | [s, x], [t, t'] => match ev s, ev x with
        | some a, some b => appendD P H t t' a b
        | _, _ => none
      | _, _ => none
    | _ => tagH (effT P ⟨E.gl, fun _ _ _ => none⟩ F H fr o)
  | _ => tagH (effT P ⟨E.gl, fun _ _ _ => none⟩ F H fr o)

/-- An operation that is no plain one. -/
def effKind (own : Bool) (o : Oper) : Bool :=
  match o.op with
  | .alloc _ | .store .. | .makeSlice .. => true
  | .box .. | .buildSlice .. => own
  | .call c => match c.callee with
    | .builtin .append => true
    | .value _ => true
    | _ => false
  | _ => false

/-- The contracts as an environment. -/
def allT : List Bool → Bool
  | [] => true
  | c :: cs => c && allT cs

def Ed.env (D : Ed) : Env := { gl := D.gl, pe := fun H f ts => match D.pd H f ts with
  | some (r, cs) => if allT cs then some r else none
  | none => none }

/-- Is the operation wanted? A guard's Bool is answered by the list. -/
def guardD (ops : Array Oper) (fr : List T) (o : Oper) (ds log : List Bool) : RD Bool :=
  match o.guard with
  | none => .ok true ds log
  | some (j, want) =>
    match ((ops[j]?).bind (·.dst)).bind (fun d => nthO fr d) with
    | some (.bool b) => match ds with
      | [] => .need b log
      | d :: ds' => .ok (d == want) ds' ((if d then b else !b) :: log)
    | _ => .ok false ds log

/-- A plain operation; a pick's test is answered by the list. -/
def pureD (P : Program) (E : Ed) (own : Bool) (H : Hp) (fr : List T) (o : Oper) (ds log : List Bool) : RD (Option T) :=
  match o.op with
  | .pick c a b => match evalT E.gl fr c with
    | some (.bool t) => match ds with
      | [] => .need t log
      | d :: ds' => match evalT E.gl fr (if d then a else b) with
        | some v => .ok (some v) ds' ((if d then t else !t) :: log)
        | none => .fail 30
    | _ => .fail 31
  | .load t a => match own, evalT E.gl fr a with
    | true, some (.ptr l off) => match ds with
      | [] => .need (isNils ((obv H l).cells.getD off undefT)) log
      | d :: ds' => if d then .ok (some .nils) ds' (isNils ((obv H l).cells.getD off undefT) :: obIn H l (off + 1) :: decide (aggT P t = some false) :: log)
          else .ok (some (.osl (oslL ((obv H l).cells.getD off undefT)) 1 0 (oslN ((obv H l).cells.getD off undefT)))) ds' (isOsl1 ((obv H l).cells.getD off undefT) :: obIn H l (off + 1) :: decide (aggT P t = some false) :: log)
    | _, _ => match evalPD P E own H fr o with
      | some (v, c) => .ok (some v) ds (c ++ log)
      | none => if effKind own o then .ok none ds log else .fail 9
  | _ => match evalPD P E own H fr o with
    | some (v, c) => .ok (some v) ds (c ++ log)
    | none => if effKind own o then .ok none ds log else .fail 9

def plainD (P : Program) (E : Ed) (F : Fc) (ops : Array Oper) (s : Fx) (o : Oper) (ds log : List Bool) : RD Fx :=
  match guardD ops s.fr o ds log with
  | .ok true ds log =>
    match pureD P E (ownD F o) s.H s.fr o ds log with
    | .ok (some v) ds log => .ok { s with fr := putF s.fr o.dst v } ds log
    | .need c l => .need c l
    | .fail n => .fail n
    | .ok none ds log =>
      match allocOf F o with
      | some (d, t) => if s.pend.isSome then .fail 3 else match szT P t, zeroT P t with
        | some n, some z => if z.cells.length = n ∧ d < s.fr.length then .ok { s with fr := setF undefT s.fr d, pend := some (d, t) } ds log else .fail 1
        | _, _ => .fail 2
      | none => match effD P E F s.H s.fr o with
        | some (v, H', c) => .ok { s with fr := putF s.fr o.dst v, H := H' } ds (c ++ log)
        | none => .fail 4
  | .ok false ds log => .ok { s with fr := putF s.fr o.dst undefT } ds log
  | .need c log => .need c log
  | .fail n => .fail n

def stepD (P : Program) (E : Ed) (F : Fc) (ops : Array Oper) (s : Fx) (o : Oper) (ds log : List Bool) : RD Fx :=
  match s.pend with
  | none => plainD P E F ops s o ds log
  | some (d, t) =>
    match o.op, o.dst, o.guard with
    | .store t' (.tmp d') x, none, none =>
      if d' = d then
        if t' = t ∧ notSlot x d = true then
          match evalT E.gl s.fr x, szT P t with
          | some y, some n => .ok { s with fr := setF (.ref y 0) s.fr d, pend := none } ds (decide (y.cells.length = n) :: allOne y.cells :: log)
          | _, _ => .fail 5
        else .fail 6
      else if touchesT ops o d then .fail 7 else plainD P E F ops s o ds log
    | _, _, _ => if touchesT ops o d then .fail 8 else plainD P E F ops s o ds log

def evalSeqD (P : Program) (E : Ed) (F : Fc) (ops : Array Oper) : List Oper → Fx → List Bool → List Bool → RD Fx
  | [], s, ds, log => .ok s ds log
  | o :: rest, s, ds, log => match stepD P E F ops s o ds log with
    | .ok s' ds' log' => evalSeqD P E F ops rest s' ds' log'
    | .need c l => .need c l
    | .fail n => .fail n

def evalDrawD (P : Program) (E : Ed) (F : Fc) (ops : Array Oper) : List Oper → Nat → Fx → List Bool → List Bool → RD Fx
  | [], _, s, ds, log => match s.pend with
    | none => .ok s ds log
    | some _ => .fail 10
  | o :: rest, m, s, ds, log =>
    if pendHit ops s o then
      if chained (ancs ops.toList []) m ops.size then evalSeqD P E F ops (o :: rest) s ds log else .fail 11
    else if dstIn s o = false then .fail 12
    else match guardD ops s.fr o ds log with
      | .ok true ds' log' =>
        match pureD P E (ownD F o) s.H s.fr o ds' log' with
        | .ok (some v) ds' log' => evalDrawD P E F ops rest (m + 1) { s with fr := putF s.fr o.dst v } ds' log'
        | .need c l => .need c l
        | .fail n => .fail n
        | .ok none ds' log' => match allocOf F o with
          | some (d, t) => if s.pend.isSome then .fail 17 else match szT P t, zeroT P t with
            | some n, some z => if z.cells.length = n then evalDrawD P E F ops rest (m + 1) { s with fr := setF undefT s.fr d, pend := some (d, t) } ds' log' else .fail 13
            | _, _ => .fail 14
          | none => if o.guard.isNone && chained (ancs ops.toList []) m ops.size then evalSeqD P E F ops (o :: rest) s ds log else .fail 15
      | .ok false ds' log' => evalDrawD P E F ops rest (m + 1) { s with fr := putF s.fr o.dst undefT } ds' log'
      | .need c l => .need c l
      | .fail n => .fail n

/-- Code without loops. -/
def evalCodeD (P : Program) (E : Ed) (F : Fc) : Code → List T → Hp → List Bool → List Bool → RD (X × List T × Hp)
  | .skip, fr, H, ds, log | .label _, fr, H, ds, log => .ok (.normal, fr, H) ds log
  | .region _ ops draw, fr, H, ds, log =>
    match (if draw then evalDrawD P E F ops ops.toList 0 ⟨fr, H, none⟩ ds log else evalSeqD P E F ops ops.toList ⟨fr, H, none⟩ ds log) with
    | .ok ⟨fr', H', none⟩ ds' log' => .ok (.normal, fr', H') ds' log'
    | .ok _ _ _ => .fail 20
    | .need c l => .need c l
    | .fail n => .fail n
  | .seq a b, fr, H, ds, log => match evalCodeD P E F a fr H ds log with
    | .ok (.normal, fr', H') ds' log' => evalCodeD P E F b fr' H' ds' log'
    | r => r
  | .cond c a b, fr, H, ds, log => match evalT E.gl fr c with
    | some (.bool t) => match ds with
      | [] => .need t log
      | d :: ds' => if d then evalCodeD P E F a fr H ds' (t :: log) else evalCodeD P E F b fr H ds' ((!t) :: log)
    | _ => .fail 21
  | .block id c, fr, H, ds, log => match evalCodeD P E F c fr H ds log with
    | .ok (.exit id', fr', H') ds' log' => if id' = id then .ok (.normal, fr', H') ds' log' else .ok (.exit id', fr', H') ds' log'
    | r => r
  | .scope c, fr, H, ds, log => evalCodeD P E F c fr H ds log
  | .exit id, fr, H, ds, log => .ok (.exit id, fr, H) ds log
  | .ret, fr, H, ds, log => .ok (.ret, fr, H) ds log
  | _, _, _, _, _ => .fail 22

end
end Go.Ps

/- The evaluation along one way is an evaluation. -/
namespace Go.Ps

theorem allT_append {a b : List Bool} : allT (a ++ b) = (allT a && allT b) := by
  induction a with
  | nil => simp [allT]
  | cons x a ih => simp [allT, ih, Bool.and_assoc]

section
variable {P : Program} {D : Ed} {F : Fc}

theorem indexAddrD_ok {t : TypeId} {x i v : T} {c : List Bool} (h : indexAddrD P t x i = some (v, c)) (hc : allT c = true) : indexAddrT P t x i = some v := by
  unfold indexAddrD at h
  unfold indexAddrT
  split at h
  · rename_i k n
    split at h
    · rename_i e full xs hd
      split at h
      · rename_i s hs
        simp only [Option.some.injEq, Prod.mk.injEq] at h
        obtain ⟨rfl, rfl⟩ := h
        simp only [allT, Bool.and_true, Bool.and_eq_true, decide_eq_true_eq] at hc
        obtain ⟨h1, h2, h3⟩ := hc
        have hlt : n.toNat < xs.length := by omega
        have e : xs.getD n.toNat undefT = xs[n.toNat] := by simp [hlt]
        rw [e] at h3 ⊢
        simp [hd, h1, hlt, hs, h3]
      · cases h
    · rename_i e full len f hd
      split at h
      · rename_i s hs
        simp only [Option.some.injEq, Prod.mk.injEq] at h
        obtain ⟨rfl, rfl⟩ := h
        simp only [allT, Bool.and_true, Bool.and_eq_true, decide_eq_true_eq] at hc
        obtain ⟨h1, h2, h3⟩ := hc
        simp [hd, h1, h2, hs, h3]
      · cases h
    · rename_i e l sz j len hd
      split at h
      · rename_i s hs
        split at h
        · rename_i hsz
          simp only [Option.some.injEq, Prod.mk.injEq] at h
          obtain ⟨rfl, rfl⟩ := h
          simp only [allT, Bool.and_true, Bool.and_eq_true, decide_eq_true_eq] at hc
          simp [hd, hc.1, hc.2, hs, hsz]
        · cases h
      · cases h
    · rename_i len e hd
      split at h
      · rename_i s hs
        split at h
        · rename_i y hy
          simp only [Option.some.injEq, Prod.mk.injEq] at h
          obtain ⟨rfl, rfl⟩ := h
          simp only [allT, Bool.and_true, Bool.and_eq_true, decide_eq_true_eq] at hc
          simp [hd, hc.1, hc.2, hs, hy]
        · cases h
      · cases h
    · cases h
  · cases h

theorem indexD_ok {t : TypeId} {x i v : T} {c : List Bool} (h : indexD P t x i = some (v, c)) (hc : allT c = true) : indexT P t x i = some v := by
  unfold indexD at h
  unfold indexT
  split at h
  · rename_i k n
    split at h
    · rename_i len e cs hd
      split at h
      · rename_i s hs
        split at h
        · rename_i y hy
          simp only [Option.some.injEq, Prod.mk.injEq] at h
          obtain ⟨rfl, rfl⟩ := h
          simp only [allT, Bool.and_true, Bool.and_eq_true, decide_eq_true_eq] at hc
          simp [hd, hc.1, hc.2, hs, hy]
        · cases h
      · cases h
    · rename_i s hd
      simp only [Option.some.injEq, Prod.mk.injEq] at h
      obtain ⟨rfl, rfl⟩ := h
      simp only [allT, Bool.and_true, Bool.and_eq_true, decide_eq_true_eq] at hc
      have hlt : n.toNat < s.length := by omega
      simp [hd, hc.1, hlt]
    · cases h
  · cases h

theorem boundD_ok {x : Option T} {dflt top r : Nat} {c : List Bool} (h : boundD x dflt top = some (r, c)) (hc : allT c = true) : boundT x dflt top = some r := by
  unfold boundD at h
  unfold boundT
  split at h
  · simp only [Option.some.injEq, Prod.mk.injEq] at h; simp [h.1]
  · simp only [Option.some.injEq, Prod.mk.injEq] at h
    obtain ⟨rfl, rfl⟩ := h
    simp only [allT, Bool.and_true, Bool.and_eq_true, decide_eq_true_eq] at hc
    simp [hc.1, hc.2]
  · cases h

theorem sliceD_ok {t : TypeId} {x v : T} {lo hi : Option T} {c : List Bool} (h : sliceD P t x lo hi = some (v, c)) (hc : allT c = true) : sliceT P t x lo hi = some v := by
  unfold sliceD at h
  unfold sliceT
  split at h
  · rename_i s hd
    split at h
    · rename_i hh c1 eh
      split at h
      · rename_i l c2 el
        simp only [Option.some.injEq, Prod.mk.injEq] at h
        obtain ⟨rfl, rfl⟩ := h
        rw [allT_append, Bool.and_eq_true] at hc
        simp [hd, boundD_ok eh hc.1, boundD_ok el hc.2]
      · cases h
    · cases h
  · rename_i e full xs hd
    split at h
    · rename_i hh c1 eh
      split at h
      · rename_i l c2 el
        split at h
        · rename_i s hs
          simp only [Option.some.injEq, Prod.mk.injEq] at h
          obtain ⟨rfl, rfl⟩ := h
          rw [allT_append, allT_append, Bool.and_eq_true, Bool.and_eq_true] at hc
          obtain ⟨⟨h1, h2⟩, h3⟩ := hc
          simp only [allT, Bool.and_true] at h3
          simp [hd, boundD_ok eh h1, boundD_ok el h2, hs, h3]
        · cases h
      · cases h
    · cases h
  · rename_i e full n f hd
    split at h
    · rename_i hh c1 eh
      split at h
      · rename_i l c2 el
        split at h
        · rename_i s hs
          simp only [Option.some.injEq, Prod.mk.injEq] at h
          obtain ⟨rfl, rfl⟩ := h
          rw [allT_append, allT_append, Bool.and_eq_true, Bool.and_eq_true] at hc
          obtain ⟨⟨h1, h2⟩, h3⟩ := hc
          simp only [allT, Bool.and_true, decide_eq_true_eq] at h3
          simp [hd, boundD_ok eh h1, boundD_ok el h2, hs, h3]
        · cases h
      · cases h
    · cases h
  · cases h

theorem tag0_ok {q : Option T} {v : T} {c : List Bool} (h : tag0 q = some (v, c)) : q = some v := by
  cases q with
  | none => cases h
  | some r => simp only [tag0, Option.some.injEq, Prod.mk.injEq] at h; rw [h.1]

theorem tagH_ok {q : Option (T × Hp)} {v : T} {H : Hp} {c : List Bool} (h : tagH q = some (v, H, c)) : q = some (v, H) := by
  cases q with
  | none => cases h
  | some r => simp only [tagH, Option.some.injEq, Prod.mk.injEq] at h; rw [← h.1, ← h.2.1]

theorem binD_ok {op : BinOp} {t : TypeId} {x y v : T} {c : List Bool} (h : binD P op t x y = some (v, c)) (hc : allT c = true) : binT P op t x y = some v := by
  unfold binD at h
  split at h
  · split at h
    · rename_i hk
      simp only [Option.some.injEq, Prod.mk.injEq] at h
      obtain ⟨rfl, rfl⟩ := h
      simp only [allT, Bool.and_true, bne_iff_ne] at hc
      simp [binT, intBin, hk, hc]
    · cases h
  · split at h
    · rename_i hk
      simp only [Option.some.injEq, Prod.mk.injEq] at h
      obtain ⟨rfl, rfl⟩ := h
      simp only [allT, Bool.and_true, bne_iff_ne] at hc
      simp [binT, intBin, hk, hc]
    · cases h
  · simp only [Option.some.injEq, Prod.mk.injEq] at h
    obtain ⟨rfl, rfl⟩ := h
    simp only [allT, Bool.and_true, decide_eq_true_eq] at hc
    simp [binT, strBin, hc]
  · exact tag0_ok h

theorem loadD_ok {H : Hp} {t : TypeId} {p v : T} {c : List Bool} (h : loadD P H t p = some (v, c)) (hc : allT c = true) : loadT P H t p = some v := by
  unfold loadD at h
  split at h
  · rename_i l off
    split at h
    · rename_i o ho
      split at h
      · exact tag0_ok h
      · split at h
        · rename_i k hk
          simp only [Option.some.injEq, Prod.mk.injEq] at h
          obtain ⟨rfl, rfl⟩ := h
          simp only [allT, Bool.and_eq_true, Bool.and_true, decide_eq_true_eq] at hc
          obtain ⟨h1, h2, h3⟩ := hc
          simp only [loadT, cellsAt, ho, partT, h3]
          rw [List.getD_eq_getElem?_getD, List.getElem?_eq_getElem h2] at h1 ⊢
          simp only [Option.getD_some] at h1 ⊢
          generalize o.cells[off] = y at h1
          cases y <;> simp only [isInt, Bool.false_eq_true, decide_eq_true_eq] at h1
          subst h1
          rfl
        · exact tag0_ok h
    · cases h
  · exact tag0_ok h

theorem evalPD_ok {own : Bool} {H : Hp} {fr : List T} {o : Oper} {v : T} {c : List Bool} (h : evalPD P D own H fr o = some (v, c)) (hc : allT c = true) : evalP P D.env own H fr o = some v := by
  obtain ⟨dst, op, type, pos, after, guard⟩ := o
  cases op <;> simp only [evalPD] at h
  case indexAddr t x i =>
    simp only [evalP]
    split at h
    · rename_i p q hp hq; simp only [Ed.env]; rw [hp, hq]; exact indexAddrD_ok h hc
    · cases h
  case index t x i =>
    simp only [evalP]
    split at h
    · rename_i p q hp hq; simp only [Ed.env]; rw [hp, hq]; exact indexD_ok h hc
    · cases h
  case binOp op t x y t' =>
    simp only [evalP]
    split at h
    · rename_i p q hp hq; simp only [Ed.env]; rw [hp, hq]; exact binD_ok h hc
    · cases h
  case load t a =>
    simp only [evalP]
    split at h
    · rename_i p hp; simp only [Ed.env]; rw [hp]; exact loadD_ok h hc
    · cases h
  case slice t x lo hi mx =>
    simp only [evalP]
    cases mx with
    | some m => cases h
    | none =>
      simp only at h ⊢
      split at h
      · rename_i p hp
        simp only [Ed.env]
        rw [hp]
        simp only
        split at h
        · rename_i l hh hl hhi
          rw [hl, hhi]
          exact sliceD_ok h hc
        · cases h
      · cases h
  case call cl =>
    simp only [evalP]
    obtain ⟨callee, args, tys⟩ := cl
    cases callee with
    | value f =>
      simp only at h
      simp only [evalC]
      split at h
      · rename_i k first cap hf
        split at h
        · rename_i ars has
          simp only [Ed.env] at *
          rw [hf]
          simp only
          rw [has]
          simp only [h, hc, if_true]
        · cases h
      · cases h
    | invoke r m => cases h
    | builtin b => exact tag0_ok h
  all_goals exact tag0_ok h

theorem evalPD_none {own : Bool} {H : Hp} {fr : List T} {o : Oper} (h : evalPD P D own H fr o = none) (hk : effKind own o = true) : evalP P D.env own H fr o = none := by
  obtain ⟨dst, op, type, pos, after, guard⟩ := o
  cases op <;> simp only [effKind, Bool.false_eq_true] at hk <;> simp only [evalP]
  case box => simp [hk]
  case buildSlice => simp [hk]
  case call cl =>
    obtain ⟨callee, args, tys⟩ := cl
    cases callee with
    | value f =>
      simp only [evalPD] at h
      simp only [evalC, Ed.env] at *
      split at h
      · rename_i k first cap hf
        rw [hf]
        simp only
        split at h
        · rename_i ars has
          rw [has]
          simp only [h]
        · rename_i has; rw [has]
      · rename_i hne
        split
        · rename_i k first cap hf; exact absurd hf (hne k first cap)
        · rfl
    | invoke r m => cases hk
    | builtin b =>
      cases b <;> simp at hk
      simp [evalC]

theorem appendD_ok {H H' : Hp} {t tx : TypeId} {s x v : T} {c : List Bool} (h : appendD P H t tx s x = some (v, H', c)) (hc : allT c = true) : appendT P H t tx s x = some (v, H') := by
  unfold appendD at h
  unfold appendT
  split at h
  · rename_i e hd
    split at h
    · rename_i i new m hi hsrc hm
      split at h
      · cases h
      · rename_i hn
        simp only [not_or] at hn
        obtain ⟨n1, n2, n3⟩ := hn
        rw [hd]
        simp only
        rw [hi, hsrc, hm]
        simp only
        have hcond : new.length = m * i.size ∧ allOne new = true → ¬ (i.size = 0 ∨ new.length ≠ m * i.size ∨ allOne new = false ∨ (i.zero.map fun z => z.cells.size) ≠ some i.size ∨ srcOk P tx i.size x = false) := by
          rintro ⟨q1, q2⟩ (q | q | q | q | q)
          · exact n1 q
          · exact q q1
          · rw [q2] at q; cases q
          · exact n2 q
          · exact n3 q
        split at h
        · split at h
          · rename_i hm0
            simp only [Option.some.injEq, Prod.mk.injEq] at h
            obtain ⟨rfl, rfl, rfl⟩ := h
            simp only [allT, Bool.and_true, Bool.and_eq_true, decide_eq_true_eq] at hc
            rw [if_neg (hcond hc)]
            simp only
            rw [if_pos hm0]
          · rename_i hm0
            simp only [Option.some.injEq, Prod.mk.injEq] at h
            obtain ⟨rfl, rfl, rfl⟩ := h
            simp only [allT, Bool.and_true, Bool.and_eq_true, decide_eq_true_eq] at hc
            rw [if_neg (hcond ⟨hc.1, hc.2.1⟩)]
            simp only
            rw [if_neg hm0, if_pos hc.2.2]
        · split at h
          · rename_i hm0
            simp only [Option.some.injEq, Prod.mk.injEq] at h
            obtain ⟨rfl, rfl, rfl⟩ := h
            simp only [allT, Bool.and_true, Bool.and_eq_true, decide_eq_true_eq] at hc
            rw [if_neg (hcond hc)]
            simp only
            rw [if_pos hm0]
          · rename_i hm0
            simp only [Option.some.injEq, Prod.mk.injEq] at h
            obtain ⟨rfl, rfl, rfl⟩ := h
            simp only [allT, Bool.and_true, Bool.and_eq_true, decide_eq_true_eq] at hc
            rw [if_neg (hcond ⟨hc.1, hc.2.1⟩)]
            simp only
            rw [if_neg hm0, if_pos (by rw [hc.2.2.1, hc.2.2.2]; rfl)]
        · split at h
          · rename_i hm0
            simp only [Option.some.injEq, Prod.mk.injEq] at h
            obtain ⟨rfl, rfl, rfl⟩ := h
            simp only [allT, Bool.and_true, Bool.and_eq_true, decide_eq_true_eq] at hc
            rw [if_neg (hcond hc)]
            simp only
            rw [if_pos hm0]
          · rename_i hm0
            split at h
            · rename_i hcc
              simp only [Option.some.injEq, Prod.mk.injEq] at h
              obtain ⟨rfl, rfl, rfl⟩ := h
              simp only [allT, Bool.and_true, Bool.and_eq_true, decide_eq_true_eq] at hc
              rw [if_neg (hcond ⟨hc.1, hc.2.1⟩)]
              simp only
              rw [if_neg hm0]
              have hq := hc.2.2.1
              unfold obApp at hq
              unfold obv
              split at hq
              · rename_i o ho
                split at hq
                · rename_i ho2
                  rw [ho]
                  simp only
                  rw [if_pos ⟨hcc, ho2.1, ho2.2, by simpa using hq, hc.2.2.2⟩]
                · cases hq
              · cases hq
            · cases h
        · cases h
    · cases h
  · cases h

theorem makeSliceD_ok {H H' : Hp} {t : TypeId} {l k v : T} {c : List Bool} (h : makeSliceD P H t l k = some (v, H', c)) (hc : allT c = true) : makeSliceT P H t l k = some (v, H') := by
  unfold makeSliceD at h
  unfold makeSliceT
  split at h
  · rename_i e n m hd
    split at h
    · rename_i sz bytes z hs hb hz
      split at h
      · rename_i hcc
        simp only [Option.some.injEq, Prod.mk.injEq] at h
        obtain ⟨rfl, rfl, rfl⟩ := h
        simp only [allT, Bool.and_true, Bool.and_eq_true, decide_eq_true_eq] at hc
        rw [hd]
        simp only
        rw [hs, hb, hz]
        simp only
        rw [if_pos ⟨hcc.1, hcc.2, hc.1, hc.2.1, hc.2.2.1, hc.2.2.2⟩]
      · cases h
    · cases h
  · cases h

theorem storeD_ok {H H' : Hp} {t : TypeId} {p x : T} {c : List Bool} (h : storeD P H t p x = some (H', c)) (hc : allT c = true) : storeT P H t p x = some H' := by
  unfold storeD at h
  unfold storeT
  split at h
  · split at h
    · rename_i n hn
      simp only [Option.some.injEq, Prod.mk.injEq] at h
      obtain ⟨rfl, rfl⟩ := h
      simp only [allT, Bool.and_true, Bool.and_eq_true, decide_eq_true_eq] at hc
      have hq := hc.2.1
      unfold obIn at hq
      unfold obv
      simp only
      split at hq
      · rename_i o ho
        rw [hn, ho]
        simp only
        rw [if_pos ⟨hc.1, by simpa using hq, hc.2.2⟩]
      · cases hq
    · cases h
  · cases h

theorem effD_ok {H H' : Hp} {fr : List T} {o : Oper} {v : T} {c : List Bool} (h : effD P D F H fr o = some (v, H', c)) (hc : allT c = true) : effT P D.env F H fr o = some (v, H') := by
  obtain ⟨dst, op, type, pos, after, guard⟩ := o
  cases op <;> simp only [effD] at h
  case store t p x =>
    simp only [effT]
    split at h
    · rename_i q y hq hy
      simp only [Ed.env]
      rw [hq, hy]
      simp only
      split at h
      · rename_i H1 c1 hs
        simp only [Option.some.injEq, Prod.mk.injEq] at h
        obtain ⟨rfl, rfl, rfl⟩ := h
        rw [storeD_ok hs hc]
      · cases h
    · cases h
  case makeSlice t l k =>
    simp only [effT]
    split at h
    · rename_i q y hq hy
      simp only [Ed.env]
      rw [hq, hy]
      exact makeSliceD_ok h hc
    · cases h
  case call cl =>
    obtain ⟨callee, args, tys⟩ := cl
    simp only at h
    split at h
    · simp only [effT]
      split at h
      · rename_i s x t0 t1 hargs htys
        split at h
        · rename_i p q hp hq
          rw [hargs, htys]
          simp only [Ed.env]
          rw [hp, hq]
          exact appendD_ok h hc
        · cases h
      · cases h
    · have h' := tagH_ok h
      simp only [effT] at h' ⊢
      exact h'
  all_goals exact tagH_ok h

theorem guardD_ok {ops : Array Oper} {fr : List T} {o : Oper} {ds log ds' log' : List Bool} {b : Bool} (h : guardD ops fr o ds log = .ok b ds' log') (hl : allT log' = true) : wantedT ops fr o = b ∧ allT log = true := by
  unfold guardD at h
  simp only [nthO_eq] at h
  unfold wantedT yieldedT
  split at h
  · rename_i hg
    rw [hg]
    cases h
    exact ⟨rfl, hl⟩
  · rename_i j want hg
    rw [hg]
    simp only
    split at h
    · rename_i t ht
      rw [ht]
      simp only
      split at h
      · cases h
      · rename_i d ds1
        cases h
        simp only [allT, Bool.and_eq_true] at hl
        refine ⟨?_, hl.2⟩
        have h1 := hl.1
        cases d <;> cases t <;> simp at h1 ⊢
    · rename_i hne
      cases h
      refine ⟨?_, hl⟩
      split
      · rename_i t ht; exact absurd ht (hne t)
      · rfl


theorem pureD_ok {own : Bool} {H : Hp} {fr : List T} {o : Oper} {ds log ds' log' : List Bool} {q : Option T} (h : pureD P D own H fr o ds log = .ok q ds' log') (hl : allT log' = true) : evalP P D.env own H fr o = q ∧ allT log = true := by
  unfold pureD at h
  split at h
  · rename_i c a b ho
    split at h
    · rename_i t ht
      split at h
      · cases h
      · rename_i d ds1
        split at h
        · rename_i v hv
          cases h
          simp only [allT, Bool.and_eq_true] at hl
          refine ⟨?_, hl.2⟩
          simp only [evalP, ho, Ed.env]
          rw [ht]
          simp only
          have h1 := hl.1
          cases d with
          | true => simp only [if_true] at h1 hv; rw [h1]; simpa using hv
          | false =>
            simp only [Bool.false_eq_true, if_false, Bool.not_eq_true'] at h1 hv
            rw [h1]; simpa using hv
        · cases h
    · cases h
  · rename_i t x ho
    split at h
    · rename_i l off hx
      split at h
      · cases h
      · rename_i d ds1
        have hload : ∀ y, (obv H l).cells.getD off undefT = y → obIn H l (off + 1) = true → decide (aggT P t = some false) = true → evalP P D.env true H fr o = some y := by
          intro y hy h1 h2
          simp only [evalP, ho, Ed.env]
          rw [hx]
          simp only [decide_eq_true_eq] at h2
          simp only [loadT, cellsAt]
          unfold obIn at h1
          unfold obv at hy
          split at h1
          · rename_i ob hob
            rw [hob] at hy ⊢
            simp only [decide_eq_true_eq] at h1
            simp only [partT, h2]
            simp only at hy
            rw [← hy, List.getD_eq_getElem?_getD, List.getElem?_eq_getElem (by omega)]
            rfl
          · cases h1
        split at h
        · cases h
          simp only [allT, Bool.and_eq_true] at hl
          refine ⟨hload _ ?_ hl.2.1 hl.2.2.1, hl.2.2.2⟩
          have := hl.1
          generalize (obv H l).cells.getD off undefT = y at this
          cases y <;> simp [isNils] at this
          rfl
        · cases h
          simp only [allT, Bool.and_eq_true] at hl
          refine ⟨hload _ ?_ hl.2.1 hl.2.2.1, hl.2.2.2⟩
          have := hl.1
          generalize (obv H l).cells.getD off undefT = y at this ⊢
          unfold isOsl1 at this
          split at this
          · rfl
          · cases this
    · split at h
      · rename_i v c hv
        cases h
        rw [allT_append, Bool.and_eq_true] at hl
        exact ⟨evalPD_ok hv hl.1, hl.2⟩
      · rename_i hv
        split at h
        · rename_i hk
          cases h
          exact ⟨evalPD_none hv hk, hl⟩
        · cases h
  · split at h
    · rename_i v c hv
      cases h
      rw [allT_append, Bool.and_eq_true] at hl
      exact ⟨evalPD_ok hv hl.1, hl.2⟩
    · rename_i hv
      split at h
      · rename_i hk
        cases h
        exact ⟨evalPD_none hv hk, hl⟩
      · cases h

theorem pureD_none {own : Bool} {H : Hp} {fr : List T} {o : Oper} {ds log ds' log' : List Bool} (h : pureD P D own H fr o ds log = .ok none ds' log') : evalP P D.env own H fr o = none := by
  unfold pureD at h
  split at h
  · split at h
    · split at h
      · cases h
      · split at h <;> cases h
    · cases h
  · split at h
    · split at h
      · cases h
      · split at h <;> cases h
    · split at h
      · cases h
      · rename_i hv
        split at h
        · rename_i hk; exact evalPD_none hv hk
        · cases h
  · split at h
    · cases h
    · rename_i hv
      split at h
      · rename_i hk; exact evalPD_none hv hk
      · cases h
end
end Go.Ps

/- Steps, regions and code along one way. -/
namespace Go.Ps

section
variable {P : Program} {D : Ed} {F : Fc}

theorem plainD_ok {ops : Array Oper} {s s' : Fx} {o : Oper} {ds log ds' log' : List Bool} (hp : plainD P D F ops s o ds log = .ok s' ds' log') (hl : allT log' = true) : plainE P D.env F ops s o = some s' ∧ allT log = true := by
  unfold plainD at hp
  simp only [putF_eq, setF_eq] at hp
  unfold plainE
  split at hp
  · rename_i ds1 log1 hg
    split at hp
    · rename_i v ds2 log2 hv
      cases hp
      obtain ⟨h1, h2⟩ := pureD_ok hv hl
      obtain ⟨hw, hlog⟩ := guardD_ok hg h2
      rw [if_pos hw, h1]
      exact ⟨rfl, hlog⟩
    · cases hp
    · cases hp
    · rename_i ds2 log2 hv
      split at hp
      · rename_i d t hal
        rw [hal]
        simp only
        split at hp
        · cases hp
        · rename_i hpn
          split at hp
          · rename_i n z hn hz
            split at hp
            · rename_i hcc
              cases hp
              obtain ⟨h1, h2⟩ := pureD_ok hv hl
              obtain ⟨hw, hlog⟩ := guardD_ok hg h2
              rw [if_pos hw, h1]
              simp only
              rw [if_neg hpn, hn, hz]
              simp only
              rw [if_pos hcc]
              exact ⟨rfl, hlog⟩
            · cases hp
          · cases hp
      · rename_i hal
        rw [hal]
        simp only
        split at hp
        · rename_i v H1 c hef
          cases hp
          rw [allT_append, Bool.and_eq_true] at hl
          obtain ⟨h1, h2⟩ := pureD_ok hv hl.2
          obtain ⟨hw, hlog⟩ := guardD_ok hg h2
          rw [if_pos hw, h1, effD_ok hef hl.1]
          exact ⟨rfl, hlog⟩
        · cases hp
  · rename_i ds1 log1 hg
    cases hp
    obtain ⟨hw, hlog⟩ := guardD_ok hg hl
    rw [if_neg (by simp [hw])]
    exact ⟨rfl, hlog⟩
  · cases hp
  · cases hp

theorem stepD_ok {ops : Array Oper} {s s' : Fx} {o : Oper} {ds log ds' log' : List Bool} (h : stepD P D F ops s o ds log = .ok s' ds' log') (hl : allT log' = true) : stepE P D.env F ops s o = some s' ∧ allT log = true := by
  unfold stepD at h
  simp only [setF_eq] at h
  unfold stepE
  split at h
  · rename_i hpn
    rw [hpn]
    exact plainD_ok h hl
  · rename_i d t hpn
    rw [hpn]
    simp only
    split at h
    · rename_i t' d' x ho hd hgd
      rw [ho, hd, hgd]
      simp only
      split at h
      · rename_i e
        rw [if_pos e]
        split at h
        · rename_i hc
          rw [if_pos hc]
          split at h
          · rename_i y n hy hn
            cases h
            simp only [allT, Bool.and_eq_true, decide_eq_true_eq] at hl
            simp only [Ed.env]
            rw [hy, hn]
            simp only
            rw [if_pos ⟨hl.1, hl.2.1⟩]
            exact ⟨rfl, hl.2.2⟩
          · cases h
        · cases h
      · rename_i e
        rw [if_neg e]
        split at h
        · cases h
        · rename_i ht
          rw [if_neg ht]
          exact plainD_ok h hl
    · rename_i q
      split at h
      · cases h
      · rename_i ht
        have hp := plainD_ok h hl
        split
        · rename_i t' d' x ho hd hgd
          exact (q t' d' x ho hd hgd).elim
        · rw [if_neg ht]; exact hp

theorem seqD_ok {ops : Array Oper} : ∀ {l : List Oper} {s s' : Fx} {ds log ds' log' : List Bool}, evalSeqD P D F ops l s ds log = .ok s' ds' log' → allT log' = true → evalSeq P D.env F ops l s = some s' ∧ allT log = true
  | [], s, s', ds, log, ds', log', h, hl => by
    simp only [evalSeqD] at h
    cases h
    exact ⟨rfl, hl⟩
  | o :: l, s, s', ds, log, ds', log', h, hl => by
    simp only [evalSeqD] at h
    split at h
    · rename_i s1 ds1 log1 hs
      obtain ⟨h1, h2⟩ := seqD_ok h hl
      obtain ⟨h3, h4⟩ := stepD_ok hs h2
      exact ⟨by simp only [evalSeq, h3, h1], h4⟩
    · cases h
    · cases h

theorem drawD_ok {ops : Array Oper} : ∀ {l : List Oper} {m : Nat} {s s' : Fx} {ds log ds' log' : List Bool}, evalDrawD P D F ops l m s ds log = .ok s' ds' log' → allT log' = true → evalDraw P D.env F ops l m s = some s' ∧ allT log = true
  | [], m, s, s', ds, log, ds', log', h, hl => by
    simp only [evalDrawD] at h
    split at h
    · rename_i hp; cases h; exact ⟨by simp only [evalDraw, hp], hl⟩
    · cases h
  | o :: l, m, s, s', ds, log, ds', log', h, hl => by
    simp only [evalDrawD, putF_eq, setF_eq] at h
    simp only [evalDraw]
    split at h
    · rename_i hhit
      rw [if_pos hhit]
      split at h
      · rename_i hc
        rw [if_pos hc]
        exact seqD_ok h hl
      · cases h
    · rename_i hhit
      rw [if_neg hhit]
      split at h
      · cases h
      · rename_i hdst
        rw [if_neg hdst]
        split at h
        · rename_i ds1 log1 hg
          split at h
          · rename_i v ds2 log2 hv
            obtain ⟨h1, h2⟩ := drawD_ok h hl
            obtain ⟨h3, h4⟩ := pureD_ok hv h2
            obtain ⟨hw, hlog⟩ := guardD_ok hg h4
            rw [if_pos hw, h3]
            exact ⟨h1, hlog⟩
          · cases h
          · cases h
          · rename_i ds2 log2 hv
            split at h
            · rename_i d t hal
              rw [hal]
              simp only
              split at h
              · cases h
              · rename_i hpn
                split at h
                · rename_i n z hn hz
                  split at h
                  · rename_i hcc
                    obtain ⟨h1, h2⟩ := drawD_ok h hl
                    obtain ⟨h3, h4⟩ := pureD_ok hv h2
                    obtain ⟨hw, hlog⟩ := guardD_ok hg h4
                    rw [if_pos hw, h3]
                    simp only
                    rw [if_neg hpn, hn, hz]
                    simp only
                    rw [if_pos hcc]
                    exact ⟨h1, hlog⟩
                  · cases h
                · cases h
            · rename_i hal
              rw [hal]
              simp only
              split at h
              · rename_i hc
                rw [Bool.and_eq_true] at hc
                obtain ⟨h1, h2⟩ := seqD_ok h hl
                refine ⟨?_, h2⟩
                have hgn : o.guard = none := by simpa using hc.1
                have hw : wantedT ops s.fr o = true := by simp [wantedT, hgn]
                have hnone : evalP P D.env (ownD F o) s.H s.fr o = none := by
                  have hg' : guardD ops s.fr o ds log = .ok true ds log := by simp [guardD, hgn]
                  rw [hg'] at hg
                  cases hg
                  exact pureD_none hv
                rw [if_pos hw, hnone, if_pos hc.2]; exact h1
              · cases h
        · rename_i ds1 log1 hg
          obtain ⟨h1, h2⟩ := drawD_ok h hl
          obtain ⟨hw, hlog⟩ := guardD_ok hg h2
          rw [if_neg (by simp [hw])]
          exact ⟨h1, hlog⟩
        · cases h
        · cases h

theorem codeD_ok (n : Nat) : ∀ {c : Code} {fr fr' : List T} {H H' : Hp} {x : X} {ds log ds' log' : List Bool}, evalCodeD P D F c fr H ds log = .ok (x, fr', H') ds' log' → allT log' = true → evalCode P D.env F n c fr H = some (x, fr', H') ∧ allT log = true := by
  intro c
  induction c with
  | skip => intro fr fr' H H' x ds log ds' log' h hl; simp only [evalCodeD] at h; cases h; exact ⟨rfl, hl⟩
  | label l => intro fr fr' H H' x ds log ds' log' h hl; simp only [evalCodeD] at h; cases h; exact ⟨rfl, hl⟩
  | exit id => intro fr fr' H H' x ds log ds' log' h hl; simp only [evalCodeD] at h; cases h; exact ⟨rfl, hl⟩
  | ret => intro fr fr' H H' x ds log ds' log' h hl; simp only [evalCodeD] at h; cases h; exact ⟨rfl, hl⟩
  | region id ops draw =>
    intro fr fr' H H' x ds log ds' log' h hl
    simp only [evalCodeD] at h
    simp only [evalCode]
    split at h
    · rename_i f1 h1 ds1 log1 hr
      cases h
      cases draw with
      | false =>
        simp only [Bool.false_eq_true, if_false] at hr ⊢
        obtain ⟨a, b⟩ := seqD_ok hr hl
        rw [a]; exact ⟨rfl, b⟩
      | true =>
        simp only [if_true] at hr ⊢
        obtain ⟨a, b⟩ := drawD_ok hr hl
        rw [a]; exact ⟨rfl, b⟩
    · cases h
    · cases h
    · cases h
  | seq c1 c2 ih1 ih2 =>
    intro fr fr' H H' x ds log ds' log' h hl
    simp only [evalCodeD] at h
    simp only [evalCode]
    split at h
    · rename_i f1 h1 ds1 log1 hr
      obtain ⟨a, b⟩ := ih2 h hl
      obtain ⟨a1, b1⟩ := ih1 hr b
      rw [a1]; exact ⟨a, b1⟩
    · rename_i hr
      obtain ⟨a1, b1⟩ := ih1 h hl
      rw [a1]
      cases x with
      | normal => exact absurd h (hr _ _ _ _)
      | exit id => exact ⟨rfl, b1⟩
      | ret => exact ⟨rfl, b1⟩
  | cond o c1 c2 ih1 ih2 =>
    intro fr fr' H H' x ds log ds' log' h hl
    simp only [evalCodeD] at h
    simp only [evalCode, Ed.env]
    split at h
    · rename_i t ht
      rw [ht]
      simp only
      split at h
      · cases h
      · rename_i d ds1
        split at h
        · obtain ⟨a, b⟩ := ih1 h hl
          simp only [allT, Bool.and_eq_true] at b
          rw [if_pos b.1]; exact ⟨a, b.2⟩
        · obtain ⟨a, b⟩ := ih2 h hl
          simp only [allT, Bool.and_eq_true, Bool.not_eq_true'] at b
          rw [if_neg (by simp [b.1])]; exact ⟨a, b.2⟩
    · cases h
  | block id c ih =>
    intro fr fr' H H' x ds log ds' log' h hl
    simp only [evalCodeD] at h
    simp only [evalCode]
    split at h
    · rename_i id' f1 h1 ds1 log1 hr
      split at h
      · rename_i e
        cases h
        obtain ⟨a, b⟩ := ih hr hl
        rw [a]; simp only; rw [if_pos e]; exact ⟨rfl, b⟩
      · rename_i e
        cases h
        obtain ⟨a, b⟩ := ih hr hl
        rw [a]; simp only; rw [if_neg e]; exact ⟨rfl, b⟩
    · rename_i hr
      obtain ⟨a, b⟩ := ih h hl
      rw [a]
      cases x with
      | normal => exact ⟨rfl, b⟩
      | exit id' => exact absurd h (hr _ _ _ _ _)
      | ret => exact ⟨rfl, b⟩
  | scope c ih =>
    intro fr fr' H H' x ds log ds' log' h hl
    simp only [evalCodeD] at h
    simp only [evalCode]
    exact ih h hl
  | _ => intro fr fr' H H' x ds log ds' log' h; simp [evalCodeD] at h
end
end Go.Ps

/- Triples over trees: code with loops. -/
namespace Go.Ps
noncomputable section

/-- From this frame and heap the code comes to an exit, a frame and a heap of which Q holds. -/
def Good (P : Program) (E : Env) (c : Code) (fr : List T) (H : Hp) (Q : X → List T → Hp → Prop) : Prop :=
  ∀ (g0 g : G) (H0 : Hp) (a : Act), CInv E g0 H0 g a fr H → ∀ (R : Exit → Act → World → Prop), (∀ x fr' H' a' g', Q x fr' H' → CInv E g0 H0 g' a' fr' H' → R x.exit_ a' g'.w) → c.wp P R a g.w

def exitThen (N : List T → Hp → Prop) (Q : X → List T → Hp → Prop) : X → List T → Hp → Prop
  | .normal, fr, H => N fr H
  | x, fr, H => Q x fr H

def exitBlock (id : Nat) (Q : X → List T → Hp → Prop) : X → List T → Hp → Prop
  | .exit id', fr, H => if id' = id then Q .normal fr H else Q (.exit id') fr H
  | x, fr, H => Q x fr H

section
variable {P : Program} {E : Env} {c : Code} {fr : List T} {H : Hp} {Q : X → List T → Hp → Prop}

theorem Good.mono {Q' : X → List T → Hp → Prop} (h : Good P E c fr H Q) (hq : ∀ x fr' H', Q x fr' H' → Q' x fr' H') : Good P E c fr H Q' :=
  fun g0 g H0 a hc R hR => h g0 g H0 a hc R (fun x fr' H' a' g' hQ => hR x fr' H' a' g' (hq x fr' H' hQ))

theorem good_seq {c1 c2 : Code} (h : Good P E c1 fr H (exitThen (fun fr' H' => Good P E c2 fr' H' Q) Q)) : Good P E (.seq c1 c2) fr H Q := by
  intro g0 g H0 a hc R hR
  refine wp_seq (h g0 g H0 a hc _ (fun x fr' H' a' g' hQ hc' => ?_))
  cases x with
  | normal => exact hQ g0 g' H0 a' hc' R hR
  | exit id => exact hR _ _ _ _ _ hQ hc'
  | ret => exact hR _ _ _ _ _ hQ hc'

theorem good_block {id : Nat} (h : Good P E c fr H (exitBlock id Q)) : Good P E (.block id c) fr H Q := by
  intro g0 g H0 a hc R hR
  refine wp_block (h g0 g H0 a hc _ (fun x fr' H' a' g' hQ hc' => ?_))
  cases x with
  | normal => exact hR _ _ _ _ _ hQ hc'
  | exit id' =>
    simp only [exitBlock] at hQ
    simp only [X.exit_, Exit.inBlock]
    split at hQ
    · rename_i e; rw [if_pos e]; exact hR _ _ _ _ _ hQ hc'
    · rename_i e; rw [if_neg e]; exact hR _ _ _ _ _ hQ hc'
  | ret => exact hR _ _ _ _ _ hQ hc'

theorem good_scope (h : Good P E c fr H Q) : Good P E (.scope c) fr H Q := by
  intro g0 g H0 a hc R hR
  refine wp_scope_straight (h g0 g H0 a hc _ (fun x fr' H' a' g' hQ hc' => ?_))
  cases x with
  | normal => exact hR _ _ _ _ _ hQ hc'
  | exit id => exact hR _ _ _ _ _ hQ hc'
  | ret => exact hR _ _ _ _ _ hQ hc'

theorem good_cond {o : Operand} {c1 c2 : Code} {t : Bool} (ho : evalT E.gl fr o = some (.bool t)) (h1 : t = true → Good P E c1 fr H Q) (h2 : t = false → Good P E c2 fr H Q) : Good P E (.cond o c1 c2) fr H Q := by
  intro g0 g H0 a hc R hR
  have hr := (RdX.of hc.fr none).eval hc.gl (fun _ _ => by simp) ho
  refine wp_cond hr.inv_bool ?_
  cases t with
  | true => exact h1 rfl g0 g H0 a hc R hR
  | false => exact h2 rfl g0 g H0 a hc R hR

theorem rounds_more {R : Exit → Act → World → Prop} : ∀ (k : Nat) (a : Act) (w : World), Code.rounds P c R k a w → Code.rounds P c R (k + 1) a w
  | 0, _, _, h => h.elim
  | k + 1, a, w, h => by
    rw [rounds_succ] at h ⊢
    refine wp_mono h fun e a' w' q => ?_
    cases e with
    | normal => exact rounds_more k a' w' q
    | _ => exact q

theorem rounds_le {R : Exit → Act → World → Prop} {k m : Nat} (hkm : k ≤ m) {a : Act} {w : World} (h : Code.rounds P c R k a w) : Code.rounds P c R m a w := by
  induction m with
  | zero => have : k = 0 := by omega
            subst this; exact h
  | succ m ih =>
    rcases Nat.eq_or_lt_of_le hkm with e | hlt
    · exact e ▸ h
    · exact rounds_more m a w (ih (by omega))

theorem good_loop (I : Nat → List T → Hp → Prop) (hI : ∀ n fr H, I n fr H → Good P E c fr H (exitThen (fun fr' H' => ∃ m, m < n ∧ I m fr' H') Q)) : ∀ n fr H, I n fr H → Good P E (.loop c) fr H Q := by
  intro n fr H hi g0 g H0 a hc R hR
  refine wp_loop_rounds (n + 1) ?_
  have key : ∀ n fr H a g, I n fr H → CInv E g0 H0 g a fr H → Code.rounds P c R (n + 1) a g.w := by
    intro n
    induction n using Nat.strongRecOn with
    | _ n ih =>
      intro fr H a g hi hc
      rw [rounds_succ]
      refine hI n fr H hi g0 g H0 a hc _ (fun x fr' H' a' g' hQ hc' => ?_)
      cases x with
      | normal =>
        obtain ⟨m, hm, him⟩ := hQ
        exact rounds_le (k := m + 1) (by omega) (ih m hm fr' H' a' g' him hc')
      | exit id => exact hR _ _ _ _ _ hQ hc'
      | ret => exact hR _ _ _ _ _ hQ hc'
  exact key n fr H a g hi hc

def resultT (P : Program) (fn : Func) (fr : List T) (H : Hp) : Option T :=
  match resAll P fr H fn.results.toList with
  | some [t] => some t
  | some ts => some (.tup ts)
  | none => none

theorem result_ok {fn : Func} {g0 g : G} {H0 : Hp} {a : Act} (hc : CInv E g0 H0 g a fr H) {r : T} (hr : resultT P fn fr H = some r) : ∃ v, (results fn a.tmps).run P g.w = .ok v g.w ∧ Rd g v r := by
  unfold resultT at hr
  split at hr
  · rename_i t ht
    cases hr
    obtain ⟨us, h1, h2⟩ := resAll_ok (P := P) hc.st hc.fr ht
    match us, h2 with
    | [u], h2 =>
      refine ⟨u, ?_, (h2.inv_cons).1⟩
      have : fn.results = fn.results.toList.toArray := by simp
      rw [results_eq, this, List.mapM_toArray]
      simp only [Sem.run_bind, Sem.run_map]
      rw [h1]
      simp
    | [], h2 => simp [RdL] at h2
    | _ :: _ :: _, h2 => simp [RdL] at h2
  · rename_i ts' hne ht
    cases hr
    obtain ⟨us, h1, h2⟩ := resAll_ok (P := P) hc.st hc.fr ht
    refine ⟨.tuple us.toArray, ?_, Rd.mk_tup h2⟩
    have : fn.results = fn.results.toList.toArray := by simp
    rw [results_eq, this, List.mapM_toArray]
    simp only [Sem.run_bind, Sem.run_map]
    rw [h1]
    have hl : us.length ≠ 1 := fun q => by
      rw [h2.1] at q
      obtain ⟨t, rfl⟩ := List.length_eq_one_iff.1 q
      exact hne t rfl
    simp [hl]
  · cases hr

/-- The end of a body: it returns r. -/
def Ends (P : Program) (fn : Func) (k : Nat) (r : T) (x : X) (fr : List T) (H : Hp) : Prop := (x = .normal ∨ x = .ret) ∧ ∃ q, resultT P fn fr H = some q ∧ frzT k H q = some r

end

/-- A new contract beside the old ones. -/
def pdAdd (f : FuncId) (spec : List T → Option (T × List Bool)) (pd : Hp → FuncId → List T → Option (T × List Bool)) : Hp → FuncId → List T → Option (T × List Bool) := fun H g ts => if g = f then spec ts else pd H g ts

theorem pdAdd_ok {P : Program} {gl : Nat → Option T} {f : FuncId} {spec : List T → Option (T × List Bool)} {pd : Hp → FuncId → List T → Option (T × List Bool)} (h : PeOk P gl (Ed.env ⟨gl, pd⟩).pe)
    (hs : ∀ ts r cs, spec ts = some (r, cs) → allT cs = true → PureFn P gl f ts r) : PeOk P gl (Ed.env ⟨gl, pdAdd f spec pd⟩).pe := by
  intro H k ts r hr
  simp only [Ed.env, pdAdd] at hr
  by_cases e : k = f
  · subst e
    simp only [if_true] at hr
    split at hr
    · rename_i q cs hq
      split at hr
      · rename_i hc
        simp only [Option.some.injEq] at hr
        subst hr
        have := hs ts _ cs hq hc
        exact ⟨this.1, fun g vs hg hst => this.2 g vs hg ⟨H.next, hst.new⟩⟩
      · cases hr
    · cases hr
  · rw [if_neg e] at hr
    exact h H k ts r hr

theorem pdNone_ok {P : Program} {gl : Nat → Option T} : PeOk P gl (Ed.env ⟨gl, fun _ _ _ => none⟩).pe := fun H f ts r h => by simp [Ed.env] at h
theorem eeNone_ok {P : Program} {gl : Nat → Option T} : EeOk P gl (fun _ _ _ => none) := fun f ts H r H' h => by cases h

/-- A frame of which some slots are known: the list written out. -/
def ovl (kn : List (Nat × T)) (fr : List T) : Nat → Nat → List T
  | _, 0 => []
  | k, n + 1 => (match kn.lookup k with | some v => v | none => getT fr k) :: ovl kn fr (k + 1) n

theorem ovl_eq (kn : List (Nat × T)) (fr : List T) (hk : ∀ k v, kn.lookup k = some v → getT fr k = v) : ∀ (n k : Nat), k + n = fr.length → ovl kn fr k n = fr.drop k
  | 0, k, h => by simp [ovl]; omega
  | n + 1, k, h => by
    simp only [ovl]
    rw [ovl_eq kn fr hk n (k + 1) (by omega), List.drop_eq_getElem_cons (show k < fr.length by omega)]
    congr 1
    split
    · rename_i v hv
      have := hk k v hv
      rw [← this]
      rw [getT_eq]
      rw [List.getD_eq_getElem?_getD, List.getElem?_eq_getElem (by omega)]; rfl
    · rw [getT_eq]
      rw [List.getD_eq_getElem?_getD, List.getElem?_eq_getElem (by omega)]; rfl

end
end Go.Ps

/- Closed runs: callees evaluated in place. -/
namespace Go.Ps
noncomputable section

structure Xt where
  gl : Nat → Option T
  pe : FuncId → List T → Option T
  ee : FuncId → List T → Hp → Option (T × Hp)
  own : FuncId → Tmp → Bool
  pu : FuncId → Bool
  ef : FuncId → Bool
  n : Nat
  k : Nat

/-- A value that points nowhere. -/
def scal1 : T → Bool
  | .int .. | .bool _ | .str _ | .nilp | .nils | .nilf | .nili | .nilm => true
  | _ => false

def scal : T → Bool
  | .tup ts => ts.all scal1
  | .agg ts => ts.all scal1
  | t => scal1 t

/-- A call in place that leaves all memory alone but for what is new. -/
def pureT (P : Program) (E : Env) (F : Fc) (n k : Nat) (f : FuncId) (ts : List T) : Option T :=
  match evalFn P E F n f ts ⟨0, []⟩ with
  | some (q, H') => frzT k H' q
  | none => none

/-- The objects among the arguments are lent to the callee. -/
def lend (k : Nat) (pe : FuncId → List T → Option T) (H : Hp) (f : FuncId) (ts : List T) : Option T :=
  match mapO (frzT k ⟨0, []⟩) ts with
  | some ts' => pe f ts'
  | none => match mapO (frzT k H) ts with
    | some ts' => match pe f ts' with
      | some r => if scal r then some r else none
      | none => none
    | none => none

def runP (P : Program) (X : Xt) : Nat → (FuncId → List T → Option T) × (FuncId → List T → Hp → Option (T × Hp))
  | 0 => (X.pe, X.ee)
  | d + 1 =>
    (fun f ts => match X.pe f ts with
      | some r => some r
      | none => if X.pu f then pureT P ⟨X.gl, lend X.k (runP P X d).1⟩ ⟨X.own f, (runP P X d).2⟩ X.n X.k f ts else none,
     fun f ts H => match X.ee f ts H with
      | some r => some r
      | none => if X.ef f then evalFn P ⟨X.gl, lend X.k (runP P X d).1⟩ ⟨X.own f, (runP P X d).2⟩ X.n f ts H else none)

section
variable {P : Program}

/-- A ghost without objects. -/
def G.bare (g : G) : G := { w := g.w, S := g.S, al := fun _ => False, loc := g.loc, cp := g.cp }

/-- The package's variables hold no objects. -/
def GlFrz (gl : Nat → Option T) : Prop := ∀ k t, gl k = some t → ∃ n, frzT n ⟨0, []⟩ t = some t

/-- A tree without objects is what it is, whatever objects there are. -/
theorem frz_bare : ∀ (n : Nat) (N : Nat) (H : Hp) (t r : T), frzT n ⟨N, []⟩ t = some r → frzT n H t = some r := by
  intro n
  induction n with
  | zero => intro N H t r h; simp [frzT] at h
  | succ n ih =>
    intro N H
    have ihm : ∀ (ts rs : List T), mapO (frzT n ⟨N, []⟩) ts = some rs → mapO (frzT n H) ts = some rs := by
      intro ts
      induction ts with
      | nil => intro rs h; exact h
      | cons t ts iht =>
        intro rs h
        simp only [mapO] at h ⊢
        split at h
        · rename_i a ha
          split at h
          · rename_i b hb
            rw [ih N H _ _ ha, iht _ hb]; exact h
          · cases h
        · cases h
    intro t r h
    cases t <;> simp only [frzT] at h ⊢ <;> try exact h
    case ptr l off => simp [Hp.get, findOb] at h
    case osl l sz i len => simp [Hp.get, findOb] at h
    case ref x off =>
      split at h
      · rename_i y hy; rw [ih N H _ _ hy]; exact h
      · cases h
    case sl f xs =>
      split at h
      · rename_i y hy; rw [ihm _ _ hy]; exact h
      · cases h
    case fn f a c =>
      split at h
      · rename_i x y hx hy; rw [ihm _ _ hx, ihm _ _ hy]; exact h
      · cases h
    case iface t x =>
      split at h
      · rename_i y hy; rw [ih N H _ _ hy]; exact h
      · cases h
    case agg cs =>
      split at h
      · rename_i y hy; rw [ihm _ _ hy]; exact h
      · cases h
    case tup cs =>
      split at h
      · rename_i y hy; rw [ihm _ _ hy]; exact h
      · cases h

theorem frzL_ok {g g0 : G} {H : Hp} (hs : St g H) {k : Nat} {ts ts' : List T} (h : mapO (frzT k H) ts = some ts') {vs : List Value} (hv : RdL g vs ts) : RdL (g.frz H g0) vs ts' := by
  obtain ⟨a1, a2⟩ := mapO_at h
  refine ⟨by rw [hv.1, a1], fun j v c hvj hc => ?_⟩
  obtain ⟨t, ht, hf⟩ := a2 j c hc
  exact frz_ok hs k t c v hf (hv.2 j v t hvj ht)

theorem St.bare {g : G} {H : Hp} (hs : St g H) : St g ⟨H.next, []⟩ := ⟨fun l o ho => by simp [Hp.get, findOb] at ho, fun l l' o o' ho => by simp [Hp.get, findOb] at ho, hs.new⟩

theorem frz_nil (g g0 : G) (N : Nat) : g.frz ⟨N, []⟩ g0 = { w := g.w, S := g.S, al := g0.al, loc := g0.loc, cp := g0.cp } := by
  simp only [G.frz, Hp.get, findOb]
  congr 1
  funext b
  simp

theorem GlOk.frz {gl : Nat → Option T} (hz : GlFrz gl) {g g0 : G} {H : Hp} (hs : St g H) (h : GlOk gl g) : GlOk gl (g.frz H g0) := fun j t ht => by
  obtain ⟨n, hn⟩ := hz j t ht
  obtain ⟨h1, h2, h3⟩ := h j t ht
  exact ⟨frz_ok hs n t t _ (frz_bare n 0 H t t hn) h1, .inl h2, h3⟩

/-- Contracts on trees that hold no objects. -/
def PcOk (P : Program) (gl : Nat → Option T) (pe : FuncId → List T → Option T) : Prop :=
  ∀ f ts r, pe f ts = some r → okFn P f = true ∧ ∀ (g : G) (vs : List Value), Gok g → (∀ l, ¬ g.al l) → GlOk gl g → RdL g vs ts →
    Calls P f vs.toArray g.w fun e w' => ∃ v g', e = .returned v ∧ g'.w = w' ∧ PStep g g' ∧ Gok g' ∧ Rd g' v r

theorem scal1_rd {g g' : G} {v : Value} {t : T} (h : scal1 t = true) (hr : Rd g v t) : Rd g' v t := by
  cases hr <;> simp [scal1] at h <;> constructor

theorem scal_rd {g g' : G} {v : Value} {t : T} (h : scal t = true) (hr : Rd g v t) : Rd g' v t := by
  cases hr with
  | agg cs vs h1 h2 =>
    simp only [scal, List.all_eq_true] at h
    exact .agg cs vs h1 (fun j v c hv hc => scal1_rd (h c (List.mem_of_getElem? hc)) (h2 j v c hv hc))
  | tup cs vs h1 h2 =>
    simp only [scal, List.all_eq_true] at h
    exact .tup cs vs h1 (fun j v c hv hc => scal1_rd (h c (List.mem_of_getElem? hc)) (h2 j v c hv hc))
  | int k n => exact .int k n
  | bool b => exact .bool b
  | str s => exact .str s
  | nilp => exact .nilp
  | nils => exact .nils
  | nilf => exact .nilf
  | nili => exact .nili
  | nilm => exact .nilm
  | _ => simp [scal, scal1] at h

/-- A tree that is frozen holds no objects: it reads alike over a ghost with others. -/
theorem rd_frozen {g g' : G} (hw : g.w = g'.w) (hS : ∀ b, g.S b → g'.S b) (hal : ∀ l, ¬ g.al l) : ∀ {v : Value} {t : T}, Rd g v t → Rd g' v t := by
  intro v t hr
  have hc : ∀ (a : Addr) (v : Value), g.w.cell? a = some v → g'.w.cell? a = some v := fun a v h => by rw [← hw]; exact h
  induction hr with
  | int k n => exact .int k n
  | bool b => exact .bool b
  | str s => exact .str s
  | nilp => exact .nilp
  | ptr l off hl => exact absurd hl (hal l)
  | ref x off b o vs h1 hlen hcc _ ih => exact .ref x off b o vs (hS b h1) hlen (fun j v hv => hc _ _ (hcc j v hv)) ih
  | nils => exact .nils
  | slfn full f p => exact .slfn full f p
  | sl full xs sz b o cap vs h1 hsz h2 h3 h4 hlen hcc _ ih => exact .sl full xs sz b o cap vs (fun hx => hS b (h1 hx)) hsz h2 h3 h4 hlen (fun j v hv => hc _ _ (hcc j v hv)) ih
  | slf full n f sz b o cap vs h1 h2 h3 h4 h5 h6 h7 h8 => exact Rd.slf_keep hS (fun _ _ _ _ q => hc _ _ q) h1 h2 h3 h4 h5 h6 h7 h8
  | osl l sz i len b o cap hl => exact absurd hl (hal l)
  | nilf => exact .nilf
  | fn f a c vs us h1 _ h3 _ ih1 ih2 => exact .fn f a c vs us h1 ih1 h3 ih2
  | nili => exact .nili
  | iface t v x _ ih => exact .iface t v x ih
  | nilm => exact .nilm
  | agg cs vs h1 _ ih => exact .agg cs vs h1 ih
  | tup cs vs h1 _ ih => exact .tup cs vs h1 ih

theorem lend_ok {gl : Nat → Option T} {pe : FuncId → List T → Option T} {k : Nat} (hz : GlFrz gl) (h : PcOk P gl pe) : PeOk P gl (lend k pe) := by
  intro H f ts r hr
  unfold lend at hr
  split at hr
  · rename_i ts' hts
    obtain ⟨h1, h2⟩ := h f ts' r hr
    refine ⟨h1, fun g vs hg hs hgl hv => ?_⟩
    have hts1 : mapO (frzT k ⟨H.next, []⟩) ts = some ts' := by
      have : ∀ (ts ts' : List T), mapO (frzT k ⟨0, []⟩) ts = some ts' → mapO (frzT k ⟨H.next, []⟩) ts = some ts' := by
        intro ts
        induction ts with
        | nil => intro rs h; exact h
        | cons t ts iht =>
          intro rs h
          simp only [mapO] at h ⊢
          split at h
          · rename_i a ha
            split at h
            · rename_i b hb
              rw [frz_bare k 0 _ _ _ ha, iht _ hb]; exact h
            · cases h
          · cases h
      exact this ts ts' hts
    have hv' : RdL g.bare vs ts' := by
      have := frzL_ok (g0 := g.bare) hs.bare hts1 hv
      rw [frz_nil] at this
      exact this
    have hgl' : GlOk gl g.bare := by
      have := GlOk.frz (g0 := g.bare) hz hs.bare hgl
      rw [frz_nil] at this
      exact this
    refine (h2 g.bare vs hg (fun _ q => q) hgl' hv').mono fun e w' ⟨v, g', e1, e2, e3, e4, e5⟩ => ?_
    refine ⟨v, { w := g'.w, S := g'.S, al := g.al, loc := g.loc, cp := g.cp }, e1, e2, ⟨e3.os, e3.tape, e3.output, e3.size, e3.block, e3.sub, e3.fresh, rfl, rfl, rfl⟩, e4, ?_⟩
    exact rd_frozen (g := g') (g' := { w := g'.w, S := g'.S, al := g.al, loc := g.loc, cp := g.cp }) rfl (fun _ q => q) (by rw [e3.al]; exact fun _ q => q) e5
  · split at hr
    · rename_i ts' hts
      split at hr
      · rename_i r' hr'
        split at hr
        · rename_i hsc
          cases hr
          obtain ⟨h1, h2⟩ := h f ts' r hr'
          refine ⟨h1, fun g vs hg hs hgl hv => ?_⟩
          have hv' : RdL (g.frz H g.bare) vs ts' := frzL_ok hs hts hv
          have hgl' : GlOk gl (g.frz H g.bare) := GlOk.frz hz hs hgl
          have hg' : Gok (g.frz H g.bare) := by
            intro b hb
            rcases hb with hb | ⟨l, o, ho, rfl⟩
            · exact hg b hb
            · exact hs.lt ho
          refine (h2 (g.frz H g.bare) vs hg' (fun _ q => q) hgl' hv').mono fun e w' ⟨v, g', e1, e2, e3, e4, e5⟩ => ?_
          refine ⟨v, { w := g'.w, S := g.S, al := g.al, loc := g.loc, cp := g.cp }, e1, e2, ⟨e3.os, e3.tape, e3.output, e3.size, e3.block, fun _ q => q, fun _ q => .inl q, rfl, rfl, rfl⟩, fun b hb => Nat.lt_of_lt_of_le (hg b hb) e3.size, scal_rd hsc e5⟩
        · cases hr
      · cases hr
    · cases hr

theorem pureT_ok {E : Env} {F : Fc} (hm : P.follows .mixedOrders = true) (hE : PeOk P E.gl E.pe) (hF : EeOk P E.gl F.ee) {n k : Nat} {f : FuncId} (h2 : fnOk P f = true) {ts : List T} {r : T}
    (h : pureT P E F n k f ts = some r) (g : G) (vs : List Value) (hg : Gok g) (hal : ∀ l, ¬ g.al l) (hgl : GlOk E.gl g) (hv : RdL g vs ts) :
    Calls P f vs.toArray g.w fun e w' => ∃ v g', e = .returned v ∧ g'.w = w' ∧ PStep g g' ∧ Gok g' ∧ Rd g' v r := by
  unfold pureT at h
  split at h
  · rename_i q H' he
    have hs : St g ⟨0, []⟩ := ⟨fun l o ho => by simp [Hp.get, findOb] at ho, fun l l' o o' ho => by simp [Hp.get, findOb] at ho, fun l _ => hal l⟩
    refine (fn_ok hm hE hF h2 he g vs hg hs hgl hv).mono fun e w' ⟨v, g', e1, e2, e3, e4, e5, e6⟩ => ?_
    refine ⟨v, g'.frz H' g, e1, e2, ?_, ?_, frz_ok e5 k q r v h e6⟩
    · refine ⟨e3.os, e3.tape, e3.output, e3.size, fun b hb => e3.block b hb (fun l o ho => by simp [Hp.get, findOb] at ho), fun b hb => .inl (e3.sub b hb), fun b hb => ?_, rfl, rfl, rfl⟩
      rcases hb with hb | ⟨l, o, ho, rfl⟩
      · rcases e3.fresh b hb with q | q | ⟨l, o, ho, _⟩
        · exact .inl q
        · exact .inr q
        · simp [Hp.get, findOb] at ho
      · rcases e3.live l o ho with ⟨l0, o0, q, _⟩ | q
        · simp [Hp.get, findOb] at q
        · exact .inr q
    · intro b hb
      rcases hb with hb | ⟨l, o, ho, rfl⟩
      · exact e4 b hb
      · exact e5.lt ho
  · cases h

/-- CALLEES IN PLACE: each answer is a contract. -/
theorem runP_ok {X : Xt} (hm : P.follows .mixedOrders = true) (hpu : ∀ f, X.pu f = true → okFn P f = true ∧ fnOk P f = true) (hef : ∀ f, X.ef f = true → okFn P f = true ∧ fnOk P f = true) (hz : GlFrz X.gl) (hE : PcOk P X.gl X.pe) (hF : EeOk P X.gl X.ee) :
    ∀ d, PcOk P X.gl (runP P X d).1 ∧ EeOk P X.gl (runP P X d).2 := by
  intro d
  induction d with
  | zero => exact ⟨hE, hF⟩
  | succ d ih =>
    have hl := lend_ok (k := X.k) hz ih.1
    refine ⟨fun f ts r h => ?_, fun f ts H r H' h => ?_⟩
    · simp only [runP] at h
      split at h
      · rename_i q hq; cases h; exact hE f ts _ hq
      · split at h
        · rename_i ho
          exact ⟨(hpu f ho).1, fun g vs hg hal hgl hv => pureT_ok (E := ⟨X.gl, lend X.k (runP P X d).1⟩) (F := ⟨X.own f, (runP P X d).2⟩) hm hl ih.2 (hpu f ho).2 h g vs hg hal hgl hv⟩
        · cases h
    · simp only [runP] at h
      split at h
      · rename_i q hq; cases h; exact hF f ts H _ _ hq
      · split at h
        · rename_i ho
          exact ⟨(hef f ho).1, fun g vs hg hs hgl hv => fn_ok (E := ⟨X.gl, lend X.k (runP P X d).1⟩) (F := ⟨X.own f, (runP P X d).2⟩) hm hl ih.2 (hef f ho).2 h g vs hg hs hgl hv⟩
        · cases h
end
end
end Go.Ps

/- What the library's functions on the road compute, over trees. -/
namespace Go.Ps
noncomputable section

/-- The decimal digits, with as many rounds as there may be digits. -/
def digK : Nat → Nat → List UInt8 → List UInt8
  | 0, _, acc => acc
  | k + 1, u, acc => if u < 10 then UInt8.ofNat (48 + u) :: acc else digK k (u / 10) (UInt8.ofNat (48 + u % 10) :: acc)

def itoaK (n : Int) : List UInt8 := if n < 0 then 45 :: digK 20 n.natAbs [] else digK 20 n.toNat []

def itoaX : List T → Option T
  | [.int .i64 n] => if -9223372036854775808 ≤ n ∧ n ≤ 9223372036854775807 then some (.str (itoaK n)) else none
  | _ => none

def strsX : List T → Option (List (List UInt8))
  | [] => some []
  | .str s :: r => match strsX r with
    | some l => some (s :: l)
    | none => none
  | _ => none

def joinL (sep : List UInt8) : List (List UInt8) → List UInt8
  | [] => []
  | [x] => x
  | x :: y :: r => x ++ sep ++ joinL sep (y :: r)

def joinX : List T → Option T
  | [.nils, .str _] => some (.str [])
  | [.sl _ xs, .str sep] => match strsX xs with
    | some l => if (joinL sep l).length ≤ 140737488355328 ∧ l.length ≤ 140737488355328 then some (.str (joinL sep l)) else none
    | none => none
  | _ => none

def bytesX : List T → Option (List UInt8)
  | [] => some []
  | .int .u8 n :: r => match bytesX r with
    | some l => if 0 ≤ n ∧ n < 256 then some (UInt8.ofNat n.toNat :: l) else none
    | none => none
  | _ => none

def copyX (tB : TypeId) : List T → Hp → Option (T × Hp)
  | [.ptr l 0], H => match H.get l with
    | some o => match o.cells with
      | [.nilp, v] => if o.elem = tB ∧ o.sz = 0 then some (.tup [], H.put l { o with cells := [.ptr l 0, v] }) else none
      | [.ptr l' 0, _] => if l' = l ∧ o.elem = tB ∧ o.sz = 0 then some (.tup [], H) else none
      | _ => none
    | none => none
  | _, _ => none

def strX (tB tE : TypeId) : List T → Hp → Option (T × Hp)
  | [.ptr l 0], H => match H.get l with
    | some o => if o.elem = tB ∧ o.sz = 0 then match o.cells with
      | [_, .nils] => some (.str [], H)
      | [_, .osl l2 1 0 len] => match H.get l2 with
        | some o2 => if o2.elem = tE ∧ o2.sz = 1 ∧ o2.cells.length = len ∧ len ≠ 0 then match bytesX o2.cells with
          | some bs => some (.str bs, H.drop l2)
          | none => none
          else none
        | none => none
      | _ => none
      else none
    | none => none
  | _, _ => none

end
end Go.Ps

/- Contracts of the library's functions on the road, over trees. -/
namespace Go.Ps
open Go.Shelf Go.RowKit Go.Sort Go.Proofs

theorem pstep_below {g : G} {w' : World} (h : Below g.w.heap.size g.w w') : PStep g { g with w := w' } := ⟨h.os, h.tape, h.output, h.size, h.block, fun _ q => q, fun _ q => .inl q, rfl, rfl, rfl⟩

theorem gok_below {g : G} {w' : World} (hg : Gok g) (h : g.w.heap.size ≤ w'.heap.size) : Gok { g with w := w' } := fun b hb => Nat.lt_of_lt_of_le (hg b hb) h

theorem below_grow (w : World) (k : Nat) (os : Array Obj) : Below w.heap.size w (grow (w.drewN k) os) := by
  have h : (w.drewN k).heap = w.heap ∧ (w.drewN k).os = w.os ∧ (w.drewN k).tape = w.tape ∧ (w.drewN k).output = w.output := by
    refine ⟨?_, ?_, ?_, ?_⟩ <;> simp [World.drewN]
  refine ⟨h.2.1, h.2.2.1, h.2.2.2, by simp [grow], fun b hb => ?_⟩
  simp only [grow, h.1]
  rw [Array.getElem?_append_left hb]

theorem digK_eq : ∀ (k u : Nat) (acc : List UInt8), u < 10 ^ k → 0 < k → digK k u acc = Lib.decDigits u ++ acc
  | 0, _, _, _, h => absurd h (by decide)
  | k + 1, u, acc, hu, _ => by
    rw [digK, Lib.decDigits]
    by_cases h : u < 10
    · simp [h]
    · rw [if_neg h, dif_neg h]
      have hk : 0 < k := by
        rcases Nat.eq_zero_or_pos k with rfl | q
        · simp at hu; omega
        · exact q
      rw [digK_eq k (u / 10) _ (by rw [Nat.pow_succ] at hu; omega) hk]
      simp

theorem itoaK_eq (n : Int) (h0 : -9223372036854775808 ≤ n) (h1 : n ≤ 9223372036854775807) : itoaK n = Lib.itoa n := by
  unfold itoaK Lib.itoa
  have e : (10 : Nat) ^ 20 = 100000000000000000000 := by decide
  split
  · rw [digK_eq 20 _ _ (by rw [e]; omega) (by decide)]; simp
  · rw [digK_eq 20 _ _ (by rw [e]; omega) (by decide)]; simp

section
variable {P : Program} {ρ : Ren} {gl : Nat → Option T}

theorem str_inv {g : G} {v : Value} {s : List UInt8} (h : Rd g v (.str s)) : v = .string ⟨s.toArray⟩ := by
  generalize ht : T.str s = t at h
  cases h <;> cases ht
  simp

theorem itoa_pc (hok : okFn P (ρ.f 171) = true)
    (hc : ∀ (g : G), GlOk gl g → ∀ (n : Int), -9223372036854775808 ≤ n → n ≤ 9223372036854775807 → Calls P (ρ.f 171) #[.int .i64 n] g.w fun e w' => e = .returned (.string ⟨(Lib.itoa n).toArray⟩) ∧ ∃ k os, w' = grow (g.w.drewN k) os)
    (ts : List T) (r : T) (h : itoaX ts = some r) : PureFn P gl (ρ.f 171) ts r := by
  refine ⟨hok, fun g vs hg _ hgl hv => ?_⟩
  unfold itoaX at h
  split at h
  · rename_i n
    split at h
    · rename_i hb
      cases h
      match vs, hv with
      | [v], hv =>
        have h1 := (hv.inv_cons).1
        cases h1
        refine (hc g hgl n hb.1 hb.2).mono fun e w' ⟨he, k, os, hw⟩ => ?_
        subst hw
        refine ⟨_, { g with w := grow (g.w.drewN k) os }, he, rfl, pstep_below (below_grow _ _ _), gok_below hg (below_grow _ _ _).size, ?_⟩
        rw [itoaK_eq n hb.1 hb.2]
        have := Rd.str (g := { g with w := grow (g.w.drewN k) os }) ⟨(Lib.itoa n).toArray⟩
        simpa using this
      | [], hv => simp [RdL] at hv
      | _ :: _ :: _, hv => simp [RdL] at hv
    · cases h
  · cases h

theorem strsX_spec : ∀ {xs : List T} {l : List (List UInt8)}, strsX xs = some l → xs = l.map T.str
  | [], l, h => by simp [strsX] at h; subst h; rfl
  | x :: r, l, h => by
    cases x <;> simp only [strsX] at h <;> try cases h
    rename_i s
    split at h
    · rename_i l' hl'; cases h; simp [strsX_spec hl']
    · cases h

theorem joinL_eq (sep : List UInt8) : ∀ (l : List (List UInt8)), joinL sep l = Lib.join l sep
  | [] => rfl
  | [x] => by simp [joinL, Lib.join_one]
  | x :: y :: r => by
    rw [joinL, joinL_eq sep (y :: r)]
    simp [Lib.join, List.intercalate]

theorem flat_strs : ∀ (l : List (List UInt8)), (l.map T.str).flatMap T.cells = l.map T.str
  | [] => rfl
  | x :: r => by simp [List.flatMap_cons, T.cells, flat_strs r]

theorem join_pc (L : Lays.n156 P ρ) (X : Builder.Extra P ρ) (hok : okFn P (ρ.f 156) = true) (ts : List T) (r : T) (h : joinX ts = some r) : PureFn P gl (ρ.f 156) ts r := by
  refine ⟨hok, fun g vs hg _ hgl hv => ?_⟩
  unfold joinX at h
  split at h
  · rename_i sep
    cases h
    match vs, hv with
    | [v, u], hv =>
      have h1 := (hv.inv_cons).1
      have h2 := str_inv ((hv.inv_cons).2.inv_cons).1
      cases h1
      subst h2
      refine (Any.strings_Join_none L X none 0 _ g.w).mono fun e w' ⟨he, hw⟩ => ?_
      subst hw
      exact ⟨_, g, he, rfl, PStep.refl g, hg, by simpa using Rd.str (g := g) ⟨#[]⟩⟩
    | [], hv => simp [RdL] at hv
    | [_], hv => simp [RdL] at hv
    | _ :: _ :: _ :: _, hv => simp [RdL] at hv
  · rename_i full xs sep
    split at h
    · rename_i l hl
      split at h
      · rename_i hb
        cases h
        have hxs := strsX_spec hl
        match vs, hv with
        | [v, u], hv =>
          have h1 := (hv.inv_cons).1
          have h2 := str_inv ((hv.inv_cons).2.inv_cons).1
          subst h2
          cases h1 with
          | sl _ _ sz b o cap ws q1 q2 q3 q4 q5 q6 q7 q8 =>
            subst hxs
            have key : ∀ (j : Nat) (x : ByteArray), (l.map fun s => (⟨s.toArray⟩ : ByteArray))[j]? = some x → g.w.cell? ⟨b, o + j, none⟩ = some (.string x) := by
              intro j x hx
              rw [List.getElem?_map, Option.map_eq_some_iff] at hx
              obtain ⟨s, hs, rfl⟩ := hx
              have hne : l.map T.str ≠ [] := by
                intro e
                have : l = [] := by simpa using e
                subst this; simp at hs
              have hsz : sz = 1 := by
                cases l with
                | nil => simp at hs
                | cons a r => have := q2 (.str a) (by simp); simpa [T.cells] using this.symm
              subst hsz
              have hj : j < ws.length := by
                rw [q6]
                have := (List.getElem?_eq_some_iff.1 hs).1
                simpa using this
              have hwj : ws[j]? = some ws[j] := List.getElem?_eq_getElem hj
              have hr := q8 j _ (.str s) hwj (by rw [flat_strs, List.getElem?_map, hs]; rfl)
              have := str_inv hr
              rw [q7 j _ hwj, this]
            have hmap : (l.map fun s => (⟨s.toArray⟩ : ByteArray)).map (·.data.toList) = l := by
              rw [List.map_map]
              have : ((fun x : ByteArray => x.data.toList) ∘ fun s : List UInt8 => (⟨s.toArray⟩ : ByteArray)) = id := by funext s; simp
              rw [this]; simp
            have hlen : (Lib.join ((l.map fun s => (⟨s.toArray⟩ : ByteArray)).map (·.data.toList)) (⟨sep.toArray⟩ : ByteArray).data.toList).length ≤ 140737488355328 := by
              rw [hmap]
              have := hb.1
              rw [joinL_eq] at this
              simpa using this
            have fin : ∀ (w' : World), Below g.w.heap.size g.w w' → ∀ e, e = Ending.returned (.string ⟨(Lib.join ((l.map fun s => (⟨s.toArray⟩ : ByteArray)).map (·.data.toList)) (⟨sep.toArray⟩ : ByteArray).data.toList).toArray⟩) →
                ∃ v g', e = .returned v ∧ g'.w = w' ∧ PStep g g' ∧ Gok g' ∧ Rd g' v (.str (joinL sep l)) := by
              intro w' hw e he
              refine ⟨_, { g with w := w' }, he, rfl, pstep_below hw, gok_below hg hw.size, ?_⟩
              rw [hmap, joinL_eq]
              have := Rd.str (g := { g with w := w' }) ⟨(Lib.join l sep).toArray⟩
              simpa using this
            cases hl0 : l with
            | nil =>
              subst hl0
              refine (Any.strings_Join_none L X (some ⟨b, o, none⟩) cap ⟨sep.toArray⟩ g.w).mono fun e w' ⟨he, hw⟩ => ?_
              exact fin w' (hw ▸ Below.refl _ _) e (by rw [he]; rfl)
            | cons a r =>
              have hbk : b < g.w.heap.size := lt_of_cell (key 0 ⟨a.toArray⟩ (by rw [hl0]; rfl))
              rw [← hl0]
              have hcall := Any.strings_Join L X b o cap (l.map fun s => (⟨s.toArray⟩ : ByteArray)) ⟨sep.toArray⟩ g.w key hbk (by simpa using hb.2) (by simpa using q3) hlen
              have e1 : (l.map fun s => (⟨s.toArray⟩ : ByteArray)).length = (l.map T.str).length := by simp
              rw [e1] at hcall
              exact hcall.mono fun e w' ⟨he, hw⟩ => fin w' hw e he
        | [], hv => simp [RdL] at hv
        | [_], hv => simp [RdL] at hv
        | _ :: _ :: _ :: _, hv => simp [RdL] at hv
      · cases h
    · cases h
  · cases h
end
end Go.Ps

/- A builder of the call's own: contracts that change objects. -/
namespace Go.Ps
open Go.Shelf Go.RowKit Go.Sort Go.Proofs

section
variable {P : Program} {ρ : Ren} {gl : Nat → Option T}

theorem setCell_row (w : World) (b o : Nat) (v : Value) (cs : Array Value) (e : TypeId) (fz : Nat × Nat) (h : w.heap[b]? = some (.cells cs e fz)) : w.setCell ⟨b, o, none⟩ v = w.setRow b (cs.setIfInBounds o v) := by
  simp only [World.setCell, World.setRow]
  congr 1
  apply Array.ext_getElem?
  intro i
  rw [Array.getElem?_modify, Array.getElem?_modify]
  split
  · rename_i e; subst e; rw [h]; simp
  · rfl

theorem ptr_inv {g : G} {v : Value} {l off : Nat} (h : Rd g v (.ptr l off)) : v = .pointer (some ⟨g.loc l, off, none⟩) ∧ g.al l := by
  generalize ht : T.ptr l off = t at h
  cases h <;> cases ht
  exact ⟨rfl, by assumption⟩

/-- The contract of one call that changes objects. -/
def EeFn (P : Program) (gl : Nat → Option T) (f : FuncId) (ts : List T) (H : Hp) (r : T) (H' : Hp) : Prop :=
  okFn P f = true ∧ ∀ (g : G) (vs : List Value), Gok g → St g H → GlOk gl g → RdL g vs ts →
    Calls P f vs.toArray g.w fun e w' => ∃ v g', e = .returned v ∧ g'.w = w' ∧ SStep H g H' g' ∧ Gok g' ∧ St g' H' ∧ Rd g' v r

theorem copy_ee (L : Lays.n240 P ρ) (X : Builder.X72 P ρ) (hok : okFn P (ρ.f 240) = true) {ts : List T} {H H' : Hp} {r : T} (h : copyX (ρ.t 72) ts H = some (r, H')) : EeFn P gl (ρ.f 240) ts H r H' := by
  · refine ⟨hok, fun g vs hg hs hgl hv => ?_⟩
    unfold copyX at h
    split at h
    · rename_i l
      match vs, hv with
      | [v], hv =>
        obtain ⟨rfl, hal⟩ := ptr_inv (hv.inv_cons).1
        split at h
        · rename_i ob hob
          obtain ⟨elem, sz, cells⟩ := ob
          obtain ⟨_, hS, cs, hb, q1, q2, q3, q4⟩ := hs.own l _ hob
          simp only at h hb q1 q2 q3 q4
          split at h
          · rename_i x
            split at h
            · rename_i hc
              obtain ⟨rfl, rfl⟩ := hc
              cases h
              have hsz : cs.size = 2 := q2 rfl
              have hl : cs.toList.length = 2 := by simpa using hsz
              match hcs : cs.toList, hl with
              | [c0, c1], _ =>
                have e0 : cs = #[c0, c1] := by rw [← Array.toArray_toList (xs := cs), hcs]
                subst e0
                have hc0 := q4.2 0 c0 .nilp (by simp) rfl
                have hc1 := q4.2 1 c1 x (by simp) rfl
                cases hc0
                refine (Any.Builder_copyCheck_fresh L X (g.loc l) g.w (by simp [World.cell?, hb]) (by simp [World.shape?, hb]) (by simp [World.frozen?, hb])).mono fun e w' ⟨he, hw⟩ => ?_
                have hset := setCell_row g.w (g.loc l) 0 (.pointer (some ⟨g.loc l, 0, none⟩)) _ _ _ hb
                rw [hset] at hw
                subst hw
                refine ⟨_, g.setRow (g.loc l) (#[Value.pointer none, c1].setIfInBounds 0 (.pointer (some ⟨g.loc l, 0, none⟩))), he, rfl, set_step hob _ _, ?_, ?_, Rd.mk_tup RdL.nil⟩
                · intro b hb'
                  have := hg b hb'
                  simpa [G.setRow, World.setRow] using this
                · refine set_st (o := { elem := ρ.t 72, sz := 0, cells := [.nilp, x] }) hs hob hb (by simp) (by simp) ?_
                  exact RdL.cons (.ptr l 0 hal) (RdL.cons hc1 RdL.nil)
            · cases h
          · rename_i l' x
            split at h
            · rename_i hc
              obtain ⟨rfl, rfl, rfl⟩ := hc
              cases h
              have hsz : cs.size = 2 := q2 rfl
              have hl : cs.toList.length = 2 := by simpa using hsz
              match hcs : cs.toList, hl with
              | [c0, c1], _ =>
                have e0 : cs = #[c0, c1] := by rw [← Array.toArray_toList (xs := cs), hcs]
                subst e0
                have hc0 := (ptr_inv (q4.2 0 c0 _ (by simp) rfl)).1
                subst hc0
                refine (Any.Builder_copyCheck_used L X (g.loc l') g.w (by simp [World.cell?, hb])).mono fun e w' ⟨he, hw⟩ => ?_
                subst hw
                exact ⟨_, g, he, rfl, SStep.refl _ _, hg, hs, Rd.mk_tup RdL.nil⟩
            · cases h
          · cases h
        · cases h
      | [], hv => simp [RdL] at hv
      | _ :: _ :: _, hv => simp [RdL] at hv
    · cases h

theorem bytesX_spec {g : G} : ∀ {cs : List T} {bs : List UInt8}, bytesX cs = some bs → cs.length = bs.length ∧ ∀ (j : Nat) (c : T) (v : Value), cs[j]? = some c → Rd g v c → ∃ x, bs[j]? = some x ∧ v = .int .u8 x.toNat
  | [], bs, h => by simp [bytesX] at h; subst h; simp
  | c :: r, bs, h => by
    unfold bytesX at h
    split at h
    · rename_i e; cases e
    · rename_i n r' e
      cases e
      split at h
      · rename_i l hl
        split at h
        · rename_i hn
          cases h
          obtain ⟨h1, h2⟩ := bytesX_spec (g := g) hl
          refine ⟨by simp [h1], fun j c v hc hr => ?_⟩
          cases j with
          | zero =>
            simp at hc; subst hc
            refine ⟨UInt8.ofNat n.toNat, by simp, ?_⟩
            cases hr
            have : (UInt8.ofNat n.toNat).toNat = n.toNat := by
              rw [UInt8.toNat_ofNat']; omega
            rw [this]; congr 1; omega
          | succ j => simp at hc; obtain ⟨x, e1, e2⟩ := h2 j c v hc hr; exact ⟨x, by simpa using e1, e2⟩
        · cases h
      · cases h
    · cases h

/-- A builder's row is read as a string: the row is written no more. -/
theorem str_row (L : Lays.n169 P ρ) (X : Builder.Extra P ρ) (b gg cap : Nat) (p : Value) (cur : Array Value) (l : List UInt8) (w : World) (h0 : l ≠ [])
    (hbk : w.heap[b]? = some (.cells #[p, .slice (some ⟨gg, 0, none⟩) l.length cap] (ρ.t 72) (0, 0))) (hg : w.heap[gg]? = some (.cells cur (ρ.t 5) (0, 0))) (hnc : l.length ≤ cap) (hcm : cap ≤ maxLen) (hcs : cur.size = cap)
    (hcells : ∀ (j : Nat) (x : UInt8), l[j]? = some x → w.cell? ⟨gg, j, none⟩ = some (.int .u8 x.toNat)) :
    Calls P (ρ.f 169) #[.pointer (some ⟨b, 0, none⟩)] w fun e w' => e = .returned (.string ⟨l.toArray⟩) ∧ w' = w.drew.freeze ⟨gg, 0, none⟩ l.length := by
  have hl0 : l.length ≠ 0 := by simpa using h0
  have c1 : w.drew.cell? ⟨b, 1, none⟩ = some (.slice (some ⟨gg, 0, none⟩) l.length cap) := by
    have : w.drew.heap[b]? = some (.cells #[p, .slice (some ⟨gg, 0, none⟩) l.length cap] (ρ.t 72) (0, 0)) := hbk
    rw [Lib.cell_of_heap this]; rfl
  have hSD : (Builtin.unsafeSliceData_ #[(ρ.t 37)] (ρ.t 127) #[.slice (some ⟨gg, 0, none⟩) l.length cap]).run P w.drew = .ok (.pointer (some ⟨gg, 0, none⟩)) w.drew :=
    Lib.run_unsafeSliceData_row _ _ _ _ _ _ (by omega)
  have hUS : (Builtin.unsafeString_ #[(ρ.t 127), (ρ.t 3)] (ρ.t 9) #[.pointer (some ⟨gg, 0, none⟩), .int .i64 l.length]).run P w.drew = .ok (.string ⟨l.toArray⟩) (w.drew.freeze ⟨gg, 0, none⟩ l.length) :=
    Lib.run_unsafeString_row w.drew (ρ.t 127) (ρ.t 3) (ρ.t 9) (ρ.t 5) L.t127 X.cellsByte gg cur.size (by have hg' : w.drew.heap[gg]? = some (.cells cur (ρ.t 5) (0, 0)) := hg; simp [World.shape?, hg']) l h0 (by omega) (by unfold maxLen at hcm; omega) (fun j x hx => by
      have := hcells j x hx
      by_cases hj : j = 0
      · subst hj; simpa [Addr.add] using this
      · simpa [Addr.add, hj] using this)
  have mixed := L.mixed
  have t72 := L.t72; have a72 := L.a72; have z72 := L.z72; have v72 := L.v72; have u72 := run_underlying L.t72
  have t70 := L.t70; have a70 := L.a70; have z70 := L.z70; have v70 := L.v70; have u70 := run_underlying L.t70
  have t37 := L.t37; have a37 := L.a37; have z37 := L.z37; have v37 := L.v37; have u37 := run_underlying L.t37
  have t127 := L.t127; have a127 := L.a127; have z127 := L.z127; have v127 := L.v127; have u127 := run_underlying L.t127
  have t3 := L.t3; have a3 := L.a3; have z3 := L.z3; have v3 := L.v3; have u3 := run_underlying L.t3
  have t9 := L.t9; have a9 := L.a9; have z9 := L.z9; have v9 := L.v9; have u9 := run_underlying L.t9
  have t5 := X.t5; have a5 := X.a5; have z5 := X.z5; have v5 := X.v5; have u5 := run_underlying X.t5
  go_enter L.f169, Body.n169_ntmps ρ
  go_wp2
  go_region_o
  all_goals (go_wp2; go_ret; exact ⟨rfl, rfl⟩)

theorem freeze_rest (w : World) (gg n : Nat) : (w.drew.freeze ⟨gg, 0, none⟩ n).os = w.os ∧ (w.drew.freeze ⟨gg, 0, none⟩ n).tape = w.tape ∧ (w.drew.freeze ⟨gg, 0, none⟩ n).output = w.output ∧ (w.drew.freeze ⟨gg, 0, none⟩ n).heap.size = w.heap.size := by
  simp only [World.freeze]
  split
  · exact ⟨rfl, rfl, rfl, rfl⟩
  · refine ⟨rfl, rfl, rfl, ?_⟩
    show (w.heap.modify gg _).size = _
    rw [Array.size_modify]

theorem freeze_other (w : World) (gg n k : Nat) (h : k ≠ gg) : (w.drew.freeze ⟨gg, 0, none⟩ n).heap[k]? = w.heap[k]? := by
  simp only [World.freeze, World.drew]
  split
  · rfl
  · show (w.heap.modify gg _)[k]? = _
    rw [Array.getElem?_modify, if_neg (fun e => h e.symm)]

theorem osl_inv {g : G} {v : Value} {l sz i len : Nat} (h : Rd g v (.osl l sz i len)) : ∃ b o cap, v = .slice (some ⟨b, o, none⟩) len cap ∧ g.al l ∧ len ≤ cap ∧ i + cap ≤ g.cp l ∧ (0 < len ∨ i = 0 → b = g.loc l ∧ o = i * sz) ∧ (i = 0 → cap = g.cp l) := by
  generalize ht : T.osl l sz i len = t at h
  cases h <;> cases ht
  rename_i b o cap _ _ _ _ _
  exact ⟨b, o, cap, rfl, by assumption, by assumption, by assumption, by assumption, by assumption⟩

theorem str_ee (L : Lays.n169 P ρ) (X : Builder.Extra P ρ) (hok : okFn P (ρ.f 169) = true) {ts : List T} {H H' : Hp} {r : T} (h : strX (ρ.t 72) (ρ.t 5) ts H = some (r, H')) : EeFn P gl (ρ.f 169) ts H r H' := by
  refine ⟨hok, fun g vs hg hs hgl hv => ?_⟩
  unfold strX at h
  split at h
  · rename_i l
    match vs, hv with
    | [v], hv =>
      obtain ⟨rfl, hal⟩ := ptr_inv (hv.inv_cons).1
      split at h
      · rename_i ob hob
        split at h
        · rename_i hc
          obtain ⟨elem, sz, cells⟩ := ob
          obtain ⟨rfl, rfl⟩ := hc
          obtain ⟨_, hS, cs, hb, q1, q2, q3, q4⟩ := hs.own l _ hob
          simp only at h hb q1 q2 q3 q4
          split at h
          · rename_i x
            cases h
            have hsz : cs.size = 2 := q2 (by simp)
            have hl : cs.toList.length = 2 := by simpa using hsz
            match hcs : cs.toList, hl with
            | [c0, c1], _ =>
              have e0 : cs = #[c0, c1] := by rw [← Array.toArray_toList (xs := cs), hcs]
              subst e0
              have hc1 := q4.2 1 c1 .nils (by simp) rfl
              cases hc1
              refine (Any.Builder_String_nil L X g.w.heap.size (g.loc l) c0 g.w hb).mono fun e w' ⟨he, hw⟩ => ?_
              exact ⟨_, { g with w := w' }, he, rfl, (pstep_below hw).toS, gok_below hg hw.size, hs.pstep (pstep_below hw), by simpa using Rd.str (g := { g with w := w' }) ⟨#[]⟩⟩
          · rename_i x l2 len
            split at h
            · rename_i o2 ho2
              split at h
              · rename_i hc2
                split at h
                · rename_i bs hbs
                  cases h
                  obtain ⟨elem2, sz2, cells2⟩ := o2
                  obtain ⟨rfl, rfl, rfl, hne⟩ := hc2
                  obtain ⟨al2, hS2, cs2, hb2, p1, p2, p3, p4⟩ := hs.own l2 _ ho2
                  simp only at hb2 p1 p2 p3 p4 hbs hne
                  have hsz : cs.size = 2 := q2 (by simp)
                  have hl : cs.toList.length = 2 := by simpa using hsz
                  match hcs : cs.toList, hl with
                  | [c0, c1], _ =>
                    have e0 : cs = #[c0, c1] := by rw [← Array.toArray_toList (xs := cs), hcs]
                    subst e0
                    have hc1 := q4.2 1 c1 _ (by simp) rfl
                    obtain ⟨hlen, hby⟩ := bytesX_spec (g := g) hbs
                    obtain ⟨p31, p32⟩ := p3 (by simp)
                    obtain ⟨b2, o2, cap2, rfl, z1, z2, z3, z4, z5⟩ := osl_inv hc1
                    obtain ⟨rfl, rfl⟩ := z4 (.inr rfl)
                    have z5' := z5 rfl
                    subst z5'
                    rw [hlen] at hb
                    have hcells : ∀ (j : Nat) (x : UInt8), bs[j]? = some x → g.w.cell? ⟨g.loc l2, j, none⟩ = some (.int .u8 x.toNat) := by
                      intro j x hx
                      have hj : j < bs.length := (List.getElem?_eq_some_iff.1 hx).1
                      have hj2 : j < cs2.size := by omega
                      have hc2 : cs2.toList[j]? = some cs2[j] := by simp [hj2]
                      have hv2 : (cs2.toList.take cells2.length)[j]? = some cs2[j] := by rw [List.getElem?_take, if_pos (by omega)]; exact hc2
                      obtain ⟨c, hc⟩ : ∃ c, cells2[j]? = some c := ⟨_, List.getElem?_eq_getElem (by omega)⟩
                      obtain ⟨y, hy, hvy⟩ := hby j c _ hc (p4.2 j _ c hv2 hc)
                      rw [hx] at hy
                      cases hy
                      rw [Lib.cell_of_heap hb2]
                      simp [hj2, hvy]
                    refine (str_row L X (g.loc l) (g.loc l2) (g.cp l2) c0 cs2 bs g.w (fun e => hne (by rw [hlen, e]; rfl)) (by simpa using hb) hb2 (by rw [← hlen]; simpa using z2) p32 (by simpa using p31) hcells).mono fun e w' ⟨he, hw⟩ => ?_
                    subst hw
                    have hfr := freeze_rest g.w (g.loc l2) bs.length
                    have hst : SStep H g (H.drop l2) { g with w := g.w.drew.freeze ⟨g.loc l2, 0, none⟩ bs.length } := by
                      refine ⟨hfr.1, hfr.2.1, hfr.2.2.1, Nat.le_of_eq hfr.2.2.2.symm, fun k hk hn => freeze_other _ _ _ _ (fun e => hn l2 _ ho2 e.symm), fun _ q => q, fun _ q => .inl q, fun _ q => q, fun _ _ => rfl, fun _ _ => rfl, fun m q hq => ?_⟩
                      rw [get_drop] at hq
                      split at hq
                      · cases hq
                      · exact .inl ⟨m, q, hq, rfl⟩
                    refine ⟨_, { g with w := g.w.drew.freeze ⟨g.loc l2, 0, none⟩ bs.length }, he, rfl, hst, ?_, ?_, ?_⟩
                    · intro k hk
                      have := hg k hk
                      show k < (g.w.drew.freeze ⟨g.loc l2, 0, none⟩ bs.length).heap.size
                      rw [hfr.2.2.2]; exact this
                    · refine ⟨fun m q hq => ?_, fun m m' q q' h1 h2 e => ?_, fun m hm => hs.new m hm⟩
                      · rw [get_drop] at hq
                        split at hq
                        · cases hq
                        · rename_i hm
                          obtain ⟨ha, hSS, c0', hb', r1, r2, r3, r4⟩ := hs.own m q hq
                          refine ⟨ha, hSS, c0', ?_, r1, r2, r3, r4.sstep hs hst⟩
                          show (g.w.drew.freeze ⟨g.loc l2, 0, none⟩ bs.length).heap[g.loc m]? = _
                          rw [freeze_other _ _ _ _ (fun e => hm (hs.sep m l2 q _ hq ho2 e))]; exact hb'
                      · rw [get_drop] at h1 h2
                        split at h1
                        · cases h1
                        · split at h2
                          · cases h2
                          · exact hs.sep m m' q q' h1 h2 e
                    · have := Rd.str (g := { g with w := g.w.drew.freeze ⟨g.loc l2, 0, none⟩ bs.length }) ⟨bs.toArray⟩
                      simpa using this
                · cases h
              · cases h
            · cases h
          · cases h
        · cases h
      · cases h
    | [], hv => simp [RdL] at hv
    | _ :: _ :: _, hv => simp [RdL] at hv
  · cases h
/-- A table among the package's variables. -/
theorem tab_of {g : G} {k : Nat} {ik : IntKind} {zs : List Int} (h : GlAt g k (.ref (.agg (zs.map (T.int ik))) 0)) : ∃ e fz, g.w.heap[k]? = some (.cells (zs.map fun z => Value.int ik z).toArray e fz) := by
  obtain ⟨h1, _, cs, e, fz, h3, h4⟩ := h
  refine ⟨e, fz, ?_⟩
  rw [h3]
  congr 2
  apply Array.ext_getElem?
  intro j
  simp only [T.refLen, T.cells, List.length_map] at h4
  generalize ha : (Value.pointer (some ⟨k, 0, none⟩)) = v at h1
  generalize ht : (T.ref (.agg (zs.map (T.int ik))) 0) = t at h1
  cases h1 <;> cases ht
  rename_i b o vs hS hc hl hr
  simp only [Value.pointer.injEq, Option.some.injEq, Addr.mk.injEq] at ha
  obtain ⟨rfl, ho, _⟩ := ha
  have ho0 : o = 0 := by omega
  subst ho0
  simp only [T.cells, List.length_map] at hl hr
  by_cases hj : j < zs.length
  · have hvj : vs[j]? = some (vs[j]'(by omega)) := List.getElem?_eq_getElem _
    have hcell := hc j _ hvj
    rw [Nat.zero_add, Lib.cell_of_heap h3] at hcell
    have hz : (zs.map (T.int ik))[j]? = some (T.int ik zs[j]) := by simp [hj]
    have hrd := hr j _ (T.int ik zs[j]) hvj hz
    have hint : vs[j]'(by omega) = Value.int ik zs[j] := by
      generalize vs[j]'(by omega) = u at hrd
      cases hrd; rfl
    rw [hint] at hcell
    simp only [List.getElem?_toArray, List.getElem?_map, List.getElem?_eq_getElem hj, Option.map_some]
    simpa using hcell
  · rw [Array.getElem?_eq_none (by omega), Array.getElem?_eq_none (by simp; omega)]
end
end Go.Ps

/- From cut to cut: the evaluator stops at a loop, at the end of a loop's round, or at the end. -/
namespace Go.Ps
noncomputable section

inductive Ki where
  | seq (d : Code)
  | blk (id : Nat)
  | lp

inductive Out where
  | again (j : Nat) (fr : List T) (H : Hp)
  | done (x : X) (fr : List T) (H : Hp)
  | loop (j : Nat) (c : Code) (ks : List Ki) (fr : List T) (H : Hp)

inductive Md where
  | code (c : Code)
  | out (x : X)

def runK (P : Program) (E : Ed) (F : Fc) : Nat → Md → List Ki → Nat → List T → Hp → List Bool → List Bool → RD Out
  | 0, _, _, _, _, _, _, _ => .fail 40
  | _ + 1, .out x, [], _, fr, H, ds, log => .ok (.done x fr H) ds log
  | n + 1, .out .normal, .seq d :: ks, j, fr, H, ds, log => runK P E F n (.code d) ks j fr H ds log
  | n + 1, .out .normal, .blk _ :: ks, j, fr, H, ds, log => runK P E F n (.out .normal) ks j fr H ds log
  | _ + 1, .out .normal, .lp :: _, j, fr, H, ds, log => .ok (.again j fr H) ds log
  | n + 1, .out (.exit id), .seq _ :: ks, j, fr, H, ds, log => runK P E F n (.out (.exit id)) ks j fr H ds log
  | n + 1, .out (.exit id), .blk id' :: ks, j, fr, H, ds, log => if id = id' then runK P E F n (.out .normal) ks j fr H ds log else runK P E F n (.out (.exit id)) ks j fr H ds log
  | n + 1, .out (.exit id), .lp :: ks, j, fr, H, ds, log => runK P E F n (.out (.exit id)) ks (j + 1) fr H ds log
  | n + 1, .out .ret, .lp :: ks, j, fr, H, ds, log => runK P E F n (.out .ret) ks (j + 1) fr H ds log
  | n + 1, .out .ret, .seq _ :: ks, j, fr, H, ds, log => runK P E F n (.out .ret) ks j fr H ds log
  | n + 1, .out .ret, .blk _ :: ks, j, fr, H, ds, log => runK P E F n (.out .ret) ks j fr H ds log
  | n + 1, .code c, ks, j, fr, H, ds, log => match c with
    | .seq a b => runK P E F n (.code a) (.seq b :: ks) j fr H ds log
    | .block id c => runK P E F n (.code c) (.blk id :: ks) j fr H ds log
    | .scope c => runK P E F n (.code c) ks j fr H ds log
    | .loop c => .ok (.loop j c ks fr H) ds log
    | .cond o a b => match evalT E.gl fr o with
      | some (.bool t) => match ds with
        | [] => .need t log
        | d :: ds' => if d then runK P E F n (.code a) ks j fr H ds' (t :: log) else runK P E F n (.code b) ks j fr H ds' ((!t) :: log)
      | _ => .fail 41
    | c => match evalCodeD P E F c fr H ds log with
      | .ok (x, fr', H') ds' log' => runK P E F n (.out x) ks j fr' H' ds' log'
      | .need t l => .need t l
      | .fail m => .fail m

/-- All loops of a body, each with what stands behind it. -/
def loopsOf : Code → List Ki → List (Code × List Ki)
  | .seq a b, ks => loopsOf a (.seq b :: ks) ++ loopsOf b ks
  | .block id c, ks => loopsOf c (.blk id :: ks)
  | .scope c, ks => loopsOf c ks
  | .cond _ a b, ks => loopsOf a ks ++ loopsOf b ks
  | .loop c, ks => (c, ks) :: loopsOf c (.lp :: ks)
  | _, _ => []

def postK (P : Program) (E : Env) (Q : X → List T → Hp → Prop) : List Ki → List (List T → Hp → Prop) → X → List T → Hp → Prop
  | [], _ => Q
  | .seq d :: ks, As => exitThen (fun fr H => Good P E d fr H (postK P E Q ks As)) (postK P E Q ks As)
  | .blk id :: ks, As => exitBlock id (postK P E Q ks As)
  | .lp :: ks, A :: As => exitThen A (postK P E Q ks As)
  | .lp :: ks, [] => exitThen (fun _ _ => False) (postK P E Q ks [])

def mdOk : Md → Bool
  | .code c => codeOk c
  | .out _ => true

def ksOk : List Ki → Bool
  | [] => true
  | .seq d :: ks => codeOk d && ksOk ks
  | _ :: ks => ksOk ks

def OutOk (P : Program) (E : Env) (Q : X → List T → Hp → Prop) (As : List (List T → Hp → Prop)) : Out → Prop
  | .again j fr H => ∃ A, As[j]? = some A ∧ A fr H
  | .done x fr H => Q x fr H
  | .loop j c ks fr H => Good P E (.loop c) fr H (postK P E Q ks (As.drop j))

def mdGood (P : Program) (E : Env) (fr : List T) (H : Hp) (R : X → List T → Hp → Prop) : Md → Prop
  | .code c => Good P E c fr H R
  | .out x => R x fr H

section
variable {P : Program} {D : Ed} {F : Fc} {Q : X → List T → Hp → Prop} {As : List (List T → Hp → Prop)}

theorem post_lp (ks : List Ki) (j : Nat) : postK P D.env Q (.lp :: ks) (As.drop j) = exitThen (fun fr H => ∃ A, As[j]? = some A ∧ A fr H) (postK P D.env Q ks (As.drop (j + 1))) := by
  by_cases h : j < As.length
  · rw [List.drop_eq_getElem_cons h]
    simp only [postK]
    have e : (fun fr H => ∃ A, As[j]? = some A ∧ A fr H) = As[j] := by
      funext fr H
      rw [List.getElem?_eq_getElem h]
      simp
    rw [e]
  · rw [List.drop_of_length_le (by omega), List.drop_of_length_le (by omega)]
    simp only [postK]
    congr 1
    funext fr H
    rw [List.getElem?_eq_none (by omega)]
    simp

theorem good_leaf (hm : P.follows .mixedOrders = true) (hE : PeOk P D.gl D.env.pe) (hF : EeOk P D.gl F.ee) {c : Code} (hok : codeOk c = true) {fr fr' : List T} {H H' : Hp} {x : X} {ds log ds' log' : List Bool}
    (h : evalCodeD P D F c fr H ds log = .ok (x, fr', H') ds' log') (hl : allT log' = true) {R : X → List T → Hp → Prop} (hR : R x fr' H') : Good P D.env c fr H R := by
  intro g0 g H0 a hc K hK
  exact code_ok hm hE hF 0 c fr H x fr' H' hok (codeD_ok 0 h hl).1 g0 g H0 a hc K (fun a' g' hc' => hK x fr' H' a' g' hR hc')

theorem runK_ok (hm : P.follows .mixedOrders = true) (hE : PeOk P D.gl D.env.pe) (hF : EeOk P D.gl F.ee) : ∀ (n : Nat) (m : Md) (ks : List Ki) (j : Nat) (fr : List T) (H : Hp) (ds log : List Bool) (o : Out) (ds' log' : List Bool),
    runK P D F n m ks j fr H ds log = .ok o ds' log' → allT log' = true → mdOk m = true → ksOk ks = true → allT log = true ∧ (OutOk P D.env Q As o → mdGood P D.env fr H (postK P D.env Q ks (As.drop j)) m) := by
  intro n
  induction n with
  | zero => intro m ks j fr H ds log o ds' log' h; simp [runK] at h
  | succ n ih =>
    intro m ks j fr H ds log o ds' log' h hl hmo hko
    cases m with
    | out x =>
      cases ks with
      | nil => simp only [runK] at h; cases h; exact ⟨hl, fun q => q⟩
      | cons k ks =>
        cases x with
        | normal => cases k with
          | seq d =>
            simp only [runK] at h
            simp only [ksOk, Bool.and_eq_true] at hko
            obtain ⟨a, b⟩ := ih _ _ _ _ _ _ _ _ _ _ h hl hko.1 hko.2
            exact ⟨a, fun q => b q⟩
          | blk id =>
            simp only [runK] at h
            obtain ⟨a, b⟩ := ih _ _ _ _ _ _ _ _ _ _ h hl rfl hko
            exact ⟨a, fun q => b q⟩
          | lp =>
            simp only [runK] at h; cases h
            refine ⟨hl, fun q => ?_⟩
            simp only [mdGood, post_lp]
            exact q
        | exit id => cases k with
          | seq d =>
            simp only [runK] at h
            simp only [ksOk, Bool.and_eq_true] at hko
            obtain ⟨a, b⟩ := ih _ _ _ _ _ _ _ _ _ _ h hl rfl hko.2
            exact ⟨a, fun q => b q⟩
          | blk id' =>
            simp only [runK] at h
            split at h
            · rename_i e
              obtain ⟨a, b⟩ := ih _ _ _ _ _ _ _ _ _ _ h hl rfl hko
              refine ⟨a, fun q => ?_⟩
              simp only [mdGood, postK, exitBlock, if_pos e]; exact b q
            · rename_i e
              obtain ⟨a, b⟩ := ih _ _ _ _ _ _ _ _ _ _ h hl rfl hko
              refine ⟨a, fun q => ?_⟩
              simp only [mdGood, postK, exitBlock, if_neg e]; exact b q
          | lp =>
            simp only [runK] at h
            obtain ⟨a, b⟩ := ih _ _ _ _ _ _ _ _ _ _ h hl rfl hko
            refine ⟨a, fun q => ?_⟩
            simp only [mdGood, post_lp]; exact b q
        | ret => cases k with
          | seq d =>
            simp only [runK] at h
            simp only [ksOk, Bool.and_eq_true] at hko
            obtain ⟨a, b⟩ := ih _ _ _ _ _ _ _ _ _ _ h hl rfl hko.2
            exact ⟨a, fun q => b q⟩
          | blk id' =>
            simp only [runK] at h
            obtain ⟨a, b⟩ := ih _ _ _ _ _ _ _ _ _ _ h hl rfl hko
            exact ⟨a, fun q => b q⟩
          | lp =>
            simp only [runK] at h
            obtain ⟨a, b⟩ := ih _ _ _ _ _ _ _ _ _ _ h hl rfl hko
            refine ⟨a, fun q => ?_⟩
            simp only [mdGood, post_lp]; exact b q
    | code c =>
      simp only [mdOk] at hmo
      have leaf : ∀ {c : Code}, codeOk c = true → (match evalCodeD P D F c fr H ds log with
          | .ok (x, fr', H') ds' log' => runK P D F n (.out x) ks j fr' H' ds' log'
          | .need t l => .need t l
          | .fail m => .fail m) = RD.ok o ds' log' → allT log = true ∧ (OutOk P D.env Q As o → Good P D.env c fr H (postK P D.env Q ks (As.drop j))) := by
        intro c hc h
        split at h
        · rename_i x fr1 H1 ds1 log1 hr
          obtain ⟨a, b⟩ := ih _ _ _ _ _ _ _ _ _ _ h hl rfl hko
          exact ⟨(codeD_ok 0 hr a).2, fun q => good_leaf hm hE hF hc hr a (b q)⟩
        · cases h
        · cases h
      cases c with
      | seq a b =>
        simp only [runK] at h
        simp only [codeOk, Bool.and_eq_true] at hmo
        obtain ⟨p, q⟩ := ih _ _ _ _ _ _ _ _ _ _ h hl (by exact hmo.1) (by simp only [ksOk, Bool.and_eq_true]; exact ⟨hmo.2, hko⟩)
        exact ⟨p, fun r => good_seq (q r)⟩
      | block id c =>
        simp only [runK] at h
        obtain ⟨p, q⟩ := ih _ _ _ _ _ _ _ _ _ _ h hl (by exact hmo) (by exact hko)
        exact ⟨p, fun r => good_block (q r)⟩
      | scope c =>
        simp only [runK] at h
        obtain ⟨p, q⟩ := ih _ _ _ _ _ _ _ _ _ _ h hl (by exact hmo) hko
        exact ⟨p, fun r => good_scope (q r)⟩
      | loop c =>
        simp only [runK] at h
        cases h
        exact ⟨hl, fun q => q⟩
      | cond t a b =>
        simp only [runK] at h
        simp only [codeOk, Bool.and_eq_true] at hmo
        split at h
        · rename_i t' ht
          split at h
          · cases h
          · rename_i d ds1
            split at h
            · obtain ⟨p, q⟩ := ih _ _ _ _ _ _ _ _ _ _ h hl (by exact hmo.1) hko
              simp only [allT, Bool.and_eq_true] at p
              exact ⟨p.2, fun r => good_cond (E := D.env) ht (fun _ => q r) (fun e => by rw [p.1] at e; cases e)⟩
            · obtain ⟨p, q⟩ := ih _ _ _ _ _ _ _ _ _ _ h hl (by exact hmo.2) hko
              simp only [allT, Bool.and_eq_true, Bool.not_eq_true'] at p
              exact ⟨p.2, fun r => good_cond (E := D.env) ht (fun e => by rw [p.1] at e; cases e) (fun _ => q r)⟩
        · cases h
      | skip => simp only [runK] at h; exact leaf hmo h
      | label l => simp only [runK] at h; exact leaf hmo h
      | region id ops draw => simp only [runK] at h; exact leaf hmo h
      | exit id => simp only [runK] at h; exact leaf hmo h
      | ret => simp only [runK] at h; exact leaf hmo h
      | _ => simp only [runK] at h; exact leaf hmo h
end
end
end Go.Ps

/- The ways from cut to cut, told by what the kernel finds: kept slots, the heap, what was asked. -/
namespace Go.Ps
noncomputable section

def bodyOf (f : Func) : Code :=
  match f.body with
  | some c => c
  | none => .skip

/-- The i-th loop of a function, with what stands behind it. -/
def loopAt (f : Func) (i : Nat) : Code × List Ki := (loopsOf (bodyOf f) []).getD i (.skip, [])

inductive OutT where
  | again (j : Nat)
  | done (r : Option T)
  | loop (j : Nat) (c : Code) (ks : List Ki)

def resF (P : Program) (fn : Func) (k : Nat) (fr : List T) (H : Hp) : Option T :=
  match resultT P fn fr H with
  | some q => frzT k H q
  | none => none

def outK (P : Program) (fn : Func) (k : Nat) (keep : List Nat) : RD Out → Option (OutT × List Bool × Hp × List T × Nat)
  | .ok (.again j fr H) _ log => some (.again j, log, H, keep.map (getT fr), fr.length)
  | .ok (.done .normal fr H) _ log => some (.done (resF P fn k fr H), log, ⟨0, []⟩, [], 0)
  | .ok (.done .ret fr H) _ log => some (.done (resF P fn k fr H), log, ⟨0, []⟩, [], 0)
  | .ok (.loop j c ks fr H) _ log => some (.loop j c ks, log, H, keep.map (getT fr), fr.length)
  | _ => none

/-- A frame of which the kept slots are known. -/
def frK (keep : List Nat) (vs : List T) (fr : List T) (len : Nat) : List T := ovl (keep.zip vs) fr 0 len

theorem zip_lookup {fr : List T} : ∀ (keep : List Nat) (vs : List T), keep.map (getT fr) = vs → ∀ k v, (keep.zip vs).lookup k = some v → getT fr k = v
  | [], _, _, k, v, h => by simp at h
  | x :: xs, [], e, k, v, h => by simp at h
  | x :: xs, y :: ys, e, k, v, h => by
    simp only [List.map_cons, List.cons.injEq] at e
    simp only [List.zip_cons_cons, List.lookup_cons] at h
    split at h
    · rename_i hk
      have : k = x := by simpa using hk
      cases h; rw [this]; exact e.1
    · exact zip_lookup xs ys e.2 k v h

theorem frK_eq {keep : List Nat} {vs fr : List T} {len : Nat} (h1 : keep.map (getT fr) = vs) (h2 : fr.length = len) : frK keep vs fr len = fr := by
  unfold frK
  rw [ovl_eq (keep.zip vs) fr (zip_lookup keep vs h1) len 0 (by omega)]
  rfl

section
variable {P : Program} {D : Ed} {F : Fc} {As : List (List T → Hp → Prop)} {fn : Func} {k : Nat} {res : T} {keep : List Nat} {N : Nat} {m : Md} {ks : List Ki} {fr : List T} {H H' : Hp} {ds log : List Bool} {vs : List T} {len : Nat}

theorem way_done {r : Option T} (hm : P.follows .mixedOrders = true) (hE : PeOk P D.gl D.env.pe) (hF : EeOk P D.gl F.ee) (hmo : mdOk m = true) (hko : ksOk ks = true)
    (h : outK P fn k keep (runK P D F N m ks 0 fr H ds []) = some (.done r, log, H', vs, len)) (hr : r = some res) (hl : allT log = true) : mdGood P D.env fr H (postK P D.env (Ends P fn k res) ks As) m := by
  subst hr
  have key : ∀ (x : X) (fr1 : List T) (H1 : Hp) (ds1 : List Bool), (x = .normal ∨ x = .ret) → runK P D F N m ks 0 fr H ds [] = .ok (.done x fr1 H1) ds1 log → resF P fn k fr1 H1 = some res → mdGood P D.env fr H (postK P D.env (Ends P fn k res) ks As) m := by
    intro x fr1 H1 ds1 hx hr1 hres
    refine (runK_ok hm hE hF _ _ _ _ _ _ _ _ _ _ _ hr1 hl hmo hko).2 ⟨hx, ?_⟩
    unfold resF at hres
    split at hres
    · rename_i q hq; exact ⟨q, hq, hres⟩
    · cases hres
  unfold outK at h
  split at h <;> try cases h
  · rename_i fr1 H1 ds1 log1 hr1
    simp only [Option.some.injEq, Prod.mk.injEq, OutT.done.injEq] at h
    obtain ⟨e1, rfl, _⟩ := h
    exact key _ fr1 H1 ds1 (.inl rfl) hr1 e1
  · rename_i fr1 H1 ds1 log1 hr1
    simp only [Option.some.injEq, Prod.mk.injEq, OutT.done.injEq] at h
    obtain ⟨e1, rfl, _⟩ := h
    exact key _ fr1 H1 ds1 (.inr rfl) hr1 e1

theorem way_again (hm : P.follows .mixedOrders = true) (hE : PeOk P D.gl D.env.pe) (hF : EeOk P D.gl F.ee) (hmo : mdOk m = true) (hko : ksOk ks = true) {Q : X → List T → Hp → Prop} {j : Nat}
    (h : outK P fn k keep (runK P D F N m ks 0 fr H ds []) = some (.again j, log, H', vs, len)) (hl : allT log = true) {A : List T → Hp → Prop} (hA : As[j]? = some A) (hq : ∀ fr', keep.map (getT fr') = vs → fr'.length = len → A fr' H') :
    mdGood P D.env fr H (postK P D.env Q ks As) m := by
  unfold outK at h
  split at h <;> cases h
  rename_i fr1 ds1 hr1
  exact (runK_ok hm hE hF _ _ _ _ _ _ _ _ _ _ _ hr1 hl hmo hko).2 ⟨A, hA, hq fr1 rfl rfl⟩

theorem way_loop (hm : P.follows .mixedOrders = true) (hE : PeOk P D.gl D.env.pe) (hF : EeOk P D.gl F.ee) (hmo : mdOk m = true) (hko : ksOk ks = true) {Q : X → List T → Hp → Prop} {j : Nat} {c : Code} {ks' : List Ki}
    (h : outK P fn k keep (runK P D F N m ks 0 fr H ds []) = some (.loop j c ks', log, H', vs, len)) (hl : allT log = true) (hq : ∀ fr', keep.map (getT fr') = vs → fr'.length = len → Good P D.env (.loop c) fr' H' (postK P D.env Q ks' (As.drop j))) :
    mdGood P D.env fr H (postK P D.env Q ks As) m := by
  unfold outK at h
  split at h <;> cases h
  rename_i fr1 ds1 hr1
  exact (runK_ok hm hE hF _ _ _ _ _ _ _ _ _ _ _ hr1 hl hmo hko).2 (hq fr1 rfl rfl)

theorem mapO_ints {H : Hp} {d : Nat} : ∀ (C : List T), (C.all scal1) = true → mapO (frzT (d + 1) H) C = some C
  | [], _ => rfl
  | c :: r, h => by
    simp only [List.all_cons, Bool.and_eq_true] at h
    have e : frzT (d + 1) H c = some c := by cases c <;> simp [scal1] at h <;> rfl
    simp only [mapO, e, mapO_ints r h.2]

theorem scal1_notAgg : ∀ (C : List T), (C.all scal1) = true → (C.all fun c => !c.isAgg) = true
  | [], _ => rfl
  | c :: r, h => by
    simp only [List.all_cons, Bool.and_eq_true] at h ⊢
    exact ⟨by cases c <;> simp [scal1] at h <;> rfl, scal1_notAgg r h.2⟩

/-- A row of plain values, given out. -/
theorem frz_row {H : Hp} {d l n : Nat} {o : Ob} (ho : H.get l = some o) (hsz : o.sz = 1) (hn : o.cells.length = n) (hs : (o.cells.all scal1) = true) : frzT (d + 2) H (.osl l 1 0 n) = some (T.sl false o.cells) := by
  have hm := mapO_ints (H := H) (d := d) _ hs
  have e : (o.cells.drop (0 * 1)).take (n * 1) = o.cells := by simp [← hn]
  show (match H.get l with
      | some o => if 1 ≠ 0 ∧ o.sz = 1 ∧ (0 + n) * 1 ≤ o.cells.length then
          match mapO (frzT (d + 1) H) ((o.cells.drop (0 * 1)).take (n * 1)) with
          | some cs => if 1 = 1 then (if (cs.all fun c => !c.isAgg) then some (T.sl false cs) else none) else some (T.sl false (chunk 1 n cs))
          | none => none
        else none
      | none => none) = some (T.sl false o.cells)
  rw [ho]
  simp only
  rw [if_pos ⟨by decide, hsz, by omega⟩, e, hm]
  simp only [if_true, scal1_notAgg _ hs]

/-- A loop whose state is told by data. -/
theorem loop_data {E : Env} {Q : X → List T → Hp → Prop} {α : Type} (keep : List Nat) (len : Nat) (vs : α → List T) (Hd : α → Hp) (ok : α → Prop) (ms : α → Nat) {c : Code} {ks : List Ki} {As : List (List T → Hp → Prop)}
    (hb : ∀ a fr, ok a → Good P E c (frK keep (vs a) fr len) (Hd a) (postK P E Q (.lp :: ks) ((fun fr' H' => ∃ b, ms b < ms a ∧ ok b ∧ keep.map (getT fr') = vs b ∧ fr'.length = len ∧ H' = Hd b) :: As))) :
    ∀ a fr H, ok a → keep.map (getT fr) = vs a → fr.length = len → H = Hd a → Good P E (.loop c) fr H (postK P E Q ks As) := by
  intro a fr H h1 h2 h3 h4
  refine good_loop (fun n fr H => ∃ a, ms a = n ∧ ok a ∧ keep.map (getT fr) = vs a ∧ fr.length = len ∧ H = Hd a) (fun n fr H ⟨a, e, q1, q2, q3, q4⟩ => ?_) (ms a) fr H ⟨a, rfl, h1, h2, h3, h4⟩
  subst e; subst q4
  have := hb a fr q1
  rw [frK_eq q2 q3] at this
  refine this.mono fun x fr' H' hp => ?_
  simp only [postK] at hp
  cases x with
  | normal =>
    obtain ⟨b, z1, z2, z3, z4, z5⟩ := hp
    exact ⟨ms b, z1, b, rfl, z2, z3, z4, z5⟩
  | exit id => exact hp
  | ret => exact hp

/-- Arguments that hold no objects: the call's own objects begin at nought. -/
theorem pure_good0 {E : Env} {c : Code} {f : FuncId} {fn : Func} (hz : GlFrz E.gl) (h1 : okFn P f = true) (hfn : P.funcs[f]? = some fn) (hb : fn.body = some c) {ts : List T} {r : T} {d : Nat} (hts : mapO (frzT d ⟨0, []⟩) ts = some ts)
    (h : Good P E c (ts ++ List.replicate (fn.ntmps - ts.length) undefT) ⟨0, []⟩ (Ends P fn k r)) : PureFn P E.gl f ts r := by
  refine ⟨h1, fun g vs hg ⟨N, hN⟩ hgl hv => ?_⟩
  have hsN : St g ⟨N, []⟩ := ⟨fun l o ho => by simp [Hp.get, findOb] at ho, fun l l' o o' ho => by simp [Hp.get, findOb] at ho, hN⟩
  have hts1 : mapO (frzT d ⟨N, []⟩) ts = some ts := by
    have : ∀ (ts ts' : List T), mapO (frzT d ⟨0, []⟩) ts = some ts' → mapO (frzT d ⟨N, []⟩) ts = some ts' := by
      intro ts
      induction ts with
      | nil => intro rs h; exact h
      | cons t ts iht =>
        intro rs h
        simp only [mapO] at h ⊢
        split at h
        · rename_i a ha
          split at h
          · rename_i b hb
            rw [frz_bare d 0 _ _ _ ha, iht _ hb]; exact h
          · cases h
        · cases h
    exact this ts ts hts
  have hv' : RdL g.bare vs ts := by
    have := frzL_ok (g0 := g.bare) hsN hts1 hv
    rw [frz_nil] at this
    exact this
  have hgl' : GlOk E.gl g.bare := by
    have := GlOk.frz (g0 := g.bare) hz hsN hgl
    rw [frz_nil] at this
    exact this
  have hs : St g.bare ⟨0, []⟩ := ⟨fun l o ho => by simp [Hp.get, findOb] at ho, fun l l' o o' ho => by simp [Hp.get, findOb] at ho, fun l _ q => q⟩
  have hframe : RdL g.bare (vs.toArray ++ Array.replicate (fn.ntmps - vs.toArray.size) undef).toList (ts ++ List.replicate (fn.ntmps - ts.length) undefT) := by
    have : (vs.toArray ++ Array.replicate (fn.ntmps - vs.toArray.size) undef).toList = vs ++ List.replicate (fn.ntmps - ts.length) undef := by simp [hv.1]
    rw [this]
    exact hv'.append (RdL.replicate _ Rd.undef)
  have hinv : CInv E g.bare ⟨0, []⟩ g.bare { tmps := vs.toArray ++ Array.replicate (fn.ntmps - vs.toArray.size) undef, defers := [] } (ts ++ List.replicate (fn.ntmps - ts.length) undefT) ⟨0, []⟩ := ⟨hg, hs, hgl', rfl, hframe, SStep.refl _ _⟩
  refine calls_of_wp hfn hb (h g.bare g.bare ⟨0, []⟩ _ hinv _ (fun x fr' H' a' g' hQ hc => ?_))
  obtain ⟨hx, q, hq, hz⟩ := hQ
  obtain ⟨v, hv1, hv2⟩ := result_ok (fn := fn) hc hq
  have e3 := hc.step
  have fin : ∃ v' g'', Ending.returned v = .returned v' ∧ g''.w = g'.w ∧ PStep g g'' ∧ Gok g'' ∧ Rd g'' v' r := by
    refine ⟨v, g'.frz H' g, rfl, rfl, ?_, ?_, frz_ok hc.st k q r v hz hv2⟩
    · refine ⟨e3.os, e3.tape, e3.output, e3.size, fun b hb => e3.block b hb (fun l o ho => by simp [Hp.get, findOb] at ho), fun b hb => .inl (e3.sub b hb), fun b hb => ?_, rfl, rfl, rfl⟩
      rcases hb with hb | ⟨l, o, ho, rfl⟩
      · rcases e3.fresh b hb with q | q | ⟨l, o, ho, _⟩
        · exact .inl q
        · exact .inr q
        · simp [Hp.get, findOb] at ho
      · rcases e3.live l o ho with ⟨l0, o0, q, _⟩ | q
        · simp [Hp.get, findOb] at q
        · exact .inr q
    · intro b hb
      rcases hb with hb | ⟨l, o, ho, rfl⟩
      · exact hc.ok b hb
      · exact hc.st.lt ho
  rcases hx with rfl | rfl
  · exact ⟨hc.df, v, hv1, fin⟩
  · exact ⟨hc.df, v, hv1, fin⟩
end
end
end Go.Ps

/- The ways, in the form in which they are used. -/
namespace Go.Ps

/-- What stands under a walk: the program's rule of orders, the contracts of pure callees, and of object-changing ones. -/
structure Cx (P : Program) (D : Ed) (F : Fc) : Prop where
  hm : P.follows .mixedOrders = true
  hE : PeOk P D.gl D.env.pe
  hF : EeOk P D.gl F.ee

section
variable {P : Program} {D : Ed} {F : Fc} {As : List (List T → Hp → Prop)} {fn : Func} {k : Nat} {res : T} {keep : List Nat} {N : Nat} {c : Code} {ks : List Ki} {fr : List T} {H H' : Hp} {ds log : List Bool} {vs : List T} {len : Nat}

theorem Cx.done {r : Option T} (x : Cx P D F) (hc : codeOk c = true) (hk : ksOk ks = true)
    (h : outK P fn k keep (runK P D F N (.code c) ks 0 fr H ds []) = some (.done r, log, H', vs, len)) (hr : r = some res) (hl : allT log = true) : Good P D.env c fr H (postK P D.env (Ends P fn k res) ks As) :=
  way_done (m := .code c) x.hm x.hE x.hF hc hk h hr hl

theorem Cx.again (x : Cx P D F) (hc : codeOk c = true) (hk : ksOk ks = true) {Q : X → List T → Hp → Prop} {j : Nat}
    (h : outK P fn k keep (runK P D F N (.code c) ks 0 fr H ds []) = some (.again j, log, H', vs, len)) (hl : allT log = true) {A : List T → Hp → Prop} (hA : As[j]? = some A) (hq : ∀ fr', keep.map (getT fr') = vs → fr'.length = len → A fr' H') :
    Good P D.env c fr H (postK P D.env Q ks As) :=
  way_again (m := .code c) x.hm x.hE x.hF hc hk h hl hA hq

theorem Cx.loop (x : Cx P D F) (hc : codeOk c = true) (hk : ksOk ks = true) {Q : X → List T → Hp → Prop} {j : Nat} {c' : Code} {ks' : List Ki}
    (h : outK P fn k keep (runK P D F N (.code c) ks 0 fr H ds []) = some (.loop j c' ks', log, H', vs, len)) (hl : allT log = true) (hq : ∀ fr', keep.map (getT fr') = vs → fr'.length = len → Good P D.env (.loop c') fr' H' (postK P D.env Q ks' (As.drop j))) :
    Good P D.env c fr H (postK P D.env Q ks As) :=
  way_loop (m := .code c) x.hm x.hE x.hF hc hk h hl hq
end

theorem rdI_scal {g : G} {v : Value} {c : T} (hs : scal1 c = true) (h : Rd g v c) : RdI g v c := by
  cases h with
  | int k n => exact .int k n
  | bool b => exact .bool b
  | str s => exact .str s
  | nilp => exact .nilp
  | nils => exact .nils
  | nilf => exact .nilf
  | nili => exact .nili
  | nilm => exact .nilm
  | _ => simp [scal1] at hs

theorem scal1_cells {c : T} (hs : scal1 c = true) : c.cells = [c] := by cases c <;> simp [scal1] at hs <;> rfl

/-- A slice of plain values, its elements given by a function. -/
theorem rd_slf {g : G} {v : Value} {full : Bool} {xs : List T} {n : Nat} {f : Nat → T} (h : Rd g v (.sl full xs)) (hs : ∀ x ∈ xs, scal1 x = true) (hn : xs.length = n) (hf : ∀ i, i < n → xs[i]? = some (f i)) : Rd g v (.slf full n f) := by
  subst hn
  cases h with
  | sl _ _ sz b o cap vs h1 h2 h3 h4 h5 h6 h7 h8 =>
    refine .slf full xs.length f sz b o cap vs (fun q => h1 (fun e => q (by simp [e]))) (fun i hi => h2 _ (List.mem_of_getElem? (hf i hi))) h3 h4 h5 h6 h7 (fun i j u c hi hj hu hc => ?_)
    have hm := List.mem_of_getElem? (hf i hi)
    have hr := h8 _ u c hu (rows_at h2 (hf i hi) j c hc)
    rw [scal1_cells (hs _ hm)] at hc
    cases j with
    | zero => simp at hc; subst hc; exact rdI_scal (hs _ hm) hr
    | succ j => simp at hc

theorem rd_nslf {g : G} {v : Value} (full : Bool) (f : Nat → T) (h : Rd g v .nils) : Rd g v (.slf full 0 f) := by
  cases h; exact .slfn full f _

theorem PureFn.mono {P : Program} {gl : Nat → Option T} {f : FuncId} {ts : List T} {r r' : T} (h : PureFn P gl f ts r) (k : ∀ g v, Rd g v r → Rd g v r') : PureFn P gl f ts r' :=
  ⟨h.1, fun g vs hg hN hgl hv => (h.2 g vs hg hN hgl hv).mono fun _ _ ⟨v, g', e1, e2, e3, e4, e5⟩ => ⟨v, g', e1, e2, e3, e4, k _ _ e5⟩⟩
end Go.Ps

/- The library's functions on the road, laid at this program (by the kit's lay-shelf and lay-plain). -/
namespace Go.Proofs
open Go.Shelf
def Tryd.lays156_ren : Go.Shelf.Ren := ⟨fun | 156 => 28 | 165 => 46 | 166 => 27 | 169 => 31 | 240 => 45 | 241 => 65 | 276 => 64 | 277 => 71 | n => n, fun | 31 => 47 | 9 => 9 | 3 => 3 | 4 => 4 | 0 => 0 | 20 => 20 | 72 => 46 | 76 => 51 | 70 => 43 | 37 => 44 | 75 => 50 | 127 => 70 | 164 => 83 | 5 => 5 | 80 => 57 | n => n, fun | n => n⟩
theorem Tryd.lays156 : Go.Proofs.Lays.n156 Tryd.prog Tryd.lays156_ren := {
  mixed := by kernel_rfl
  f156 := Tryd.func28.trans (congrArg some (by kernel_rfl))
  f165 := Tryd.func46.trans (congrArg some (by kernel_rfl))
  f166 := Tryd.func27.trans (congrArg some (by kernel_rfl))
  f169 := Tryd.func31.trans (congrArg some (by kernel_rfl))
  f240 := Tryd.func45.trans (congrArg some (by kernel_rfl))
  f241 := Tryd.func65.trans (congrArg some (by kernel_rfl))
  f276 := Tryd.func64.trans (congrArg some (by kernel_rfl))
  f277 := Tryd.func71.trans (congrArg some (by kernel_rfl))
  t0 := Tryd.underlying0
  a0 := Tryd.isAgg0
  z0 := Tryd.sizeOf0
  v0 := Tryd.zeroValue0
  t3 := Tryd.underlying3
  a3 := Tryd.isAgg3
  z3 := Tryd.sizeOf3
  v3 := Tryd.zeroValue3
  t4 := Tryd.underlying4
  a4 := Tryd.isAgg4
  z4 := Tryd.sizeOf4
  v4 := Tryd.zeroValue4
  t9 := Tryd.underlying9
  a9 := Tryd.isAgg9
  z9 := Tryd.sizeOf9
  v9 := Tryd.zeroValue9
  t20 := Tryd.underlying20
  a20 := Tryd.isAgg20
  z20 := Tryd.sizeOf20
  v20 := Tryd.zeroValue20
  t31 := Tryd.underlying47
  a31 := Tryd.isAgg47
  z31 := Tryd.sizeOf47
  v31 := Tryd.zeroValue47
  t37 := Tryd.underlying44
  a37 := Tryd.isAgg44
  z37 := Tryd.sizeOf44
  v37 := Tryd.zeroValue44
  t70 := Tryd.underlying43
  a70 := Tryd.isAgg43
  z70 := Tryd.sizeOf43
  v70 := Tryd.zeroValue43
  t72 := Tryd.underlying46
  a72 := Tryd.isAgg46
  z72 := Tryd.sizeOf46
  v72 := Tryd.zeroValue46
  t75 := Tryd.underlying50
  a75 := Tryd.isAgg50
  z75 := Tryd.sizeOf50
  v75 := Tryd.zeroValue50
  t76 := Tryd.underlying51
  a76 := Tryd.isAgg51
  z76 := Tryd.sizeOf51
  v76 := Tryd.zeroValue51
  t127 := Tryd.underlying70
  a127 := Tryd.isAgg70
  z127 := Tryd.sizeOf70
  v127 := Tryd.zeroValue70
  t164 := Tryd.underlying83
  a164 := Tryd.isAgg83
  z164 := Tryd.sizeOf83
  v164 := Tryd.zeroValue83 }
theorem Tryd.Builder_Extra_156 : Builder.Extra Tryd.prog Tryd.lays156_ren := {
  sizeBuilder := by kernel_rfl
  liesBuilder := by kernel_rfl
  t5 := Tryd.underlying5
  a5 := Tryd.isAgg5
  z5 := Tryd.sizeOf5
  v5 := Tryd.zeroValue5
  infoByte := by kernel_rfl
  cellsByte := by kernel_rfl
  sizeByte := by kernel_rfl
  neB5 := by decide }
def Tryd.laysM171_ren : Go.Shelf.Ren := ⟨fun | 171 => 26 | 243 => 44 | 246 => 63 | 283 => 67 | 284 => 68 | 285 => 69 | 286 => 70 | 129 => 73 | 317 => 72 | 318 => 74 | 319 => 75 | 320 => 76 | 337 => 77 | 338 => 78 | n => n, fun | 3 => 3 | 9 => 9 | 2 => 2 | 4 => 4 | 171 => 86 | 0 => 0 | 53 => 87 | 37 => 44 | 5 => 5 | 173 => 90 | 212 => 95 | 51 => 96 | 20 => 20 | 213 => 97 | 46 => 85 | 232 => 100 | 233 => 101 | n => n, fun | 17 => 0 | 18 => 2 | 19 => 3 | n => n⟩
theorem Tryd.laysM171 : Go.Proofs.LaysM.n171 Tryd.prog Tryd.laysM171_ren := {
  mixed := by kernel_rfl
  f129 := Tryd.func73.trans (congrArg some (by kernel_rfl))
  f171 := Tryd.func26.trans (congrArg some (by kernel_rfl))
  f243 := Tryd.func44.trans (congrArg some (by kernel_rfl))
  f246 := Tryd.func63.trans (congrArg some (by kernel_rfl))
  f283 := Tryd.func67.trans (congrArg some (by kernel_rfl))
  f284 := Tryd.func68.trans (congrArg some (by kernel_rfl))
  f285 := Tryd.func69.trans (congrArg some (by kernel_rfl))
  f286 := Tryd.func70.trans (congrArg some (by kernel_rfl))
  f317 := Tryd.func72.trans (congrArg some (by kernel_rfl))
  f318 := Tryd.func74.trans (congrArg some (by kernel_rfl))
  f319 := Tryd.func75.trans (congrArg some (by kernel_rfl))
  f320 := Tryd.func76.trans (congrArg some (by kernel_rfl))
  f337 := Tryd.func77.trans (congrArg some (by kernel_rfl))
  f338 := Tryd.func78.trans (congrArg some (by kernel_rfl))
  t0 := Tryd.underlying0
  a0 := Tryd.isAgg0
  z0 := Tryd.sizeOf0
  v0 := Tryd.zeroValue0
  t2 := Tryd.underlying2
  a2 := Tryd.isAgg2
  z2 := Tryd.sizeOf2
  v2 := Tryd.zeroValue2
  t3 := Tryd.underlying3
  a3 := Tryd.isAgg3
  z3 := Tryd.sizeOf3
  v3 := Tryd.zeroValue3
  t4 := Tryd.underlying4
  a4 := Tryd.isAgg4
  z4 := Tryd.sizeOf4
  v4 := Tryd.zeroValue4
  t5 := Tryd.underlying5
  a5 := Tryd.isAgg5
  z5 := Tryd.sizeOf5
  v5 := Tryd.zeroValue5
  t9 := Tryd.underlying9
  a9 := Tryd.isAgg9
  z9 := Tryd.sizeOf9
  v9 := Tryd.zeroValue9
  t20 := Tryd.underlying20
  a20 := Tryd.isAgg20
  z20 := Tryd.sizeOf20
  v20 := Tryd.zeroValue20
  t37 := Tryd.underlying44
  a37 := Tryd.isAgg44
  z37 := Tryd.sizeOf44
  v37 := Tryd.zeroValue44
  t46 := Tryd.underlying85
  a46 := Tryd.isAgg85
  z46 := Tryd.sizeOf85
  v46 := Tryd.zeroValue85
  t51 := Tryd.underlying96
  a51 := Tryd.isAgg96
  z51 := Tryd.sizeOf96
  v51 := Tryd.zeroValue96
  t53 := Tryd.underlying87
  a53 := Tryd.isAgg87
  z53 := Tryd.sizeOf87
  v53 := Tryd.zeroValue87
  t171 := Tryd.underlying86
  a171 := Tryd.isAgg86
  z171 := Tryd.sizeOf86
  v171 := Tryd.zeroValue86
  t173 := Tryd.underlying90
  a173 := Tryd.isAgg90
  z173 := Tryd.sizeOf90
  v173 := Tryd.zeroValue90
  t212 := Tryd.underlying95
  a212 := Tryd.isAgg95
  z212 := Tryd.sizeOf95
  v212 := Tryd.zeroValue95
  t213 := Tryd.underlying97
  a213 := Tryd.isAgg97
  z213 := Tryd.sizeOf97
  t232 := Tryd.underlying100
  a232 := Tryd.isAgg100
  z232 := Tryd.sizeOf100
  v232 := Tryd.zeroValue100
  t233 := Tryd.underlying101
  a233 := Tryd.isAgg101
  z233 := Tryd.sizeOf101
  v233 := Tryd.zeroValue101
  g17 := by kernel_rfl
  g18 := by kernel_rfl
  g19 := by kernel_rfl
  i0 := by kernel_rfl
  i2 := by kernel_rfl
  i3 := by kernel_rfl
  i4 := by kernel_rfl
  i5 := by kernel_rfl
  i9 := by kernel_rfl
  i20 := by kernel_rfl
  i37 := by kernel_rfl
  i46 := by kernel_rfl
  i51 := by kernel_rfl
  i53 := by kernel_rfl
  i171 := by kernel_rfl
  i173 := by kernel_rfl
  i212 := by kernel_rfl
  i232 := by kernel_rfl
  i233 := by kernel_rfl
  m17 := by kernel_rfl
  m18 := by kernel_rfl
  m19 := by kernel_rfl }
end Go.Proofs

/- The example of the chapter: known() is true: a closed run. -/
namespace Go.Proofs
open Go.Ps

/-- The one package variable that the road reads. -/
def Tryd.gl : Nat → Option T := fun n => if n = 0 then some (.ref (.agg (Lib.pow10Tab.map (T.int .u64))) 0) else none

def Tryd.efK (f : FuncId) : Bool := [12, 25, 27].contains f
def Tryd.puK (f : FuncId) : Bool := [8, 9, 13, 14, 15, 16, 17, 18, 19, 29, 30, 32, 33, 34, 35, 36, 37, 38, 39, 40, 47, 48, 49, 50, 51, 52, 53, 54, 55, 56, 57, 58, 59, 60, 61, 62, 66].contains f
def Tryd.ownK (f : FuncId) (d : Tmp) : Bool := if f = 6 then d == 4 else if f = 12 then d == 0 || d == 22 else if f = 13 then d == 5 else if f = 40 then d == 1 || d == 2 else false
def Tryd.peK (f : FuncId) (ts : List T) : Option T := if f = 26 then itoaX ts else if f = 28 then joinX ts else none
def Tryd.eeK (f : FuncId) (ts : List T) (H : Hp) : Option (T × Hp) := if f = 45 then copyX 46 ts H else if f = 31 then strX 46 5 ts H else none
def Tryd.XK : Xt := Xt.mk Tryd.gl Tryd.peK Tryd.eeK Tryd.ownK Tryd.puK Tryd.efK 100 60

theorem Tryd.follows : Tryd.prog.follows .mixedOrders = true := by kernel_rfl

theorem Tryd.fnsK : ([6, 8, 9, 12, 13, 14, 15, 16, 17, 18, 19, 25, 27, 29, 30, 32, 33, 34, 35, 36, 37, 38, 39, 40, 47, 48, 49, 50, 51, 52, 53, 54, 55, 56, 57, 58, 59, 60, 61, 62, 66].all fun f => okFn Tryd.prog f && fnOk Tryd.prog f) = true := by kernel_rfl

theorem Tryd.glFrz : GlFrz Tryd.gl := by
  intro k t h
  unfold Tryd.gl at h
  split at h
  · cases h; exact ⟨5, by kernel_rfl⟩
  · cases h

theorem Tryd.tab {g : G} (hg : GlOk Tryd.gl g) (n : Int) (h0 : -9223372036854775808 ≤ n) (h1 : n ≤ 9223372036854775807) : Calls Tryd.prog 26 #[.int .i64 n] g.w fun e w' => e = .returned (.string ⟨(Lib.itoa n).toArray⟩) ∧ ∃ k os, w' = Sort.grow (g.w.drewN k) os := by
  refine Any.strconv_Itoa Tryd.laysM171 n h0 h1 g.w ?_
  obtain ⟨e, fz, h⟩ := tab_of (hg 0 _ rfl)
  unfold Lib.TabIs World.var?
  rw [show Tryd.prog.globalNamed _ = some 0 by kernel_rfl]
  simp only [Option.bind_some, h]

theorem Tryd.pcK : PcOk Tryd.prog Tryd.gl Tryd.peK := by
  intro f ts r h
  unfold Tryd.peK at h
  have key : PureFn Tryd.prog Tryd.gl f ts r := by
    split at h
    · rename_i e; subst e
      exact itoa_pc (ρ := Tryd.laysM171_ren) (by kernel_rfl) (fun g hg n h0 h1 => Tryd.tab hg n h0 h1) ts r h
    · split at h
      · rename_i e; subst e
        exact join_pc Tryd.lays156 Tryd.Builder_Extra_156 (by kernel_rfl) ts r h
      · cases h
  exact ⟨key.1, fun g vs hg hal => key.2 g vs hg ⟨0, fun l _ => hal l⟩⟩

theorem Tryd.eoK : EeOk Tryd.prog Tryd.gl Tryd.eeK := by
  intro f ts H r H' h
  unfold Tryd.eeK at h
  split at h
  · rename_i e; subst e
    exact copy_ee (ρ := Tryd.lays156_ren) { Tryd.lays156 with } Tryd.Builder_Extra_156.toX72 (by kernel_rfl) h
  · split at h
    · rename_i e; subst e
      exact str_ee (ρ := Tryd.lays156_ren) { Tryd.lays156 with } Tryd.Builder_Extra_156 (by kernel_rfl) h
    · cases h

theorem Tryd.okK (f : FuncId) (h : f ∈ [6, 8, 9, 12, 13, 14, 15, 16, 17, 18, 19, 25, 27, 29, 30, 32, 33, 34, 35, 36, 37, 38, 39, 40, 47, 48, 49, 50, 51, 52, 53, 54, 55, 56, 57, 58, 59, 60, 61, 62, 66]) : okFn Tryd.prog f = true ∧ fnOk Tryd.prog f = true := by
  have := List.all_eq_true.1 Tryd.fnsK f h
  simpa using this

theorem Tryd.knownRuns (d : Nat) : PcOk Tryd.prog Tryd.gl (runP Tryd.prog Tryd.XK d).1 ∧ EeOk Tryd.prog Tryd.gl (runP Tryd.prog Tryd.XK d).2 := by
  refine runP_ok (X := Tryd.XK) Tryd.follows (fun f h => Tryd.okK f ?_) (fun f h => Tryd.okK f ?_) Tryd.glFrz Tryd.pcK Tryd.eoK d
  · have : f ∈ [8, 9, 13, 14, 15, 16, 17, 18, 19, 29, 30, 32, 33, 34, 35, 36, 37, 38, 39, 40, 47, 48, 49, 50, 51, 52, 53, 54, 55, 56, 57, 58, 59, 60, 61, 62, 66] := List.contains_iff_mem.1 h
    exact List.contains_iff_mem.1 (List.all_eq_true.1 (show (List.all _ fun f => List.contains [6, 8, 9, 12, 13, 14, 15, 16, 17, 18, 19, 25, 27, 29, 30, 32, 33, 34, 35, 36, 37, 38, 39, 40, 47, 48, 49, 50, 51, 52, 53, 54, 55, 56, 57, 58, 59, 60, 61, 62, 66] f) = true by kernel_rfl) f this)
  · have : f ∈ [12, 25, 27] := List.contains_iff_mem.1 h
    exact List.contains_iff_mem.1 (List.all_eq_true.1 (show (List.all _ fun f => List.contains [6, 8, 9, 12, 13, 14, 15, 16, 17, 18, 19, 25, 27, 29, 30, 32, 33, 34, 35, 36, 37, 38, 39, 40, 47, 48, 49, 50, 51, 52, 53, 54, 55, 56, 57, 58, 59, 60, 61, 62, 66] f) = true by kernel_rfl) f this)

theorem Tryd.known_run : pureT Tryd.prog ⟨Tryd.gl, lend 60 (runP Tryd.prog Tryd.XK 11).1⟩ ⟨Tryd.ownK 6, (runP Tryd.prog Tryd.XK 11).2⟩ 100 60 6 [] = some (.bool true) := by kernel_rfl

/-- known() returns true, whatever there is. -/
theorem Tryd.known_ok : PureFn Tryd.prog Tryd.gl 6 [] (.bool true) := by
  have hk := Tryd.okK 6 (by decide)
  refine ⟨hk.1, fun g vs hg hN hgl hv => ?_⟩
  have hl : vs = [] := List.eq_nil_of_length_eq_zero (by simpa using hv.1)
  subst hl
  have hb : GlOk Tryd.gl g.bare := by
    obtain ⟨N, hN⟩ := hN
    have hs : St g ⟨N, []⟩ := ⟨fun l o ho => by simp [Hp.get, findOb] at ho, fun l l' o o' ho => by simp [Hp.get, findOb] at ho, hN⟩
    have := GlOk.frz (g0 := g.bare) Tryd.glFrz hs hgl
    rw [frz_nil] at this
    exact this
  refine (pureT_ok (E := ⟨Tryd.gl, lend 60 (runP Tryd.prog Tryd.XK 11).1⟩) (F := ⟨Tryd.ownK 6, (runP Tryd.prog Tryd.XK 11).2⟩) Tryd.follows (lend_ok Tryd.glFrz (Tryd.knownRuns 11).1) (Tryd.knownRuns 11).2 hk.2 Tryd.known_run g.bare [] hg (fun _ q => q) hb RdL.nil).mono fun e w' ⟨v, g', e1, e2, e3, e4, e5⟩ => ?_
  refine ⟨v, { w := g'.w, S := g'.S, al := g.al, loc := g.loc, cp := g.cp }, e1, e2, ⟨e3.os, e3.tape, e3.output, e3.size, e3.block, e3.sub, e3.fresh, rfl, rfl, rfl⟩, e4, ?_⟩
  exact scal_rd rfl e5

end Go.Proofs

/- Shares, and the law's own shares: both give the same list. -/
namespace Go.Proofs
open Go.Ps

def Tryd.shv (m p : Int) (i : Nat) : T := .int .i64 (if (i : Int) < m.tmod p then IntKind.i64.wrap (IntKind.i64.wrap (m.tdiv p) + 1) else IntKind.i64.wrap (m.tdiv p))
def Tryd.shC (m p : Int) (n i : Nat) : List T := (List.range i).map (Tryd.shv m p) ++ List.replicate (n - i) (.int .i64 0)
def Tryd.sharesT (m p : Int) : T := if m < 0 ∨ p < 1 ∨ p > 65536 then .nils else .sl false ((List.range p.toNat).map (Tryd.shv m p))

def Tryd.D0 : Ed := ⟨Tryd.gl, fun _ _ _ => none⟩
def Tryd.F0 : Fc := ⟨fun _ => false, fun _ _ _ => none⟩
theorem Tryd.D0ok : PeOk Tryd.prog Tryd.D0.gl Tryd.D0.env.pe := pdNone_ok
theorem Tryd.F0ok : EeOk Tryd.prog Tryd.D0.gl Tryd.F0.ee := eeNone_ok

theorem Tryd.shC_len (m p : Int) (n i : Nat) (h : i ≤ n) : (Tryd.shC m p n i).length = n := by simp [Tryd.shC]; omega

theorem Tryd.shC_get (m p : Int) (n i : Nat) (h : i < n) : Tryd.shC m p n i = (List.range i).map (Tryd.shv m p) ++ .int .i64 0 :: List.replicate (n - (i + 1)) (.int .i64 0) := by
  unfold Tryd.shC
  have : n - i = (n - (i + 1)) + 1 := by omega
  rw [this, List.replicate_succ]

theorem Tryd.splice_mid (a b : List T) (x y : T) (i : Nat) (h : a.length = i) : spliceT (a ++ x :: b) i [y] = a ++ y :: b := by
  subst h
  simp [spliceT]

theorem Tryd.shC_step (m p : Int) (n i : Nat) (h : i < n) (y : T) (hy : y = Tryd.shv m p i) : spliceT (Tryd.shC m p n i) i [y] = Tryd.shC m p n (i + 1) := by
  rw [Tryd.shC_get m p n i h, Tryd.splice_mid _ _ _ _ _ (by simp), hy]
  unfold Tryd.shC
  rw [List.range_succ, List.map_append]
  simp

section
set_option maxRecDepth 100000

theorem Tryd.w9_nil1 (m p : Int) : outK Tryd.prog Tryd.f9 20 [] (runK Tryd.prog Tryd.D0 Tryd.F0 1000 (.code (bodyOf Tryd.f9)) [] 0 ([.int .i64 m, .int .i64 p] ++ List.replicate 41 undefT) ⟨0, []⟩ [true, true, true, true, true, true, true] [])
    = some (.done (some .nils), [true, true, true, true, decide (m < 0), decide (m < 0), decide (m < 0)], ⟨0, []⟩, [], 0) := by kernel_rfl

theorem Tryd.w9_nil2 (m p : Int) : outK Tryd.prog Tryd.f9 20 [] (runK Tryd.prog Tryd.D0 Tryd.F0 1000 (.code (bodyOf Tryd.f9)) [] 0 ([.int .i64 m, .int .i64 p] ++ List.replicate 41 undefT) ⟨0, []⟩ [false, false, false, true, true, true, true] [])
    = some (.done (some .nils), [true, decide (p < 1), decide (p < 1), decide (p < 1), !decide (m < 0), !decide (m < 0), !decide (m < 0)], ⟨0, []⟩, [], 0) := by kernel_rfl

theorem Tryd.w9_nil3 (m p : Int) : outK Tryd.prog Tryd.f9 20 [] (runK Tryd.prog Tryd.D0 Tryd.F0 1000 (.code (bodyOf Tryd.f9)) [] 0 ([.int .i64 m, .int .i64 p] ++ List.replicate 41 undefT) ⟨0, []⟩ [false, false, false, false, false, false, true] [])
    = some (.done (some .nils), [decide (p > 65536), !decide (p < 1), !decide (p < 1), !decide (p < 1), !decide (m < 0), !decide (m < 0), !decide (m < 0)], ⟨0, []⟩, [], 0) := by kernel_rfl

theorem Tryd.w9_in (m p : Int) : outK Tryd.prog Tryd.f9 20 [0, 1, 5, 20, 21] (runK Tryd.prog Tryd.D0 Tryd.F0 1000 (.code (bodyOf Tryd.f9)) [] 0 ([.int .i64 m, .int .i64 p] ++ List.replicate 41 undefT) ⟨0, []⟩ [false, false, false, false, false, false, false] [])
    = some (.loop 0 (loopAt Tryd.f9 0).1 (loopAt Tryd.f9 0).2, [decide (0 ≤ p), decide (p = p), decide (p.toNat * 8 ≤ 70368744177664), decide (p ≤ 70368744177664), !decide (p > 65536), !decide (p < 1), !decide (p < 1), !decide (p < 1), !decide (m < 0), !decide (m < 0), !decide (m < 0)],
      ⟨1, [(0, ⟨3, 1, (List.replicate p.toNat (T.int .i64 0)).flatMap T.cells⟩)]⟩, [.int .i64 m, .int .i64 p, .osl 0 1 0 p.toNat, .int .i64 p.toNat, .int .i64 0], 43) := by kernel_rfl

theorem Tryd.w9_end (m p : Int) (n i : Nat) (C fr : List T) : outK Tryd.prog Tryd.f9 20 [] (runK Tryd.prog Tryd.D0 Tryd.F0 1000 (.code (loopAt Tryd.f9 0).1) (.lp :: (loopAt Tryd.f9 0).2) 0 (frK [0, 1, 5, 20, 21] [.int .i64 m, .int .i64 p, .osl 0 1 0 n, .int .i64 n, .int .i64 i] fr 43) ⟨1, [(0, ⟨3, 1, C⟩)]⟩ [false] [])
    = some (.done (frzT 20 ⟨1, [(0, ⟨3, 1, C⟩)]⟩ (.osl 0 1 0 n)), [!decide ((i : Int) < n)], ⟨0, []⟩, [], 0) := by kernel_rfl

theorem Tryd.w9_lo (m p : Int) (n i : Nat) (C fr : List T) : outK Tryd.prog Tryd.f9 20 [0, 1, 5, 20, 21] (runK Tryd.prog Tryd.D0 Tryd.F0 1000 (.code (loopAt Tryd.f9 0).1) (.lp :: (loopAt Tryd.f9 0).2) 0 (frK [0, 1, 5, 20, 21] [.int .i64 m, .int .i64 p, .osl 0 1 0 n, .int .i64 n, .int .i64 i] fr 43) ⟨1, [(0, ⟨3, 1, C⟩)]⟩ [true, false] [])
    = some (.again 0, [!decide ((i : Int) < m.tmod p), p != 0, true, decide ((0 + i) * 1 + 1 ≤ C.length), true, decide (0 ≤ (i : Int)), decide ((i : Int) < n), p != 0, decide ((i : Int) < n)],
      ⟨1, [(0, ⟨3, 1, spliceT C ((0 + i) * 1) [.int .i64 (IntKind.i64.wrap (m.tdiv p))]⟩)]⟩, [.int .i64 m, .int .i64 p, .osl 0 1 0 n, .int .i64 n, .int .i64 (IntKind.i64.wrap ((i : Int) + 1))], 43) := by kernel_rfl

theorem Tryd.w9_hi (m p : Int) (n i : Nat) (C fr : List T) : outK Tryd.prog Tryd.f9 20 [0, 1, 5, 20, 21] (runK Tryd.prog Tryd.D0 Tryd.F0 1000 (.code (loopAt Tryd.f9 0).1) (.lp :: (loopAt Tryd.f9 0).2) 0 (frK [0, 1, 5, 20, 21] [.int .i64 m, .int .i64 p, .osl 0 1 0 n, .int .i64 n, .int .i64 i] fr 43) ⟨1, [(0, ⟨3, 1, C⟩)]⟩ [true, true] [])
    = some (.again 0, [true, decide ((0 + i) * 1 + 1 ≤ (spliceT C ((0 + i) * 1) [.int .i64 (IntKind.i64.wrap (m.tdiv p))]).length), true, decide (0 ≤ (i : Int)), decide ((i : Int) < n),
        isInt .i64 ((spliceT C ((0 + i) * 1) [.int .i64 (IntKind.i64.wrap (m.tdiv p))]).getD ((0 + i) * 1) undefT), decide ((0 + i) * 1 < (spliceT C ((0 + i) * 1) [.int .i64 (IntKind.i64.wrap (m.tdiv p))]).length), true, decide (0 ≤ (i : Int)), decide ((i : Int) < n),
        decide ((i : Int) < m.tmod p), p != 0, true, decide ((0 + i) * 1 + 1 ≤ C.length), true, decide (0 ≤ (i : Int)), decide ((i : Int) < n), p != 0, decide ((i : Int) < n)],
      ⟨1, [(0, ⟨3, 1, spliceT (spliceT C ((0 + i) * 1) [.int .i64 (IntKind.i64.wrap (m.tdiv p))]) ((0 + i) * 1) [.int .i64 (IntKind.i64.wrap (intv ((spliceT C ((0 + i) * 1) [.int .i64 (IntKind.i64.wrap (m.tdiv p))]).getD ((0 + i) * 1) undefT) + 1))]⟩)]⟩,
      [.int .i64 m, .int .i64 p, .osl 0 1 0 n, .int .i64 n, .int .i64 (IntKind.i64.wrap ((i : Int) + 1))], 43) := by kernel_rfl

theorem Tryd.body9_ok : codeOk (bodyOf Tryd.f9) = true := by kernel_rfl
theorem Tryd.loop9_ok : codeOk (loopAt Tryd.f9 0).1 = true := by kernel_rfl
theorem Tryd.ks9_ok : ksOk (.lp :: (loopAt Tryd.f9 0).2) = true := by kernel_rfl
theorem Tryd.cx0 : Cx Tryd.prog Tryd.D0 Tryd.F0 := ⟨Tryd.follows, Tryd.D0ok, Tryd.F0ok⟩

theorem Tryd.loop9 (m p : Int) (n : Nat) (hn : n ≤ 65536) (hp : p ≠ 0) : ∀ (i : Nat) (fr : List T) (H : Hp), i ≤ n → [0, 1, 5, 20, 21].map (getT fr) = [.int .i64 m, .int .i64 p, .osl 0 1 0 n, .int .i64 n, .int .i64 i] → fr.length = 43 → H = ⟨1, [(0, ⟨3, 1, Tryd.shC m p n i⟩)]⟩ →
    Ps.Good Tryd.prog Tryd.D0.env (.loop (loopAt Tryd.f9 0).1) fr H (postK Tryd.prog Tryd.D0.env (Ps.Ends Tryd.prog Tryd.f9 20 (.sl false (Tryd.shC m p n n))) (loopAt Tryd.f9 0).2 []) := by
  refine loop_data (α := Nat) [0, 1, 5, 20, 21] 43 (fun i => [.int .i64 m, .int .i64 p, .osl 0 1 0 n, .int .i64 n, .int .i64 (i : Nat)]) (fun i => ⟨1, [(0, ⟨3, 1, Tryd.shC m p n i⟩)]⟩) (fun i => i ≤ n) (fun i => n - i) (fun i fr hi => ?_)
  have hlen := Tryd.shC_len m p n i hi
  by_cases h1 : i < n
  · have e0 : (0 + i) * 1 = i := by omega
    have ei : IntKind.i64.wrap ((i : Int) + 1) = ((i + 1 : Nat) : Int) := by rw [IntWalk.i64_in _ (by omega)]; omega
    by_cases h2 : (i : Int) < m.tmod p
    · have hs : spliceT (Tryd.shC m p n i) i [.int .i64 (IntKind.i64.wrap (m.tdiv p))] = (List.range i).map (Tryd.shv m p) ++ .int .i64 (IntKind.i64.wrap (m.tdiv p)) :: List.replicate (n - (i + 1)) (.int .i64 0) := by
        rw [Tryd.shC_get m p n i h1, Tryd.splice_mid _ _ _ _ _ (by simp)]
      have hg : (spliceT (Tryd.shC m p n i) i [.int .i64 (IntKind.i64.wrap (m.tdiv p))]).getD i undefT = .int .i64 (IntKind.i64.wrap (m.tdiv p)) := by
        rw [hs, List.getD_eq_getElem?_getD, List.getElem?_append_right (by simp)]
        simp
      have hl2 : (spliceT (Tryd.shC m p n i) i [.int .i64 (IntKind.i64.wrap (m.tdiv p))]).length = n := by rw [hs]; simp; omega
      refine Tryd.cx0.again Tryd.loop9_ok Tryd.ks9_ok (Tryd.w9_hi m p n i _ fr) ?_ rfl ?_
      · simp only [e0, hg, hl2, hlen, allT, isInt]
        simp [hp, h2, h1]
        omega
      · intro fr' hk hl
        refine ⟨i + 1, by omega, by omega, ?_, hl, ?_⟩
        · rw [hk, ei]
        · rw [e0, hg, hs, Tryd.splice_mid _ _ _ _ _ (by simp)]
          have : Tryd.shC m p n (i + 1) = (List.range i).map (Tryd.shv m p) ++ Tryd.shv m p i :: List.replicate (n - (i + 1)) (.int .i64 0) := by
            unfold Tryd.shC
            rw [List.range_succ, List.map_append]
            simp
          rw [this]
          simp only [intv, Tryd.shv, if_pos h2]
    · refine Tryd.cx0.again Tryd.loop9_ok Tryd.ks9_ok (Tryd.w9_lo m p n i _ fr) ?_ rfl ?_
      · simp only [e0, hlen, allT]
        simp [hp, h1]
        omega
      · intro fr' hk hl
        refine ⟨i + 1, by omega, by omega, ?_, hl, ?_⟩
        · rw [hk, ei]
        · rw [e0, Tryd.shC_step m p n i h1 _ (by simp only [Tryd.shv, if_neg h2])]
  · have hin : i = n := by omega
    subst hin
    refine Tryd.cx0.done Tryd.loop9_ok Tryd.ks9_ok (Tryd.w9_end m p i i _ fr) ?_ ?_
    · refine frz_row (d := 18) (o := ⟨3, 1, Tryd.shC m p i i⟩) rfl rfl hlen ?_
      simp [Tryd.shC, Tryd.shv, scal1]
    · simp [allT]

/-- balance.Shares. -/
theorem Tryd.f9_ok (m p : Int) : PureFn Tryd.prog Tryd.gl 9 [.int .i64 m, .int .i64 p] (Tryd.sharesT m p) := by
  refine pure_good0 (E := Tryd.D0.env) (k := 20) (d := 1) (fn := Tryd.f9) (c := bodyOf Tryd.f9) Tryd.glFrz (Tryd.okK 9 (by decide)).1 Tryd.func9 (by kernel_rfl) (by kernel_rfl) ?_
  show Ps.Good Tryd.prog Tryd.D0.env (bodyOf Tryd.f9) ([.int .i64 m, .int .i64 p] ++ List.replicate 41 undefT) ⟨0, []⟩ (postK Tryd.prog Tryd.D0.env (Ps.Ends Tryd.prog Tryd.f9 20 (Tryd.sharesT m p)) [] [])
  by_cases h1 : m < 0
  · refine Tryd.cx0.done Tryd.body9_ok rfl (Tryd.w9_nil1 m p) ?_ ?_
    · simp [Tryd.sharesT, h1]
    · simp [allT, h1]
  · by_cases h2 : p < 1
    · refine Tryd.cx0.done Tryd.body9_ok rfl (Tryd.w9_nil2 m p) ?_ ?_
      · simp [Tryd.sharesT, h2]
      · simp [allT, h1, h2]
    · by_cases h3 : p > 65536
      · refine Tryd.cx0.done Tryd.body9_ok rfl (Tryd.w9_nil3 m p) ?_ ?_
        · simp [Tryd.sharesT, h3]
        · simp [allT, h1, h2, h3]
      · refine Tryd.cx0.loop Tryd.body9_ok rfl (Tryd.w9_in m p) ?_ ?_
        · simp only [allT]
          simp [h1, h2, h3]
          omega
        · intro fr hk hl
          have hr : Tryd.sharesT m p = .sl false (Tryd.shC m p p.toNat p.toNat) := by
            simp only [Tryd.sharesT, Tryd.shC]
            rw [if_neg (by omega)]
            simp
          rw [hr]
          refine Tryd.loop9 m p p.toNat (by omega) (by omega) 0 fr _ (by omega) hk hl ?_
          have : (List.replicate p.toNat (T.int .i64 0)).flatMap T.cells = List.replicate p.toNat (T.int .i64 0) := (flat_single _ (by simp [T.isAgg])).1
          rw [this]
          simp [Tryd.shC]
end
end Go.Proofs

/- The law's own shares, and BalanceShares: true. -/
namespace Go.Proofs
open Go.Ps

theorem Tryd.fnsA : ([4, 10].all fun f => okFn Tryd.prog f && fnOk Tryd.prog f) = true := by kernel_rfl
theorem Tryd.okA (f : FuncId) (h : f ∈ [4, 10]) : okFn Tryd.prog f = true ∧ fnOk Tryd.prog f = true := by
  have := List.all_eq_true.1 Tryd.fnsA f h
  simpa using this

section
set_option maxRecDepth 100000

theorem Tryd.w10_1 (m p : Int) : outK Tryd.prog Tryd.f10 20 [0, 1, 5, 6] (runK Tryd.prog Tryd.D0 Tryd.F0 1000 (.code (bodyOf Tryd.f10)) [] 0 ([.int .i64 m, .int .i64 p] ++ List.replicate 40 undefT) ⟨0, []⟩ [true, true, true, true, true, true, true] [])
    = some (OutT.done (some T.nils), [true, true, true, true, decide (m < 0), decide (m < 0), decide (m < 0)], { next := 0, objs := [] }, [], 0) := by kernel_rfl

theorem Tryd.w10_2 (m p : Int) : outK Tryd.prog Tryd.f10 20 [0, 1, 5, 6] (runK Tryd.prog Tryd.D0 Tryd.F0 1000 (.code (bodyOf Tryd.f10)) [] 0 ([.int .i64 m, .int .i64 p] ++ List.replicate 40 undefT) ⟨0, []⟩ [false, false, false, true, true, true, true] [])
    = some (OutT.done (some T.nils), [true, decide (p < 1), decide (p < 1), decide (p < 1), !decide (m < 0), !decide (m < 0), !decide (m < 0)], { next := 0, objs := [] }, [], 0) := by kernel_rfl

theorem Tryd.w10_3 (m p : Int) : outK Tryd.prog Tryd.f10 20 [0, 1, 5, 6] (runK Tryd.prog Tryd.D0 Tryd.F0 1000 (.code (bodyOf Tryd.f10)) [] 0 ([.int .i64 m, .int .i64 p] ++ List.replicate 40 undefT) ⟨0, []⟩ [false, false, false, false, false, false, true] [])
    = some (OutT.done (some T.nils), [decide (p > 65536), !decide (p < 1), !decide (p < 1), !decide (p < 1), !decide (m < 0), !decide (m < 0), !decide (m < 0)], { next := 0, objs := [] }, [], 0) := by kernel_rfl

theorem Tryd.w10_4 (m p : Int) : outK Tryd.prog Tryd.f10 20 [0, 1, 5, 6] (runK Tryd.prog Tryd.D0 Tryd.F0 1000 (.code (bodyOf Tryd.f10)) [] 0 ([.int .i64 m, .int .i64 p] ++ List.replicate 40 undefT) ⟨0, []⟩ [false, false, false, false, false, false, false] [])
    = some (OutT.loop 0 (loopAt Tryd.f10 0).1 (loopAt Tryd.f10 0).2, [decide (0 ≤ p), decide (p = p), decide (p.toNat * 8 ≤ 70368744177664), decide (p ≤ 70368744177664), !decide (p > 65536), !decide (p < 1), !decide (p < 1), !decide (p < 1), !decide (m < 0), !decide (m < 0), !decide (m < 0)], { next := 1, objs := [(0, { elem := 3, sz := 1, cells := List.flatMap T.cells (List.replicate p.toNat (T.int IntKind.i64 0)) })] }, [T.int IntKind.i64 m, T.int IntKind.i64 p, T.osl 0 1 0 p.toNat, T.int IntKind.i64 0], 42) := by kernel_rfl

theorem Tryd.w10l_1 (m p : Int) (n i : Nat) (C fr : List T) : outK Tryd.prog Tryd.f10 20 [0, 1, 5, 6] (runK Tryd.prog Tryd.D0 Tryd.F0 1000 (.code (loopAt Tryd.f10 0).1) (.lp :: (loopAt Tryd.f10 0).2) 0 (frK [0, 1, 5, 6] [.int .i64 m, .int .i64 p, .osl 0 1 0 n, .int .i64 i] fr 42) ⟨1, [(0, ⟨3, 1, C⟩)]⟩ [true, true] [])
    = some (OutT.again 0, [true, decide ((0 + i) * 1 + 1 ≤ (spliceT C ((0 + i) * 1) [T.int IntKind.i64 (IntKind.i64.wrap (m.tdiv p))]).length), true, true, decide ((↑i : Int) < (↑n : Int)), isInt IntKind.i64 ((spliceT C ((0 + i) * 1) [T.int IntKind.i64 (IntKind.i64.wrap (m.tdiv p))]).getD ((0 + i) * 1) undefT), decide ((0 + i) * 1 < (spliceT C ((0 + i) * 1) [T.int IntKind.i64 (IntKind.i64.wrap (m.tdiv p))]).length), true, true, decide ((↑i : Int) < (↑n : Int)), decide ((↑i : Int) < m.tmod p), p != 0, true, decide ((0 + i) * 1 + 1 ≤ C.length), true, true, decide ((↑i : Int) < (↑n : Int)), p != 0, decide ((↑i : Int) < p)], { next := 1, objs := [(0, { elem := 3, sz := 1, cells := spliceT (spliceT C ((0 + i) * 1) [T.int IntKind.i64 (IntKind.i64.wrap (m.tdiv p))]) ((0 + i) * 1) [T.int IntKind.i64 (IntKind.i64.wrap (intv ((spliceT C ((0 + i) * 1) [T.int IntKind.i64 (IntKind.i64.wrap (m.tdiv p))]).getD ((0 + i) * 1) undefT) + 1))] })] }, [T.int IntKind.i64 m, T.int IntKind.i64 p, T.osl 0 1 0 n, T.int IntKind.i64 (IntKind.i64.wrap ((↑i : Int) + 1))], 42) := by kernel_rfl

theorem Tryd.w10l_2 (m p : Int) (n i : Nat) (C fr : List T) : outK Tryd.prog Tryd.f10 20 [0, 1, 5, 6] (runK Tryd.prog Tryd.D0 Tryd.F0 1000 (.code (loopAt Tryd.f10 0).1) (.lp :: (loopAt Tryd.f10 0).2) 0 (frK [0, 1, 5, 6] [.int .i64 m, .int .i64 p, .osl 0 1 0 n, .int .i64 i] fr 42) ⟨1, [(0, ⟨3, 1, C⟩)]⟩ [true, false] [])
    = some (OutT.again 0, [!decide ((↑i : Int) < m.tmod p), p != 0, true, decide ((0 + i) * 1 + 1 ≤ C.length), true, true, decide ((↑i : Int) < (↑n : Int)), p != 0, decide ((↑i : Int) < p)], { next := 1, objs := [(0, { elem := 3, sz := 1, cells := spliceT C ((0 + i) * 1) [T.int IntKind.i64 (IntKind.i64.wrap (m.tdiv p))] })] }, [T.int IntKind.i64 m, T.int IntKind.i64 p, T.osl 0 1 0 n, T.int IntKind.i64 (IntKind.i64.wrap ((↑i : Int) + 1))], 42) := by kernel_rfl

theorem Tryd.w10l_3 (m p : Int) (n i : Nat) (C fr : List T) : outK Tryd.prog Tryd.f10 20 [0, 1, 5, 6] (runK Tryd.prog Tryd.D0 Tryd.F0 1000 (.code (loopAt Tryd.f10 0).1) (.lp :: (loopAt Tryd.f10 0).2) 0 (frK [0, 1, 5, 6] [.int .i64 m, .int .i64 p, .osl 0 1 0 n, .int .i64 i] fr 42) ⟨1, [(0, ⟨3, 1, C⟩)]⟩ [false] [])
    = some (OutT.done (frzT 20 { next := 1, objs := [(0, { elem := 3, sz := 1, cells := C })] } (T.osl 0 1 0 n)), [!decide ((↑i : Int) < p)], { next := 0, objs := [] }, [], 0) := by kernel_rfl

theorem Tryd.body10_ok : codeOk (bodyOf Tryd.f10) = true := by kernel_rfl
theorem Tryd.loop10_ok : codeOk (loopAt Tryd.f10 0).1 = true := by kernel_rfl
theorem Tryd.ks10_ok : ksOk (.lp :: (loopAt Tryd.f10 0).2) = true := by kernel_rfl

theorem Tryd.loop10 (m p : Int) (n : Nat) (hn : n ≤ 65536) (hp : p ≠ 0) (hnp : (n : Int) = p) : ∀ (i : Nat) (fr : List T) (H : Hp), i ≤ n → [0, 1, 5, 6].map (getT fr) = [.int .i64 m, .int .i64 p, .osl 0 1 0 n, .int .i64 i] → fr.length = 42 → H = ⟨1, [(0, ⟨3, 1, Tryd.shC m p n i⟩)]⟩ →
    Ps.Good Tryd.prog Tryd.D0.env (.loop (loopAt Tryd.f10 0).1) fr H (postK Tryd.prog Tryd.D0.env (Ps.Ends Tryd.prog Tryd.f10 20 (.sl false (Tryd.shC m p n n))) (loopAt Tryd.f10 0).2 []) := by
  refine loop_data (α := Nat) [0, 1, 5, 6] 42 (fun i => [.int .i64 m, .int .i64 p, .osl 0 1 0 n, .int .i64 (i : Nat)]) (fun i => ⟨1, [(0, ⟨3, 1, Tryd.shC m p n i⟩)]⟩) (fun i => i ≤ n) (fun i => n - i) (fun i fr hi => ?_)
  have hlen := Tryd.shC_len m p n i hi
  by_cases h1 : i < n
  · have e0 : (0 + i) * 1 = i := by omega
    have ei : IntKind.i64.wrap ((i : Int) + 1) = ((i + 1 : Nat) : Int) := by rw [IntWalk.i64_in _ (by omega)]; omega
    by_cases h2 : (i : Int) < m.tmod p
    · have hs : spliceT (Tryd.shC m p n i) i [.int .i64 (IntKind.i64.wrap (m.tdiv p))] = (List.range i).map (Tryd.shv m p) ++ .int .i64 (IntKind.i64.wrap (m.tdiv p)) :: List.replicate (n - (i + 1)) (.int .i64 0) := by
        rw [Tryd.shC_get m p n i h1, Tryd.splice_mid _ _ _ _ _ (by simp)]
      have hg : (spliceT (Tryd.shC m p n i) i [.int .i64 (IntKind.i64.wrap (m.tdiv p))]).getD i undefT = .int .i64 (IntKind.i64.wrap (m.tdiv p)) := by
        rw [hs, List.getD_eq_getElem?_getD, List.getElem?_append_right (by simp)]
        simp
      have hl2 : (spliceT (Tryd.shC m p n i) i [.int .i64 (IntKind.i64.wrap (m.tdiv p))]).length = n := by rw [hs]; simp; omega
      refine Tryd.cx0.again Tryd.loop10_ok Tryd.ks10_ok (Tryd.w10l_1 m p n i _ fr) ?_ rfl ?_
      · simp only [e0, hg, hl2, hlen, allT, isInt]
        simp [hp, h2, h1]
        omega
      · intro fr' hk hl
        refine ⟨i + 1, by omega, by omega, ?_, hl, ?_⟩
        · rw [hk, ei]
        · rw [e0, hg, hs, Tryd.splice_mid _ _ _ _ _ (by simp)]
          have : Tryd.shC m p n (i + 1) = (List.range i).map (Tryd.shv m p) ++ Tryd.shv m p i :: List.replicate (n - (i + 1)) (.int .i64 0) := by
            unfold Tryd.shC
            rw [List.range_succ, List.map_append]
            simp
          rw [this]
          simp only [intv, Tryd.shv, if_pos h2]
    · refine Tryd.cx0.again Tryd.loop10_ok Tryd.ks10_ok (Tryd.w10l_2 m p n i _ fr) ?_ rfl ?_
      · simp only [e0, hlen, allT]
        simp [hp, h1]
        omega
      · intro fr' hk hl
        refine ⟨i + 1, by omega, by omega, ?_, hl, ?_⟩
        · rw [hk, ei]
        · rw [e0, Tryd.shC_step m p n i h1 _ (by simp only [Tryd.shv, if_neg h2])]
  · have hin : i = n := by omega
    subst hin
    refine Tryd.cx0.done Tryd.loop10_ok Tryd.ks10_ok (Tryd.w10l_3 m p i i _ fr) ?_ ?_
    · refine frz_row (d := 18) (o := ⟨3, 1, Tryd.shC m p i i⟩) rfl rfl hlen ?_
      simp [Tryd.shC, Tryd.shv, scal1]
    · simp [allT]
      omega

/-- shares of the law. -/
theorem Tryd.f10_ok (m p : Int) : PureFn Tryd.prog Tryd.gl 10 [.int .i64 m, .int .i64 p] (Tryd.sharesT m p) := by
  refine pure_good0 (E := Tryd.D0.env) (k := 20) (d := 1) (fn := Tryd.f10) (c := bodyOf Tryd.f10) Tryd.glFrz (Tryd.okA 10 (by decide)).1 Tryd.func10 (by kernel_rfl) (by kernel_rfl) ?_
  show Ps.Good Tryd.prog Tryd.D0.env (bodyOf Tryd.f10) ([.int .i64 m, .int .i64 p] ++ List.replicate 40 undefT) ⟨0, []⟩ (postK Tryd.prog Tryd.D0.env (Ps.Ends Tryd.prog Tryd.f10 20 (Tryd.sharesT m p)) [] [])
  by_cases h1 : m < 0
  · refine Tryd.cx0.done Tryd.body10_ok rfl (Tryd.w10_1 m p) ?_ ?_
    · simp [Tryd.sharesT, h1]
    · simp [allT, h1]
  · by_cases h2 : p < 1
    · refine Tryd.cx0.done Tryd.body10_ok rfl (Tryd.w10_2 m p) ?_ ?_
      · simp [Tryd.sharesT, h2]
      · simp [allT, h1, h2]
    · by_cases h3 : p > 65536
      · refine Tryd.cx0.done Tryd.body10_ok rfl (Tryd.w10_3 m p) ?_ ?_
        · simp [Tryd.sharesT, h3]
        · simp [allT, h1, h2, h3]
      · refine Tryd.cx0.loop Tryd.body10_ok rfl (Tryd.w10_4 m p) ?_ ?_
        · simp only [allT]
          simp [h1, h2, h3]
          omega
        · intro fr hk hl
          have hr : Tryd.sharesT m p = .sl false (Tryd.shC m p p.toNat p.toNat) := by
            simp only [Tryd.sharesT, Tryd.shC]
            rw [if_neg (by omega)]
            simp
          rw [hr]
          refine Tryd.loop10 m p p.toNat (by omega) (by omega) (by omega) 0 fr _ (by omega) hk hl ?_
          have : (List.replicate p.toNat (T.int .i64 0)).flatMap T.cells = List.replicate p.toNat (T.int .i64 0) := (flat_single _ (by simp [T.isAgg])).1
          rw [this]
          simp [Tryd.shC]
end

/-- What both give, told by a function of the place. -/
def Tryd.shI (m p : Int) (i : Nat) : Int := if (i : Int) < m.tmod p then IntKind.i64.wrap (IntKind.i64.wrap (m.tdiv p) + 1) else IntKind.i64.wrap (m.tdiv p)
def Tryd.shN (m p : Int) : Nat := if m < 0 ∨ p < 1 ∨ p > 65536 then 0 else p.toNat
def Tryd.shF (m p : Int) : T := .slf false (Tryd.shN m p) (fun i => .int .i64 (Tryd.shI m p i))

theorem Tryd.sh_slf (m p : Int) {g : G} {v : Value} (h : Rd g v (Tryd.sharesT m p)) : Rd g v (Tryd.shF m p) := by
  unfold Tryd.sharesT at h
  unfold Tryd.shF Tryd.shN
  by_cases c : m < 0 ∨ p < 1 ∨ p > 65536
  · rw [if_pos c] at h ⊢
    exact rd_nslf _ _ h
  · rw [if_neg c] at h ⊢
    refine rd_slf h ?_ (by simp) ?_
    · intro x hx
      obtain ⟨i, _, rfl⟩ := List.mem_map.1 hx
      rfl
    · intro i hi
      rw [List.getElem?_map, List.getElem?_range hi]
      simp only [Option.map_some, Tryd.shv, Tryd.shI]

def Tryd.s9 : List T → Option (T × List Bool)
  | [.int .i64 m, .int .i64 p] => some (Tryd.shF m p, [])
  | _ => none
def Tryd.s6 : List T → Option (T × List Bool)
  | [] => some (.bool true, [])
  | _ => none
def Tryd.D1 : Ed := ⟨Tryd.gl, pdAdd 6 Tryd.s6 (pdAdd 9 Tryd.s9 (pdAdd 10 Tryd.s9 (fun _ _ _ => none)))⟩

theorem Tryd.s9_ok {f : FuncId} (hf : ∀ m p, PureFn Tryd.prog Tryd.gl f [.int .i64 m, .int .i64 p] (Tryd.sharesT m p)) (ts : List T) (r : T) (cs : List Bool) (h : Tryd.s9 ts = some (r, cs)) : PureFn Tryd.prog Tryd.gl f ts r := by
  unfold Tryd.s9 at h
  split at h
  · cases h
    exact (hf _ _).mono fun g v q => Tryd.sh_slf _ _ q
  · cases h
theorem Tryd.s6_ok (ts : List T) (r : T) (cs : List Bool) (h : Tryd.s6 ts = some (r, cs)) : PureFn Tryd.prog Tryd.gl 6 ts r := by
  unfold Tryd.s6 at h
  split at h
  · cases h; exact Tryd.known_ok
  · cases h
theorem Tryd.cx1 : Cx Tryd.prog Tryd.D1 Tryd.F0 := ⟨Tryd.follows, pdAdd_ok (pdAdd_ok (pdAdd_ok pdNone_ok (fun ts r cs h _ => Tryd.s9_ok Tryd.f10_ok ts r cs h)) (fun ts r cs h _ => Tryd.s9_ok Tryd.f9_ok ts r cs h)) (fun ts r cs h _ => Tryd.s6_ok ts r cs h), Tryd.F0ok⟩
end Go.Proofs

/- From a contract over trees to a run out of any world: nothing that was there is written. -/
namespace Go.Ps

/-- The ghost in which a call from outside begins: whatever there is is written no more. -/
def G.start (W : World) : G := { w := W, S := fun b => b < W.heap.size, al := fun _ => False, loc := fun _ => 0, cp := fun _ => 0 }

theorem start_ok (W : World) : Gok (G.start W) := fun _ h => h

/-- A table among the package's variables. -/
theorem gl_of_tab {P : Program} {W : World} {name : String} {k : Nat} {ik : IntKind} {zs : List Int} (hn : P.globalNamed name = some k) (h : Lib.TabIs P W name ik zs) : GlAt (G.start W) k (.ref (.agg (zs.map (T.int ik))) 0) := by
  unfold Lib.TabIs World.var? at h
  rw [hn, Option.bind_some] at h
  split at h
  · rename_i cs e fz hb
    cases h
    have hlt : k < W.heap.size := (Array.getElem?_eq_some_iff.1 hb).1
    refine ⟨?_, hlt, _, e, fz, hb, by simp [T.refLen, T.cells]⟩
    have key := Rd.ref (g := G.start W) (.agg (zs.map (T.int ik))) 0 k 0 (zs.map fun z => Value.int ik z) hlt (by simp [T.cells]) (fun j v hv => ?_) (fun j v c hv hc => ?_)
    · exact key
    · unfold World.cell?
      show (match W.heap[k]? with | some (.cells c _ _) => if (none : Option _).isSome then none else c[0 + j]? | _ => none) = some v
      rw [hb]
      simpa using hv
    · simp only [T.cells, List.getElem?_map] at hv hc
      cases hz : zs[j]? with
      | none => rw [hz] at hv; simp at hv
      | some z => rw [hz] at hv hc; simp at hv hc; subst hv; subst hc; exact .int ik z
  · cases h

theorem kept_of {g g' : G} (h : PStep g g') (may : MemPlace → Prop) : g.w.keptBut g'.w may := by
  refine ⟨h.os, h.output, fun i hi => ?_⟩
  rw [h.block i hi]
  cases ho : g.w.heap[i]? with
  | none => simp
  | some o => cases o <;> simp

/-- A contract at a start. -/
theorem run_start {P : Program} {gl : Nat → Option T} {f : FuncId} {ts : List T} {r : T} (h : PureFn P gl f ts r) {W : World} (hgl : GlOk gl (G.start W)) {vs : List Value} (hv : RdL (G.start W) vs ts) :
    Calls P f vs.toArray W fun e w' => ∃ v g', e = .returned v ∧ g'.w = w' ∧ PStep (G.start W) g' ∧ Rd g' v r :=
  (h.2 (G.start W) vs (start_ok W) ⟨0, fun _ _ q => q⟩ hgl hv).mono fun _ _ ⟨v, g', e1, e2, e3, _, e5⟩ => ⟨v, g', e1, e2, e3, e5⟩
end Go.Ps

/- A function as a machine of plain states: one state for each loop's head; what the kernel finds on each way is its step. -/
namespace Go.Ps

/-- Decisions, as the digits of a number. -/
def bt : Nat → Nat → List Bool
  | 0, _ => []
  | n + 1, k => (k % 2 == 1) :: bt n (k / 2)

theorem ite_or {α : Type} {c : Prop} [Decidable c] {a e : Option α} {o : α} (h : (if c then a else e) = some o) : (c ∧ a = some o) ∨ e = some o := by
  by_cases hc : c
  · rw [if_pos hc] at h; exact .inl ⟨hc, h⟩
  · rw [if_neg hc] at h; exact .inr h

/-! Trees of tests. -/
theorem tree_if {α : Type} {a : Bool} {A B : Option α} {x y : α} {k l : Bool} (h1 : k = true → A = some x) (h2 : l = true → B = some y) (h : (if a = true then k else l) = true) : (if a = true then A else B) = some (if a = true then x else y) := by
  cases a
  · exact h2 h
  · exact h1 h
theorem tree_leaf {α : Type} {k : Bool} {x : α} (h : k = true) : (if k = true then some x else none) = some x := if_pos h
theorem ways_if {α : Type} {a : Bool} {A B : Option α} {Q : α → Prop} (h1 : ∀ o, A = some o → Q o) (h2 : ∀ o, B = some o → Q o) (o : α) (h : (if a = true then A else B) = some o) : Q o := by
  cases a
  · exact h2 o h
  · exact h1 o h
theorem ways_leaf {α : Type} {k : Bool} {x : α} {Q : α → Prop} (h1 : k = true → Q x) (o : α) (h : (if k = true then some x else none) = some o) : Q o := by
  cases hk : k
  · rw [hk] at h; simp at h
  · rw [hk] at h; simp at h; subst h; exact h1 hk
theorem tree_leafO {α : Type} {k : Bool} {q : Option T} (h : (k && q.isSome) = true) : (if k = true then q.map (Sum.inr : T → α ⊕ T) else none) = some (.inr (q.getD undefT)) := by
  cases k <;> cases q <;> simp at h ⊢
theorem ways_leafO {α : Type} {k : Bool} {q : Option T} {Q : α ⊕ T → Prop} (h1 : k = true → ∀ r, q = some r → Q (.inr r)) (o : α ⊕ T) (h : (if k = true then q.map (Sum.inr : T → α ⊕ T) else none) = some o) : Q o := by
  cases hk : k
  · rw [hk] at h; simp at h
  · rw [hk] at h
    cases hq : q with
    | none => rw [hq] at h; simp at h
    | some r => rw [hq] at h; simp at h; subst h; exact h1 hk r hq

structure Mch (S : Type) where
  lp : S → Nat
  keep : Nat → List Nat
  par : Nat → List Nat
  vs : S → List T
  hp : S → Hp
  len : Nat
  step : S → Option (S ⊕ T)

def Mch.run {S : Type} (M : Mch S) : Nat → S → Option T
  | 0, _ => none
  | n + 1, s => match M.step s with
    | some (.inl s') => M.run n s'
    | some (.inr r) => some r
    | none => none

def Mch.fin {S : Type} (M : Mch S) (n : Nat) : S ⊕ T → Option T
  | .inl s => M.run n s
  | .inr r => some r

@[simp] theorem Mch.fin_inr {S : Type} (M : Mch S) (n : Nat) (r : T) : M.fin n (.inr r) = some r := rfl
@[simp] theorem Mch.fin_inl {S : Type} (M : Mch S) (n : Nat) (s : S) : M.fin n (.inl s) = M.run n s := rfl
theorem Mch.run_succ {S : Type} (M : Mch S) (n : Nat) (s : S) : M.run (n + 1) s = (M.step s).bind (M.fin n) := by
  simp only [Mch.run]
  cases M.step s with
  | none => rfl
  | some o => cases o <;> rfl

def Mch.At {S : Type} (M : Mch S) (s : S) (fr : List T) (H : Hp) : Prop := (M.keep (M.lp s)).map (getT fr) = M.vs s ∧ fr.length = M.len ∧ H = M.hp s

/-- The way out of a place leads there. -/
def Mch.Leads {S : Type} (M : Mch S) (P : Program) (D : Ed) (F : Fc) (fn : Func) (k : Nat) (cur : List Nat) (c : Code) (ks : List Ki) (fr : List T) (H : Hp) : S ⊕ T → Prop
  | .inr r => ∃ N ds log kp H' vs len, outK P fn k kp (runK P D F N (.code c) ks 0 fr H ds []) = some (.done (some r), log, H', vs, len) ∧ allT log = true
  | .inl s => (∃ N ds log j, outK P fn k (M.keep (M.lp s)) (runK P D F N (.code c) ks 0 fr H ds []) = some (.again j, log, M.hp s, M.vs s, M.len) ∧ allT log = true ∧ cur[j]? = some (M.lp s)) ∨
    (∃ N ds log j, outK P fn k (M.keep (M.lp s)) (runK P D F N (.code c) ks 0 fr H ds []) = some (.loop j (loopAt fn (M.lp s)).1 (loopAt fn (M.lp s)).2, log, M.hp s, M.vs s, M.len) ∧ allT log = true ∧ cur.drop j = M.par (M.lp s))

def Mch.Ways {S : Type} (M : Mch S) (P : Program) (D : Ed) (F : Fc) (fn : Func) (k : Nat) : Prop :=
  ∀ s o fr, M.step s = some o → M.Leads P D F fn k (M.lp s :: M.par (M.lp s)) (loopAt fn (M.lp s)).1 (.lp :: (loopAt fn (M.lp s)).2) (frK (M.keep (M.lp s)) (M.vs s) fr M.len) (M.hp s) o

/-- As Leads; or into a loop behind which an object is written no more: it lies then in the tree of its one slot. -/
def Mch.LeadsF {S : Type} (M : Mch S) (P : Program) (D : Ed) (F : Fc) (fn : Func) (k : Nat) (cur : List Nat) (c : Code) (ks : List Ki) (fr : List T) (H : Hp) (o : S ⊕ T) : Prop :=
  M.Leads P D F fn k cur c ks fr H o ∨ ∃ s, o = .inl s ∧ ∃ N ds log j H' vs' p d k' t0 t, outK P fn k (M.keep (M.lp s)) (runK P D F N (.code c) ks 0 fr H ds []) = some (.loop j (loopAt fn (M.lp s)).1 (loopAt fn (M.lp s)).2, log, H', vs', M.len) ∧ allT log = true ∧ cur.drop j = M.par (M.lp s) ∧
    frzT k' H' (vs'.getD p undefT) = some t0 ∧ (∀ g v, Rd g v t0 → Rd g v t) ∧ (M.keep (M.lp s))[p]? = some d ∧ d < M.len ∧ (M.keep (M.lp s)).Nodup ∧ M.vs s = vs'.set p t ∧ M.hp s = ⟨H'.next, []⟩

def Mch.WaysF {S : Type} (M : Mch S) (P : Program) (D : Ed) (F : Fc) (fn : Func) (k : Nat) : Prop :=
  ∀ s o fr, M.step s = some o → M.LeadsF P D F fn k (M.lp s :: M.par (M.lp s)) (loopAt fn (M.lp s)).1 (.lp :: (loopAt fn (M.lp s)).2) (frK (M.keep (M.lp s)) (M.vs s) fr M.len) (M.hp s) o

theorem Rd.grow {g g' : G} (hw : g'.w = g.w) (hS : ∀ b, g.S b → g'.S b) (ha : g'.al = g.al) (hl : g'.loc = g.loc) (hcp : g'.cp = g.cp) {v : Value} {t : T} (hr : Rd g v t) : Rd g' v t := by
  have hc : ∀ (a : Addr) (v : Value), g.w.cell? a = some v → g'.w.cell? a = some v := fun a v h => by rw [hw]; exact h
  induction hr with
  | int k n => exact .int k n
  | bool b => exact .bool b
  | str s => exact .str s
  | nilp => exact .nilp
  | ptr l off h => rw [← hl]; exact .ptr l off (ha ▸ h)
  | ref x off b o vs h1 hlen hcc _ ih => exact .ref x off b o vs (hS b h1) hlen (fun j v hv => hc _ _ (hcc j v hv)) ih
  | nils => exact .nils
  | slfn full f p => exact .slfn full f p
  | sl full xs sz b o cap vs h1 hsz h2 h3 h4 hlen hcc _ ih => exact .sl full xs sz b o cap vs (fun hx => hS b (h1 hx)) hsz h2 h3 h4 hlen (fun j v hv => hc _ _ (hcc j v hv)) ih
  | slf full n f sz b o cap vs h1 h2 h3 h4 h5 h6 h7 h8 => exact Rd.slf_keep hS (fun _ _ _ _ q => hc _ _ q) h1 h2 h3 h4 h5 h6 h7 h8
  | osl l sz i len b o cap h h1 h2 h3 h4 => exact .osl l sz i len b o cap (ha ▸ h) h1 (hcp ▸ h2) (fun q => hl ▸ h3 q) (fun q => hcp ▸ h4 q)
  | nilf => exact .nilf
  | fn f a c vs us h1 _ h3 _ ih1 ih2 => exact .fn f a c vs us h1 ih1 h3 ih2
  | nili => exact .nili
  | iface t v x _ ih => exact .iface t v x ih
  | nilm => exact .nilm
  | agg cs vs h1 _ ih => exact .agg cs vs h1 ih
  | tup cs vs h1 _ ih => exact .tup cs vs h1 ih

theorem CInv.freeze {E : Env} {g0 g : G} {H0 H : Hp} {a : Act} {fr : List T} (hz : GlFrz E.gl) (hc : CInv E g0 H0 g a fr H) {d k : Nat} {t0 t : T} (hd : d < fr.length) (h : frzT k H (getT fr d) = some t0) (hcv : ∀ g v, Rd g v t0 → Rd g v t) : CInv E g0 H0 (g.frz H g) a (fr.set d t) ⟨H.next, []⟩ := by
  refine ⟨fun b hb => ?_, ⟨fun l o ho => by simp [Hp.get, findOb] at ho, fun l l' o o' ho => by simp [Hp.get, findOb] at ho, hc.st.new⟩, GlOk.frz hz hc.st hc.gl, hc.df, ⟨by simp [hc.fr.1], fun j v c hv hcj => ?_⟩, ?_⟩
  · rcases hb with hb | ⟨l, o, ho, rfl⟩
    · exact hc.ok b hb
    · exact hc.st.lt ho
  · rw [List.getElem?_set] at hcj
    by_cases e : d = j
    · subst e
      rw [if_pos rfl, if_pos hd] at hcj
      cases hcj
      rw [getT_eq, List.getD_eq_getElem?_getD, List.getElem?_eq_getElem hd] at h
      exact hcv _ _ <| frz_ok hc.st k _ _ _ h (hc.fr.2 d v _ hv (List.getElem?_eq_getElem hd))
    · rw [if_neg e] at hcj
      exact Rd.grow (g := g) (g' := g.frz H g) rfl (fun _ q => Or.inl q) rfl rfl rfl (hc.fr.2 j v c hv hcj)
  · have e3 := hc.step
    refine ⟨e3.os, e3.tape, e3.output, e3.size, e3.block, fun b hb => .inl (e3.sub b hb), fun b hb => ?_, e3.al, e3.loc, e3.cp, fun l o ho => by simp [Hp.get, findOb] at ho⟩
    rcases hb with hb | ⟨l, o, ho, rfl⟩
    · exact e3.fresh b hb
    · rcases e3.live l o ho with ⟨l0, o0, q1, q2⟩ | q
      · exact .inr (.inr ⟨l0, o0, q1, q2⟩)
      · exact .inr (.inl q)

theorem good_freeze {P : Program} {E : Env} {c : Code} {fr : List T} {H : Hp} {Q : X → List T → Hp → Prop} (hz : GlFrz E.gl) {d k : Nat} {t0 t : T} (hd : d < fr.length) (h : frzT k H (getT fr d) = some t0) (hcv : ∀ g v, Rd g v t0 → Rd g v t) (hG : Good P E c (fr.set d t) ⟨H.next, []⟩ Q) : Good P E c fr H Q :=
  fun g0 g H0 a hc R hR => hG g0 (g.frz H g) H0 a (hc.freeze hz hd h hcv) R hR

theorem keep_set {keep : List Nat} {fr vs : List T} {p d : Nat} {t : T} (h1 : keep.map (getT fr) = vs) (h2 : keep[p]? = some d) (h3 : d < fr.length) (h4 : keep.Nodup) : getT fr d = vs.getD p undefT ∧ keep.map (getT (fr.set d t)) = vs.set p t := by
  have hp : p < keep.length := (List.getElem?_eq_some_iff.1 h2).1
  subst h1
  refine ⟨by rw [List.getD_eq_getElem?_getD, List.getElem?_map, h2]; rfl, ?_⟩
  apply List.ext_getElem?
  intro q
  rw [List.getElem?_map, List.getElem?_set]
  by_cases e : p = q
  · subst e
    rw [h2, if_pos rfl, if_pos (by simpa using hp)]
    simp only [Option.map_some, getT_eq]
    rw [List.getD_eq_getElem?_getD, List.getElem?_set_self h3]
    rfl
  · rw [if_neg e, List.getElem?_map]
    cases hq : keep[q]? with
    | none => rfl
    | some d' =>
      simp only [Option.map_some, getT_eq]
      have hne : d ≠ d' := by
        intro e'
        subst e'
        have h5 := (List.getElem?_eq_some_iff.1 h2).2
        obtain ⟨hq1, hq2⟩ := List.getElem?_eq_some_iff.1 hq
        have hpw := List.pairwise_iff_getElem.1 h4
        rcases Nat.lt_or_gt_of_ne e with q1 | q1
        · exact hpw p q hp hq1 q1 (h5.trans hq2.symm)
        · exact hpw q p hq1 hp q1 (hq2.trans h5.symm)
      rw [List.getD_eq_getElem?_getD, List.getD_eq_getElem?_getD, List.getElem?_set_ne hne]

def Mch.Inv {S : Type} (M : Mch S) (r : T) (n : Nat) (j : Nat) (fr : List T) (H : Hp) : Prop := ∃ m s, m < n ∧ M.lp s = j ∧ M.run m s = some r ∧ M.At s fr H

/-- Pointwise weaker. -/
def Imp : List (List T → Hp → Prop) → List (List T → Hp → Prop) → Prop
  | [], _ => True
  | _ :: _, [] => False
  | A :: As, B :: Bs => (∀ fr H, A fr H → B fr H) ∧ Imp As Bs

section
variable {P : Program} {D : Ed} {F : Fc} {fn : Func} {k : Nat} {S : Type} {M : Mch S}

theorem postK_mono {E : Env} {Q : X → List T → Hp → Prop} : ∀ (ks : List Ki) (As Bs : List (List T → Hp → Prop)), Imp As Bs → ∀ x fr H, postK P E Q ks As x fr H → postK P E Q ks Bs x fr H
  | [], _, _, _, x, fr, H, h => h
  | .seq d :: ks, As, Bs, hi, x, fr, H, h => by
    simp only [postK] at h ⊢
    cases x with
    | normal => exact Good.mono h (postK_mono ks As Bs hi)
    | exit id => exact postK_mono ks As Bs hi _ fr H h
    | ret => exact postK_mono ks As Bs hi _ fr H h
  | .blk id :: ks, As, Bs, hi, x, fr, H, h => by
    simp only [postK] at h ⊢
    cases x with
    | normal => exact postK_mono ks As Bs hi _ fr H h
    | exit id' =>
      simp only [exitBlock] at h ⊢
      split
      · rename_i e; rw [if_pos e] at h; exact postK_mono ks As Bs hi _ fr H h
      · rename_i e; rw [if_neg e] at h; exact postK_mono ks As Bs hi _ fr H h
    | ret => exact postK_mono ks As Bs hi _ fr H h
  | .lp :: ks, [], Bs, hi, x, fr, H, h => by
    simp only [postK] at h
    cases Bs with
    | nil =>
      simp only [postK]
      cases x with
      | normal => exact h.elim
      | exit id => exact postK_mono ks [] [] hi _ fr H h
      | ret => exact postK_mono ks [] [] hi _ fr H h
    | cons B Bs =>
      simp only [postK]
      cases x with
      | normal => exact h.elim
      | exit id => exact postK_mono ks [] Bs trivial _ fr H h
      | ret => exact postK_mono ks [] Bs trivial _ fr H h
  | .lp :: ks, A :: As, [], hi, x, fr, H, h => hi.elim
  | .lp :: ks, A :: As, B :: Bs, hi, x, fr, H, h => by
    simp only [postK] at h ⊢
    cases x with
    | normal => exact hi.1 fr H h
    | exit id => exact postK_mono ks As Bs hi.2 _ fr H h
    | ret => exact postK_mono ks As Bs hi.2 _ fr H h

theorem imp_map {α : Type} (f g : α → List T → Hp → Prop) : ∀ (l : List α), (∀ a ∈ l, ∀ fr H, f a fr H → g a fr H) → Imp (l.map f) (l.map g)
  | [], _ => trivial
  | a :: l, h => ⟨h a (by simp), imp_map f g l fun b hb => h b (by simp [hb])⟩

theorem Imp.drop : ∀ (j : Nat) (As Bs : List (List T → Hp → Prop)), Imp As Bs → Imp (As.drop j) (Bs.drop j)
  | 0, As, Bs, h => h
  | j + 1, [], Bs, _ => by simp [Imp]
  | j + 1, A :: As, [], h => h.elim
  | j + 1, A :: As, B :: Bs, h => Imp.drop j As Bs h.2

theorem mach_loopF (x : Cx P D F) (hz : GlFrz D.gl) (hw : M.WaysF P D F fn k) (hc : ∀ s, codeOk (loopAt fn (M.lp s)).1 = true ∧ ksOk (.lp :: (loopAt fn (M.lp s)).2) = true) (r : T) : ∀ (n : Nat) (s : S) (fr : List T) (H : Hp), M.run n s = some r → M.At s fr H →
    Good P D.env (.loop (loopAt fn (M.lp s)).1) fr H (postK P D.env (Ends P fn k r) (loopAt fn (M.lp s)).2 ((M.par (M.lp s)).map (M.Inv r n))) := by
  intro n
  induction n using Nat.strongRecOn with
  | ind n ih =>
    intro s fr H hr hat
    refine good_loop (fun m fr H => ∃ s', M.lp s' = M.lp s ∧ m ≤ n ∧ M.run m s' = some r ∧ M.At s' fr H) (fun m fr H ⟨s1, e1, hm, hr1, hat1⟩ => ?_) n fr H ⟨s, rfl, Nat.le_refl _, hr, hat⟩
    cases m with
    | zero => simp [Mch.run] at hr1
    | succ m =>
      simp only [Mch.run] at hr1
      cases hst : M.step s1 with
      | none => rw [hst] at hr1; cases hr1
      | some o =>
        rw [hst] at hr1
        have hl := hw s1 o fr hst
        obtain ⟨q1, q2, q3⟩ := hat1
        rw [frK_eq q1 q2, ← q3, e1] at hl
        obtain ⟨c1, c2⟩ := hc s1
        rw [e1] at c1 c2
        show Good P D.env (loopAt fn (M.lp s)).1 fr H (postK P D.env (Ends P fn k r) (.lp :: (loopAt fn (M.lp s)).2) ((fun fr' H' => ∃ m' < m + 1, ∃ s', M.lp s' = M.lp s ∧ m' ≤ n ∧ M.run m' s' = some r ∧ M.At s' fr' H') :: (M.par (M.lp s)).map (M.Inv r n)))
        have hi : ∀ m', m' = m → Imp ((M.lp s :: M.par (M.lp s)).map (M.Inv r m)) ((fun fr' H' => ∃ m' < m + 1, ∃ s', M.lp s' = M.lp s ∧ m' ≤ n ∧ M.run m' s' = some r ∧ M.At s' fr' H') :: (M.par (M.lp s)).map (M.Inv r n)) := fun _ _ =>
          ⟨fun fr H ⟨m', s', a1, a2, a3, a4⟩ => ⟨m', by omega, s', a2, by omega, a3, a4⟩, imp_map _ _ _ fun i _ fr H ⟨m', s', a1, a2, a3, a4⟩ => ⟨m', s', by omega, a2, a3, a4⟩⟩
        rcases hl with hl | ⟨s2, rfl, N, ds, log, j, H', vs', p, d, k', t0, t, h1, h2, h3, f1, f1c, f2, f3, f4, f5, f6⟩
        rotate_left
        · simp only at hr1
          refine x.loop c1 c2 h1 h2 (fun fr' k1 k2 => ?_)
          obtain ⟨z1, z2⟩ := keep_set (t := t) k1 f2 (by omega) f4
          refine good_freeze (d := d) (k := k') (t := t) hz (by omega) (by rw [z1]; exact f1) f1c ?_
          have := ih m (by omega) s2 (fr'.set d t) (M.hp s2) hr1 ⟨by rw [z2, f5], by simpa using k2, rfl⟩
          rw [f6] at this
          refine this.mono (postK_mono _ _ _ ?_)
          rw [← h3]
          have := Imp.drop j _ _ (hi m rfl)
          rwa [← List.map_drop] at this
        cases o with
        | inr r' =>
          simp only [Option.some.injEq] at hr1
          subst hr1
          obtain ⟨N, ds, log, kp, H', vs, len, h1, h2⟩ := hl
          exact x.done c1 c2 h1 rfl h2
        | inl s2 =>
          simp only at hr1
          rcases hl with ⟨N, ds, log, j, h1, h2, h3⟩ | ⟨N, ds, log, j, h1, h2, h3⟩
          · cases j with
            | zero =>
              simp only [List.getElem?_cons_zero, Option.some.injEq] at h3
              exact x.again c1 c2 h1 h2 rfl (fun fr' k1 k2 => ⟨m, by omega, s2, h3.symm, by omega, hr1, k1, k2, rfl⟩)
            | succ j =>
              simp only [List.getElem?_cons_succ] at h3
              refine x.again c1 c2 h1 h2 (A := M.Inv r n (M.lp s2)) ?_ (fun fr' k1 k2 => ⟨m, s2, by omega, rfl, hr1, k1, k2, rfl⟩)
              simp only [List.getElem?_cons_succ, List.getElem?_map, h3, Option.map_some]
          · refine x.loop c1 c2 h1 h2 (fun fr' k1 k2 => ?_)
            have := ih m (by omega) s2 fr' (M.hp s2) hr1 ⟨k1, k2, rfl⟩
            refine this.mono (postK_mono _ _ _ ?_)
            rw [← h3]
            have hi : Imp ((M.lp s :: M.par (M.lp s)).map (M.Inv r m)) ((fun fr' H' => ∃ m' < m + 1, ∃ s', M.lp s' = M.lp s ∧ m' ≤ n ∧ M.run m' s' = some r ∧ M.At s' fr' H') :: (M.par (M.lp s)).map (M.Inv r n)) :=
              ⟨fun fr H ⟨m', s', a1, a2, a3, a4⟩ => ⟨m', by omega, s', a2, by omega, a3, a4⟩, imp_map _ _ _ fun i _ fr H ⟨m', s', a1, a2, a3, a4⟩ => ⟨m', s', by omega, a2, a3, a4⟩⟩
            have := Imp.drop j _ _ hi
            rwa [← List.map_drop] at this

/-- The contract of a function told as a machine. -/
theorem pure_machF {c : Code} {f : FuncId} {d : Nat} (x : Cx P D F) (hz : GlFrz D.gl) (h1 : okFn P f = true) (hfn : P.funcs[f]? = some fn) (hb : fn.body = some c) (hcb : bodyOf fn = c) (hco : codeOk c = true) {ts : List T} (hts : mapO (frzT d ⟨0, []⟩) ts = some ts) {L : Nat} (hL : fn.ntmps - ts.length = L)
    (hw : M.WaysF P D F fn k) (hc : ∀ s, codeOk (loopAt fn (M.lp s)).1 = true ∧ ksOk (.lp :: (loopAt fn (M.lp s)).2) = true) {o : S ⊕ T}
    (hl : M.Leads P D F fn k [] (bodyOf fn) [] (ts ++ List.replicate L undefT) ⟨0, []⟩ o) {n : Nat} {r : T} (hr : M.fin n o = some r) : PureFn P D.gl f ts r := by
  subst hcb; subst hL
  refine pure_good0 (E := D.env) (k := k) (d := d) (fn := fn) (c := bodyOf fn) hz h1 hfn hb hts ?_
  show Good P D.env (bodyOf fn) (ts ++ List.replicate (fn.ntmps - ts.length) undefT) ⟨0, []⟩ (postK P D.env (Ends P fn k r) [] [])
  cases o with
  | inr r' =>
    simp only [Mch.fin, Option.some.injEq] at hr
    subst hr
    obtain ⟨N, ds, log, kp, H', vs, len, h1, h2⟩ := hl
    exact x.done hco rfl h1 rfl h2
  | inl s =>
    rcases hl with ⟨N, ds, log, j, h1, h2, h3⟩ | ⟨N, ds, log, j, h1, h2, h3⟩
    · simp at h3
    · refine x.loop hco rfl h1 h2 (fun fr' k1 k2 => ?_)
      have := mach_loopF x hz hw hc r n s fr' (M.hp s) hr ⟨k1, k2, rfl⟩
      rw [← h3] at this
      simpa using this

theorem pure_mach {c : Code} {f : FuncId} {d : Nat} (x : Cx P D F) (hz : GlFrz D.gl) (h1 : okFn P f = true) (hfn : P.funcs[f]? = some fn) (hb : fn.body = some c) (hcb : bodyOf fn = c) (hco : codeOk c = true) {ts : List T} (hts : mapO (frzT d ⟨0, []⟩) ts = some ts) {L : Nat} (hL : fn.ntmps - ts.length = L)
    (hw : M.Ways P D F fn k) (hc : ∀ s, codeOk (loopAt fn (M.lp s)).1 = true ∧ ksOk (.lp :: (loopAt fn (M.lp s)).2) = true) {o : S ⊕ T}
    (hl : M.Leads P D F fn k [] (bodyOf fn) [] (ts ++ List.replicate L undefT) ⟨0, []⟩ o) {n : Nat} {r : T} (hr : M.fin n o = some r) : PureFn P D.gl f ts r :=
  pure_machF x hz h1 hfn hb hcb hco hts hL (fun s o fr h => .inl (hw s o fr h)) hc hl hr

/-- No loop at all. -/
def noM : Mch Empty := { lp := fun _ => 0, keep := fun _ => [], par := fun _ => [], vs := fun _ => [], hp := fun _ => ⟨0, []⟩, len := 0, step := fun _ => none }
theorem noM_ways : noM.Ways P D F fn k := fun s => s.elim

end
end Go.Ps

/- The data of the layer balance as trees: stamps, lines, certificates. -/
namespace Go.Ps

structure Sp where
  entry : Int
  n : Nat
  at_ : Nat → Int

structure Ln where
  st : Sp
  mass : Int
  k : Nat
  from_ : Nat → Sp
  fate : Int
  closed : Int
  node : List UInt8

structure Ct where
  entries : Int
  accepted : Int
  delivered : Int
  waiting : Int
  letters : Int
  discarded : Int
  n : Nat
  line : Nat → Ln

/-- A list of numbers, a stamp, a list of stamps, a line, a list of lines, a certificate. -/
def isT (n : Nat) (f : Nat → Int) : T := .slf false n (fun i => .int .i64 (f i))
def spT (s : Sp) : T := .agg [.int .i64 s.entry, .slf false s.n (fun i => .int .i64 (s.at_ i))]
def lnT (x : Ln) : T := .agg [.int .i64 x.st.entry, .slf false x.st.n (fun i => .int .i64 (x.st.at_ i)), .int .i64 x.mass, .slf false x.k (fun i => spT (x.from_ i)), .int .i64 x.fate, .int .i64 x.closed, .str x.node]
def lsT (n : Nat) (f : Nat → Ln) : T := .slf false n (fun i => lnT (f i))
def ctT (c : Ct) : T := .agg [.int .i64 c.entries, .int .i64 c.accepted, .int .i64 c.delivered, .int .i64 c.waiting, .int .i64 c.letters, .int .i64 c.discarded, .slf false c.n (fun i => lnT (c.line i))]

def slN : T → Nat
  | .slf _ n _ => n
  | _ => 0
def slF : T → Nat → T
  | .slf _ _ f => f
  | _ => fun _ => undefT
def strv : T → List UInt8
  | .str s => s
  | _ => []
def isv (t : T) (i : Nat) : Int := intv (slF t i)
def spv : T → Sp
  | .agg [e, p] => ⟨intv e, slN p, fun i => intv (slF p i)⟩
  | _ => ⟨0, 0, fun _ => 0⟩
def lnv : T → Ln
  | .agg [e, p, m, fs, fa, cl, nd] => ⟨⟨intv e, slN p, fun i => intv (slF p i)⟩, intv m, slN fs, fun i => spv (slF fs i), intv fa, intv cl, strv nd⟩
  | _ => ⟨⟨0, 0, fun _ => 0⟩, 0, 0, fun _ => ⟨0, 0, fun _ => 0⟩, 0, 0, []⟩
def lsv (t : T) (i : Nat) : Ln := lnv (slF t i)
def ctv : T → Ct
  | .agg [a, b, c, d, e, f, l] => ⟨intv a, intv b, intv c, intv d, intv e, intv f, slN l, fun i => lnv (slF l i)⟩
  | _ => ⟨0, 0, 0, 0, 0, 0, 0, fun _ => lnv undefT⟩

/-- Two trees are the same. -/
noncomputable def isV (t u : T) : Bool := @decide (t = u) (Classical.propDecidable _)
theorem isV_iff {t u : T} : isV t u = true ↔ t = u := by unfold isV; simp
@[simp] theorem isV_self (t : T) : isV t t = true := isV_iff.2 rfl

@[simp] theorem spv_spT (s : Sp) : spv (spT s) = s := rfl
@[simp] theorem lnv_lnT (x : Ln) : lnv (lnT x) = x := rfl
@[simp] theorem ctv_ctT (c : Ct) : ctv (ctT c) = c := rfl
end Go.Ps

/- First contracts, by program (gen2). -/
namespace Go.Proofs.Tryd
open Go.Ps
set_option maxRecDepth 100000

/-! ### 66 -/
theorem w66_s_1 (x : Int) : outK prog f66 20 [] (runK prog D0 F0 2000 (.code (bodyOf f66)) [] 0 ([.int .i64 x] ++ List.replicate 5 undefT) ⟨0, []⟩ [] [])
    = some (OutT.done (some (T.bool (x != x))), [], { next := 0, objs := [] }, [], 0) := by kernel_rfl
noncomputable def o66 (x : Int) : Option (Empty ⊕ T) :=
  if allT [] then some (.inr ((T.bool (x != x)))) else
  none
theorem run66 (x : Int) {n : Nat} {o : Empty ⊕ T} {r : T} (h : o66 x = some o) (hr : noM.fin n o = some r) : PureFn prog gl 66 [.int .i64 x] r := by
  refine pure_mach (M := noM) (fn := f66) (k := 20) (d := 8) (c := bodyOf f66) cx0 glFrz (by kernel_rfl) func66 (by kernel_rfl) rfl (by kernel_rfl) (by kernel_rfl) (L := 5) (by kernel_rfl) noM_ways (fun σ => σ.elim) ?_ hr
  unfold o66 at h
  rcases ite_or h with ⟨hk, h⟩ | h
  · cases h
    exact ⟨2000, _, _, _, _, _, _, w66_s_1 x, hk⟩
  cases h

/-! ### 47 -/
theorem w47_s_1 (x : Int) : outK prog f47 20 [] (runK prog D0 F0 2000 (.code (bodyOf f47)) [] 0 ([.int .i64 x] ++ List.replicate 8 undefT) ⟨0, []⟩ [true, true, true] [])
    = some (OutT.done (some (T.bool true)), [decide (x < 0), decide (x < 0), decide (x < 0)], { next := 0, objs := [] }, [], 0) := by kernel_rfl
theorem w47_s_2 (x : Int) : outK prog f47 20 [] (runK prog D0 F0 2000 (.code (bodyOf f47)) [] 0 ([.int .i64 x] ++ List.replicate 8 undefT) ⟨0, []⟩ [false, false, false] [])
    = some (OutT.done (some (T.bool (decide (x > 65535)))), [!decide (x < 0), !decide (x < 0), !decide (x < 0)], { next := 0, objs := [] }, [], 0) := by kernel_rfl
noncomputable def o47 (x : Int) : Option (Empty ⊕ T) :=
  if allT [decide (x < 0), decide (x < 0), decide (x < 0)] then some (.inr ((T.bool true))) else
  if allT [!decide (x < 0), !decide (x < 0), !decide (x < 0)] then some (.inr ((T.bool (decide (x > 65535))))) else
  none
theorem run47 (x : Int) {n : Nat} {o : Empty ⊕ T} {r : T} (h : o47 x = some o) (hr : noM.fin n o = some r) : PureFn prog gl 47 [.int .i64 x] r := by
  refine pure_mach (M := noM) (fn := f47) (k := 20) (d := 8) (c := bodyOf f47) cx0 glFrz (by kernel_rfl) func47 (by kernel_rfl) rfl (by kernel_rfl) (by kernel_rfl) (L := 8) (by kernel_rfl) noM_ways (fun σ => σ.elim) ?_ hr
  unfold o47 at h
  rcases ite_or h with ⟨hk, h⟩ | h
  · cases h
    exact ⟨2000, _, _, _, _, _, _, w47_s_1 x, hk⟩
  rcases ite_or h with ⟨hk, h⟩ | h
  · cases h
    exact ⟨2000, _, _, _, _, _, _, w47_s_2 x, hk⟩
  cases h

/-! ### 34 -/
theorem w34_s_1 (x : Ln) : outK prog f34 20 [] (runK prog D0 F0 2000 (.code (bodyOf f34)) [] 0 ([lnT x] ++ List.replicate 5 undefT) ⟨0, []⟩ [] [])
    = some (OutT.done (some (T.bool (x.fate == 0))), [], { next := 0, objs := [] }, [], 0) := by kernel_rfl
noncomputable def o34 (x : Ln) : Option (Empty ⊕ T) :=
  if allT [] then some (.inr ((T.bool (x.fate == 0)))) else
  none
theorem run34 (x : Ln) {n : Nat} {o : Empty ⊕ T} {r : T} (h : o34 x = some o) (hr : noM.fin n o = some r) : PureFn prog gl 34 [lnT x] r := by
  refine pure_mach (M := noM) (fn := f34) (k := 20) (d := 8) (c := bodyOf f34) cx0 glFrz (by kernel_rfl) func34 (by kernel_rfl) rfl (by kernel_rfl) (by kernel_rfl) (L := 5) (by kernel_rfl) noM_ways (fun σ => σ.elim) ?_ hr
  unfold o34 at h
  rcases ite_or h with ⟨hk, h⟩ | h
  · cases h
    exact ⟨2000, _, _, _, _, _, _, w34_s_1 x, hk⟩
  cases h

/-! ### 37 -/
theorem w37_s_1 (s : Sp) : outK prog f37 20 [] (runK prog D0 F0 2000 (.code (bodyOf f37)) [] 0 ([spT s] ++ List.replicate 13 undefT) ⟨0, []⟩ (bt 6 63) [])
    = some (OutT.done (some (T.bool (s.at_ 0 == 1))), [(↑s.n : Int) == 1, (↑s.n : Int) == 1, (↑s.n : Int) == 1, true, decide (0 < (↑s.n : Int)), true, (↑s.n : Int) == 1, (↑s.n : Int) == 1, (↑s.n : Int) == 1], { next := 0, objs := [] }, [], 0) := by kernel_rfl
theorem w37_s_2 (s : Sp) : outK prog f37 20 [] (runK prog D0 F0 2000 (.code (bodyOf f37)) [] 0 ([spT s] ++ List.replicate 13 undefT) ⟨0, []⟩ (bt 6 0) [])
    = some (OutT.done (some (T.bool false)), [!(↑s.n : Int) == 1, !(↑s.n : Int) == 1, !(↑s.n : Int) == 1, !(↑s.n : Int) == 1, !(↑s.n : Int) == 1, !(↑s.n : Int) == 1], { next := 0, objs := [] }, [], 0) := by kernel_rfl
noncomputable def o37 (s : Sp) : Option (Empty ⊕ T) :=
  if allT [(↑s.n : Int) == 1, (↑s.n : Int) == 1, (↑s.n : Int) == 1, true, decide (0 < (↑s.n : Int)), true, (↑s.n : Int) == 1, (↑s.n : Int) == 1, (↑s.n : Int) == 1] then some (.inr ((T.bool (s.at_ 0 == 1)))) else
  if allT [!(↑s.n : Int) == 1, !(↑s.n : Int) == 1, !(↑s.n : Int) == 1, !(↑s.n : Int) == 1, !(↑s.n : Int) == 1, !(↑s.n : Int) == 1] then some (.inr ((T.bool false))) else
  none
theorem run37 (s : Sp) {n : Nat} {o : Empty ⊕ T} {r : T} (h : o37 s = some o) (hr : noM.fin n o = some r) : PureFn prog gl 37 [spT s] r := by
  refine pure_mach (M := noM) (fn := f37) (k := 20) (d := 8) (c := bodyOf f37) cx0 glFrz (by kernel_rfl) func37 (by kernel_rfl) rfl (by kernel_rfl) (by kernel_rfl) (L := 13) (by kernel_rfl) noM_ways (fun σ => σ.elim) ?_ hr
  unfold o37 at h
  rcases ite_or h with ⟨hk, h⟩ | h
  · cases h
    exact ⟨2000, _, _, _, _, _, _, w37_s_1 s, hk⟩
  rcases ite_or h with ⟨hk, h⟩ | h
  · cases h
    exact ⟨2000, _, _, _, _, _, _, w37_s_2 s, hk⟩
  cases h

/-! ### 42 -/
theorem w42_s_1 (s : Sp) : outK prog f42 20 [] (runK prog D0 F0 2000 (.code (bodyOf f42)) [] 0 ([spT s] ++ List.replicate 13 undefT) ⟨0, []⟩ (bt 6 63) [])
    = some (OutT.done (some (T.bool (s.at_ 0 == 1))), [(↑s.n : Int) == 1, (↑s.n : Int) == 1, (↑s.n : Int) == 1, true, decide (0 < (↑s.n : Int)), true, (↑s.n : Int) == 1, (↑s.n : Int) == 1, (↑s.n : Int) == 1], { next := 0, objs := [] }, [], 0) := by kernel_rfl
theorem w42_s_2 (s : Sp) : outK prog f42 20 [] (runK prog D0 F0 2000 (.code (bodyOf f42)) [] 0 ([spT s] ++ List.replicate 13 undefT) ⟨0, []⟩ (bt 6 0) [])
    = some (OutT.done (some (T.bool false)), [!(↑s.n : Int) == 1, !(↑s.n : Int) == 1, !(↑s.n : Int) == 1, !(↑s.n : Int) == 1, !(↑s.n : Int) == 1, !(↑s.n : Int) == 1], { next := 0, objs := [] }, [], 0) := by kernel_rfl
noncomputable def o42 (s : Sp) : Option (Empty ⊕ T) :=
  if allT [(↑s.n : Int) == 1, (↑s.n : Int) == 1, (↑s.n : Int) == 1, true, decide (0 < (↑s.n : Int)), true, (↑s.n : Int) == 1, (↑s.n : Int) == 1, (↑s.n : Int) == 1] then some (.inr ((T.bool (s.at_ 0 == 1)))) else
  if allT [!(↑s.n : Int) == 1, !(↑s.n : Int) == 1, !(↑s.n : Int) == 1, !(↑s.n : Int) == 1, !(↑s.n : Int) == 1, !(↑s.n : Int) == 1] then some (.inr ((T.bool false))) else
  none
theorem run42 (s : Sp) {n : Nat} {o : Empty ⊕ T} {r : T} (h : o42 s = some o) (hr : noM.fin n o = some r) : PureFn prog gl 42 [spT s] r := by
  refine pure_mach (M := noM) (fn := f42) (k := 20) (d := 8) (c := bodyOf f42) cx0 glFrz (by kernel_rfl) func42 (by kernel_rfl) rfl (by kernel_rfl) (by kernel_rfl) (L := 13) (by kernel_rfl) noM_ways (fun σ => σ.elim) ?_ hr
  unfold o42 at h
  rcases ite_or h with ⟨hk, h⟩ | h
  · cases h
    exact ⟨2000, _, _, _, _, _, _, w42_s_1 s, hk⟩
  rcases ite_or h with ⟨hk, h⟩ | h
  · cases h
    exact ⟨2000, _, _, _, _, _, _, w42_s_2 s, hk⟩
  cases h

/-! ### 35 -/
theorem w35_s_1 (s : List UInt8) : outK prog f35 20 [] (runK prog D0 F0 2000 (.code (bodyOf f35)) [] 0 ([.str s] ++ List.replicate 46 undefT) ⟨0, []⟩ (bt 5 31) [])
    = some (OutT.done (some (T.bool false)), [true, decide ((↑s.length : Int) < 1), decide ((↑s.length : Int) < 1), decide ((↑s.length : Int) < 1), decide ((↑s.length : Int) < 1)], { next := 0, objs := [] }, [], 0) := by kernel_rfl
theorem w35_s_2 (s : List UInt8) : outK prog f35 20 [] (runK prog D0 F0 2000 (.code (bodyOf f35)) [] 0 ([.str s] ++ List.replicate 46 undefT) ⟨0, []⟩ (bt 5 16) [])
    = some (OutT.done (some (T.bool false)), [decide ((↑s.length : Int) > 32), !decide ((↑s.length : Int) < 1), !decide ((↑s.length : Int) < 1), !decide ((↑s.length : Int) < 1), !decide ((↑s.length : Int) < 1)], { next := 0, objs := [] }, [], 0) := by kernel_rfl
theorem w35_s_3 (s : List UInt8) : outK prog f35 20 [0, 15, 16] (runK prog D0 F0 2000 (.code (bodyOf f35)) [] 0 ([.str s] ++ List.replicate 46 undefT) ⟨0, []⟩ (bt 5 0) [])
    = some (OutT.loop 0 (loopAt f35 0).1 (loopAt f35 0).2, [!decide ((↑s.length : Int) > 32), !decide ((↑s.length : Int) < 1), !decide ((↑s.length : Int) < 1), !decide ((↑s.length : Int) < 1), !decide ((↑s.length : Int) < 1)], { next := 0, objs := [] }, [T.str s, T.int .i64 (↑s.length : Int), T.int .i64 0], 47) := by kernel_rfl
theorem w35_0_1 (s : List UInt8) (x15 : Int) (x16 : Int) (fr : List T) : outK prog f35 20 [] (runK prog D0 F0 2000 (.code (loopAt f35 0).1) (.lp :: (loopAt f35 0).2) 0 (frK [0, 15, 16] [T.str s, T.int .i64 x15, T.int .i64 x16] fr 47) ⟨0, []⟩ (bt 15 32767) [])
    = some (OutT.done (some (T.bool false)), [true, !decide ((↑(s.getD x16.toNat 0).toNat : Int) ≤ 122), x16 == 0, !decide ((↑(s.getD x16.toNat 0).toNat : Int) ≤ 122), x16 == 0, x16 == 0, x16 == 0, x16 == 0, !decide ((↑(s.getD x16.toNat 0).toNat : Int) ≤ 122), !decide ((↑(s.getD x16.toNat 0).toNat : Int) ≤ 122), !decide ((↑(s.getD x16.toNat 0).toNat : Int) ≤ 122), decide ((↑(s.getD x16.toNat 0).toNat : Int) ≥ 97), decide ((↑(s.getD x16.toNat 0).toNat : Int) ≥ 97), decide ((↑(s.getD x16.toNat 0).toNat : Int) ≥ 97), decide (0 ≤ x16), decide (x16 < (↑s.length : Int)), decide (x16 < x15)], { next := 0, objs := [] }, [], 0) := by kernel_rfl
theorem w35_0_2 (s : List UInt8) (x15 : Int) (x16 : Int) (fr : List T) : outK prog f35 20 [] (runK prog D0 F0 2000 (.code (loopAt f35 0).1) (.lp :: (loopAt f35 0).2) 0 (frK [0, 15, 16] [T.str s, T.int .i64 x15, T.int .i64 x16] fr 47) ⟨0, []⟩ (bt 23 7208063) [])
    = some (OutT.done (some (T.bool false)), [true, !decide ((↑(s.getD x16.toNat 0).toNat : Int) ≤ 122), !x16 == 0, !decide ((↑(s.getD x16.toNat 0).toNat : Int) ≤ 122), (↑(s.getD x16.toNat 0).toNat : Int) != 95, !x16 == 0, decide ((↑(s.getD x16.toNat 0).toNat : Int) < 48), (↑(s.getD x16.toNat 0).toNat : Int) != 95, decide ((↑(s.getD x16.toNat 0).toNat : Int) < 48), decide ((↑(s.getD x16.toNat 0).toNat : Int) < 48), (↑(s.getD x16.toNat 0).toNat : Int) != 95, (↑(s.getD x16.toNat 0).toNat : Int) != 95, (↑(s.getD x16.toNat 0).toNat : Int) != 95, !x16 == 0, !x16 == 0, !x16 == 0, !decide ((↑(s.getD x16.toNat 0).toNat : Int) ≤ 122), !decide ((↑(s.getD x16.toNat 0).toNat : Int) ≤ 122), !decide ((↑(s.getD x16.toNat 0).toNat : Int) ≤ 122), decide ((↑(s.getD x16.toNat 0).toNat : Int) ≥ 97), decide ((↑(s.getD x16.toNat 0).toNat : Int) ≥ 97), decide ((↑(s.getD x16.toNat 0).toNat : Int) ≥ 97), decide (0 ≤ x16), decide (x16 < (↑s.length : Int)), decide (x16 < x15)], { next := 0, objs := [] }, [], 0) := by kernel_rfl
theorem w35_0_3 (s : List UInt8) (x15 : Int) (x16 : Int) (fr : List T) : outK prog f35 20 [] (runK prog D0 F0 2000 (.code (loopAt f35 0).1) (.lp :: (loopAt f35 0).2) 0 (frK [0, 15, 16] [T.str s, T.int .i64 x15, T.int .i64 x16] fr 47) ⟨0, []⟩ (bt 23 7117951) [])
    = some (OutT.done (some (T.bool false)), [decide ((↑(s.getD x16.toNat 0).toNat : Int) > 57), !decide ((↑(s.getD x16.toNat 0).toNat : Int) ≤ 122), !x16 == 0, !decide ((↑(s.getD x16.toNat 0).toNat : Int) ≤ 122), (↑(s.getD x16.toNat 0).toNat : Int) != 95, !x16 == 0, !decide ((↑(s.getD x16.toNat 0).toNat : Int) < 48), (↑(s.getD x16.toNat 0).toNat : Int) != 95, !decide ((↑(s.getD x16.toNat 0).toNat : Int) < 48), !decide ((↑(s.getD x16.toNat 0).toNat : Int) < 48), (↑(s.getD x16.toNat 0).toNat : Int) != 95, (↑(s.getD x16.toNat 0).toNat : Int) != 95, (↑(s.getD x16.toNat 0).toNat : Int) != 95, !x16 == 0, !x16 == 0, !x16 == 0, !decide ((↑(s.getD x16.toNat 0).toNat : Int) ≤ 122), !decide ((↑(s.getD x16.toNat 0).toNat : Int) ≤ 122), !decide ((↑(s.getD x16.toNat 0).toNat : Int) ≤ 122), decide ((↑(s.getD x16.toNat 0).toNat : Int) ≥ 97), decide ((↑(s.getD x16.toNat 0).toNat : Int) ≥ 97), decide ((↑(s.getD x16.toNat 0).toNat : Int) ≥ 97), decide (0 ≤ x16), decide (x16 < (↑s.length : Int)), decide (x16 < x15)], { next := 0, objs := [] }, [], 0) := by kernel_rfl
theorem w35_0_4 (s : List UInt8) (x15 : Int) (x16 : Int) (fr : List T) : outK prog f35 20 [0, 15, 16] (runK prog D0 F0 2000 (.code (loopAt f35 0).1) (.lp :: (loopAt f35 0).2) 0 (frK [0, 15, 16] [T.str s, T.int .i64 x15, T.int .i64 x16] fr 47) ⟨0, []⟩ (bt 23 2923647) [])
    = some (OutT.again 0, [!decide ((↑(s.getD x16.toNat 0).toNat : Int) > 57), !decide ((↑(s.getD x16.toNat 0).toNat : Int) ≤ 122), !x16 == 0, !decide ((↑(s.getD x16.toNat 0).toNat : Int) ≤ 122), (↑(s.getD x16.toNat 0).toNat : Int) != 95, !x16 == 0, !decide ((↑(s.getD x16.toNat 0).toNat : Int) < 48), (↑(s.getD x16.toNat 0).toNat : Int) != 95, !decide ((↑(s.getD x16.toNat 0).toNat : Int) < 48), !decide ((↑(s.getD x16.toNat 0).toNat : Int) < 48), (↑(s.getD x16.toNat 0).toNat : Int) != 95, (↑(s.getD x16.toNat 0).toNat : Int) != 95, (↑(s.getD x16.toNat 0).toNat : Int) != 95, !x16 == 0, !x16 == 0, !x16 == 0, !decide ((↑(s.getD x16.toNat 0).toNat : Int) ≤ 122), !decide ((↑(s.getD x16.toNat 0).toNat : Int) ≤ 122), !decide ((↑(s.getD x16.toNat 0).toNat : Int) ≤ 122), decide ((↑(s.getD x16.toNat 0).toNat : Int) ≥ 97), decide ((↑(s.getD x16.toNat 0).toNat : Int) ≥ 97), decide ((↑(s.getD x16.toNat 0).toNat : Int) ≥ 97), decide (0 ≤ x16), decide (x16 < (↑s.length : Int)), decide (x16 < x15)], { next := 0, objs := [] }, [T.str s, T.int .i64 x15, T.int .i64 (IntKind.i64.wrap (x16 + 1))], 47) := by kernel_rfl
theorem w35_0_5 (s : List UInt8) (x15 : Int) (x16 : Int) (fr : List T) : outK prog f35 20 [0, 15, 16] (runK prog D0 F0 2000 (.code (loopAt f35 0).1) (.lp :: (loopAt f35 0).2) 0 (frK [0, 15, 16] [T.str s, T.int .i64 x15, T.int .i64 x16] fr 47) ⟨0, []⟩ (bt 20 327807) [])
    = some (OutT.again 0, [true, !decide ((↑(s.getD x16.toNat 0).toNat : Int) ≤ 122), !x16 == 0, !decide ((↑(s.getD x16.toNat 0).toNat : Int) ≤ 122), !(↑(s.getD x16.toNat 0).toNat : Int) != 95, !x16 == 0, !(↑(s.getD x16.toNat 0).toNat : Int) != 95, !(↑(s.getD x16.toNat 0).toNat : Int) != 95, !(↑(s.getD x16.toNat 0).toNat : Int) != 95, !(↑(s.getD x16.toNat 0).toNat : Int) != 95, !x16 == 0, !x16 == 0, !x16 == 0, !decide ((↑(s.getD x16.toNat 0).toNat : Int) ≤ 122), !decide ((↑(s.getD x16.toNat 0).toNat : Int) ≤ 122), !decide ((↑(s.getD x16.toNat 0).toNat : Int) ≤ 122), decide ((↑(s.getD x16.toNat 0).toNat : Int) ≥ 97), decide ((↑(s.getD x16.toNat 0).toNat : Int) ≥ 97), decide ((↑(s.getD x16.toNat 0).toNat : Int) ≥ 97), decide (0 ≤ x16), decide (x16 < (↑s.length : Int)), decide (x16 < x15)], { next := 0, objs := [] }, [T.str s, T.int .i64 x15, T.int .i64 (IntKind.i64.wrap (x16 + 1))], 47) := by kernel_rfl
theorem w35_0_6 (s : List UInt8) (x15 : Int) (x16 : Int) (fr : List T) : outK prog f35 20 [0, 15, 16] (runK prog D0 F0 2000 (.code (loopAt f35 0).1) (.lp :: (loopAt f35 0).2) 0 (frK [0, 15, 16] [T.str s, T.int .i64 x15, T.int .i64 x16] fr 47) ⟨0, []⟩ (bt 10 15) [])
    = some (OutT.again 0, [true, !!decide ((↑(s.getD x16.toNat 0).toNat : Int) ≤ 122), !!decide ((↑(s.getD x16.toNat 0).toNat : Int) ≤ 122), !!decide ((↑(s.getD x16.toNat 0).toNat : Int) ≤ 122), !!decide ((↑(s.getD x16.toNat 0).toNat : Int) ≤ 122), !!decide ((↑(s.getD x16.toNat 0).toNat : Int) ≤ 122), decide ((↑(s.getD x16.toNat 0).toNat : Int) ≥ 97), decide ((↑(s.getD x16.toNat 0).toNat : Int) ≥ 97), decide ((↑(s.getD x16.toNat 0).toNat : Int) ≥ 97), decide (0 ≤ x16), decide (x16 < (↑s.length : Int)), decide (x16 < x15)], { next := 0, objs := [] }, [T.str s, T.int .i64 x15, T.int .i64 (IntKind.i64.wrap (x16 + 1))], 47) := by kernel_rfl
theorem w35_0_7 (s : List UInt8) (x15 : Int) (x16 : Int) (fr : List T) : outK prog f35 20 [] (runK prog D0 F0 2000 (.code (loopAt f35 0).1) (.lp :: (loopAt f35 0).2) 0 (frK [0, 15, 16] [T.str s, T.int .i64 x15, T.int .i64 x16] fr 47) ⟨0, []⟩ (bt 15 32753) [])
    = some (OutT.done (some (T.bool false)), [true, true, x16 == 0, true, x16 == 0, x16 == 0, x16 == 0, x16 == 0, true, true, true, !decide ((↑(s.getD x16.toNat 0).toNat : Int) ≥ 97), !decide ((↑(s.getD x16.toNat 0).toNat : Int) ≥ 97), !decide ((↑(s.getD x16.toNat 0).toNat : Int) ≥ 97), decide (0 ≤ x16), decide (x16 < (↑s.length : Int)), decide (x16 < x15)], { next := 0, objs := [] }, [], 0) := by kernel_rfl
theorem w35_0_8 (s : List UInt8) (x15 : Int) (x16 : Int) (fr : List T) : outK prog f35 20 [] (runK prog D0 F0 2000 (.code (loopAt f35 0).1) (.lp :: (loopAt f35 0).2) 0 (frK [0, 15, 16] [T.str s, T.int .i64 x15, T.int .i64 x16] fr 47) ⟨0, []⟩ (bt 23 7208049) [])
    = some (OutT.done (some (T.bool false)), [true, true, !x16 == 0, true, (↑(s.getD x16.toNat 0).toNat : Int) != 95, !x16 == 0, decide ((↑(s.getD x16.toNat 0).toNat : Int) < 48), (↑(s.getD x16.toNat 0).toNat : Int) != 95, decide ((↑(s.getD x16.toNat 0).toNat : Int) < 48), decide ((↑(s.getD x16.toNat 0).toNat : Int) < 48), (↑(s.getD x16.toNat 0).toNat : Int) != 95, (↑(s.getD x16.toNat 0).toNat : Int) != 95, (↑(s.getD x16.toNat 0).toNat : Int) != 95, !x16 == 0, !x16 == 0, !x16 == 0, true, true, true, !decide ((↑(s.getD x16.toNat 0).toNat : Int) ≥ 97), !decide ((↑(s.getD x16.toNat 0).toNat : Int) ≥ 97), !decide ((↑(s.getD x16.toNat 0).toNat : Int) ≥ 97), decide (0 ≤ x16), decide (x16 < (↑s.length : Int)), decide (x16 < x15)], { next := 0, objs := [] }, [], 0) := by kernel_rfl
theorem w35_0_9 (s : List UInt8) (x15 : Int) (x16 : Int) (fr : List T) : outK prog f35 20 [] (runK prog D0 F0 2000 (.code (loopAt f35 0).1) (.lp :: (loopAt f35 0).2) 0 (frK [0, 15, 16] [T.str s, T.int .i64 x15, T.int .i64 x16] fr 47) ⟨0, []⟩ (bt 23 7117937) [])
    = some (OutT.done (some (T.bool false)), [decide ((↑(s.getD x16.toNat 0).toNat : Int) > 57), true, !x16 == 0, true, (↑(s.getD x16.toNat 0).toNat : Int) != 95, !x16 == 0, !decide ((↑(s.getD x16.toNat 0).toNat : Int) < 48), (↑(s.getD x16.toNat 0).toNat : Int) != 95, !decide ((↑(s.getD x16.toNat 0).toNat : Int) < 48), !decide ((↑(s.getD x16.toNat 0).toNat : Int) < 48), (↑(s.getD x16.toNat 0).toNat : Int) != 95, (↑(s.getD x16.toNat 0).toNat : Int) != 95, (↑(s.getD x16.toNat 0).toNat : Int) != 95, !x16 == 0, !x16 == 0, !x16 == 0, true, true, true, !decide ((↑(s.getD x16.toNat 0).toNat : Int) ≥ 97), !decide ((↑(s.getD x16.toNat 0).toNat : Int) ≥ 97), !decide ((↑(s.getD x16.toNat 0).toNat : Int) ≥ 97), decide (0 ≤ x16), decide (x16 < (↑s.length : Int)), decide (x16 < x15)], { next := 0, objs := [] }, [], 0) := by kernel_rfl
theorem w35_0_10 (s : List UInt8) (x15 : Int) (x16 : Int) (fr : List T) : outK prog f35 20 [0, 15, 16] (runK prog D0 F0 2000 (.code (loopAt f35 0).1) (.lp :: (loopAt f35 0).2) 0 (frK [0, 15, 16] [T.str s, T.int .i64 x15, T.int .i64 x16] fr 47) ⟨0, []⟩ (bt 23 2923633) [])
    = some (OutT.again 0, [!decide ((↑(s.getD x16.toNat 0).toNat : Int) > 57), true, !x16 == 0, true, (↑(s.getD x16.toNat 0).toNat : Int) != 95, !x16 == 0, !decide ((↑(s.getD x16.toNat 0).toNat : Int) < 48), (↑(s.getD x16.toNat 0).toNat : Int) != 95, !decide ((↑(s.getD x16.toNat 0).toNat : Int) < 48), !decide ((↑(s.getD x16.toNat 0).toNat : Int) < 48), (↑(s.getD x16.toNat 0).toNat : Int) != 95, (↑(s.getD x16.toNat 0).toNat : Int) != 95, (↑(s.getD x16.toNat 0).toNat : Int) != 95, !x16 == 0, !x16 == 0, !x16 == 0, true, true, true, !decide ((↑(s.getD x16.toNat 0).toNat : Int) ≥ 97), !decide ((↑(s.getD x16.toNat 0).toNat : Int) ≥ 97), !decide ((↑(s.getD x16.toNat 0).toNat : Int) ≥ 97), decide (0 ≤ x16), decide (x16 < (↑s.length : Int)), decide (x16 < x15)], { next := 0, objs := [] }, [T.str s, T.int .i64 x15, T.int .i64 (IntKind.i64.wrap (x16 + 1))], 47) := by kernel_rfl
theorem w35_0_11 (s : List UInt8) (x15 : Int) (x16 : Int) (fr : List T) : outK prog f35 20 [0, 15, 16] (runK prog D0 F0 2000 (.code (loopAt f35 0).1) (.lp :: (loopAt f35 0).2) 0 (frK [0, 15, 16] [T.str s, T.int .i64 x15, T.int .i64 x16] fr 47) ⟨0, []⟩ (bt 20 327793) [])
    = some (OutT.again 0, [true, true, !x16 == 0, true, !(↑(s.getD x16.toNat 0).toNat : Int) != 95, !x16 == 0, !(↑(s.getD x16.toNat 0).toNat : Int) != 95, !(↑(s.getD x16.toNat 0).toNat : Int) != 95, !(↑(s.getD x16.toNat 0).toNat : Int) != 95, !(↑(s.getD x16.toNat 0).toNat : Int) != 95, !x16 == 0, !x16 == 0, !x16 == 0, true, true, true, !decide ((↑(s.getD x16.toNat 0).toNat : Int) ≥ 97), !decide ((↑(s.getD x16.toNat 0).toNat : Int) ≥ 97), !decide ((↑(s.getD x16.toNat 0).toNat : Int) ≥ 97), decide (0 ≤ x16), decide (x16 < (↑s.length : Int)), decide (x16 < x15)], { next := 0, objs := [] }, [T.str s, T.int .i64 x15, T.int .i64 (IntKind.i64.wrap (x16 + 1))], 47) := by kernel_rfl
theorem w35_0_12 (s : List UInt8) (x15 : Int) (x16 : Int) (fr : List T) : outK prog f35 20 [] (runK prog D0 F0 2000 (.code (loopAt f35 0).1) (.lp :: (loopAt f35 0).2) 0 (frK [0, 15, 16] [T.str s, T.int .i64 x15, T.int .i64 x16] fr 47) ⟨0, []⟩ [false] [])
    = some (OutT.done (some (T.bool true)), [!decide (x16 < x15)], { next := 0, objs := [] }, [], 0) := by kernel_rfl
inductive S35 where
  | l0 (x15 : Int) (x16 : Int)
noncomputable def step35_0 (s : List UInt8) (x15 : Int) (x16 : Int) : Option (S35 ⊕ T) :=
  if allT [true, !decide ((↑(s.getD x16.toNat 0).toNat : Int) ≤ 122), x16 == 0, !decide ((↑(s.getD x16.toNat 0).toNat : Int) ≤ 122), x16 == 0, x16 == 0, x16 == 0, x16 == 0, !decide ((↑(s.getD x16.toNat 0).toNat : Int) ≤ 122), !decide ((↑(s.getD x16.toNat 0).toNat : Int) ≤ 122), !decide ((↑(s.getD x16.toNat 0).toNat : Int) ≤ 122), decide ((↑(s.getD x16.toNat 0).toNat : Int) ≥ 97), decide ((↑(s.getD x16.toNat 0).toNat : Int) ≥ 97), decide ((↑(s.getD x16.toNat 0).toNat : Int) ≥ 97), decide (0 ≤ x16), decide (x16 < (↑s.length : Int)), decide (x16 < x15)] then some (.inr ((T.bool false))) else
  if allT [true, !decide ((↑(s.getD x16.toNat 0).toNat : Int) ≤ 122), !x16 == 0, !decide ((↑(s.getD x16.toNat 0).toNat : Int) ≤ 122), (↑(s.getD x16.toNat 0).toNat : Int) != 95, !x16 == 0, decide ((↑(s.getD x16.toNat 0).toNat : Int) < 48), (↑(s.getD x16.toNat 0).toNat : Int) != 95, decide ((↑(s.getD x16.toNat 0).toNat : Int) < 48), decide ((↑(s.getD x16.toNat 0).toNat : Int) < 48), (↑(s.getD x16.toNat 0).toNat : Int) != 95, (↑(s.getD x16.toNat 0).toNat : Int) != 95, (↑(s.getD x16.toNat 0).toNat : Int) != 95, !x16 == 0, !x16 == 0, !x16 == 0, !decide ((↑(s.getD x16.toNat 0).toNat : Int) ≤ 122), !decide ((↑(s.getD x16.toNat 0).toNat : Int) ≤ 122), !decide ((↑(s.getD x16.toNat 0).toNat : Int) ≤ 122), decide ((↑(s.getD x16.toNat 0).toNat : Int) ≥ 97), decide ((↑(s.getD x16.toNat 0).toNat : Int) ≥ 97), decide ((↑(s.getD x16.toNat 0).toNat : Int) ≥ 97), decide (0 ≤ x16), decide (x16 < (↑s.length : Int)), decide (x16 < x15)] then some (.inr ((T.bool false))) else
  if allT [decide ((↑(s.getD x16.toNat 0).toNat : Int) > 57), !decide ((↑(s.getD x16.toNat 0).toNat : Int) ≤ 122), !x16 == 0, !decide ((↑(s.getD x16.toNat 0).toNat : Int) ≤ 122), (↑(s.getD x16.toNat 0).toNat : Int) != 95, !x16 == 0, !decide ((↑(s.getD x16.toNat 0).toNat : Int) < 48), (↑(s.getD x16.toNat 0).toNat : Int) != 95, !decide ((↑(s.getD x16.toNat 0).toNat : Int) < 48), !decide ((↑(s.getD x16.toNat 0).toNat : Int) < 48), (↑(s.getD x16.toNat 0).toNat : Int) != 95, (↑(s.getD x16.toNat 0).toNat : Int) != 95, (↑(s.getD x16.toNat 0).toNat : Int) != 95, !x16 == 0, !x16 == 0, !x16 == 0, !decide ((↑(s.getD x16.toNat 0).toNat : Int) ≤ 122), !decide ((↑(s.getD x16.toNat 0).toNat : Int) ≤ 122), !decide ((↑(s.getD x16.toNat 0).toNat : Int) ≤ 122), decide ((↑(s.getD x16.toNat 0).toNat : Int) ≥ 97), decide ((↑(s.getD x16.toNat 0).toNat : Int) ≥ 97), decide ((↑(s.getD x16.toNat 0).toNat : Int) ≥ 97), decide (0 ≤ x16), decide (x16 < (↑s.length : Int)), decide (x16 < x15)] then some (.inr ((T.bool false))) else
  if allT [!decide ((↑(s.getD x16.toNat 0).toNat : Int) > 57), !decide ((↑(s.getD x16.toNat 0).toNat : Int) ≤ 122), !x16 == 0, !decide ((↑(s.getD x16.toNat 0).toNat : Int) ≤ 122), (↑(s.getD x16.toNat 0).toNat : Int) != 95, !x16 == 0, !decide ((↑(s.getD x16.toNat 0).toNat : Int) < 48), (↑(s.getD x16.toNat 0).toNat : Int) != 95, !decide ((↑(s.getD x16.toNat 0).toNat : Int) < 48), !decide ((↑(s.getD x16.toNat 0).toNat : Int) < 48), (↑(s.getD x16.toNat 0).toNat : Int) != 95, (↑(s.getD x16.toNat 0).toNat : Int) != 95, (↑(s.getD x16.toNat 0).toNat : Int) != 95, !x16 == 0, !x16 == 0, !x16 == 0, !decide ((↑(s.getD x16.toNat 0).toNat : Int) ≤ 122), !decide ((↑(s.getD x16.toNat 0).toNat : Int) ≤ 122), !decide ((↑(s.getD x16.toNat 0).toNat : Int) ≤ 122), decide ((↑(s.getD x16.toNat 0).toNat : Int) ≥ 97), decide ((↑(s.getD x16.toNat 0).toNat : Int) ≥ 97), decide ((↑(s.getD x16.toNat 0).toNat : Int) ≥ 97), decide (0 ≤ x16), decide (x16 < (↑s.length : Int)), decide (x16 < x15)] then some (.inl (.l0 x15 (IntKind.i64.wrap (x16 + 1)))) else
  if allT [true, !decide ((↑(s.getD x16.toNat 0).toNat : Int) ≤ 122), !x16 == 0, !decide ((↑(s.getD x16.toNat 0).toNat : Int) ≤ 122), !(↑(s.getD x16.toNat 0).toNat : Int) != 95, !x16 == 0, !(↑(s.getD x16.toNat 0).toNat : Int) != 95, !(↑(s.getD x16.toNat 0).toNat : Int) != 95, !(↑(s.getD x16.toNat 0).toNat : Int) != 95, !(↑(s.getD x16.toNat 0).toNat : Int) != 95, !x16 == 0, !x16 == 0, !x16 == 0, !decide ((↑(s.getD x16.toNat 0).toNat : Int) ≤ 122), !decide ((↑(s.getD x16.toNat 0).toNat : Int) ≤ 122), !decide ((↑(s.getD x16.toNat 0).toNat : Int) ≤ 122), decide ((↑(s.getD x16.toNat 0).toNat : Int) ≥ 97), decide ((↑(s.getD x16.toNat 0).toNat : Int) ≥ 97), decide ((↑(s.getD x16.toNat 0).toNat : Int) ≥ 97), decide (0 ≤ x16), decide (x16 < (↑s.length : Int)), decide (x16 < x15)] then some (.inl (.l0 x15 (IntKind.i64.wrap (x16 + 1)))) else
  if allT [true, !!decide ((↑(s.getD x16.toNat 0).toNat : Int) ≤ 122), !!decide ((↑(s.getD x16.toNat 0).toNat : Int) ≤ 122), !!decide ((↑(s.getD x16.toNat 0).toNat : Int) ≤ 122), !!decide ((↑(s.getD x16.toNat 0).toNat : Int) ≤ 122), !!decide ((↑(s.getD x16.toNat 0).toNat : Int) ≤ 122), decide ((↑(s.getD x16.toNat 0).toNat : Int) ≥ 97), decide ((↑(s.getD x16.toNat 0).toNat : Int) ≥ 97), decide ((↑(s.getD x16.toNat 0).toNat : Int) ≥ 97), decide (0 ≤ x16), decide (x16 < (↑s.length : Int)), decide (x16 < x15)] then some (.inl (.l0 x15 (IntKind.i64.wrap (x16 + 1)))) else
  if allT [true, true, x16 == 0, true, x16 == 0, x16 == 0, x16 == 0, x16 == 0, true, true, true, !decide ((↑(s.getD x16.toNat 0).toNat : Int) ≥ 97), !decide ((↑(s.getD x16.toNat 0).toNat : Int) ≥ 97), !decide ((↑(s.getD x16.toNat 0).toNat : Int) ≥ 97), decide (0 ≤ x16), decide (x16 < (↑s.length : Int)), decide (x16 < x15)] then some (.inr ((T.bool false))) else
  if allT [true, true, !x16 == 0, true, (↑(s.getD x16.toNat 0).toNat : Int) != 95, !x16 == 0, decide ((↑(s.getD x16.toNat 0).toNat : Int) < 48), (↑(s.getD x16.toNat 0).toNat : Int) != 95, decide ((↑(s.getD x16.toNat 0).toNat : Int) < 48), decide ((↑(s.getD x16.toNat 0).toNat : Int) < 48), (↑(s.getD x16.toNat 0).toNat : Int) != 95, (↑(s.getD x16.toNat 0).toNat : Int) != 95, (↑(s.getD x16.toNat 0).toNat : Int) != 95, !x16 == 0, !x16 == 0, !x16 == 0, true, true, true, !decide ((↑(s.getD x16.toNat 0).toNat : Int) ≥ 97), !decide ((↑(s.getD x16.toNat 0).toNat : Int) ≥ 97), !decide ((↑(s.getD x16.toNat 0).toNat : Int) ≥ 97), decide (0 ≤ x16), decide (x16 < (↑s.length : Int)), decide (x16 < x15)] then some (.inr ((T.bool false))) else
  if allT [decide ((↑(s.getD x16.toNat 0).toNat : Int) > 57), true, !x16 == 0, true, (↑(s.getD x16.toNat 0).toNat : Int) != 95, !x16 == 0, !decide ((↑(s.getD x16.toNat 0).toNat : Int) < 48), (↑(s.getD x16.toNat 0).toNat : Int) != 95, !decide ((↑(s.getD x16.toNat 0).toNat : Int) < 48), !decide ((↑(s.getD x16.toNat 0).toNat : Int) < 48), (↑(s.getD x16.toNat 0).toNat : Int) != 95, (↑(s.getD x16.toNat 0).toNat : Int) != 95, (↑(s.getD x16.toNat 0).toNat : Int) != 95, !x16 == 0, !x16 == 0, !x16 == 0, true, true, true, !decide ((↑(s.getD x16.toNat 0).toNat : Int) ≥ 97), !decide ((↑(s.getD x16.toNat 0).toNat : Int) ≥ 97), !decide ((↑(s.getD x16.toNat 0).toNat : Int) ≥ 97), decide (0 ≤ x16), decide (x16 < (↑s.length : Int)), decide (x16 < x15)] then some (.inr ((T.bool false))) else
  if allT [!decide ((↑(s.getD x16.toNat 0).toNat : Int) > 57), true, !x16 == 0, true, (↑(s.getD x16.toNat 0).toNat : Int) != 95, !x16 == 0, !decide ((↑(s.getD x16.toNat 0).toNat : Int) < 48), (↑(s.getD x16.toNat 0).toNat : Int) != 95, !decide ((↑(s.getD x16.toNat 0).toNat : Int) < 48), !decide ((↑(s.getD x16.toNat 0).toNat : Int) < 48), (↑(s.getD x16.toNat 0).toNat : Int) != 95, (↑(s.getD x16.toNat 0).toNat : Int) != 95, (↑(s.getD x16.toNat 0).toNat : Int) != 95, !x16 == 0, !x16 == 0, !x16 == 0, true, true, true, !decide ((↑(s.getD x16.toNat 0).toNat : Int) ≥ 97), !decide ((↑(s.getD x16.toNat 0).toNat : Int) ≥ 97), !decide ((↑(s.getD x16.toNat 0).toNat : Int) ≥ 97), decide (0 ≤ x16), decide (x16 < (↑s.length : Int)), decide (x16 < x15)] then some (.inl (.l0 x15 (IntKind.i64.wrap (x16 + 1)))) else
  if allT [true, true, !x16 == 0, true, !(↑(s.getD x16.toNat 0).toNat : Int) != 95, !x16 == 0, !(↑(s.getD x16.toNat 0).toNat : Int) != 95, !(↑(s.getD x16.toNat 0).toNat : Int) != 95, !(↑(s.getD x16.toNat 0).toNat : Int) != 95, !(↑(s.getD x16.toNat 0).toNat : Int) != 95, !x16 == 0, !x16 == 0, !x16 == 0, true, true, true, !decide ((↑(s.getD x16.toNat 0).toNat : Int) ≥ 97), !decide ((↑(s.getD x16.toNat 0).toNat : Int) ≥ 97), !decide ((↑(s.getD x16.toNat 0).toNat : Int) ≥ 97), decide (0 ≤ x16), decide (x16 < (↑s.length : Int)), decide (x16 < x15)] then some (.inl (.l0 x15 (IntKind.i64.wrap (x16 + 1)))) else
  if allT [!decide (x16 < x15)] then some (.inr ((T.bool true))) else
  none
noncomputable def step35 (s : List UInt8) : S35 → Option (S35 ⊕ T)
  | .l0 x15 x16 => step35_0 s x15 x16
noncomputable def M35 (s : List UInt8) : Mch S35 where
  lp := fun σ => match σ with
    | .l0 .. => 0
  keep := fun ι => match ι with
    | 0 => [0, 15, 16]
    | _ => []
  par := fun ι => match ι with
    | 0 => []
    | _ => []
  vs := fun σ => match σ with
    | .l0 x15 x16 => [T.str s, T.int .i64 x15, T.int .i64 x16]
  hp := fun σ => match σ with
    | .l0 _ _ => ⟨0, []⟩
  len := 47
  step := step35 s
theorem ways35 (s : List UInt8) : (M35 s).Ways prog D0 F0 f35 20 := by
  intro σ o fr h
  cases σ with
  | l0 x15 x16 =>
    change step35_0 s x15 x16 = some o at h
    unfold step35_0 at h
    rcases ite_or h with ⟨hk, h⟩ | h
    · cases h
      exact ⟨2000, _, _, _, _, _, _, w35_0_1 s x15 x16 fr, hk⟩
    rcases ite_or h with ⟨hk, h⟩ | h
    · cases h
      exact ⟨2000, _, _, _, _, _, _, w35_0_2 s x15 x16 fr, hk⟩
    rcases ite_or h with ⟨hk, h⟩ | h
    · cases h
      exact ⟨2000, _, _, _, _, _, _, w35_0_3 s x15 x16 fr, hk⟩
    rcases ite_or h with ⟨hk, h⟩ | h
    · cases h
      exact .inl ⟨2000, _, _, _, w35_0_4 s x15 x16 fr, hk, rfl⟩
    rcases ite_or h with ⟨hk, h⟩ | h
    · cases h
      exact .inl ⟨2000, _, _, _, w35_0_5 s x15 x16 fr, hk, rfl⟩
    rcases ite_or h with ⟨hk, h⟩ | h
    · cases h
      exact .inl ⟨2000, _, _, _, w35_0_6 s x15 x16 fr, hk, rfl⟩
    rcases ite_or h with ⟨hk, h⟩ | h
    · cases h
      exact ⟨2000, _, _, _, _, _, _, w35_0_7 s x15 x16 fr, hk⟩
    rcases ite_or h with ⟨hk, h⟩ | h
    · cases h
      exact ⟨2000, _, _, _, _, _, _, w35_0_8 s x15 x16 fr, hk⟩
    rcases ite_or h with ⟨hk, h⟩ | h
    · cases h
      exact ⟨2000, _, _, _, _, _, _, w35_0_9 s x15 x16 fr, hk⟩
    rcases ite_or h with ⟨hk, h⟩ | h
    · cases h
      exact .inl ⟨2000, _, _, _, w35_0_10 s x15 x16 fr, hk, rfl⟩
    rcases ite_or h with ⟨hk, h⟩ | h
    · cases h
      exact .inl ⟨2000, _, _, _, w35_0_11 s x15 x16 fr, hk, rfl⟩
    rcases ite_or h with ⟨hk, h⟩ | h
    · cases h
      exact ⟨2000, _, _, _, _, _, _, w35_0_12 s x15 x16 fr, hk⟩
    cases h
theorem oks35 (s : List UInt8) : ∀ σ, codeOk (loopAt f35 ((M35 s).lp σ)).1 = true ∧ ksOk (.lp :: (loopAt f35 ((M35 s).lp σ)).2) = true := by
  intro σ
  cases σ
  · exact ⟨(show codeOk (loopAt f35 0).1 = true by kernel_rfl), (show ksOk (.lp :: (loopAt f35 0).2) = true by kernel_rfl)⟩
noncomputable def o35 (s : List UInt8) : Option (S35 ⊕ T) :=
  if allT [true, decide ((↑s.length : Int) < 1), decide ((↑s.length : Int) < 1), decide ((↑s.length : Int) < 1), decide ((↑s.length : Int) < 1)] then some (.inr ((T.bool false))) else
  if allT [decide ((↑s.length : Int) > 32), !decide ((↑s.length : Int) < 1), !decide ((↑s.length : Int) < 1), !decide ((↑s.length : Int) < 1), !decide ((↑s.length : Int) < 1)] then some (.inr ((T.bool false))) else
  if allT [!decide ((↑s.length : Int) > 32), !decide ((↑s.length : Int) < 1), !decide ((↑s.length : Int) < 1), !decide ((↑s.length : Int) < 1), !decide ((↑s.length : Int) < 1)] then some (.inl (.l0 (↑s.length : Int) 0)) else
  none
theorem run35 (s : List UInt8) {n : Nat} {o : S35 ⊕ T} {r : T} (h : o35 s = some o) (hr : (M35 s).fin n o = some r) : PureFn prog gl 35 [.str s] r := by
  refine pure_mach (M := (M35 s)) (fn := f35) (k := 20) (d := 8) (c := bodyOf f35) cx0 glFrz (by kernel_rfl) func35 (by kernel_rfl) rfl (by kernel_rfl) (by kernel_rfl) (L := 46) (by kernel_rfl) (ways35 s) (oks35 s) ?_ hr
  unfold o35 at h
  rcases ite_or h with ⟨hk, h⟩ | h
  · cases h
    exact ⟨2000, _, _, _, _, _, _, w35_s_1 s, hk⟩
  rcases ite_or h with ⟨hk, h⟩ | h
  · cases h
    exact ⟨2000, _, _, _, _, _, _, w35_s_2 s, hk⟩
  rcases ite_or h with ⟨hk, h⟩ | h
  · cases h
    exact .inr ⟨2000, _, _, _, w35_s_3 s, hk, rfl⟩
  cases h

/-! ### 39 -/
theorem w39_s_1 (c : Ct) (i : Int) : outK prog f39 20 [] (runK prog D0 F0 2000 (.code (bodyOf f39)) [] 0 ([.int .i64 i, .ref (ctT c) 0] ++ List.replicate 10 undefT) ⟨0, []⟩ [] [])
    = some (OutT.done (some (T.bool ((↑(c.line i.toNat).k : Int) != 1))), [decide (0 ≤ i), decide (i < (↑c.n : Int)), true], { next := 0, objs := [] }, [], 0) := by kernel_rfl
noncomputable def o39 (c : Ct) (i : Int) : Option (Empty ⊕ T) :=
  if allT [decide (0 ≤ i), decide (i < (↑c.n : Int)), true] then some (.inr ((T.bool ((↑(c.line i.toNat).k : Int) != 1)))) else
  none
theorem run39 (c : Ct) (i : Int) {n : Nat} {o : Empty ⊕ T} {r : T} (h : o39 c i = some o) (hr : noM.fin n o = some r) : PureFn prog gl 39 [.int .i64 i, .ref (ctT c) 0] r := by
  refine pure_mach (M := noM) (fn := f39) (k := 20) (d := 8) (c := bodyOf f39) cx0 glFrz (by kernel_rfl) func39 (by kernel_rfl) rfl (by kernel_rfl) (by kernel_rfl) (L := 10) (by kernel_rfl) noM_ways (fun σ => σ.elim) ?_ hr
  unfold o39 at h
  rcases ite_or h with ⟨hk, h⟩ | h
  · cases h
    exact ⟨2000, _, _, _, _, _, _, w39_s_1 c i, hk⟩
  cases h

/-! ### 7 -/
inductive S7 where
  | l0 (x3 : Int)
  | l1 (x3 : Int) (x5 : Int)
end Go.Proofs.Tryd

/- What the first functions compute. -/
namespace Go.Proofs
open Go.Ps

theorem Tryd.c66 (x : Int) : PureFn Tryd.prog Tryd.gl 66 [.int .i64 x] (.bool false) := by
  refine Tryd.run66 x (n := 0) (o := .inr (.bool (x != x))) rfl ?_
  simp [Mch.fin]

/-- A number that no path may hold. -/
def Tryd.bad (x : Int) : Bool := decide (x < 0) || decide (x > 65535)
theorem Tryd.c47 (x : Int) : PureFn Tryd.prog Tryd.gl 47 [.int .i64 x] (.bool (Tryd.bad x)) := by
  by_cases h : x < 0
  · refine Tryd.run47 x (n := 0) (o := .inr (.bool true)) (by simp [Tryd.o47, allT, h]) ?_
    simp [Mch.fin, Tryd.bad, h]
  · refine Tryd.run47 x (n := 0) (o := .inr (.bool (decide (x > 65535)))) (by simp [Tryd.o47, allT, h]) ?_
    simp [Mch.fin, Tryd.bad, h]

theorem Tryd.c34 (x : Ln) : PureFn Tryd.prog Tryd.gl 34 [lnT x] (.bool (x.fate == 0)) := Tryd.run34 x (n := 0) (o := .inr (.bool (x.fate == 0))) rfl rfl

/-- The stamp of an arrival. -/
def Tryd.arr (s : Sp) : Bool := s.n == 1 && s.at_ 0 == 1
theorem Tryd.c37 (s : Sp) : PureFn Tryd.prog Tryd.gl 37 [spT s] (.bool (Tryd.arr s)) := by
  by_cases h : s.n = 1
  · refine Tryd.run37 s (n := 0) (o := .inr (.bool (s.at_ 0 == 1))) (by simp [Tryd.o37, allT, h]) ?_
    simp [Mch.fin, Tryd.arr, h]
  · have h' : ¬ ((s.n : Int) = 1) := by omega
    refine Tryd.run37 s (n := 0) (o := .inr (.bool false)) (by simp [Tryd.o37, allT, h']) ?_
    simp [Mch.fin, Tryd.arr, h]
theorem Tryd.c42 (s : Sp) : PureFn Tryd.prog Tryd.gl 42 [spT s] (.bool (Tryd.arr s)) := by
  by_cases h : s.n = 1
  · refine Tryd.run42 s (n := 0) (o := .inr (.bool (s.at_ 0 == 1))) (by simp [Tryd.o42, allT, h]) ?_
    simp [Mch.fin, Tryd.arr, h]
  · have h' : ¬ ((s.n : Int) = 1) := by omega
    refine Tryd.run42 s (n := 0) (o := .inr (.bool false)) (by simp [Tryd.o42, allT, h']) ?_
    simp [Mch.fin, Tryd.arr, h]

theorem Tryd.c39 (c : Ct) (i : Int) (h0 : 0 ≤ i) (h1 : i < c.n) : PureFn Tryd.prog Tryd.gl 39 [.int .i64 i, .ref (ctT c) 0] (.bool (((c.line i.toNat).k : Int) != 1)) := by
  refine Tryd.run39 c i (n := 0) (o := .inr (.bool (((c.line i.toNat).k : Int) != 1))) (by simp [Tryd.o39, allT, h0, h1]) rfl

/-! ### names -/
theorem Tryd.run35_ex (s : List UInt8) (hs : s.length ≤ 32) : ∀ (k i : Nat), k + i = s.length → ∃ b, (Tryd.M35 s).run (k + 1) (.l0 s.length i) = some (.bool b) := by
  intro k
  induction k with
  | zero =>
    intro i hi
    refine ⟨true, ?_⟩
    have : ¬ ((i : Int) < s.length) := by omega
    simp [Mch.run, Tryd.M35, Tryd.step35, Tryd.step35_0, allT, this]
  | succ k ih =>
    intro i hi
    obtain ⟨b, hb⟩ := ih (i + 1) (by omega)
    have h1 : ((i : Int) < s.length) := by omega
    have h2 : IntKind.i64.wrap ((i : Int) + 1) = ((i + 1 : Nat) : Int) := by rw [IntWalk.i64_in _ (by omega)]; omega
    rw [Mch.run]
    have key : ∃ o, (Tryd.M35 s).step (.l0 s.length i) = some o ∧ (o = .inl (.l0 s.length ((i + 1 : Nat) : Int)) ∨ o = .inr (.bool false)) := by
      show ∃ o, Tryd.step35_0 s s.length i = some o ∧ _
      unfold Tryd.step35_0
      rw [h2, Int.toNat_natCast, decide_eq_true h1, decide_eq_true (show (0 : Int) ≤ i by omega)]
      generalize decide ((↑(s.getD i 0).toNat : Int) ≥ 97) = b1
      generalize decide ((↑(s.getD i 0).toNat : Int) ≤ 122) = b2
      generalize ((i : Int) == 0) = b3
      generalize ((↑(s.getD i 0).toNat : Int) != 95) = b4
      generalize decide ((↑(s.getD i 0).toNat : Int) < 48) = b5
      generalize decide ((↑(s.getD i 0).toNat : Int) > 57) = b6
      cases b1 <;> cases b2 <;> cases b3 <;> cases b4 <;> cases b5 <;> cases b6 <;> simp [allT]
    obtain ⟨o, h3, h4⟩ := key
    rw [h3]
    rcases h4 with rfl | rfl
    · exact ⟨b, hb⟩
    · exact ⟨false, rfl⟩

theorem Tryd.name_ex (s : List UInt8) : ∃ b, (s = [] → b = false) ∧ PureFn Tryd.prog Tryd.gl 35 [.str s] (.bool b) := by
  by_cases h1 : (s.length : Int) < 1
  · exact ⟨false, fun _ => rfl, Tryd.run35 s (n := 0) (o := .inr (.bool false)) (by unfold Tryd.o35; rw [if_pos (by simp [allT, h1])]) rfl⟩
  · have hne : s = [] → False := fun e => h1 (by simp [e])
    by_cases h2 : (s.length : Int) > 32
    · exact ⟨false, fun _ => rfl, Tryd.run35 s (n := 0) (o := .inr (.bool false)) (by unfold Tryd.o35; rw [if_neg (by simp [allT, h1]), if_pos (by simp [allT, h1, h2])]) rfl⟩
    · obtain ⟨b, hb⟩ := Tryd.run35_ex s (by omega) s.length 0 (by omega)
      exact ⟨b, fun e => (hne e).elim, Tryd.run35 s (n := s.length + 1) (o := .inl (.l0 s.length 0)) (by unfold Tryd.o35; rw [if_neg (by simp [allT, h1]), if_neg (by simp [allT, h1, h2]), if_pos (by simp [allT, h1, h2])]) hb⟩

/-- Whether a text is a name. -/
noncomputable def Tryd.isName (s : List UInt8) : Bool := Classical.choose (Tryd.name_ex s)
theorem Tryd.c35 (s : List UInt8) : PureFn Tryd.prog Tryd.gl 35 [.str s] (.bool (Tryd.isName s)) := (Classical.choose_spec (Tryd.name_ex s)).2
theorem Tryd.isName_nil : Tryd.isName [] = false := (Classical.choose_spec (Tryd.name_ex [])).1 rfl

/-! ### the contracts -/
def Tryd.s66 : List T → Option (T × List Bool)
  | [.int .i64 _] => some (.bool false, [])
  | _ => none
def Tryd.s47 : List T → Option (T × List Bool)
  | [.int .i64 x] => some (.bool (Tryd.bad x), [])
  | _ => none
noncomputable def Tryd.s34 : List T → Option (T × List Bool)
  | [t] => some (.bool ((lnv t).fate == 0), [isV t (lnT (lnv t))])
  | _ => none
noncomputable def Tryd.s37 : List T → Option (T × List Bool)
  | [t] => some (.bool (Tryd.arr (spv t)), [isV t (spT (spv t))])
  | _ => none
noncomputable def Tryd.s35 : List T → Option (T × List Bool)
  | [t] => some (.bool (Tryd.isName (strv t)), [isV t (.str (strv t))])
  | _ => none
noncomputable def Tryd.s39 : List T → Option (T × List Bool)
  | [.int .i64 i, .ref t 0] => some (.bool ((((ctv t).line i.toNat).k : Int) != 1), [isV t (ctT (ctv t)), decide (0 ≤ i), decide (i < (ctv t).n)])
  | _ => none

theorem Tryd.s66_ok (ts : List T) (r : T) (cs : List Bool) (h : Tryd.s66 ts = some (r, cs)) (_ : allT cs = true) : PureFn Tryd.prog Tryd.gl 66 ts r := by
  unfold Tryd.s66 at h; split at h
  · cases h; exact Tryd.c66 _
  · cases h
theorem Tryd.s47_ok (ts : List T) (r : T) (cs : List Bool) (h : Tryd.s47 ts = some (r, cs)) (_ : allT cs = true) : PureFn Tryd.prog Tryd.gl 47 ts r := by
  unfold Tryd.s47 at h; split at h
  · cases h; exact Tryd.c47 _
  · cases h
theorem Tryd.s34_ok (ts : List T) (r : T) (cs : List Bool) (h : Tryd.s34 ts = some (r, cs)) (k : allT cs = true) : PureFn Tryd.prog Tryd.gl 34 ts r := by
  unfold Tryd.s34 at h; split at h
  · cases h
    simp only [allT, Bool.and_true, isV_iff] at k
    rw [k]; exact Tryd.c34 _
  · cases h
theorem Tryd.s37_ok (ts : List T) (r : T) (cs : List Bool) (h : Tryd.s37 ts = some (r, cs)) (k : allT cs = true) : PureFn Tryd.prog Tryd.gl 37 ts r := by
  unfold Tryd.s37 at h; split at h
  · cases h
    simp only [allT, Bool.and_true, isV_iff] at k
    rw [k]; exact Tryd.c37 _
  · cases h
theorem Tryd.s42_ok (ts : List T) (r : T) (cs : List Bool) (h : Tryd.s37 ts = some (r, cs)) (k : allT cs = true) : PureFn Tryd.prog Tryd.gl 42 ts r := by
  unfold Tryd.s37 at h; split at h
  · cases h
    simp only [allT, Bool.and_true, isV_iff] at k
    rw [k]; exact Tryd.c42 _
  · cases h
theorem Tryd.s35_ok (ts : List T) (r : T) (cs : List Bool) (h : Tryd.s35 ts = some (r, cs)) (k : allT cs = true) : PureFn Tryd.prog Tryd.gl 35 ts r := by
  unfold Tryd.s35 at h; split at h
  · cases h
    simp only [allT, Bool.and_true, isV_iff] at k
    rw [k]; exact Tryd.c35 _
  · cases h
theorem Tryd.s39_ok (ts : List T) (r : T) (cs : List Bool) (h : Tryd.s39 ts = some (r, cs)) (k : allT cs = true) : PureFn Tryd.prog Tryd.gl 39 ts r := by
  unfold Tryd.s39 at h; split at h
  · cases h
    simp only [allT, Bool.and_true, Bool.and_eq_true, isV_iff, decide_eq_true_eq] at k
    rw [k.1]; exact Tryd.c39 _ _ k.2.1 k.2.2
  · cases h

noncomputable def Tryd.D2 : Ed := ⟨Tryd.gl, pdAdd 66 Tryd.s66 (pdAdd 47 Tryd.s47 (pdAdd 34 Tryd.s34 (pdAdd 37 Tryd.s37 (pdAdd 42 Tryd.s37 (pdAdd 35 Tryd.s35 (pdAdd 39 Tryd.s39 Tryd.D1.pd))))))⟩
theorem Tryd.cx2 : Cx Tryd.prog Tryd.D2 Tryd.F0 := ⟨Tryd.follows, pdAdd_ok (pdAdd_ok (pdAdd_ok (pdAdd_ok (pdAdd_ok (pdAdd_ok (pdAdd_ok Tryd.cx1.hE Tryd.s39_ok) Tryd.s35_ok) Tryd.s42_ok) Tryd.s37_ok) Tryd.s34_ok) Tryd.s47_ok) Tryd.s66_ok, Tryd.F0ok⟩
end Go.Proofs

/- What the functions on stamps compute, as plain functions; the contracts by level (nothing is proved here). -/
namespace Go.Proofs
open Go.Ps

def Tryd.cmpI (x y : Int) : Int := if x < y then -1 else if x > y then 1 else 0
def Tryd.cmpR (n1 n2 : Nat) (f g : Nat → Int) : Nat → Nat → Int
  | 0, _ => if n1 < n2 then -1 else 0
  | k + 1, i => if n2 ≤ i then 1 else if Tryd.cmpI (f i) (g i) ≠ 0 then Tryd.cmpI (f i) (g i) else Tryd.cmpR n1 n2 f g k (i + 1)
def Tryd.cmpP (n1 : Nat) (f : Nat → Int) (n2 : Nat) (g : Nat → Int) : Int := Tryd.cmpR n1 n2 f g n1 0
def Tryd.cmpS (a b : Sp) : Int := if Tryd.cmpI a.entry b.entry ≠ 0 then Tryd.cmpI a.entry b.entry else Tryd.cmpP a.n a.at_ b.n b.at_
def Tryd.eqS (a b : Sp) : Bool := Tryd.cmpS a b == 0

def Tryd.idxR (p : Nat → Bool) : Nat → Nat → Int
  | 0, _ => -1
  | k + 1, i => if p i then (i : Int) else Tryd.idxR p k (i + 1)
def Tryd.idx (n : Nat) (p : Nat → Bool) : Int := Tryd.idxR p n 0
def Tryd.any (n : Nat) (p : Nat → Bool) : Bool := decide (Tryd.idx n p ≥ 0)

def Tryd.bsR (p : Nat → Int) : Nat → Nat → Nat → Nat
  | 0, i, _ => i
  | k + 1, i, j => if i < j then (if p ((i + j) / 2) < 0 then Tryd.bsR p k ((i + j) / 2 + 1) j else Tryd.bsR p k i ((i + j) / 2)) else i
def Tryd.bs (n : Nat) (p : Nat → Int) : Nat := Tryd.bsR p n 0 n
def Tryd.found (n : Nat) (p : Nat → Int) : Bool := decide (Tryd.bs n p < n) && p (Tryd.bs n p) == 0

def Tryd.chk (s : Sp) : Int :=
  if decide (s.entry < 1) then 2 else if decide (s.entry > 1048576) then 2 else if (s.n : Int) == 0 then 4 else if decide ((s.n : Int) > 512) then 9 else if Tryd.any s.n (fun i => Tryd.bad (s.at_ i)) then 2
  else if decide (s.at_ 0 > 1) then 11 else if s.at_ 0 == 1 then 0 else if (s.n : Int) == 1 then 4 else if decide (s.at_ 1 ≥ 128) then 2 else 0

/-! ### contracts -/
def Tryd.s49 : List T → Option (T × List Bool)
  | [.int .i64 x, .int .i64 y] => some (.int .i64 (Tryd.cmpI x y), [])
  | _ => none
def Tryd.s48 : List T → Option (T × List Bool)
  | [.sl true [.int .i64 x, .int .i64 y]] => some (.int .i64 (if x ≠ 0 then x else y), [])
  | _ => none
noncomputable def Tryd.s50 : List T → Option (T × List Bool)
  | [t, u, .fn (.func 51) [] []] => some (.int .i64 (Tryd.cmpP (slN t) (isv t) (slN u) (isv u)), [isV t (isT (slN t) (isv t)), isV u (isT (slN u) (isv u)), decide (slN t ≤ 281474976710656)])
  | _ => none
noncomputable def Tryd.s33 : List T → Option (T × List Bool)
  | [t, u] => some (.int .i64 (Tryd.cmpS (spv t) (spv u)), [isV t (spT (spv t)), isV u (spT (spv u)), decide ((spv t).n ≤ 281474976710656)])
  | _ => none
noncomputable def Tryd.s62 : List T → Option (T × List Bool)
  | [t, u] => some (.bool (Tryd.eqS (spv t) (spv u)), [isV t (spT (spv t)), isV u (spT (spv u)), decide ((spv t).n ≤ 281474976710656)])
  | _ => none
noncomputable def Tryd.s53 : List T → Option (T × List Bool)
  | [t, u] => some (.int .i64 (Tryd.cmpS (lnv t).st (spv u)), [isV t (lnT (lnv t)), isV u (spT (spv u)), decide ((lnv t).st.n ≤ 281474976710656)])
  | _ => none
noncomputable def Tryd.s54 : List T → Option (T × List Bool)
  | [t, .fn (.func 47) [] []] => some (.int .i64 (Tryd.idx (slN t) (fun i => Tryd.bad (isv t i))), [isV t (isT (slN t) (isv t)), decide (slN t ≤ 281474976710656)])
  | [t, .fn (.func 39) [] [.ref c 0]] => some (.int .i64 (Tryd.idx (slN t) (fun i => ((((ctv c).line (isv t i).toNat).k : Int) != 1))), [isV t (isT (slN t) (isv t)), isV c (ctT (ctv c)), decide (slN t ≤ 281474976710656), decide (∀ i, i < slN t → 0 ≤ isv t i ∧ isv t i < (ctv c).n)])
  | _ => none
noncomputable def Tryd.s38 : List T → Option (T × List Bool)
  | [t, .fn (.func 47) [] []] => some (.bool (Tryd.any (slN t) (fun i => Tryd.bad (isv t i))), [isV t (isT (slN t) (isv t)), decide (slN t ≤ 281474976710656)])
  | [t, .fn (.func 39) [] [.ref c 0]] => some (.bool (Tryd.any (slN t) (fun i => ((((ctv c).line (isv t i).toNat).k : Int) != 1))), [isV t (isT (slN t) (isv t)), isV c (ctT (ctv c)), decide (slN t ≤ 281474976710656), decide (∀ i, i < slN t → 0 ≤ isv t i ∧ isv t i < (ctv c).n)])
  | _ => none
noncomputable def Tryd.s32 : List T → Option (T × List Bool)
  | [t] => some (.int .i64 (Tryd.chk (spv t)), [isV t (spT (spv t)), decide ((spv t).n ≤ 281474976710656)])
  | _ => none

/-- The paths of lines are of a length that memory can hold. -/
def Tryd.modest (n : Nat) (f : Nat → Ln) : Prop := n ≤ 281474976710656 ∧ ∀ i, i < n → (f i).st.n ≤ 281474976710656
noncomputable def Tryd.modestB (n : Nat) (f : Nat → Ln) : Bool := @decide (Tryd.modest n f) (Classical.propDecidable _)

noncomputable def Tryd.s52 : List T → Option (T × List Bool)
  | [t, u, .fn (.func 53) [] []] => some (.tup [.int .i64 (Tryd.bs (slN t) (fun i => Tryd.cmpS (lsv t i).st (spv u))), .bool (Tryd.found (slN t) (fun i => Tryd.cmpS (lsv t i).st (spv u)))], [isV t (lsT (slN t) (lsv t)), isV u (spT (spv u)), Tryd.modestB (slN t) (lsv t)])
  | _ => none
noncomputable def Tryd.s36 : List T → Option (T × List Bool)
  | [t, u] => some (.tup [.int .i64 (Tryd.bs (slN t) (fun i => Tryd.cmpS (lsv t i).st (spv u))), .bool (Tryd.found (slN t) (fun i => Tryd.cmpS (lsv t i).st (spv u)))], [isV t (lsT (slN t) (lsv t)), isV u (spT (spv u)), Tryd.modestB (slN t) (lsv t)])
  | _ => none
noncomputable def Tryd.s41 : List T → Option (T × List Bool)
  | [t, u] => some (.int .i64 (Tryd.idx (slN t) (fun i => Tryd.eqS (lsv t i).st (spv u))), [isV t (lsT (slN t) (lsv t)), isV u (spT (spv u)), Tryd.modestB (slN t) (lsv t)])
  | _ => none

noncomputable def Tryd.D3 : Ed := ⟨Tryd.gl, pdAdd 49 Tryd.s49 (pdAdd 48 Tryd.s48 Tryd.D2.pd)⟩
noncomputable def Tryd.D4 : Ed := ⟨Tryd.gl, pdAdd 51 Tryd.s49 Tryd.D3.pd⟩
noncomputable def Tryd.D5 : Ed := ⟨Tryd.gl, pdAdd 50 Tryd.s50 Tryd.D4.pd⟩
noncomputable def Tryd.D6 : Ed := ⟨Tryd.gl, pdAdd 33 Tryd.s33 Tryd.D5.pd⟩
noncomputable def Tryd.D7 : Ed := ⟨Tryd.gl, pdAdd 62 Tryd.s62 (pdAdd 53 Tryd.s53 (pdAdd 54 Tryd.s54 Tryd.D6.pd))⟩
noncomputable def Tryd.D8 : Ed := ⟨Tryd.gl, pdAdd 38 Tryd.s38 (pdAdd 52 Tryd.s52 (pdAdd 41 Tryd.s41 Tryd.D7.pd))⟩
noncomputable def Tryd.D9 : Ed := ⟨Tryd.gl, pdAdd 36 Tryd.s36 (pdAdd 32 Tryd.s32 Tryd.D8.pd)⟩
end Go.Proofs
