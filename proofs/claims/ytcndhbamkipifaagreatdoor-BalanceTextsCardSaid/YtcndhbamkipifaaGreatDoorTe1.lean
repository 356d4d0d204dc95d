/- Texts merged: PsN, PsO, PsP, PsQ, PsR, PsS, PsT, PsU, PsV, PsW, PsX, PsY, PsZ, PsLn, PsEe, Shelf, Known, Shares, Wa, Shares2, PsDat, A, Ac, Bs. -/
import Derived.Test.YtcndhbamkipifaaGreatDoorTe0
import Derived.Shelf.Strings.OnBuilder
import Derived.Shelf.LaysM
import Derived.Shelf.Strconv.Itoa3
import Derived.Lib.LaidTab
import Derived.Shelf.LaysC
import Derived.Shelf.Strconv.ErrVarAll
import Derived.Shelf.Strings.Cut
import Derived.Shelf.Strings.Split
import Derived.Test.YtcndhbamkipifaaGreatDoorProg
import Derived.KernelRfl
import Derived.IntWalk
set_option linter.unusedSimpArgs false
set_option linter.unusedVariables false
set_option linter.unusedSectionVars false
/- The evaluator along one way: tests are answered by a list; what was answered, and what must hold for the operations, is listed. -/
namespace Go.Ps
noncomputable section
inductive RD (α : Type) where
 | ok (a : α) (ds log : List Bool)
 | need (c : Bool) (log : List Bool)
 | fail (why : Nat)
structure Ed where
 gl : Nat → Option T
 pd : Hp → FuncId → List T → Option (T × List Bool)
def tag0 : Option T → Option (T × List Bool)
 | some r => some (r, [])
 | none => none
def indexAddrD (P : Program) (t : TypeId) (x i : T) : Option (T × List Bool) :=
 match i with
 | .int _ n =>
  match P.underlying t, x with
  | some (.slice e), .sl _ xs => match szT P e with
   | some s => some (.ref (xs.getD n.toNat undefT) 0, [decide (0 ≤ n), decide (n < xs.length), decide ((xs.getD n.toNat undefT).cells.length = s)])
   | none => none
  | some (.slice e), .slf _ len f => match szT P e with
   | some s => some (.ref (f n.toNat) 0, [decide (0 ≤ n), decide (n < len), decide ((f n.toNat).cells.length = s)])
   | none => none
  | some (.slice e), .osl l sz j len => match szT P e with
   | some s => if sz = s then some (.ptr l ((j + n.toNat) * sz), [decide (0 ≤ n), decide (n < len)]) else none
   | none => none
  | some (.array len e), x => match szT P e with
   | some s => match addT x (n.toNat * s) with
    | some y => some (y, [decide (0 ≤ n), decide (n < len)])
    | none => none
   | none => none
  | _, _ => none
 | _ => none
def indexD (P : Program) (t : TypeId) (x i : T) : Option (T × List Bool) :=
 match i with
 | .int _ n =>
  match P.underlying t, x with
  | some (.array len e), .agg cs => match szT P e with
   | some s => match partT P e cs (n.toNat * s) with
    | some y => some (y, [decide (0 ≤ n), decide (n < len)])
    | none => none
   | none => none
  | some .string, .str s => some (.int .u8 (s.getD n.toNat 0).toNat, [decide (0 ≤ n), decide (n < s.length)])
  | _, _ => none
 | _ => none
def boundD (x : Option T) (dflt top : Nat) : Option (Nat × List Bool) :=
 match x with
 | none => some (dflt, [])
 | some (.int _ n) => some (n.toNat, [decide (0 ≤ n), decide (n ≤ top)])
 | some _ => none
def sliceD (P : Program) (t : TypeId) (x : T) (lo hi : Option T) : Option (T × List Bool) :=
 match P.underlying t, x with
 | some .string, .str s =>
  match boundD hi s.length s.length with
  | some (h, c1) => match boundD lo 0 h with
   | some (l, c2) => some (.str ((s.take h).drop l), c1 ++ c2)
   | none => none
  | none => none
 | some (.slice e), .sl full xs =>
  match boundD hi xs.length xs.length with
  | some (h, c1) => match boundD lo 0 h with
   | some (l, c2) => match szT P e with
    | some s => some (.sl (full && h == xs.length) ((xs.take h).drop l), c1 ++ c2 ++ [headOk s xs])
    | none => none
   | none => none
  | none => none
 | some (.slice e), .slf full n f =>
  match boundD hi n n with
  | some (h, c1) => match boundD lo 0 h with
   | some (l, c2) => match szT P e with
    | some s => some (.slf (full && h == n) (h - l) (fun i => f (l + i)), c1 ++ c2 ++ [decide ((f l).cells.length = s)])
    | none => none
   | none => none
  | none => none
 | _, _ => none
def isNi : T → Bool
 | .nili => true
 | _ => false
def isIf : T → Bool
 | .nili => true
 | .iface .. => true
 | _ => false
def ifaceTy (P : Program) (t : TypeId) : Bool := match P.underlying t with
 | some (.interface _) => true
 | _ => false
def binD (P : Program) (op : BinOp) (t : TypeId) (x y : T) : Option (T × List Bool) :=
 match op, x, y with
 | .quo, .int k a, .int k' b => if k = k' then some (.int k (k.wrap (a.tdiv b)), [b != 0]) else none
 | .rem, .int k a, .int k' b => if k = k' then some (.int k (a.tmod b), [b != 0]) else none
 | .add, .str a, .str b => some (.str (a ++ b), [decide (a.length + b.length ≤ maxStr)])
 | .eql, x, .nili => if ifaceTy P t then some (.bool (isNi x), [isIf x]) else none
 | .neq, x, .nili => if ifaceTy P t then some (.bool (!isNi x), [isIf x]) else none
 | op, x, y => tag0 (binT P op t x y)
def intv : T → Int
 | .int _ n => n
 | _ => 0
def isInt (k : IntKind) : T → Bool
 | .int k' _ => decide (k' = k)
 | _ => false
def loadD (P : Program) (H : Hp) (t : TypeId) (p : T) : Option (T × List Bool) :=
 match p with
 | .ptr l off => match H.get l with
  | some o => if o.sz = 0 then tag0 (loadT P H t p) else match P.underlying t with
   | some (.int k) => some (.int k (intv (o.cells.getD off undefT)), [isInt k (o.cells.getD off undefT), decide (off < o.cells.length), decide (aggT P t = some false)])
   | _ => tag0 (loadT P H t p)
  | none => none
 | p => tag0 (loadT P H t p)
def evalPD (P : Program) (E : Ed) (own : Bool) (H : Hp) (fr : List T) (o : Oper) : Option (T × List Bool) :=
 let ev := evalT E.gl fr
 match o.op with
 | .indexAddr t x i => match ev x, ev i with
  | some a, some b => indexAddrD P t a b
  | _, _ => none
 | .index t x i => match ev x, ev i with
  | some a, some b => indexD P t a b
  | _, _ => none
 | .load t a => match ev a with
  | some p => loadD P H t p
  | none => none
 | .binOp op t x y _ => match ev x, ev y with
  | some a, some b => if nilsOk x y a b then binD P op t a b else none
  | _, _ => none
 | .slice t x lo hi mx => match mx with
  | some _ => none
  | none => match ev x with
   | some a => match optT ev lo, optT ev hi with
    | some l, some h => sliceD P t a l h
    | _, _ => none
   | none => none
 | .call c => match c.callee with
  | .value f => match ev f with
   | some (.fn (.func g) first cap) => match evalAll E.gl fr c.args.toList with
    | some ars => E.pd H g (first ++ ars ++ cap)
    | none => none
   | _ => none
  | .invoke _ _ => none
  | .builtin _ => tag0 (evalC P ⟨E.gl, fun _ _ _ => none⟩ H fr c)
 | _ => tag0 (evalP P ⟨E.gl, fun _ _ _ => none⟩ own H fr o)
def obv (H : Hp) (l : Nat) : Ob := match H.get l with
 | some o => o
 | none => ⟨0, 0, []⟩
def obIn (H : Hp) (l k : Nat) : Bool := match H.get l with
 | some o => decide (k ≤ o.cells.length)
 | none => false
def obApp (H : Hp) (l : Nat) (e : TypeId) (sz len : Nat) : Bool := match H.get l with
 | some o => if o.sz = sz ∧ o.elem = e then decide (o.cells.length = len * sz) else false
 | none => false
def isNils : T → Bool
 | .nils => true
 | _ => false
def isOsl1 : T → Bool
 | .osl _ 1 0 _ => true
 | _ => false
def isOslS (sz : Nat) (t : T) : Bool := match sz with
 | 1 => isOsl1 t
 | _ => match t with
  | .osl _ s i _ => s == sz && i == 0
  | _ => false
def elSz (P : Program) (t : TypeId) : Nat := match P.underlying t with
 | some (.slice e) => (szT P e).getD 0
 | _ => 0
def cellsV (H : Hp) (l off n : Nat) : List T := (List.range n).map fun i => (obv H l).cells.getD (off + i) undefT
theorem cellsV_eq {H : Hp} {l off n : Nat} (h : off + n ≤ (obv H l).cells.length) : cellsV H l off n = ((obv H l).cells.drop off).take n := by
 unfold cellsV
 apply List.ext_getElem
 ·simp; omega
 ·intro i h1 h2
  simp at h1
  simp only [List.getElem_map, List.getElem_range, List.getElem_take, List.getElem_drop]
  rw [List.getD_eq_getElem?_getD, List.getElem?_eq_getElem (by omega)]; rfl
def oslL : T → Nat
 | .osl l _ _ _ => l
 | _ => 0
def oslN : T → Nat
 | .osl _ _ _ n => n
 | _ => 0
def appendD (P : Program) (H : Hp) (t tx : TypeId) (s x : T) : Option (T × Hp × List Bool) :=
 match P.underlying t with
 | some (.slice e) =>
  match P.info? e, srcCells H x, lenOfT x with
  | some i, some new, some m =>
   if i.size = 0 ∨ (i.zero.map fun z => z.cells.size) ≠ some i.size ∨ srcOk P tx i.size x = false then none else
   match s with
   | .nils => if m = 0 then some (.nils, H, [decide (new.length = m * i.size), allOne new]) else
     some (.osl H.next i.size 0 m, H.new { elem := e, sz := i.size, cells := new }, [decide (new.length = m * i.size), allOne new, roomT m i.bytes])
   | .sl true xs => if m = 0 then some (.sl true xs, H, [decide (new.length = m * i.size), allOne new]) else
     some (.osl H.next i.size 0 (xs.length + m), H.new { elem := e, sz := i.size, cells := xs.flatMap T.cells ++ new }, [decide (new.length = m * i.size), allOne new, roomT (xs.length + m) i.bytes, headOk i.size xs])
   | .osl l sz' 0 len => if m = 0 then some (.osl l sz' 0 len, H, [decide (new.length = m * i.size), allOne new]) else if sz' = i.size then
      some (.osl H.next i.size 0 (len + m), (H.drop l).new { elem := e, sz := i.size, cells := (obv H l).cells ++ new }, [decide (new.length = m * i.size), allOne new, obApp H l e i.size len, roomT (len + m) i.bytes]) else none
   | _ => none
  | _, _, _ => none
 | _ => none
def makeSliceD (P : Program) (H : Hp) (t : TypeId) (l c : T) : Option (T × Hp × List Bool) :=
 match P.underlying t, l, c with
 | some (.slice e), .int .i64 n, .int .i64 m =>
  match szT P e, (P.info? e).map (·.bytes), zeroT P e with
  | some sz, some bytes, some z => if 0 < sz ∧ z.cells.length = sz then
    some (.osl H.next sz 0 n.toNat, H.new { elem := e, sz := sz, cells := (List.replicate n.toNat z).flatMap T.cells }, [decide (0 ≤ n), decide (n = m), decide (n.toNat * bytes ≤ 70368744177664), decide (n ≤ 70368744177664)]) else none
  | _, _, _ => none
 | _, _, _ => none
def storeD (P : Program) (H : Hp) (t : TypeId) (p x : T) : Option (Hp × List Bool) :=
 match p with
 | .ptr l off => match szT P t with
  | some n => some (H.put l { obv H l with cells := spliceT (obv H l).cells off x.cells }, [decide (x.cells.length = n), obIn H l (off + n), allOne x.cells])
  | none => none
 | _ => none
def effD (P : Program) (E : Ed) (F : Fc) (H : Hp) (fr : List T) (o : Oper) : Option (T × Hp × List Bool) :=
 let ev := evalT E.gl fr
 match o.op with
 | .store t p x => match ev p, ev x with
  | some q, some y => match storeD P H t q y with
   | some (H', c) => some (undefT, H', c)
   | none => none
  | _, _ => none
 | .makeSlice t l c => match ev l, ev c with
  | some n, some m => makeSliceD P H t n m
  | _, _ => none
 | .call c => match c.callee with
  | .builtin .append => match c.args.toList, c.argTypes.toList with
   | [s, x], [t, t'] => match ev s, ev x with
    | some a, some b => appendD P H t t' a b
    | _, _ => none
   | _, _ => none
  | .value f => match ev f with
   | some (.fn (.func g) first cap) => match evalAll E.gl fr c.args.toList with
    | some ars => F.ed g (first ++ ars ++ cap) H
    | none => none
   | _ => none
  | _ => tagH (effT P ⟨E.gl, fun _ _ _ => none⟩ F H fr o)
 | _ => tagH (effT P ⟨E.gl, fun _ _ _ => none⟩ F H fr o)
def effKind (own : Bool) (o : Oper) : Bool :=
 match o.op with
 | .alloc _ | .store .. | .makeSlice .. => true
 | .box .. | .buildSlice .. => own
 | .call c => match c.callee with
  | .builtin .append => true
  | .value _ => true
  | _ => false
 | _ => false
def Ed.env (D : Ed) : Env := { gl := D.gl, pe := fun H f ts => match D.pd H f ts with
 | some (r, cs) => if allT cs then some r else none
 | none => none }
def guardD (ops : Array Oper) (fr : List T) (o : Oper) (ds log : List Bool) : RD Bool :=
 match o.guard with
 | none => .ok true ds log
 | some (j, want) =>
  match ((ops[j]?).bind (·.dst)).bind (fun d => nthO fr d) with
  | some (.bool b) => match ds with
   | [] => .need b log
   | d :: ds' => .ok (d == want) ds' ((if d then b else !b) :: log)
  | _ => .ok false ds log
def pureD (P : Program) (E : Ed) (own : Bool) (H : Hp) (fr : List T) (o : Oper) (ds log : List Bool) : RD (Option T) :=
 match o.op with
 | .pick c a b => match evalT E.gl fr c with
  | some (.bool t) => match ds with
   | [] => .need t log
   | d :: ds' => match evalT E.gl fr (if d then a else b) with
    | some v => .ok (some v) ds' ((if d then t else !t) :: log)
    | none => .fail 30
  | _ => .fail 31
 | .load t a => match own, evalT E.gl fr a with
  | true, some (.ptr l off) => match aggT P t with
   | some true => match szT P t with
    | some n => .ok (some (.agg (cellsV H l off n))) ds (obIn H l (off + n) :: log)
    | none => .fail 9
   | _ => match ds with
    | [] => .need (isNils ((obv H l).cells.getD off undefT)) log
    | d :: ds' => if d then .ok (some .nils) ds' (isNils ((obv H l).cells.getD off undefT) :: obIn H l (off + 1) :: decide (aggT P t = some false) :: log)
      else .ok (some (.osl (oslL ((obv H l).cells.getD off undefT)) (elSz P t) 0 (oslN ((obv H l).cells.getD off undefT)))) ds' (isOslS (elSz P t) ((obv H l).cells.getD off undefT) :: obIn H l (off + 1) :: decide (aggT P t = some false) :: log)
  | _, _ => match evalPD P E own H fr o with
   | some (v, c) => .ok (some v) ds (c ++ log)
   | none => if effKind own o then .ok none ds log else .fail 9
 | _ => match evalPD P E own H fr o with
  | some (v, c) => .ok (some v) ds (c ++ log)
  | none => if effKind own o then .ok none ds log else .fail 9
def plainD (P : Program) (E : Ed) (F : Fc) (ops : Array Oper) (s : Fx) (o : Oper) (ds log : List Bool) : RD Fx :=
 match guardD ops s.fr o ds log with
 | .ok true ds log =>
  match pureD P E (ownD F o) s.H s.fr o ds log with
  | .ok (some v) ds log => .ok { s with fr := putF s.fr o.dst v } ds log
  | .need c l => .need c l
  | .fail n => .fail n
  | .ok none ds log =>
   match allocOf F o with
   | some (d, t) => if s.pend.isSome then .fail 3 else match szT P t, zeroT P t with
    | some n, some z => if z.cells.length = n ∧ d < s.fr.length then .ok { s with fr := setF undefT s.fr d, pend := some (d, t) } ds log else .fail 1
    | _, _ => .fail 2
   | none => match effD P E F s.H s.fr o with
    | some (v, H', c) => .ok { s with fr := putF s.fr o.dst v, H := H' } ds (c ++ log)
    | none => .fail 4
 | .ok false ds log => .ok { s with fr := putF s.fr o.dst undefT } ds log
 | .need c log => .need c log
 | .fail n => .fail n
def stepD (P : Program) (E : Ed) (F : Fc) (ops : Array Oper) (s : Fx) (o : Oper) (ds log : List Bool) : RD Fx :=
 match s.pend with
 | none => plainD P E F ops s o ds log
 | some (d, t) =>
  match o.op, o.dst, o.guard with
  | .store t' (.tmp d') x, none, none =>
   if d' = d then
    if t' = t ∧ notSlot x d = true then
     match evalT E.gl s.fr x, szT P t with
     | some y, some n => .ok (if F.own (d + 1000) then { fr := setF (.ptr s.H.next 0) s.fr d, H := s.H.new { elem := t, sz := 0, cells := y.cells }, pend := none } else { s with fr := setF (.ref y 0) s.fr d, pend := none }) ds (decide (y.cells.length = n) :: allOne y.cells :: log)
     | _, _ => .fail 5
    else .fail 6
   else if touchesT ops o d then .fail 7 else plainD P E F ops s o ds log
  | _, _, _ => if touchesT ops o d then .fail 8 else plainD P E F ops s o ds log
def evalSeqD (P : Program) (E : Ed) (F : Fc) (ops : Array Oper) : List Oper → Fx → List Bool → List Bool → RD Fx
 | [], s, ds, log => .ok s ds log
 | o :: rest, s, ds, log => match stepD P E F ops s o ds log with
  | .ok s' ds' log' => evalSeqD P E F ops rest s' ds' log'
  | .need c l => .need c l
  | .fail n => .fail n
def evalDrawD (P : Program) (E : Ed) (F : Fc) (ops : Array Oper) : List Oper → Nat → Fx → List Bool → List Bool → RD Fx
 | [], _, s, ds, log => match s.pend with
  | none => .ok s ds log
  | some _ => .fail 10
 | o :: rest, m, s, ds, log =>
  if pendHit ops s o then
   if chained (ancs ops.toList []) m ops.size then evalSeqD P E F ops (o :: rest) s ds log else .fail 11
  else if dstIn s o = false then .fail 12
  else match guardD ops s.fr o ds log with
   | .ok true ds' log' =>
    match pureD P E (ownD F o) s.H s.fr o ds' log' with
    | .ok (some v) ds' log' => evalDrawD P E F ops rest (m + 1) { s with fr := putF s.fr o.dst v } ds' log'
    | .need c l => .need c l
    | .fail n => .fail n
    | .ok none ds' log' => match allocOf F o with
     | some (d, t) => if s.pend.isSome then .fail 17 else match szT P t, zeroT P t with
      | some n, some z => if z.cells.length = n then evalDrawD P E F ops rest (m + 1) { s with fr := setF undefT s.fr d, pend := some (d, t) } ds' log' else .fail 13
      | _, _ => .fail 14
     | none => if o.guard.isNone && chained (ancs ops.toList []) m ops.size then evalSeqD P E F ops (o :: rest) s ds log else .fail 15
   | .ok false ds' log' => evalDrawD P E F ops rest (m + 1) { s with fr := putF s.fr o.dst undefT } ds' log'
   | .need c l => .need c l
   | .fail n => .fail n
def evalCodeD (P : Program) (E : Ed) (F : Fc) : Code → List T → Hp → List Bool → List Bool → RD (X × List T × Hp)
 | .skip, fr, H, ds, log | .label _, fr, H, ds, log => .ok (.normal, fr, H) ds log
 | .region _ ops draw, fr, H, ds, log =>
  match (if draw then evalDrawD P E F ops ops.toList 0 ⟨fr, H, none⟩ ds log else evalSeqD P E F ops ops.toList ⟨fr, H, none⟩ ds log) with
  | .ok ⟨fr', H', none⟩ ds' log' => .ok (.normal, fr', H') ds' log'
  | .ok _ _ _ => .fail 20
  | .need c l => .need c l
  | .fail n => .fail n
 | .seq a b, fr, H, ds, log => match evalCodeD P E F a fr H ds log with
  | .ok (.normal, fr', H') ds' log' => evalCodeD P E F b fr' H' ds' log'
  | r => r
 | .cond c a b, fr, H, ds, log => match evalT E.gl fr c with
  | some (.bool t) => match ds with
   | [] => .need t log
   | d :: ds' => if d then evalCodeD P E F a fr H ds' (t :: log) else evalCodeD P E F b fr H ds' ((!t) :: log)
  | _ => .fail 21
 | .block id c, fr, H, ds, log => match evalCodeD P E F c fr H ds log with
  | .ok (.exit id', fr', H') ds' log' => if id' = id then .ok (.normal, fr', H') ds' log' else .ok (.exit id', fr', H') ds' log'
  | r => r
 | .scope c, fr, H, ds, log => evalCodeD P E F c fr H ds log
 | .exit id, fr, H, ds, log => .ok (.exit id, fr, H) ds log
 | .ret, fr, H, ds, log => .ok (.ret, fr, H) ds log
 | _, _, _, _, _ => .fail 22
end
end Go.Ps

/- The evaluation along one way is an evaluation. -/
namespace Go.Ps
theorem allT_append {a b : List Bool} : allT (a ++ b) = (allT a && allT b) := by
 induction a with
 | nil => simp [allT]
 | cons x a ih => simp [allT, ih, Bool.and_assoc]
section
variable {P : Program} {D : Ed} {F : Fc}
theorem indexAddrD_ok {t : TypeId} {x i v : T} {c : List Bool} (h : indexAddrD P t x i = some (v, c)) (hc : allT c = true) : indexAddrT P t x i = some v := by
 unfold indexAddrD at h
 unfold indexAddrT
 split at h
 ·rename_i k n
  split at h
  ·rename_i e full xs hd
   split at h
   ·rename_i s hs
    simp only [Option.some.injEq, Prod.mk.injEq] at h
    obtain ⟨rfl, rfl⟩ := h
    simp only [allT, Bool.and_true, Bool.and_eq_true, decide_eq_true_eq] at hc
    obtain ⟨h1, h2, h3⟩ := hc
    have hlt : n.toNat < xs.length := by omega
    have e : xs.getD n.toNat undefT = xs[n.toNat] := by simp [hlt]
    rw [e] at h3 ⊢
    simp [hd, h1, hlt, hs, h3]
   ·cases h
  ·rename_i e full len f hd
   split at h
   ·rename_i s hs
    simp only [Option.some.injEq, Prod.mk.injEq] at h
    obtain ⟨rfl, rfl⟩ := h
    simp only [allT, Bool.and_true, Bool.and_eq_true, decide_eq_true_eq] at hc
    obtain ⟨h1, h2, h3⟩ := hc
    simp [hd, h1, h2, hs, h3]
   ·cases h
  ·rename_i e l sz j len hd
   split at h
   ·rename_i s hs
    split at h
    ·rename_i hsz
     simp only [Option.some.injEq, Prod.mk.injEq] at h
     obtain ⟨rfl, rfl⟩ := h
     simp only [allT, Bool.and_true, Bool.and_eq_true, decide_eq_true_eq] at hc
     simp [hd, hc.1, hc.2, hs, hsz]
    ·cases h
   ·cases h
  ·rename_i len e hd
   split at h
   ·rename_i s hs
    split at h
    ·rename_i y hy
     simp only [Option.some.injEq, Prod.mk.injEq] at h
     obtain ⟨rfl, rfl⟩ := h
     simp only [allT, Bool.and_true, Bool.and_eq_true, decide_eq_true_eq] at hc
     simp [hd, hc.1, hc.2, hs, hy]
    ·cases h
   ·cases h
  ·cases h
 ·cases h
theorem indexD_ok {t : TypeId} {x i v : T} {c : List Bool} (h : indexD P t x i = some (v, c)) (hc : allT c = true) : indexT P t x i = some v := by
 unfold indexD at h
 unfold indexT
 split at h
 ·rename_i k n
  split at h
  ·rename_i len e cs hd
   split at h
   ·rename_i s hs
    split at h
    ·rename_i y hy
     simp only [Option.some.injEq, Prod.mk.injEq] at h
     obtain ⟨rfl, rfl⟩ := h
     simp only [allT, Bool.and_true, Bool.and_eq_true, decide_eq_true_eq] at hc
     simp [hd, hc.1, hc.2, hs, hy]
    ·cases h
   ·cases h
  ·rename_i s hd
   simp only [Option.some.injEq, Prod.mk.injEq] at h
   obtain ⟨rfl, rfl⟩ := h
   simp only [allT, Bool.and_true, Bool.and_eq_true, decide_eq_true_eq] at hc
   have hlt : n.toNat < s.length := by omega
   simp [hd, hc.1, hlt]
  ·cases h
 ·cases h
theorem boundD_ok {x : Option T} {dflt top r : Nat} {c : List Bool} (h : boundD x dflt top = some (r, c)) (hc : allT c = true) : boundT x dflt top = some r := by
 unfold boundD at h
 unfold boundT
 split at h
 ·simp only [Option.some.injEq, Prod.mk.injEq] at h; simp [h.1]
 ·simp only [Option.some.injEq, Prod.mk.injEq] at h
  obtain ⟨rfl, rfl⟩ := h
  simp only [allT, Bool.and_true, Bool.and_eq_true, decide_eq_true_eq] at hc
  simp [hc.1, hc.2]
 ·cases h
theorem sliceD_ok {t : TypeId} {x v : T} {lo hi : Option T} {c : List Bool} (h : sliceD P t x lo hi = some (v, c)) (hc : allT c = true) : sliceT P t x lo hi = some v := by
 unfold sliceD at h
 unfold sliceT
 split at h
 ·rename_i s hd
  split at h
  ·rename_i hh c1 eh
   split at h
   ·rename_i l c2 el
    simp only [Option.some.injEq, Prod.mk.injEq] at h
    obtain ⟨rfl, rfl⟩ := h
    rw [allT_append, Bool.and_eq_true] at hc
    simp [hd, boundD_ok eh hc.1, boundD_ok el hc.2]
   ·cases h
  ·cases h
 ·rename_i e full xs hd
  split at h
  ·rename_i hh c1 eh
   split at h
   ·rename_i l c2 el
    split at h
    ·rename_i s hs
     simp only [Option.some.injEq, Prod.mk.injEq] at h
     obtain ⟨rfl, rfl⟩ := h
     rw [allT_append, allT_append, Bool.and_eq_true, Bool.and_eq_true] at hc
     obtain ⟨⟨h1, h2⟩, h3⟩ := hc
     simp only [allT, Bool.and_true] at h3
     simp [hd, boundD_ok eh h1, boundD_ok el h2, hs, h3]
    ·cases h
   ·cases h
  ·cases h
 ·rename_i e full n f hd
  split at h
  ·rename_i hh c1 eh
   split at h
   ·rename_i l c2 el
    split at h
    ·rename_i s hs
     simp only [Option.some.injEq, Prod.mk.injEq] at h
     obtain ⟨rfl, rfl⟩ := h
     rw [allT_append, allT_append, Bool.and_eq_true, Bool.and_eq_true] at hc
     obtain ⟨⟨h1, h2⟩, h3⟩ := hc
     simp only [allT, Bool.and_true, decide_eq_true_eq] at h3
     simp [hd, boundD_ok eh h1, boundD_ok el h2, hs, h3]
    ·cases h
   ·cases h
  ·cases h
 ·cases h
theorem tag0_ok {q : Option T} {v : T} {c : List Bool} (h : tag0 q = some (v, c)) : q = some v := by
 cases q with
 | none => cases h
 | some r => simp only [tag0, Option.some.injEq, Prod.mk.injEq] at h; rw [h.1]
theorem tagH_ok {q : Option (T × Hp)} {v : T} {H : Hp} {c : List Bool} (h : tagH q = some (v, H, c)) : q = some (v, H) := by
 cases q with
 | none => cases h
 | some r => simp only [tagH, Option.some.injEq, Prod.mk.injEq] at h; rw [← h.1, ← h.2.1]
theorem binD_ok {op : BinOp} {t : TypeId} {x y v : T} {c : List Bool} (h : binD P op t x y = some (v, c)) (hc : allT c = true) : binT P op t x y = some v := by
 unfold binD at h
 split at h
 ·split at h
  ·rename_i hk
   simp only [Option.some.injEq, Prod.mk.injEq] at h
   obtain ⟨rfl, rfl⟩ := h
   simp only [allT, Bool.and_true, bne_iff_ne] at hc
   simp [binT, intBin, hk, hc]
  ·cases h
 ·split at h
  ·rename_i hk
   simp only [Option.some.injEq, Prod.mk.injEq] at h
   obtain ⟨rfl, rfl⟩ := h
   simp only [allT, Bool.and_true, bne_iff_ne] at hc
   simp [binT, intBin, hk, hc]
  ·cases h
 ·simp only [Option.some.injEq, Prod.mk.injEq] at h
  obtain ⟨rfl, rfl⟩ := h
  simp only [allT, Bool.and_true, decide_eq_true_eq] at hc
  simp [binT, strBin, hc]
 ·split at h
  ·rename_i ht
   simp only [Option.some.injEq, Prod.mk.injEq] at h
   obtain ⟨rfl, rfl⟩ := h
   simp only [allT, Bool.and_true] at hc
   unfold ifaceTy at ht
   split at ht
   ·rename_i ms hu
    cases x <;> simp [isIf] at hc
    ·simp [binT, eqT, hu, isNi]
    ·simp [binT, eqT, hu, isNi]
   ·cases ht
  ·cases h
 ·split at h
  ·rename_i ht
   simp only [Option.some.injEq, Prod.mk.injEq] at h
   obtain ⟨rfl, rfl⟩ := h
   simp only [allT, Bool.and_true] at hc
   unfold ifaceTy at ht
   split at ht
   ·rename_i ms hu
    cases x <;> simp [isIf] at hc
    ·simp [binT, eqT, hu, isNi]
    ·simp [binT, eqT, hu, isNi]
   ·cases ht
  ·cases h
 ·exact tag0_ok h
theorem loadD_ok {H : Hp} {t : TypeId} {p v : T} {c : List Bool} (h : loadD P H t p = some (v, c)) (hc : allT c = true) : loadT P H t p = some v := by
 unfold loadD at h
 split at h
 ·rename_i l off
  split at h
  ·rename_i o ho
   split at h
   ·exact tag0_ok h
   ·split at h
    ·rename_i k hk
     simp only [Option.some.injEq, Prod.mk.injEq] at h
     obtain ⟨rfl, rfl⟩ := h
     simp only [allT, Bool.and_eq_true, Bool.and_true, decide_eq_true_eq] at hc
     obtain ⟨h1, h2, h3⟩ := hc
     simp only [loadT, cellsAt, ho, partT, h3]
     rw [List.getD_eq_getElem?_getD, List.getElem?_eq_getElem h2] at h1 ⊢
     simp only [Option.getD_some] at h1 ⊢
     generalize o.cells[off] = y at h1
     cases y <;> simp only [isInt, Bool.false_eq_true, decide_eq_true_eq] at h1
     subst h1
     rfl
    ·exact tag0_ok h
  ·cases h
 ·exact tag0_ok h
theorem evalPD_ok {own : Bool} {H : Hp} {fr : List T} {o : Oper} {v : T} {c : List Bool} (h : evalPD P D own H fr o = some (v, c)) (hc : allT c = true) : evalP P D.env own H fr o = some v := by
 obtain ⟨dst, op, type, pos, after, guard⟩ := o
 cases op <;> simp only [evalPD] at h
 case indexAddr t x i =>
  simp only [evalP]
  split at h
  ·rename_i p q hp hq; simp only [Ed.env]; rw [hp, hq]; exact indexAddrD_ok h hc
  ·cases h
 case index t x i =>
  simp only [evalP]
  split at h
  ·rename_i p q hp hq; simp only [Ed.env]; rw [hp, hq]; exact indexD_ok h hc
  ·cases h
 case binOp op t x y t' =>
  simp only [evalP]
  split at h
  ·rename_i p q hp hq
   simp only [Ed.env]; rw [hp, hq]
   split at h
   ·rename_i hn
    simp only; rw [if_pos hn]; exact binD_ok h hc
   ·cases h
  ·cases h
 case load t a =>
  simp only [evalP]
  split at h
  ·rename_i p hp; simp only [Ed.env]; rw [hp]; exact loadD_ok h hc
  ·cases h
 case slice t x lo hi mx =>
  simp only [evalP]
  cases mx with
  | some m => cases h
  | none =>
   simp only at h ⊢
   split at h
   ·rename_i p hp
    simp only [Ed.env]
    rw [hp]
    simp only
    split at h
    ·rename_i l hh hl hhi
     rw [hl, hhi]
     exact sliceD_ok h hc
    ·cases h
   ·cases h
 case call cl =>
  simp only [evalP]
  obtain ⟨callee, args, tys⟩ := cl
  cases callee with
  | value f =>
   simp only at h
   simp only [evalC]
   split at h
   ·rename_i k first cap hf
    split at h
    ·rename_i ars has
     simp only [Ed.env] at *
     rw [hf]
     simp only
     rw [has]
     simp only [h, hc, if_true]
    ·cases h
   ·cases h
  | invoke r m => cases h
  | builtin b => exact tag0_ok h
 all_goals exact tag0_ok h
theorem evalPD_none {own : Bool} {H : Hp} {fr : List T} {o : Oper} (h : evalPD P D own H fr o = none) (hk : effKind own o = true) : evalP P D.env own H fr o = none := by
 obtain ⟨dst, op, type, pos, after, guard⟩ := o
 cases op <;> simp only [effKind, Bool.false_eq_true] at hk <;> simp only [evalP]
 case box => simp [hk]
 case buildSlice => simp [hk]
 case call cl =>
  obtain ⟨callee, args, tys⟩ := cl
  cases callee with
  | value f =>
   simp only [evalPD] at h
   simp only [evalC, Ed.env] at *
   split at h
   ·rename_i k first cap hf
    rw [hf]
    simp only
    split at h
    ·rename_i ars has
     rw [has]
     simp only [h]
    ·rename_i has; rw [has]
   ·rename_i hne
    split
    ·rename_i k first cap hf; exact absurd hf (hne k first cap)
    ·rfl
  | invoke r m => cases hk
  | builtin b =>
   cases b <;> simp at hk
   simp [evalC]
theorem appendD_ok {H H' : Hp} {t tx : TypeId} {s x v : T} {c : List Bool} (h : appendD P H t tx s x = some (v, H', c)) (hc : allT c = true) : appendT P H t tx s x = some (v, H') := by
 unfold appendD at h
 unfold appendT
 split at h
 ·rename_i e hd
  split at h
  ·rename_i i new m hi hsrc hm
   split at h
   ·cases h
   ·rename_i hn
    simp only [not_or] at hn
    obtain ⟨n1, n2, n3⟩ := hn
    rw [hd]
    simp only
    rw [hi, hsrc, hm]
    simp only
    have hcond : new.length = m * i.size ∧ allOne new = true → ¬ (i.size = 0 ∨ new.length ≠ m * i.size ∨ allOne new = false ∨ (i.zero.map fun z => z.cells.size) ≠ some i.size ∨ srcOk P tx i.size x = false) := by
     rintro ⟨q1, q2⟩ (q | q | q | q | q)
     ·exact n1 q
     ·exact q q1
     ·rw [q2] at q; cases q
     ·exact n2 q
     ·exact n3 q
    split at h
    ·split at h
     ·rename_i hm0
      simp only [Option.some.injEq, Prod.mk.injEq] at h
      obtain ⟨rfl, rfl, rfl⟩ := h
      simp only [allT, Bool.and_true, Bool.and_eq_true, decide_eq_true_eq] at hc
      rw [if_neg (hcond hc)]
      simp only
      rw [if_pos hm0]
     ·rename_i hm0
      simp only [Option.some.injEq, Prod.mk.injEq] at h
      obtain ⟨rfl, rfl, rfl⟩ := h
      simp only [allT, Bool.and_true, Bool.and_eq_true, decide_eq_true_eq] at hc
      rw [if_neg (hcond ⟨hc.1, hc.2.1⟩)]
      simp only
      rw [if_neg hm0, if_pos hc.2.2]
    ·split at h
     ·rename_i hm0
      simp only [Option.some.injEq, Prod.mk.injEq] at h
      obtain ⟨rfl, rfl, rfl⟩ := h
      simp only [allT, Bool.and_true, Bool.and_eq_true, decide_eq_true_eq] at hc
      rw [if_neg (hcond hc)]
      simp only
      rw [if_pos hm0]
     ·rename_i hm0
      simp only [Option.some.injEq, Prod.mk.injEq] at h
      obtain ⟨rfl, rfl, rfl⟩ := h
      simp only [allT, Bool.and_true, Bool.and_eq_true, decide_eq_true_eq] at hc
      rw [if_neg (hcond ⟨hc.1, hc.2.1⟩)]
      simp only
      rw [if_neg hm0, if_pos (by rw [hc.2.2.1, hc.2.2.2]; rfl)]
    ·split at h
     ·rename_i hm0
      simp only [Option.some.injEq, Prod.mk.injEq] at h
      obtain ⟨rfl, rfl, rfl⟩ := h
      simp only [allT, Bool.and_true, Bool.and_eq_true, decide_eq_true_eq] at hc
      rw [if_neg (hcond hc)]
      simp only
      rw [if_pos hm0]
     ·rename_i hm0
      split at h
      ·rename_i hcc
       simp only [Option.some.injEq, Prod.mk.injEq] at h
       obtain ⟨rfl, rfl, rfl⟩ := h
       simp only [allT, Bool.and_true, Bool.and_eq_true, decide_eq_true_eq] at hc
       rw [if_neg (hcond ⟨hc.1, hc.2.1⟩)]
       simp only
       rw [if_neg hm0]
       have hq := hc.2.2.1
       unfold obApp at hq
       unfold obv
       split at hq
       ·rename_i o ho
        split at hq
        ·rename_i ho2
         rw [ho]
         simp only
         rw [if_pos ⟨hcc, ho2.1, ho2.2, by simpa using hq, hc.2.2.2⟩]
        ·cases hq
       ·cases hq
      ·cases h
    ·cases h
  ·cases h
 ·cases h
theorem makeSliceD_ok {H H' : Hp} {t : TypeId} {l k v : T} {c : List Bool} (h : makeSliceD P H t l k = some (v, H', c)) (hc : allT c = true) : makeSliceT P H t l k = some (v, H') := by
 unfold makeSliceD at h
 unfold makeSliceT
 split at h
 ·rename_i e n m hd
  split at h
  ·rename_i sz bytes z hs hb hz
   split at h
   ·rename_i hcc
    simp only [Option.some.injEq, Prod.mk.injEq] at h
    obtain ⟨rfl, rfl, rfl⟩ := h
    simp only [allT, Bool.and_true, Bool.and_eq_true, decide_eq_true_eq] at hc
    rw [hd]
    simp only
    rw [hs, hb, hz]
    simp only
    rw [if_pos ⟨hcc.1, hcc.2, hc.1, hc.2.1, hc.2.2.1, hc.2.2.2⟩]
   ·cases h
  ·cases h
 ·cases h
theorem storeD_ok {H H' : Hp} {t : TypeId} {p x : T} {c : List Bool} (h : storeD P H t p x = some (H', c)) (hc : allT c = true) : storeT P H t p x = some H' := by
 unfold storeD at h
 unfold storeT
 split at h
 ·split at h
  ·rename_i n hn
   simp only [Option.some.injEq, Prod.mk.injEq] at h
   obtain ⟨rfl, rfl⟩ := h
   simp only [allT, Bool.and_true, Bool.and_eq_true, decide_eq_true_eq] at hc
   have hq := hc.2.1
   unfold obIn at hq
   unfold obv
   simp only
   split at hq
   ·rename_i o ho
    rw [hn, ho]
    simp only
    rw [if_pos ⟨hc.1, by simpa using hq, hc.2.2⟩]
   ·cases hq
  ·cases h
 ·cases h
theorem effD_ok {H H' : Hp} {fr : List T} {o : Oper} {v : T} {c : List Bool} (h : effD P D F H fr o = some (v, H', c)) (hc : allT c = true) : effT P D.env F H fr o = some (v, H') := by
 obtain ⟨dst, op, type, pos, after, guard⟩ := o
 cases op <;> simp only [effD] at h
 case store t p x =>
  simp only [effT]
  split at h
  ·rename_i q y hq hy
   simp only [Ed.env]
   rw [hq, hy]
   simp only
   split at h
   ·rename_i H1 c1 hs
    simp only [Option.some.injEq, Prod.mk.injEq] at h
    obtain ⟨rfl, rfl, rfl⟩ := h
    rw [storeD_ok hs hc]
   ·cases h
  ·cases h
 case makeSlice t l k =>
  simp only [effT]
  split at h
  ·rename_i q y hq hy
   simp only [Ed.env]
   rw [hq, hy]
   exact makeSliceD_ok h hc
  ·cases h
 case call cl =>
  obtain ⟨callee, args, tys⟩ := cl
  simp only at h
  split at h
  ·simp only [effT]
   split at h
   ·rename_i s x t0 t1 hargs htys
    split at h
    ·rename_i p q hp hq
     rw [hargs, htys]
     simp only [Ed.env]
     rw [hp, hq]
     exact appendD_ok h hc
    ·cases h
   ·cases h
  ·simp only [effT]
   split at h
   ·rename_i g first cap hf
    split at h
    ·rename_i ars has
     simp only [Ed.env]
     rw [hf, has]
     simp only [Fc.ee, h]
     rw [if_pos hc]
    ·cases h
   ·cases h
  ·have h' := tagH_ok h
   simp only [effT] at h' ⊢
   exact h'
 all_goals exact tagH_ok h
theorem guardD_ok {ops : Array Oper} {fr : List T} {o : Oper} {ds log ds' log' : List Bool} {b : Bool} (h : guardD ops fr o ds log = .ok b ds' log') (hl : allT log' = true) : wantedT ops fr o = b ∧ allT log = true := by
 unfold guardD at h
 simp only [nthO_eq] at h
 unfold wantedT yieldedT
 split at h
 ·rename_i hg
  rw [hg]
  cases h
  exact ⟨rfl, hl⟩
 ·rename_i j want hg
  rw [hg]
  simp only
  split at h
  ·rename_i t ht
   rw [ht]
   simp only
   split at h
   ·cases h
   ·rename_i d ds1
    cases h
    simp only [allT, Bool.and_eq_true] at hl
    refine ⟨?_, hl.2⟩
    have h1 := hl.1
    cases d <;> cases t <;> simp at h1 ⊢
  ·rename_i hne
   cases h
   refine ⟨?_, hl⟩
   split
   ·rename_i t ht; exact absurd ht (hne t)
   ·rfl
theorem pureD_ok {own : Bool} {H : Hp} {fr : List T} {o : Oper} {ds log ds' log' : List Bool} {q : Option T} (h : pureD P D own H fr o ds log = .ok q ds' log') (hl : allT log' = true) : evalP P D.env own H fr o = q ∧ allT log = true := by
 unfold pureD at h
 split at h
 ·rename_i c a b ho
  split at h
  ·rename_i t ht
   split at h
   ·cases h
   ·rename_i d ds1
    split at h
    ·rename_i v hv
     cases h
     simp only [allT, Bool.and_eq_true] at hl
     refine ⟨?_, hl.2⟩
     simp only [evalP, ho, Ed.env]
     rw [ht]
     simp only
     have h1 := hl.1
     cases d with
     | true => simp only [if_true] at h1 hv; rw [h1]; simpa using hv
     | false =>
      simp only [Bool.false_eq_true, if_false, Bool.not_eq_true'] at h1 hv
      rw [h1]; simpa using hv
    ·cases h
  ·cases h
 ·rename_i t x ho
  split at h
  ·rename_i l off hx
   split at h
   ·rename_i hag
    split at h
    ·rename_i n hn
     cases h
     simp only [allT, Bool.and_eq_true] at hl
     refine ⟨?_, hl.2⟩
     have h1 := hl.1
     have hE : evalP P D.env true H fr o = loadT P H t (.ptr l off) := by
      simp only [evalP, ho, Ed.env]
      rw [hx]
     rw [hE]
     simp only [loadT, cellsAt]
     have hc := @cellsV_eq H l off n
     unfold obIn at h1
     unfold obv at hc
     split at h1
     ·rename_i ob hob
      rw [hob] at hc ⊢
      simp only [decide_eq_true_eq] at h1
      simp only [partT, hag, hn]
      rw [if_pos h1, hc h1]
     ·cases h1
    ·cases h
   ·split at h
    ·cases h
    ·rename_i d ds1
     have hload : ∀ y, (obv H l).cells.getD off undefT = y → obIn H l (off + 1) = true → decide (aggT P t = some false) = true → evalP P D.env true H fr o = some y := by
      intro y hy h1 h2
      simp only [evalP, ho, Ed.env]
      rw [hx]
      simp only [decide_eq_true_eq] at h2
      simp only [loadT, cellsAt]
      unfold obIn at h1
      unfold obv at hy
      split at h1
      ·rename_i ob hob
       rw [hob] at hy ⊢
       simp only [decide_eq_true_eq] at h1
       simp only [partT, h2]
       simp only at hy
       rw [← hy, List.getD_eq_getElem?_getD, List.getElem?_eq_getElem (by omega)]
       rfl
      ·cases h1
     split at h
     ·cases h
      simp only [allT, Bool.and_eq_true] at hl
      refine ⟨hload _ ?_ hl.2.1 hl.2.2.1, hl.2.2.2⟩
      have := hl.1
      generalize (obv H l).cells.getD off undefT = y at this
      cases y <;> simp [isNils] at this
      rfl
     ·cases h
      simp only [allT, Bool.and_eq_true] at hl
      refine ⟨hload _ ?_ hl.2.1 hl.2.2.1, hl.2.2.2⟩
      have := hl.1
      generalize (obv H l).cells.getD off undefT = y at this ⊢
      unfold isOslS at this
      split at this
      ·rename_i e1
       rw [e1]
       unfold isOsl1 at this
       split at this
       ·rfl
       ·cases this
      ·split at this
       ·simp only [Bool.and_eq_true, beq_iff_eq] at this
        obtain ⟨rfl, rfl⟩ := this
        rfl
       ·cases this
  ·split at h
   ·rename_i v c hv
    cases h
    rw [allT_append, Bool.and_eq_true] at hl
    exact ⟨evalPD_ok hv hl.1, hl.2⟩
   ·rename_i hv
    split at h
    ·rename_i hk
     cases h
     exact ⟨evalPD_none hv hk, hl⟩
    ·cases h
 ·split at h
  ·rename_i v c hv
   cases h
   rw [allT_append, Bool.and_eq_true] at hl
   exact ⟨evalPD_ok hv hl.1, hl.2⟩
  ·rename_i hv
   split at h
   ·rename_i hk
    cases h
    exact ⟨evalPD_none hv hk, hl⟩
   ·cases h
theorem pureD_none {own : Bool} {H : Hp} {fr : List T} {o : Oper} {ds log ds' log' : List Bool} (h : pureD P D own H fr o ds log = .ok none ds' log') : evalP P D.env own H fr o = none := by
 unfold pureD at h
 split at h
 ·split at h
  ·split at h
   ·cases h
   ·split at h <;> cases h
  ·cases h
 ·split at h
  ·split at h
   ·split at h <;> cases h
   ·split at h
    ·cases h
    ·split at h <;> cases h
  ·split at h
   ·cases h
   ·rename_i hv
    split at h
    ·rename_i hk; exact evalPD_none hv hk
    ·cases h
 ·split at h
  ·cases h
  ·rename_i hv
   split at h
   ·rename_i hk; exact evalPD_none hv hk
   ·cases h
end
end Go.Ps

/- Steps, regions and code along one way. -/
namespace Go.Ps
section
variable {P : Program} {D : Ed} {F : Fc}
theorem plainD_ok {ops : Array Oper} {s s' : Fx} {o : Oper} {ds log ds' log' : List Bool} (hp : plainD P D F ops s o ds log = .ok s' ds' log') (hl : allT log' = true) : plainE P D.env F ops s o = some s' ∧ allT log = true := by
 unfold plainD at hp
 simp only [putF_eq, setF_eq] at hp
 unfold plainE
 split at hp
 ·rename_i ds1 log1 hg
  split at hp
  ·rename_i v ds2 log2 hv
   cases hp
   obtain ⟨h1, h2⟩ := pureD_ok hv hl
   obtain ⟨hw, hlog⟩ := guardD_ok hg h2
   rw [if_pos hw, h1]
   exact ⟨rfl, hlog⟩
  ·cases hp
  ·cases hp
  ·rename_i ds2 log2 hv
   split at hp
   ·rename_i d t hal
    rw [hal]
    simp only
    split at hp
    ·cases hp
    ·rename_i hpn
     split at hp
     ·rename_i n z hn hz
      split at hp
      ·rename_i hcc
       cases hp
       obtain ⟨h1, h2⟩ := pureD_ok hv hl
       obtain ⟨hw, hlog⟩ := guardD_ok hg h2
       rw [if_pos hw, h1]
       simp only
       rw [if_neg hpn, hn, hz]
       simp only
       rw [if_pos hcc]
       exact ⟨rfl, hlog⟩
      ·cases hp
     ·cases hp
   ·rename_i hal
    rw [hal]
    simp only
    split at hp
    ·rename_i v H1 c hef
     cases hp
     rw [allT_append, Bool.and_eq_true] at hl
     obtain ⟨h1, h2⟩ := pureD_ok hv hl.2
     obtain ⟨hw, hlog⟩ := guardD_ok hg h2
     rw [if_pos hw, h1, effD_ok hef hl.1]
     exact ⟨rfl, hlog⟩
    ·cases hp
 ·rename_i ds1 log1 hg
  cases hp
  obtain ⟨hw, hlog⟩ := guardD_ok hg hl
  rw [if_neg (by simp [hw])]
  exact ⟨rfl, hlog⟩
 ·cases hp
 ·cases hp
theorem stepD_ok {ops : Array Oper} {s s' : Fx} {o : Oper} {ds log ds' log' : List Bool} (h : stepD P D F ops s o ds log = .ok s' ds' log') (hl : allT log' = true) : stepE P D.env F ops s o = some s' ∧ allT log = true := by
 unfold stepD at h
 simp only [setF_eq] at h
 unfold stepE
 split at h
 ·rename_i hpn
  rw [hpn]
  exact plainD_ok h hl
 ·rename_i d t hpn
  rw [hpn]
  simp only
  split at h
  ·rename_i t' d' x ho hd hgd
   rw [ho, hd, hgd]
   simp only
   split at h
   ·rename_i e
    rw [if_pos e]
    split at h
    ·rename_i hc
     rw [if_pos hc]
     split at h
     ·rename_i y n hy hn
      cases h
      simp only [allT, Bool.and_eq_true, decide_eq_true_eq] at hl
      simp only [Ed.env]
      rw [hy, hn]
      simp only
      rw [if_pos ⟨hl.1, hl.2.1⟩]
      exact ⟨rfl, hl.2.2⟩
     ·cases h
    ·cases h
   ·rename_i e
    rw [if_neg e]
    split at h
    ·cases h
    ·rename_i ht
     rw [if_neg ht]
     exact plainD_ok h hl
  ·rename_i q
   split at h
   ·cases h
   ·rename_i ht
    have hp := plainD_ok h hl
    split
    ·rename_i t' d' x ho hd hgd
     exact (q t' d' x ho hd hgd).elim
    ·rw [if_neg ht]; exact hp
theorem seqD_ok {ops : Array Oper} : ∀ {l : List Oper} {s s' : Fx} {ds log ds' log' : List Bool}, evalSeqD P D F ops l s ds log = .ok s' ds' log' → allT log' = true → evalSeq P D.env F ops l s = some s' ∧ allT log = true
 | [], s, s', ds, log, ds', log', h, hl => by
  simp only [evalSeqD] at h
  cases h
  exact ⟨rfl, hl⟩
 | o :: l, s, s', ds, log, ds', log', h, hl => by
  simp only [evalSeqD] at h
  split at h
  ·rename_i s1 ds1 log1 hs
   obtain ⟨h1, h2⟩ := seqD_ok h hl
   obtain ⟨h3, h4⟩ := stepD_ok hs h2
   exact ⟨by simp only [evalSeq, h3, h1], h4⟩
  ·cases h
  ·cases h
theorem drawD_ok {ops : Array Oper} : ∀ {l : List Oper} {m : Nat} {s s' : Fx} {ds log ds' log' : List Bool}, evalDrawD P D F ops l m s ds log = .ok s' ds' log' → allT log' = true → evalDraw P D.env F ops l m s = some s' ∧ allT log = true
 | [], m, s, s', ds, log, ds', log', h, hl => by
  simp only [evalDrawD] at h
  split at h
  ·rename_i hp; cases h; exact ⟨by simp only [evalDraw, hp], hl⟩
  ·cases h
 | o :: l, m, s, s', ds, log, ds', log', h, hl => by
  simp only [evalDrawD, putF_eq, setF_eq] at h
  simp only [evalDraw]
  split at h
  ·rename_i hhit
   rw [if_pos hhit]
   split at h
   ·rename_i hc
    rw [if_pos hc]
    exact seqD_ok h hl
   ·cases h
  ·rename_i hhit
   rw [if_neg hhit]
   split at h
   ·cases h
   ·rename_i hdst
    rw [if_neg hdst]
    split at h
    ·rename_i ds1 log1 hg
     split at h
     ·rename_i v ds2 log2 hv
      obtain ⟨h1, h2⟩ := drawD_ok h hl
      obtain ⟨h3, h4⟩ := pureD_ok hv h2
      obtain ⟨hw, hlog⟩ := guardD_ok hg h4
      rw [if_pos hw, h3]
      exact ⟨h1, hlog⟩
     ·cases h
     ·cases h
     ·rename_i ds2 log2 hv
      split at h
      ·rename_i d t hal
       rw [hal]
       simp only
       split at h
       ·cases h
       ·rename_i hpn
        split at h
        ·rename_i n z hn hz
         split at h
         ·rename_i hcc
          obtain ⟨h1, h2⟩ := drawD_ok h hl
          obtain ⟨h3, h4⟩ := pureD_ok hv h2
          obtain ⟨hw, hlog⟩ := guardD_ok hg h4
          rw [if_pos hw, h3]
          simp only
          rw [if_neg hpn, hn, hz]
          simp only
          rw [if_pos hcc]
          exact ⟨h1, hlog⟩
         ·cases h
        ·cases h
      ·rename_i hal
       rw [hal]
       simp only
       split at h
       ·rename_i hc
        rw [Bool.and_eq_true] at hc
        obtain ⟨h1, h2⟩ := seqD_ok h hl
        refine ⟨?_, h2⟩
        have hgn : o.guard = none := by simpa using hc.1
        have hw : wantedT ops s.fr o = true := by simp [wantedT, hgn]
        have hnone : evalP P D.env (ownD F o) s.H s.fr o = none := by
         have hg' : guardD ops s.fr o ds log = .ok true ds log := by simp [guardD, hgn]
         rw [hg'] at hg
         cases hg
         exact pureD_none hv
        rw [if_pos hw, hnone, if_pos hc.2]; exact h1
       ·cases h
    ·rename_i ds1 log1 hg
     obtain ⟨h1, h2⟩ := drawD_ok h hl
     obtain ⟨hw, hlog⟩ := guardD_ok hg h2
     rw [if_neg (by simp [hw])]
     exact ⟨h1, hlog⟩
    ·cases h
    ·cases h
theorem codeD_ok (n : Nat) : ∀ {c : Code} {fr fr' : List T} {H H' : Hp} {x : X} {ds log ds' log' : List Bool}, evalCodeD P D F c fr H ds log = .ok (x, fr', H') ds' log' → allT log' = true → evalCode P D.env F n c fr H = some (x, fr', H') ∧ allT log = true := by
 intro c
 induction c with
 | skip => intro fr fr' H H' x ds log ds' log' h hl; simp only [evalCodeD] at h; cases h; exact ⟨rfl, hl⟩
 | label l => intro fr fr' H H' x ds log ds' log' h hl; simp only [evalCodeD] at h; cases h; exact ⟨rfl, hl⟩
 | exit id => intro fr fr' H H' x ds log ds' log' h hl; simp only [evalCodeD] at h; cases h; exact ⟨rfl, hl⟩
 | ret => intro fr fr' H H' x ds log ds' log' h hl; simp only [evalCodeD] at h; cases h; exact ⟨rfl, hl⟩
 | region id ops draw =>
  intro fr fr' H H' x ds log ds' log' h hl
  simp only [evalCodeD] at h
  simp only [evalCode]
  split at h
  ·rename_i f1 h1 ds1 log1 hr
   cases h
   cases draw with
   | false =>
    simp only [Bool.false_eq_true, if_false] at hr ⊢
    obtain ⟨a, b⟩ := seqD_ok hr hl
    rw [a]; exact ⟨rfl, b⟩
   | true =>
    simp only [if_true] at hr ⊢
    obtain ⟨a, b⟩ := drawD_ok hr hl
    rw [a]; exact ⟨rfl, b⟩
  ·cases h
  ·cases h
  ·cases h
 | seq c1 c2 ih1 ih2 =>
  intro fr fr' H H' x ds log ds' log' h hl
  simp only [evalCodeD] at h
  simp only [evalCode]
  split at h
  ·rename_i f1 h1 ds1 log1 hr
   obtain ⟨a, b⟩ := ih2 h hl
   obtain ⟨a1, b1⟩ := ih1 hr b
   rw [a1]; exact ⟨a, b1⟩
  ·rename_i hr
   obtain ⟨a1, b1⟩ := ih1 h hl
   rw [a1]
   cases x with
   | normal => exact absurd h (hr _ _ _ _)
   | exit id => exact ⟨rfl, b1⟩
   | ret => exact ⟨rfl, b1⟩
 | cond o c1 c2 ih1 ih2 =>
  intro fr fr' H H' x ds log ds' log' h hl
  simp only [evalCodeD] at h
  simp only [evalCode, Ed.env]
  split at h
  ·rename_i t ht
   rw [ht]
   simp only
   split at h
   ·cases h
   ·rename_i d ds1
    split at h
    ·obtain ⟨a, b⟩ := ih1 h hl
     simp only [allT, Bool.and_eq_true] at b
     rw [if_pos b.1]; exact ⟨a, b.2⟩
    ·obtain ⟨a, b⟩ := ih2 h hl
     simp only [allT, Bool.and_eq_true, Bool.not_eq_true'] at b
     rw [if_neg (by simp [b.1])]; exact ⟨a, b.2⟩
  ·cases h
 | block id c ih =>
  intro fr fr' H H' x ds log ds' log' h hl
  simp only [evalCodeD] at h
  simp only [evalCode]
  split at h
  ·rename_i id' f1 h1 ds1 log1 hr
   split at h
   ·rename_i e
    cases h
    obtain ⟨a, b⟩ := ih hr hl
    rw [a]; simp only; rw [if_pos e]; exact ⟨rfl, b⟩
   ·rename_i e
    cases h
    obtain ⟨a, b⟩ := ih hr hl
    rw [a]; simp only; rw [if_neg e]; exact ⟨rfl, b⟩
  ·rename_i hr
   obtain ⟨a, b⟩ := ih h hl
   rw [a]
   cases x with
   | normal => exact ⟨rfl, b⟩
   | exit id' => exact absurd h (hr _ _ _ _ _)
   | ret => exact ⟨rfl, b⟩
 | scope c ih =>
  intro fr fr' H H' x ds log ds' log' h hl
  simp only [evalCodeD] at h
  simp only [evalCode]
  exact ih h hl
 | _ => intro fr fr' H H' x ds log ds' log' h; simp [evalCodeD] at h
end
end Go.Ps

/- Triples over trees: code with loops. -/
namespace Go.Ps
noncomputable section
def Good (P : Program) (E : Env) (c : Code) (fr : List T) (H : Hp) (Q : X → List T → Hp → Prop) : Prop :=
 ∀ (g0 g : G) (H0 : Hp) (a : Act), CInv E g0 H0 g a fr H → ∀ (R : Exit → Act → World → Prop), (∀ x fr' H' a' g', Q x fr' H' → CInv E g0 H0 g' a' fr' H' → R x.exit_ a' g'.w) → c.wp P R a g.w
def exitThen (N : List T → Hp → Prop) (Q : X → List T → Hp → Prop) : X → List T → Hp → Prop
 | .normal, fr, H => N fr H
 | x, fr, H => Q x fr H
def exitBlock (id : Nat) (Q : X → List T → Hp → Prop) : X → List T → Hp → Prop
 | .exit id', fr, H => if id' = id then Q .normal fr H else Q (.exit id') fr H
 | x, fr, H => Q x fr H
section
variable {P : Program} {E : Env} {c : Code} {fr : List T} {H : Hp} {Q : X → List T → Hp → Prop}
theorem Good.mono {Q' : X → List T → Hp → Prop} (h : Good P E c fr H Q) (hq : ∀ x fr' H', Q x fr' H' → Q' x fr' H') : Good P E c fr H Q' :=
 fun g0 g H0 a hc R hR => h g0 g H0 a hc R (fun x fr' H' a' g' hQ => hR x fr' H' a' g' (hq x fr' H' hQ))
theorem good_seq {c1 c2 : Code} (h : Good P E c1 fr H (exitThen (fun fr' H' => Good P E c2 fr' H' Q) Q)) : Good P E (.seq c1 c2) fr H Q := by
 intro g0 g H0 a hc R hR
 refine wp_seq (h g0 g H0 a hc _ (fun x fr' H' a' g' hQ hc' => ?_))
 cases x with
 | normal => exact hQ g0 g' H0 a' hc' R hR
 | exit id => exact hR _ _ _ _ _ hQ hc'
 | ret => exact hR _ _ _ _ _ hQ hc'
theorem good_block {id : Nat} (h : Good P E c fr H (exitBlock id Q)) : Good P E (.block id c) fr H Q := by
 intro g0 g H0 a hc R hR
 refine wp_block (h g0 g H0 a hc _ (fun x fr' H' a' g' hQ hc' => ?_))
 cases x with
 | normal => exact hR _ _ _ _ _ hQ hc'
 | exit id' =>
  simp only [exitBlock] at hQ
  simp only [X.exit_, Exit.inBlock]
  split at hQ
  ·rename_i e; rw [if_pos e]; exact hR _ _ _ _ _ hQ hc'
  ·rename_i e; rw [if_neg e]; exact hR _ _ _ _ _ hQ hc'
 | ret => exact hR _ _ _ _ _ hQ hc'
theorem good_scope (h : Good P E c fr H Q) : Good P E (.scope c) fr H Q := by
 intro g0 g H0 a hc R hR
 refine wp_scope_straight (h g0 g H0 a hc _ (fun x fr' H' a' g' hQ hc' => ?_))
 cases x with
 | normal => exact hR _ _ _ _ _ hQ hc'
 | exit id => exact hR _ _ _ _ _ hQ hc'
 | ret => exact hR _ _ _ _ _ hQ hc'
theorem good_cond {o : Operand} {c1 c2 : Code} {t : Bool} (ho : evalT E.gl fr o = some (.bool t)) (h1 : t = true → Good P E c1 fr H Q) (h2 : t = false → Good P E c2 fr H Q) : Good P E (.cond o c1 c2) fr H Q := by
 intro g0 g H0 a hc R hR
 have hr := (RdX.of hc.fr none).eval hc.gl (fun _ _ => by simp) ho
 refine wp_cond hr.inv_bool ?_
 cases t with
 | true => exact h1 rfl g0 g H0 a hc R hR
 | false => exact h2 rfl g0 g H0 a hc R hR
theorem rounds_more {R : Exit → Act → World → Prop} : ∀ (k : Nat) (a : Act) (w : World), Code.rounds P c R k a w → Code.rounds P c R (k + 1) a w
 | 0, _, _, h => h.elim
 | k + 1, a, w, h => by
  rw [rounds_succ] at h ⊢
  refine wp_mono h fun e a' w' q => ?_
  cases e with
  | normal => exact rounds_more k a' w' q
  | _ => exact q
theorem rounds_le {R : Exit → Act → World → Prop} {k m : Nat} (hkm : k ≤ m) {a : Act} {w : World} (h : Code.rounds P c R k a w) : Code.rounds P c R m a w := by
 induction m with
 | zero => have : k = 0 := by omega
           subst this; exact h
 | succ m ih =>
  rcases Nat.eq_or_lt_of_le hkm with e | hlt
  ·exact e ▸ h
  ·exact rounds_more m a w (ih (by omega))
theorem good_loop (I : Nat → List T → Hp → Prop) (hI : ∀ n fr H, I n fr H → Good P E c fr H (exitThen (fun fr' H' => ∃ m, m < n ∧ I m fr' H') Q)) : ∀ n fr H, I n fr H → Good P E (.loop c) fr H Q := by
 intro n fr H hi g0 g H0 a hc R hR
 refine wp_loop_rounds (n + 1) ?_
 have key : ∀ n fr H a g, I n fr H → CInv E g0 H0 g a fr H → Code.rounds P c R (n + 1) a g.w := by
  intro n
  induction n using Nat.strongRecOn with
  | _ n ih =>
   intro fr H a g hi hc
   rw [rounds_succ]
   refine hI n fr H hi g0 g H0 a hc _ (fun x fr' H' a' g' hQ hc' => ?_)
   cases x with
   | normal =>
    obtain ⟨m, hm, him⟩ := hQ
    exact rounds_le (k := m + 1) (by omega) (ih m hm fr' H' a' g' him hc')
   | exit id => exact hR _ _ _ _ _ hQ hc'
   | ret => exact hR _ _ _ _ _ hQ hc'
 exact key n fr H a g hi hc
def resultT (P : Program) (fn : Func) (fr : List T) (H : Hp) : Option T :=
 match resAll P fr H fn.results.toList with
 | some [t] => some t
 | some ts => some (.tup ts)
 | none => none
theorem result_ok {fn : Func} {g0 g : G} {H0 : Hp} {a : Act} (hc : CInv E g0 H0 g a fr H) {r : T} (hr : resultT P fn fr H = some r) : ∃ v, (results fn a.tmps).run P g.w = .ok v g.w ∧ Rd g v r := by
 unfold resultT at hr
 split at hr
 ·rename_i t ht
  cases hr
  obtain ⟨us, h1, h2⟩ := resAll_ok (P := P) hc.st hc.fr ht
  match us, h2 with
  | [u], h2 =>
   refine ⟨u, ?_, (h2.inv_cons).1⟩
   have : fn.results = fn.results.toList.toArray := by simp
   rw [results_eq, this, List.mapM_toArray]
   simp only [Sem.run_bind, Sem.run_map]
   rw [h1]
   simp
  | [], h2 => simp [RdL] at h2
  | _ :: _ :: _, h2 => simp [RdL] at h2
 ·rename_i ts' hne ht
  cases hr
  obtain ⟨us, h1, h2⟩ := resAll_ok (P := P) hc.st hc.fr ht
  refine ⟨.tuple us.toArray, ?_, Rd.mk_tup h2⟩
  have : fn.results = fn.results.toList.toArray := by simp
  rw [results_eq, this, List.mapM_toArray]
  simp only [Sem.run_bind, Sem.run_map]
  rw [h1]
  have hl : us.length ≠ 1 := fun q => by
   rw [h2.1] at q
   obtain ⟨t, rfl⟩ := List.length_eq_one_iff.1 q
   exact hne t rfl
  simp [hl]
 ·cases hr
def Ends (P : Program) (fn : Func) (k : Nat) (r : T) (x : X) (fr : List T) (H : Hp) : Prop := (x = .normal ∨ x = .ret) ∧ ∃ q, resultT P fn fr H = some q ∧ frzT k H q = some r
end
def pdAdd (f : FuncId) (spec : List T → Option (T × List Bool)) (pd : Hp → FuncId → List T → Option (T × List Bool)) : Hp → FuncId → List T → Option (T × List Bool) := fun H g ts => if g = f then spec ts else pd H g ts
theorem pdAdd_ok {P : Program} {gl : Nat → Option T} {f : FuncId} {spec : List T → Option (T × List Bool)} {pd : Hp → FuncId → List T → Option (T × List Bool)} (h : PeOk P gl (Ed.env ⟨gl, pd⟩).pe)
  (hs : ∀ ts r cs, spec ts = some (r, cs) → allT cs = true → PureFn P gl f ts r) : PeOk P gl (Ed.env ⟨gl, pdAdd f spec pd⟩).pe := by
 intro H k ts r hr
 simp only [Ed.env, pdAdd] at hr
 by_cases e : k = f
 ·subst e
  simp only [if_true] at hr
  split at hr
  ·rename_i q cs hq
   split at hr
   ·rename_i hc
    simp only [Option.some.injEq] at hr
    subst hr
    have := hs ts _ cs hq hc
    exact ⟨this.1, fun g vs hg hst => this.2 g vs hg ⟨H.next, hst.new⟩⟩
   ·cases hr
  ·cases hr
 ·rw [if_neg e] at hr
  exact h H k ts r hr
theorem pdNone_ok {P : Program} {gl : Nat → Option T} : PeOk P gl (Ed.env ⟨gl, fun _ _ _ => none⟩).pe := fun H f ts r h => by simp [Ed.env] at h
theorem eeNone_ok {P : Program} {gl : Nat → Option T} : EeOk P gl (fun _ _ _ => none) := fun f ts H r H' h => by cases h
def ovl (kn : List (Nat × T)) (fr : List T) : Nat → Nat → List T
 | _, 0 => []
 | k, n + 1 => (match kn.lookup k with | some v => v | none => getT fr k) :: ovl kn fr (k + 1) n
theorem ovl_eq (kn : List (Nat × T)) (fr : List T) (hk : ∀ k v, kn.lookup k = some v → getT fr k = v) : ∀ (n k : Nat), k + n = fr.length → ovl kn fr k n = fr.drop k
 | 0, k, h => by simp [ovl]; omega
 | n + 1, k, h => by
  simp only [ovl]
  rw [ovl_eq kn fr hk n (k + 1) (by omega), List.drop_eq_getElem_cons (show k < fr.length by omega)]
  congr 1
  split
  ·rename_i v hv
   have := hk k v hv
   rw [← this]
   rw [getT_eq]
   rw [List.getD_eq_getElem?_getD, List.getElem?_eq_getElem (by omega)]; rfl
  ·rw [getT_eq]
   rw [List.getD_eq_getElem?_getD, List.getElem?_eq_getElem (by omega)]; rfl
end
end Go.Ps

/- Closed runs: callees evaluated in place. -/
namespace Go.Ps
noncomputable section
structure Xt where
 gl : Nat → Option T
 pe : FuncId → List T → Option T
 ee : FuncId → List T → Hp → Option (T × Hp)
 own : FuncId → Tmp → Bool
 pu : FuncId → Bool
 ef : FuncId → Bool
 n : Nat
 k : Nat
def scal1 : T → Bool
 | .int .. | .bool _ | .str _ | .nilp | .nils | .nilf | .nili | .nilm => true
 | _ => false
def scal : T → Bool
 | .tup ts => ts.all scal1
 | .agg ts => ts.all scal1
 | t => scal1 t
def pureT (P : Program) (E : Env) (F : Fc) (n k : Nat) (f : FuncId) (ts : List T) : Option T :=
 match evalFn P E F n f ts ⟨0, []⟩ with
 | some (q, H') => frzT k H' q
 | none => none
def lend (k : Nat) (pe : FuncId → List T → Option T) (H : Hp) (f : FuncId) (ts : List T) : Option T :=
 match mapO (frzT k ⟨0, []⟩) ts with
 | some ts' => pe f ts'
 | none => match mapO (frzT k H) ts with
  | some ts' => match pe f ts' with
   | some r => if scal r then some r else none
   | none => none
  | none => none
def fcOf (own : Tmp → Bool) (e : FuncId → List T → Hp → Option (T × Hp)) : Fc := ⟨own, fun f ts H => tagH (e f ts H)⟩
theorem fcOf_ee (own : Tmp → Bool) (e : FuncId → List T → Hp → Option (T × Hp)) : (fcOf own e).ee = e := by
 funext f ts H
 show (match tagH (e f ts H) with | some (r, H', cs) => if allT cs then some (r, H') else none | none => none) = _
 cases e f ts H with
 | none => rfl
 | some r => rfl
def runP (P : Program) (X : Xt) : Nat → (FuncId → List T → Option T) × (FuncId → List T → Hp → Option (T × Hp))
 | 0 => (X.pe, X.ee)
 | d + 1 =>
  (fun f ts => match X.pe f ts with
   | some r => some r
   | none => if X.pu f then pureT P ⟨X.gl, lend X.k (runP P X d).1⟩ (fcOf (X.own f) (runP P X d).2) X.n X.k f ts else none,
   fun f ts H => match X.ee f ts H with
   | some r => some r
   | none => if X.ef f then evalFn P ⟨X.gl, lend X.k (runP P X d).1⟩ (fcOf (X.own f) (runP P X d).2) X.n f ts H else none)
section
variable {P : Program}
def G.bare (g : G) : G := { w := g.w, S := g.S, al := fun _ => False, loc := g.loc, cp := g.cp }
def GlFrz (gl : Nat → Option T) : Prop := ∀ k t, gl k = some t → ∃ n, frzT n ⟨0, []⟩ t = some t
theorem frz_bare : ∀ (n N : Nat) (H : Hp) (t r : T), frzT n ⟨N, []⟩ t = some r → frzT n H t = some r := by
 intro n
 induction n with
 | zero => intro N H t r h; simp [frzT] at h
 | succ n ih =>
  intro N H
  have ihm : ∀ (ts rs : List T), mapO (frzT n ⟨N, []⟩) ts = some rs → mapO (frzT n H) ts = some rs := by
   intro ts
   induction ts with
   | nil => intro rs h; exact h
   | cons t ts iht =>
    intro rs h
    simp only [mapO] at h ⊢
    split at h
    ·rename_i a ha
     split at h
     ·rename_i b hb
      rw [ih N H _ _ ha, iht _ hb]; exact h
     ·cases h
    ·cases h
  intro t r h
  cases t <;> simp only [frzT] at h ⊢ <;> try exact h
  case ptr l off => simp [Hp.get, findOb] at h
  case osl l sz i len => simp [Hp.get, findOb] at h
  case ref x off =>
   split at h
   ·rename_i y hy; rw [ih N H _ _ hy]; exact h
   ·cases h
  case sl f xs =>
   split at h
   ·rename_i y hy; rw [ihm _ _ hy]; exact h
   ·cases h
  case fn f a c =>
   split at h
   ·rename_i x y hx hy; rw [ihm _ _ hx, ihm _ _ hy]; exact h
   ·cases h
  case iface t x =>
   split at h
   ·rename_i y hy; rw [ih N H _ _ hy]; exact h
   ·cases h
  case agg cs =>
   split at h
   ·rename_i y hy; rw [ihm _ _ hy]; exact h
   ·cases h
  case tup cs =>
   split at h
   ·rename_i y hy; rw [ihm _ _ hy]; exact h
   ·cases h
theorem frzL_ok {g g0 : G} {H : Hp} (hs : St g H) {k : Nat} {ts ts' : List T} (h : mapO (frzT k H) ts = some ts') {vs : List Value} (hv : RdL g vs ts) : RdL (g.frz H g0) vs ts' := by
 obtain ⟨a1, a2⟩ := mapO_at h
 refine ⟨by rw [hv.1, a1], fun j v c hvj hc => ?_⟩
 obtain ⟨t, ht, hf⟩ := a2 j c hc
 exact frz_ok hs k t c v hf (hv.2 j v t hvj ht)
theorem St.bare {g : G} {H : Hp} (hs : St g H) : St g ⟨H.next, []⟩ := ⟨fun l o ho => by simp [Hp.get, findOb] at ho, fun l l' o o' ho => by simp [Hp.get, findOb] at ho, hs.new⟩
theorem frz_nil (g g0 : G) (N : Nat) : g.frz ⟨N, []⟩ g0 = { w := g.w, S := g.S, al := g0.al, loc := g0.loc, cp := g0.cp } := by
 simp only [G.frz, Hp.get, findOb]
 congr 1
 funext b
 simp
theorem GlOk.frz {gl : Nat → Option T} (hz : GlFrz gl) {g g0 : G} {H : Hp} (hs : St g H) (h : GlOk gl g) : GlOk gl (g.frz H g0) := fun j t ht => by
 obtain ⟨n, hn⟩ := hz j t ht
 obtain ⟨h1, h2, h3⟩ := h j t ht
 exact ⟨frz_ok hs n t t _ (frz_bare n 0 H t t hn) h1, .inl h2, h3⟩
def PcOk (P : Program) (gl : Nat → Option T) (pe : FuncId → List T → Option T) : Prop :=
 ∀ f ts r, pe f ts = some r → okFn P f = true ∧ ∀ (g : G) (vs : List Value), Gok g → (∀ l, ¬ g.al l) → GlOk gl g → RdL g vs ts →
  Calls P f vs.toArray g.w fun e w' => ∃ v g', e = .returned v ∧ g'.w = w' ∧ PStep g g' ∧ Gok g' ∧ Rd g' v r
theorem scal1_rd {g g' : G} {v : Value} {t : T} (h : scal1 t = true) (hr : Rd g v t) : Rd g' v t := by
 cases hr <;> simp [scal1] at h <;> constructor
theorem scal_rd {g g' : G} {v : Value} {t : T} (h : scal t = true) (hr : Rd g v t) : Rd g' v t := by
 cases hr with
 | agg cs vs h1 h2 =>
  simp only [scal, List.all_eq_true] at h
  exact .agg cs vs h1 (fun j v c hv hc => scal1_rd (h c (List.mem_of_getElem? hc)) (h2 j v c hv hc))
 | tup cs vs h1 h2 =>
  simp only [scal, List.all_eq_true] at h
  exact .tup cs vs h1 (fun j v c hv hc => scal1_rd (h c (List.mem_of_getElem? hc)) (h2 j v c hv hc))
 | int k n => exact .int k n
 | bool b => exact .bool b
 | str s => exact .str s
 | nilp => exact .nilp
 | nils => exact .nils
 | nilf => exact .nilf
 | nili => exact .nili
 | nilm => exact .nilm
 | _ => simp [scal, scal1] at h
theorem rd_frozen {g g' : G} (hw : g.w = g'.w) (hS : ∀ b, g.S b → g'.S b) (hal : ∀ l, ¬ g.al l) : ∀ {v : Value} {t : T}, Rd g v t → Rd g' v t := by
 intro v t hr
 have hc : ∀ (a : Addr) (v : Value), g.w.cell? a = some v → g'.w.cell? a = some v := fun a v h => by rw [← hw]; exact h
 induction hr with
 | int k n => exact .int k n
 | bool b => exact .bool b
 | str s => exact .str s
 | nilp => exact .nilp
 | ptr l off hl => exact absurd hl (hal l)
 | ref x off b o vs h1 hlen hcc _ ih => exact .ref x off b o vs (hS b h1) hlen (fun j v hv => hc _ _ (hcc j v hv)) ih
 | nils => exact .nils
 | slfn full f p => exact .slfn full f p
 | sl full xs sz b o cap vs h1 hsz h2 h3 h4 hlen hcc _ ih => exact .sl full xs sz b o cap vs (fun hx => hS b (h1 hx)) hsz h2 h3 h4 hlen (fun j v hv => hc _ _ (hcc j v hv)) ih
 | slf full n f sz b o cap vs h1 h2 h3 h4 h5 h6 h7 h8 => exact Rd.slf_keep hS (fun _ _ _ _ q => hc _ _ q) h1 h2 h3 h4 h5 h6 h7 h8
 | osl l sz i len b o cap hl => exact absurd hl (hal l)
 | nilf => exact .nilf
 | fn f a c vs us h1 _ h3 _ ih1 ih2 => exact .fn f a c vs us h1 ih1 h3 ih2
 | nili => exact .nili
 | iface t v x _ ih => exact .iface t v x ih
 | nilm => exact .nilm
 | agg cs vs h1 _ ih => exact .agg cs vs h1 ih
 | tup cs vs h1 _ ih => exact .tup cs vs h1 ih
theorem lend_ok {gl : Nat → Option T} {pe : FuncId → List T → Option T} {k : Nat} (hz : GlFrz gl) (h : PcOk P gl pe) : PeOk P gl (lend k pe) := by
 intro H f ts r hr
 unfold lend at hr
 split at hr
 ·rename_i ts' hts
  obtain ⟨h1, h2⟩ := h f ts' r hr
  refine ⟨h1, fun g vs hg hs hgl hv => ?_⟩
  have hts1 : mapO (frzT k ⟨H.next, []⟩) ts = some ts' := by
   have : ∀ (ts ts' : List T), mapO (frzT k ⟨0, []⟩) ts = some ts' → mapO (frzT k ⟨H.next, []⟩) ts = some ts' := by
    intro ts
    induction ts with
    | nil => intro rs h; exact h
    | cons t ts iht =>
     intro rs h
     simp only [mapO] at h ⊢
     split at h
     ·rename_i a ha
      split at h
      ·rename_i b hb
       rw [frz_bare k 0 _ _ _ ha, iht _ hb]; exact h
      ·cases h
     ·cases h
   exact this ts ts' hts
  have hv' : RdL g.bare vs ts' := by
   have := frzL_ok (g0 := g.bare) hs.bare hts1 hv
   rw [frz_nil] at this
   exact this
  have hgl' : GlOk gl g.bare := by
   have := GlOk.frz (g0 := g.bare) hz hs.bare hgl
   rw [frz_nil] at this
   exact this
  refine (h2 g.bare vs hg (fun _ q => q) hgl' hv').mono fun e w' ⟨v, g', e1, e2, e3, e4, e5⟩ => ?_
  refine ⟨v, { w := g'.w, S := g'.S, al := g.al, loc := g.loc, cp := g.cp }, e1, e2, ⟨e3.os, e3.tape, e3.output, e3.size, e3.block, e3.sub, e3.fresh, rfl, rfl, rfl⟩, e4, ?_⟩
  exact rd_frozen (g := g') (g' := { w := g'.w, S := g'.S, al := g.al, loc := g.loc, cp := g.cp }) rfl (fun _ q => q) (by rw [e3.al]; exact fun _ q => q) e5
 ·split at hr
  ·rename_i ts' hts
   split at hr
   ·rename_i r' hr'
    split at hr
    ·rename_i hsc
     cases hr
     obtain ⟨h1, h2⟩ := h f ts' r hr'
     refine ⟨h1, fun g vs hg hs hgl hv => ?_⟩
     have hv' : RdL (g.frz H g.bare) vs ts' := frzL_ok hs hts hv
     have hgl' : GlOk gl (g.frz H g.bare) := GlOk.frz hz hs hgl
     have hg' : Gok (g.frz H g.bare) := by
      intro b hb
      rcases hb with hb | ⟨l, o, ho, rfl⟩
      ·exact hg b hb
      ·exact hs.lt ho
     refine (h2 (g.frz H g.bare) vs hg' (fun _ q => q) hgl' hv').mono fun e w' ⟨v, g', e1, e2, e3, e4, e5⟩ => ?_
     refine ⟨v, { w := g'.w, S := g.S, al := g.al, loc := g.loc, cp := g.cp }, e1, e2, ⟨e3.os, e3.tape, e3.output, e3.size, e3.block, fun _ q => q, fun _ q => .inl q, rfl, rfl, rfl⟩, fun b hb => Nat.lt_of_lt_of_le (hg b hb) e3.size, scal_rd hsc e5⟩
    ·cases hr
   ·cases hr
  ·cases hr
theorem pureT_ok {E : Env} {F : Fc} (hm : P.follows .mixedOrders = true) (hE : PeOk P E.gl E.pe) (hF : EeOk P E.gl F.ee) {n k : Nat} {f : FuncId} (h2 : fnOk P f = true) {ts : List T} {r : T}
  (h : pureT P E F n k f ts = some r) (g : G) (vs : List Value) (hg : Gok g) (hal : ∀ l, ¬ g.al l) (hgl : GlOk E.gl g) (hv : RdL g vs ts) :
  Calls P f vs.toArray g.w fun e w' => ∃ v g', e = .returned v ∧ g'.w = w' ∧ PStep g g' ∧ Gok g' ∧ Rd g' v r := by
 unfold pureT at h
 split at h
 ·rename_i q H' he
  have hs : St g ⟨0, []⟩ := ⟨fun l o ho => by simp [Hp.get, findOb] at ho, fun l l' o o' ho => by simp [Hp.get, findOb] at ho, fun l _ => hal l⟩
  refine (fn_ok hm hE hF h2 he g vs hg hs hgl hv).mono fun e w' ⟨v, g', e1, e2, e3, e4, e5, e6⟩ => ?_
  refine ⟨v, g'.frz H' g, e1, e2, ?_, ?_, frz_ok e5 k q r v h e6⟩
  ·refine ⟨e3.os, e3.tape, e3.output, e3.size, fun b hb => e3.block b hb (fun l o ho => by simp [Hp.get, findOb] at ho), fun b hb => .inl (e3.sub b hb), fun b hb => ?_, rfl, rfl, rfl⟩
   rcases hb with hb | ⟨l, o, ho, rfl⟩
   ·rcases e3.fresh b hb with q | q | ⟨l, o, ho, _⟩
    ·exact .inl q
    ·exact .inr q
    ·simp [Hp.get, findOb] at ho
   ·rcases e3.live l o ho with ⟨l0, o0, q, _⟩ | q
    ·simp [Hp.get, findOb] at q
    ·exact .inr q
  ·intro b hb
   rcases hb with hb | ⟨l, o, ho, rfl⟩
   ·exact e4 b hb
   ·exact e5.lt ho
 ·cases h
theorem runP_ok {X : Xt} (hm : P.follows .mixedOrders = true) (hpu : ∀ f, X.pu f = true → okFn P f = true ∧ fnOk P f = true) (hef : ∀ f, X.ef f = true → okFn P f = true ∧ fnOk P f = true) (hz : GlFrz X.gl) (hE : PcOk P X.gl X.pe) (hF : EeOk P X.gl X.ee) :
  ∀ d, PcOk P X.gl (runP P X d).1 ∧ EeOk P X.gl (runP P X d).2 := by
 intro d
 induction d with
 | zero => exact ⟨hE, hF⟩
 | succ d ih =>
  have hl := lend_ok (k := X.k) hz ih.1
  refine ⟨fun f ts r h => ?_, fun f ts H r H' h => ?_⟩
  ·simp only [runP] at h
   split at h
   ·rename_i q hq; cases h; exact hE f ts _ hq
   ·split at h
    ·rename_i ho
     exact ⟨(hpu f ho).1, fun g vs hg hal hgl hv => pureT_ok (E := ⟨X.gl, lend X.k (runP P X d).1⟩) (F := fcOf (X.own f) (runP P X d).2) hm hl (by rw [fcOf_ee]; exact ih.2) (hpu f ho).2 h g vs hg hal hgl hv⟩
    ·cases h
  ·simp only [runP] at h
   split at h
   ·rename_i q hq; cases h; exact hF f ts H _ _ hq
   ·split at h
    ·rename_i ho
     exact ⟨(hef f ho).1, fun g vs hg hs hgl hv => fn_ok (E := ⟨X.gl, lend X.k (runP P X d).1⟩) (F := fcOf (X.own f) (runP P X d).2) hm hl (by rw [fcOf_ee]; exact ih.2) (hef f ho).2 h g vs hg hs hgl hv⟩
    ·cases h
end
end
end Go.Ps

/- What the library's functions on the road compute, over trees. -/
namespace Go.Ps
noncomputable section
def digK : Nat → Nat → List UInt8 → List UInt8
 | 0, _, acc => acc
 | k + 1, u, acc => if u < 10 then UInt8.ofNat (48 + u) :: acc else digK k (u / 10) (UInt8.ofNat (48 + u % 10) :: acc)
def itoaK (n : Int) : List UInt8 := if n < 0 then 45 :: digK 20 n.natAbs [] else digK 20 n.toNat []
def itoaX : List T → Option T
 | [.int .i64 n] => if -9223372036854775808 ≤ n ∧ n ≤ 9223372036854775807 then some (.str (itoaK n)) else none
 | _ => none
def strsX : List T → Option (List (List UInt8))
 | [] => some []
 | .str s :: r => match strsX r with
  | some l => some (s :: l)
  | none => none
 | _ => none
def joinL (sep : List UInt8) : List (List UInt8) → List UInt8
 | [] => []
 | [x] => x
 | x :: y :: r => x ++ sep ++ joinL sep (y :: r)
def joinX : List T → Option T
 | [.nils, .str _] => some (.str [])
 | [.sl _ xs, .str sep] => match strsX xs with
  | some l => if (joinL sep l).length ≤ 140737488355328 ∧ l.length ≤ 140737488355328 then some (.str (joinL sep l)) else none
  | none => none
 | _ => none
def bytesX : List T → Option (List UInt8)
 | [] => some []
 | .int .u8 n :: r => match bytesX r with
  | some l => if 0 ≤ n ∧ n < 256 then some (UInt8.ofNat n.toNat :: l) else none
  | none => none
 | _ => none
def copyX (tB : TypeId) : List T → Hp → Option (T × Hp)
 | [.ptr l 0], H => match H.get l with
  | some o => match o.cells with
   | [.nilp, v] => if o.elem = tB ∧ o.sz = 0 then some (.tup [], H.put l { o with cells := [.ptr l 0, v] }) else none
   | [.ptr l' 0, _] => if l' = l ∧ o.elem = tB ∧ o.sz = 0 then some (.tup [], H) else none
   | _ => none
  | none => none
 | _, _ => none
def strX (tB tE : TypeId) : List T → Hp → Option (T × Hp)
 | [.ptr l 0], H => match H.get l with
  | some o => if o.elem = tB ∧ o.sz = 0 then match o.cells with
   | [_, .nils] => some (.str [], H)
   | [_, .osl l2 1 0 len] => match H.get l2 with
    | some o2 => if o2.elem = tE ∧ o2.sz = 1 ∧ o2.cells.length = len ∧ len ≠ 0 then match bytesX o2.cells with
     | some bs => some (.str bs, H.drop l2)
     | none => none
     else none
    | none => none
   | _ => none
   else none
  | none => none
 | _, _ => none
end
end Go.Ps

/- Contracts of the library's functions on the road, over trees. -/
namespace Go.Ps
open Go.Shelf Go.RowKit Go.Sort Go.Proofs
theorem pstep_below {g : G} {w' : World} (h : Below g.w.heap.size g.w w') : PStep g { g with w := w' } := ⟨h.os, h.tape, h.output, h.size, h.block, fun _ q => q, fun _ q => .inl q, rfl, rfl, rfl⟩
theorem gok_below {g : G} {w' : World} (hg : Gok g) (h : g.w.heap.size ≤ w'.heap.size) : Gok { g with w := w' } := fun b hb => Nat.lt_of_lt_of_le (hg b hb) h
theorem below_grow (w : World) (k : Nat) (os : Array Obj) : Below w.heap.size w (grow (w.drewN k) os) := by
 have h : (w.drewN k).heap = w.heap ∧ (w.drewN k).os = w.os ∧ (w.drewN k).tape = w.tape ∧ (w.drewN k).output = w.output := by
  refine ⟨?_, ?_, ?_, ?_⟩ <;> simp [World.drewN]
 refine ⟨h.2.1, h.2.2.1, h.2.2.2, by simp [grow], fun b hb => ?_⟩
 simp only [grow, h.1]
 rw [Array.getElem?_append_left hb]
theorem digK_eq : ∀ (k u : Nat) (acc : List UInt8), u < 10 ^ k → 0 < k → digK k u acc = Lib.decDigits u ++ acc
 | 0, _, _, _, h => absurd h (by decide)
 | k + 1, u, acc, hu, _ => by
  rw [digK, Lib.decDigits]
  by_cases h : u < 10
  ·simp [h]
  ·rw [if_neg h, dif_neg h]
   have hk : 0 < k := by
    rcases Nat.eq_zero_or_pos k with rfl | q
    ·simp at hu; omega
    ·exact q
   rw [digK_eq k (u / 10) _ (by rw [Nat.pow_succ] at hu; omega) hk]
   simp
theorem itoaK_eq (n : Int) (h0 : -9223372036854775808 ≤ n) (h1 : n ≤ 9223372036854775807) : itoaK n = Lib.itoa n := by
 unfold itoaK Lib.itoa
 have e : (10 : Nat) ^ 20 = 100000000000000000000 := by decide
 split
 ·rw [digK_eq 20 _ _ (by rw [e]; omega) (by decide)]; simp
 ·rw [digK_eq 20 _ _ (by rw [e]; omega) (by decide)]; simp
section
variable {P : Program} {ρ : Ren} {gl : Nat → Option T}
theorem str_inv {g : G} {v : Value} {s : List UInt8} (h : Rd g v (.str s)) : v = .string ⟨s.toArray⟩ := by
 generalize ht : T.str s = t at h
 cases h <;> cases ht
 simp
theorem itoa_pc (hok : okFn P (ρ.f 171) = true)
  (hc : ∀ (g : G), GlOk gl g → ∀ (n : Int), -9223372036854775808 ≤ n → n ≤ 9223372036854775807 → Calls P (ρ.f 171) #[.int .i64 n] g.w fun e w' => e = .returned (.string ⟨(Lib.itoa n).toArray⟩) ∧ ∃ k os, w' = grow (g.w.drewN k) os)
  (ts : List T) (r : T) (h : itoaX ts = some r) : PureFn P gl (ρ.f 171) ts r := by
 refine ⟨hok, fun g vs hg _ hgl hv => ?_⟩
 unfold itoaX at h
 split at h
 ·rename_i n
  split at h
  ·rename_i hb
   cases h
   match vs, hv with
   | [v], hv =>
    have h1 := (hv.inv_cons).1
    cases h1
    refine (hc g hgl n hb.1 hb.2).mono fun e w' ⟨he, k, os, hw⟩ => ?_
    subst hw
    refine ⟨_, { g with w := grow (g.w.drewN k) os }, he, rfl, pstep_below (below_grow _ _ _), gok_below hg (below_grow _ _ _).size, ?_⟩
    rw [itoaK_eq n hb.1 hb.2]
    have := Rd.str (g := { g with w := grow (g.w.drewN k) os }) ⟨(Lib.itoa n).toArray⟩
    simpa using this
   | [], hv => simp [RdL] at hv
   | _ :: _ :: _, hv => simp [RdL] at hv
  ·cases h
 ·cases h
theorem strsX_spec : ∀ {xs : List T} {l : List (List UInt8)}, strsX xs = some l → xs = l.map T.str
 | [], l, h => by simp [strsX] at h; subst h; rfl
 | x :: r, l, h => by
  cases x <;> simp only [strsX] at h <;> try cases h
  rename_i s
  split at h
  ·rename_i l' hl'; cases h; simp [strsX_spec hl']
  ·cases h
theorem joinL_eq (sep : List UInt8) : ∀ (l : List (List UInt8)), joinL sep l = Lib.join l sep
 | [] => rfl
 | [x] => by simp [joinL, Lib.join_one]
 | x :: y :: r => by
  rw [joinL, joinL_eq sep (y :: r)]
  simp [Lib.join, List.intercalate]
theorem flat_strs : ∀ (l : List (List UInt8)), (l.map T.str).flatMap T.cells = l.map T.str
 | [] => rfl
 | x :: r => by simp [List.flatMap_cons, T.cells, flat_strs r]
theorem join_pc (L : Lays.n156 P ρ) (X : Builder.Extra P ρ) (hok : okFn P (ρ.f 156) = true) (ts : List T) (r : T) (h : joinX ts = some r) : PureFn P gl (ρ.f 156) ts r := by
 refine ⟨hok, fun g vs hg _ hgl hv => ?_⟩
 unfold joinX at h
 split at h
 ·rename_i sep
  cases h
  match vs, hv with
  | [v, u], hv =>
   have h1 := (hv.inv_cons).1
   have h2 := str_inv ((hv.inv_cons).2.inv_cons).1
   cases h1
   subst h2
   refine (Any.strings_Join_none L X none 0 _ g.w).mono fun e w' ⟨he, hw⟩ => ?_
   subst hw
   exact ⟨_, g, he, rfl, PStep.refl g, hg, by simpa using Rd.str (g := g) ⟨#[]⟩⟩
  | [], hv => simp [RdL] at hv
  | [_], hv => simp [RdL] at hv
  | _ :: _ :: _ :: _, hv => simp [RdL] at hv
 ·rename_i full xs sep
  split at h
  ·rename_i l hl
   split at h
   ·rename_i hb
    cases h
    have hxs := strsX_spec hl
    match vs, hv with
    | [v, u], hv =>
     have h1 := (hv.inv_cons).1
     have h2 := str_inv ((hv.inv_cons).2.inv_cons).1
     subst h2
     cases h1 with
     | sl _ _ sz b o cap ws q1 q2 q3 q4 q5 q6 q7 q8 =>
      subst hxs
      have key : ∀ (j : Nat) (x : ByteArray), (l.map fun s => (⟨s.toArray⟩ : ByteArray))[j]? = some x → g.w.cell? ⟨b, o + j, none⟩ = some (.string x) := by
       intro j x hx
       rw [List.getElem?_map, Option.map_eq_some_iff] at hx
       obtain ⟨s, hs, rfl⟩ := hx
       have hne : l.map T.str ≠ [] := by
        intro e
        have : l = [] := by simpa using e
        subst this; simp at hs
       have hsz : sz = 1 := by
        cases l with
        | nil => simp at hs
        | cons a r => have := q2 (.str a) (by simp); simpa [T.cells] using this.symm
       subst hsz
       have hj : j < ws.length := by
        rw [q6]
        have := (List.getElem?_eq_some_iff.1 hs).1
        simpa using this
       have hwj : ws[j]? = some ws[j] := List.getElem?_eq_getElem hj
       have hr := q8 j _ (.str s) hwj (by rw [flat_strs, List.getElem?_map, hs]; rfl)
       have := str_inv hr
       rw [q7 j _ hwj, this]
      have hmap : (l.map fun s => (⟨s.toArray⟩ : ByteArray)).map (·.data.toList) = l := by
       rw [List.map_map]
       have : ((fun x : ByteArray => x.data.toList) ∘ fun s : List UInt8 => (⟨s.toArray⟩ : ByteArray)) = id := by funext s; simp
       rw [this]; simp
      have hlen : (Lib.join ((l.map fun s => (⟨s.toArray⟩ : ByteArray)).map (·.data.toList)) (⟨sep.toArray⟩ : ByteArray).data.toList).length ≤ 140737488355328 := by
       rw [hmap]
       have := hb.1
       rw [joinL_eq] at this
       simpa using this
      have fin : ∀ (w' : World), Below g.w.heap.size g.w w' → ∀ e, e = Ending.returned (.string ⟨(Lib.join ((l.map fun s => (⟨s.toArray⟩ : ByteArray)).map (·.data.toList)) (⟨sep.toArray⟩ : ByteArray).data.toList).toArray⟩) →
        ∃ v g', e = .returned v ∧ g'.w = w' ∧ PStep g g' ∧ Gok g' ∧ Rd g' v (.str (joinL sep l)) := by
       intro w' hw e he
       refine ⟨_, { g with w := w' }, he, rfl, pstep_below hw, gok_below hg hw.size, ?_⟩
       rw [hmap, joinL_eq]
       have := Rd.str (g := { g with w := w' }) ⟨(Lib.join l sep).toArray⟩
       simpa using this
      cases hl0 : l with
      | nil =>
       subst hl0
       refine (Any.strings_Join_none L X (some ⟨b, o, none⟩) cap ⟨sep.toArray⟩ g.w).mono fun e w' ⟨he, hw⟩ => ?_
       exact fin w' (hw ▸ Below.refl _ _) e (by rw [he]; rfl)
      | cons a r =>
       have hbk : b < g.w.heap.size := lt_of_cell (key 0 ⟨a.toArray⟩ (by rw [hl0]; rfl))
       rw [← hl0]
       have hcall := Any.strings_Join L X b o cap (l.map fun s => (⟨s.toArray⟩ : ByteArray)) ⟨sep.toArray⟩ g.w key hbk (by simpa using hb.2) (by simpa using q3) hlen
       have e1 : (l.map fun s => (⟨s.toArray⟩ : ByteArray)).length = (l.map T.str).length := by simp
       rw [e1] at hcall
       exact hcall.mono fun e w' ⟨he, hw⟩ => fin w' hw e he
    | [], hv => simp [RdL] at hv
    | [_], hv => simp [RdL] at hv
    | _ :: _ :: _ :: _, hv => simp [RdL] at hv
   ·cases h
  ·cases h
 ·cases h
end
end Go.Ps

/- A builder of the call's own: contracts that change objects. -/
namespace Go.Ps
open Go.Shelf Go.RowKit Go.Sort Go.Proofs
section
variable {P : Program} {ρ : Ren} {gl : Nat → Option T}
theorem setCell_row (w : World) (b o : Nat) (v : Value) (cs : Array Value) (e : TypeId) (fz : Nat × Nat) (h : w.heap[b]? = some (.cells cs e fz)) : w.setCell ⟨b, o, none⟩ v = w.setRow b (cs.setIfInBounds o v) := by
 simp only [World.setCell, World.setRow]
 congr 1
 apply Array.ext_getElem?
 intro i
 rw [Array.getElem?_modify, Array.getElem?_modify]
 split
 ·rename_i e; subst e; rw [h]; simp
 ·rfl
theorem ptr_inv {g : G} {v : Value} {l off : Nat} (h : Rd g v (.ptr l off)) : v = .pointer (some ⟨g.loc l, off, none⟩) ∧ g.al l := by
 generalize ht : T.ptr l off = t at h
 cases h <;> cases ht
 exact ⟨rfl, by assumption⟩
def EeFn (P : Program) (gl : Nat → Option T) (f : FuncId) (ts : List T) (H : Hp) (r : T) (H' : Hp) : Prop :=
 okFn P f = true ∧ ∀ (g : G) (vs : List Value), Gok g → St g H → GlOk gl g → RdL g vs ts →
  Calls P f vs.toArray g.w fun e w' => ∃ v g', e = .returned v ∧ g'.w = w' ∧ SStep H g H' g' ∧ Gok g' ∧ St g' H' ∧ Rd g' v r
theorem copy_ee (L : Lays.n240 P ρ) (X : Builder.X72 P ρ) (hok : okFn P (ρ.f 240) = true) {ts : List T} {H H' : Hp} {r : T} (h : copyX (ρ.t 72) ts H = some (r, H')) : EeFn P gl (ρ.f 240) ts H r H' := by
 ·refine ⟨hok, fun g vs hg hs hgl hv => ?_⟩
  unfold copyX at h
  split at h
  ·rename_i l
   match vs, hv with
   | [v], hv =>
    obtain ⟨rfl, hal⟩ := ptr_inv (hv.inv_cons).1
    split at h
    ·rename_i ob hob
     obtain ⟨elem, sz, cells⟩ := ob
     obtain ⟨_, hS, cs, hb, q1, q2, q3, q4⟩ := hs.own l _ hob
     simp only at h hb q1 q2 q3 q4
     split at h
     ·rename_i x
      split at h
      ·rename_i hc
       obtain ⟨rfl, rfl⟩ := hc
       cases h
       have hsz : cs.size = 2 := q2 rfl
       have hl : cs.toList.length = 2 := by simpa using hsz
       match hcs : cs.toList, hl with
       | [c0, c1], _ =>
        have e0 : cs = #[c0, c1] := by rw [← Array.toArray_toList (xs := cs), hcs]
        subst e0
        have hc0 := q4.2 0 c0 .nilp (by simp) rfl
        have hc1 := q4.2 1 c1 x (by simp) rfl
        cases hc0
        refine (Any.Builder_copyCheck_fresh L X (g.loc l) g.w (by simp [World.cell?, hb]) (by simp [World.shape?, hb]) (by simp [World.frozen?, hb])).mono fun e w' ⟨he, hw⟩ => ?_
        have hset := setCell_row g.w (g.loc l) 0 (.pointer (some ⟨g.loc l, 0, none⟩)) _ _ _ hb
        rw [hset] at hw
        subst hw
        refine ⟨_, g.setRow (g.loc l) (#[Value.pointer none, c1].setIfInBounds 0 (.pointer (some ⟨g.loc l, 0, none⟩))), he, rfl, set_step hob _ _, ?_, ?_, Rd.mk_tup RdL.nil⟩
        ·intro b hb'
         have := hg b hb'
         simpa [G.setRow, World.setRow] using this
        ·refine set_st (o := { elem := ρ.t 72, sz := 0, cells := [.nilp, x] }) hs hob hb (by simp) (by simp) ?_
         exact RdL.cons (.ptr l 0 hal) (RdL.cons hc1 RdL.nil)
      ·cases h
     ·rename_i l' x
      split at h
      ·rename_i hc
       obtain ⟨rfl, rfl, rfl⟩ := hc
       cases h
       have hsz : cs.size = 2 := q2 rfl
       have hl : cs.toList.length = 2 := by simpa using hsz
       match hcs : cs.toList, hl with
       | [c0, c1], _ =>
        have e0 : cs = #[c0, c1] := by rw [← Array.toArray_toList (xs := cs), hcs]
        subst e0
        have hc0 := (ptr_inv (q4.2 0 c0 _ (by simp) rfl)).1
        subst hc0
        refine (Any.Builder_copyCheck_used L X (g.loc l') g.w (by simp [World.cell?, hb])).mono fun e w' ⟨he, hw⟩ => ?_
        subst hw
        exact ⟨_, g, he, rfl, SStep.refl _ _, hg, hs, Rd.mk_tup RdL.nil⟩
      ·cases h
     ·cases h
    ·cases h
   | [], hv => simp [RdL] at hv
   | _ :: _ :: _, hv => simp [RdL] at hv
  ·cases h
theorem bytesX_spec {g : G} : ∀ {cs : List T} {bs : List UInt8}, bytesX cs = some bs → cs.length = bs.length ∧ ∀ (j : Nat) (c : T) (v : Value), cs[j]? = some c → Rd g v c → ∃ x, bs[j]? = some x ∧ v = .int .u8 x.toNat
 | [], bs, h => by simp [bytesX] at h; subst h; simp
 | c :: r, bs, h => by
  unfold bytesX at h
  split at h
  ·rename_i e; cases e
  ·rename_i n r' e
   cases e
   split at h
   ·rename_i l hl
    split at h
    ·rename_i hn
     cases h
     obtain ⟨h1, h2⟩ := bytesX_spec (g := g) hl
     refine ⟨by simp [h1], fun j c v hc hr => ?_⟩
     cases j with
     | zero =>
      simp at hc; subst hc
      refine ⟨UInt8.ofNat n.toNat, by simp, ?_⟩
      cases hr
      have : (UInt8.ofNat n.toNat).toNat = n.toNat := by
       rw [UInt8.toNat_ofNat']; omega
      rw [this]; congr 1; omega
     | succ j => simp at hc; obtain ⟨x, e1, e2⟩ := h2 j c v hc hr; exact ⟨x, by simpa using e1, e2⟩
    ·cases h
   ·cases h
  ·cases h
theorem str_row (L : Lays.n169 P ρ) (X : Builder.Extra P ρ) (b gg cap : Nat) (p : Value) (cur : Array Value) (l : List UInt8) (w : World) (h0 : l ≠ [])
  (hbk : w.heap[b]? = some (.cells #[p, .slice (some ⟨gg, 0, none⟩) l.length cap] (ρ.t 72) (0, 0))) (hg : w.heap[gg]? = some (.cells cur (ρ.t 5) (0, 0))) (hnc : l.length ≤ cap) (hcm : cap ≤ maxLen) (hcs : cur.size = cap)
  (hcells : ∀ (j : Nat) (x : UInt8), l[j]? = some x → w.cell? ⟨gg, j, none⟩ = some (.int .u8 x.toNat)) :
  Calls P (ρ.f 169) #[.pointer (some ⟨b, 0, none⟩)] w fun e w' => e = .returned (.string ⟨l.toArray⟩) ∧ w' = w.drew.freeze ⟨gg, 0, none⟩ l.length := by
 have hl0 : l.length ≠ 0 := by simpa using h0
 have c1 : w.drew.cell? ⟨b, 1, none⟩ = some (.slice (some ⟨gg, 0, none⟩) l.length cap) := by
  have : w.drew.heap[b]? = some (.cells #[p, .slice (some ⟨gg, 0, none⟩) l.length cap] (ρ.t 72) (0, 0)) := hbk
  rw [Lib.cell_of_heap this]; rfl
 have hSD : (Builtin.unsafeSliceData_ #[(ρ.t 37)] (ρ.t 127) #[.slice (some ⟨gg, 0, none⟩) l.length cap]).run P w.drew = .ok (.pointer (some ⟨gg, 0, none⟩)) w.drew :=
  Lib.run_unsafeSliceData_row _ _ _ _ _ _ (by omega)
 have hUS : (Builtin.unsafeString_ #[(ρ.t 127), (ρ.t 3)] (ρ.t 9) #[.pointer (some ⟨gg, 0, none⟩), .int .i64 l.length]).run P w.drew = .ok (.string ⟨l.toArray⟩) (w.drew.freeze ⟨gg, 0, none⟩ l.length) :=
  Lib.run_unsafeString_row w.drew (ρ.t 127) (ρ.t 3) (ρ.t 9) (ρ.t 5) L.t127 X.cellsByte gg cur.size (by have hg' : w.drew.heap[gg]? = some (.cells cur (ρ.t 5) (0, 0)) := hg; simp [World.shape?, hg']) l h0 (by omega) (by unfold maxLen at hcm; omega) (fun j x hx => by
   have := hcells j x hx
   by_cases hj : j = 0
   ·subst hj; simpa [Addr.add] using this
   ·simpa [Addr.add, hj] using this)
 have mixed := L.mixed
 have t72 := L.t72; have a72 := L.a72; have z72 := L.z72; have v72 := L.v72; have u72 := run_underlying L.t72
 have t70 := L.t70; have a70 := L.a70; have z70 := L.z70; have v70 := L.v70; have u70 := run_underlying L.t70
 have t37 := L.t37; have a37 := L.a37; have z37 := L.z37; have v37 := L.v37; have u37 := run_underlying L.t37
 have t127 := L.t127; have a127 := L.a127; have z127 := L.z127; have v127 := L.v127; have u127 := run_underlying L.t127
 have t3 := L.t3; have a3 := L.a3; have z3 := L.z3; have v3 := L.v3; have u3 := run_underlying L.t3
 have t9 := L.t9; have a9 := L.a9; have z9 := L.z9; have v9 := L.v9; have u9 := run_underlying L.t9
 have t5 := X.t5; have a5 := X.a5; have z5 := X.z5; have v5 := X.v5; have u5 := run_underlying X.t5
 go_enter L.f169, Body.n169_ntmps ρ
 go_wp2
 go_region_o
 all_goals (go_wp2; go_ret; exact ⟨rfl, rfl⟩)
theorem freeze_rest (w : World) (gg n : Nat) : (w.drew.freeze ⟨gg, 0, none⟩ n).os = w.os ∧ (w.drew.freeze ⟨gg, 0, none⟩ n).tape = w.tape ∧ (w.drew.freeze ⟨gg, 0, none⟩ n).output = w.output ∧ (w.drew.freeze ⟨gg, 0, none⟩ n).heap.size = w.heap.size := by
 simp only [World.freeze]
 split
 ·exact ⟨rfl, rfl, rfl, rfl⟩
 ·refine ⟨rfl, rfl, rfl, ?_⟩
  show (w.heap.modify gg _).size = _
  rw [Array.size_modify]
theorem freeze_other (w : World) (gg n k : Nat) (h : k ≠ gg) : (w.drew.freeze ⟨gg, 0, none⟩ n).heap[k]? = w.heap[k]? := by
 simp only [World.freeze, World.drew]
 split
 ·rfl
 ·show (w.heap.modify gg _)[k]? = _
  rw [Array.getElem?_modify, if_neg (fun e => h e.symm)]
theorem osl_inv {g : G} {v : Value} {l sz i len : Nat} (h : Rd g v (.osl l sz i len)) : ∃ b o cap, v = .slice (some ⟨b, o, none⟩) len cap ∧ g.al l ∧ len ≤ cap ∧ i + cap ≤ g.cp l ∧ (0 < len ∨ i = 0 → b = g.loc l ∧ o = i * sz) ∧ (i = 0 → cap = g.cp l) := by
 generalize ht : T.osl l sz i len = t at h
 cases h <;> cases ht
 rename_i b o cap _ _ _ _ _
 exact ⟨b, o, cap, rfl, by assumption, by assumption, by assumption, by assumption, by assumption⟩
theorem str_ee (L : Lays.n169 P ρ) (X : Builder.Extra P ρ) (hok : okFn P (ρ.f 169) = true) {ts : List T} {H H' : Hp} {r : T} (h : strX (ρ.t 72) (ρ.t 5) ts H = some (r, H')) : EeFn P gl (ρ.f 169) ts H r H' := by
 refine ⟨hok, fun g vs hg hs hgl hv => ?_⟩
 unfold strX at h
 split at h
 ·rename_i l
  match vs, hv with
  | [v], hv =>
   obtain ⟨rfl, hal⟩ := ptr_inv (hv.inv_cons).1
   split at h
   ·rename_i ob hob
    split at h
    ·rename_i hc
     obtain ⟨elem, sz, cells⟩ := ob
     obtain ⟨rfl, rfl⟩ := hc
     obtain ⟨_, hS, cs, hb, q1, q2, q3, q4⟩ := hs.own l _ hob
     simp only at h hb q1 q2 q3 q4
     split at h
     ·rename_i x
      cases h
      have hsz : cs.size = 2 := q2 (by simp)
      have hl : cs.toList.length = 2 := by simpa using hsz
      match hcs : cs.toList, hl with
      | [c0, c1], _ =>
       have e0 : cs = #[c0, c1] := by rw [← Array.toArray_toList (xs := cs), hcs]
       subst e0
       have hc1 := q4.2 1 c1 .nils (by simp) rfl
       cases hc1
       refine (Any.Builder_String_nil L X g.w.heap.size (g.loc l) c0 g.w hb).mono fun e w' ⟨he, hw⟩ => ?_
       exact ⟨_, { g with w := w' }, he, rfl, (pstep_below hw).toS, gok_below hg hw.size, hs.pstep (pstep_below hw), by simpa using Rd.str (g := { g with w := w' }) ⟨#[]⟩⟩
     ·rename_i x l2 len
      split at h
      ·rename_i o2 ho2
       split at h
       ·rename_i hc2
        split at h
        ·rename_i bs hbs
         cases h
         obtain ⟨elem2, sz2, cells2⟩ := o2
         obtain ⟨rfl, rfl, rfl, hne⟩ := hc2
         obtain ⟨al2, hS2, cs2, hb2, p1, p2, p3, p4⟩ := hs.own l2 _ ho2
         simp only at hb2 p1 p2 p3 p4 hbs hne
         have hsz : cs.size = 2 := q2 (by simp)
         have hl : cs.toList.length = 2 := by simpa using hsz
         match hcs : cs.toList, hl with
         | [c0, c1], _ =>
          have e0 : cs = #[c0, c1] := by rw [← Array.toArray_toList (xs := cs), hcs]
          subst e0
          have hc1 := q4.2 1 c1 _ (by simp) rfl
          obtain ⟨hlen, hby⟩ := bytesX_spec (g := g) hbs
          obtain ⟨p31, p32⟩ := p3 (by simp)
          obtain ⟨b2, o2, cap2, rfl, z1, z2, z3, z4, z5⟩ := osl_inv hc1
          obtain ⟨rfl, rfl⟩ := z4 (.inr rfl)
          have z5' := z5 rfl
          subst z5'
          rw [hlen] at hb
          have hcells : ∀ (j : Nat) (x : UInt8), bs[j]? = some x → g.w.cell? ⟨g.loc l2, j, none⟩ = some (.int .u8 x.toNat) := by
           intro j x hx
           have hj : j < bs.length := (List.getElem?_eq_some_iff.1 hx).1
           have hj2 : j < cs2.size := by omega
           have hc2 : cs2.toList[j]? = some cs2[j] := by simp [hj2]
           have hv2 : (cs2.toList.take cells2.length)[j]? = some cs2[j] := by rw [List.getElem?_take, if_pos (by omega)]; exact hc2
           obtain ⟨c, hc⟩ : ∃ c, cells2[j]? = some c := ⟨_, List.getElem?_eq_getElem (by omega)⟩
           obtain ⟨y, hy, hvy⟩ := hby j c _ hc (p4.2 j _ c hv2 hc)
           rw [hx] at hy
           cases hy
           rw [Lib.cell_of_heap hb2]
           simp [hj2, hvy]
          refine (str_row L X (g.loc l) (g.loc l2) (g.cp l2) c0 cs2 bs g.w (fun e => hne (by rw [hlen, e]; rfl)) (by simpa using hb) hb2 (by rw [← hlen]; simpa using z2) p32 (by simpa using p31) hcells).mono fun e w' ⟨he, hw⟩ => ?_
          subst hw
          have hfr := freeze_rest g.w (g.loc l2) bs.length
          have hst : SStep H g (H.drop l2) { g with w := g.w.drew.freeze ⟨g.loc l2, 0, none⟩ bs.length } := by
           refine ⟨hfr.1, hfr.2.1, hfr.2.2.1, Nat.le_of_eq hfr.2.2.2.symm, fun k hk hn => freeze_other _ _ _ _ (fun e => hn l2 _ ho2 e.symm), fun _ q => q, fun _ q => .inl q, fun _ q => q, fun _ _ => rfl, fun _ _ => rfl, fun m q hq => ?_⟩
           rw [get_drop] at hq
           split at hq
           ·cases hq
           ·exact .inl ⟨m, q, hq, rfl⟩
          refine ⟨_, { g with w := g.w.drew.freeze ⟨g.loc l2, 0, none⟩ bs.length }, he, rfl, hst, ?_, ?_, ?_⟩
          ·intro k hk
           have := hg k hk
           show k < (g.w.drew.freeze ⟨g.loc l2, 0, none⟩ bs.length).heap.size
           rw [hfr.2.2.2]; exact this
          ·refine ⟨fun m q hq => ?_, fun m m' q q' h1 h2 e => ?_, fun m hm => hs.new m hm⟩
           ·rw [get_drop] at hq
            split at hq
            ·cases hq
            ·rename_i hm
             obtain ⟨ha, hSS, c0', hb', r1, r2, r3, r4⟩ := hs.own m q hq
             refine ⟨ha, hSS, c0', ?_, r1, r2, r3, r4.sstep hs hst⟩
             show (g.w.drew.freeze ⟨g.loc l2, 0, none⟩ bs.length).heap[g.loc m]? = _
             rw [freeze_other _ _ _ _ (fun e => hm (hs.sep m l2 q _ hq ho2 e))]; exact hb'
           ·rw [get_drop] at h1 h2
            split at h1
            ·cases h1
            ·split at h2
             ·cases h2
             ·exact hs.sep m m' q q' h1 h2 e
          ·have := Rd.str (g := { g with w := g.w.drew.freeze ⟨g.loc l2, 0, none⟩ bs.length }) ⟨bs.toArray⟩
           simpa using this
        ·cases h
       ·cases h
      ·cases h
     ·cases h
    ·cases h
   ·cases h
  | [], hv => simp [RdL] at hv
  | _ :: _ :: _, hv => simp [RdL] at hv
 ·cases h
theorem tab_of {g : G} {k : Nat} {ik : IntKind} {zs : List Int} (h : GlAt g k (.ref (.agg (zs.map (T.int ik))) 0)) : ∃ e fz, g.w.heap[k]? = some (.cells (zs.map fun z => Value.int ik z).toArray e fz) := by
 obtain ⟨h1, _, cs, e, fz, h3, h4⟩ := h
 refine ⟨e, fz, ?_⟩
 rw [h3]
 congr 2
 apply Array.ext_getElem?
 intro j
 simp only [T.refLen, T.cells, List.length_map] at h4
 generalize ha : (Value.pointer (some ⟨k, 0, none⟩)) = v at h1
 generalize ht : (T.ref (.agg (zs.map (T.int ik))) 0) = t at h1
 cases h1 <;> cases ht
 rename_i b o vs hS hc hl hr
 simp only [Value.pointer.injEq, Option.some.injEq, Addr.mk.injEq] at ha
 obtain ⟨rfl, ho, _⟩ := ha
 have ho0 : o = 0 := by omega
 subst ho0
 simp only [T.cells, List.length_map] at hl hr
 by_cases hj : j < zs.length
 ·have hvj : vs[j]? = some (vs[j]'(by omega)) := List.getElem?_eq_getElem _
  have hcell := hc j _ hvj
  rw [Nat.zero_add, Lib.cell_of_heap h3] at hcell
  have hz : (zs.map (T.int ik))[j]? = some (T.int ik zs[j]) := by simp [hj]
  have hrd := hr j _ (T.int ik zs[j]) hvj hz
  have hint : vs[j]'(by omega) = Value.int ik zs[j] := by
   generalize vs[j]'(by omega) = u at hrd
   cases hrd; rfl
  rw [hint] at hcell
  simp only [List.getElem?_toArray, List.getElem?_map, List.getElem?_eq_getElem hj, Option.map_some]
  simpa using hcell
 ·rw [Array.getElem?_eq_none (by omega), Array.getElem?_eq_none (by simp; omega)]
end
end Go.Ps

/- From cut to cut: the evaluator stops at a loop, at the end of a loop's round, or at the end. -/
namespace Go.Ps
noncomputable section
inductive Ki where
 | seq (d : Code)
 | blk (id : Nat)
 | lp
inductive Out where
 | again (j : Nat) (fr : List T) (H : Hp)
 | done (x : X) (fr : List T) (H : Hp)
 | loop (j : Nat) (c : Code) (ks : List Ki) (fr : List T) (H : Hp)
inductive Md where
 | code (c : Code)
 | out (x : X)
def runK (P : Program) (E : Ed) (F : Fc) : Nat → Md → List Ki → Nat → List T → Hp → List Bool → List Bool → RD Out
 | 0, _, _, _, _, _, _, _ => .fail 40
 | _ + 1, .out x, [], _, fr, H, ds, log => .ok (.done x fr H) ds log
 | n + 1, .out .normal, .seq d :: ks, j, fr, H, ds, log => runK P E F n (.code d) ks j fr H ds log
 | n + 1, .out .normal, .blk _ :: ks, j, fr, H, ds, log => runK P E F n (.out .normal) ks j fr H ds log
 | _ + 1, .out .normal, .lp :: _, j, fr, H, ds, log => .ok (.again j fr H) ds log
 | n + 1, .out (.exit id), .seq _ :: ks, j, fr, H, ds, log => runK P E F n (.out (.exit id)) ks j fr H ds log
 | n + 1, .out (.exit id), .blk id' :: ks, j, fr, H, ds, log => if id = id' then runK P E F n (.out .normal) ks j fr H ds log else runK P E F n (.out (.exit id)) ks j fr H ds log
 | n + 1, .out (.exit id), .lp :: ks, j, fr, H, ds, log => runK P E F n (.out (.exit id)) ks (j + 1) fr H ds log
 | n + 1, .out .ret, .lp :: ks, j, fr, H, ds, log => runK P E F n (.out .ret) ks (j + 1) fr H ds log
 | n + 1, .out .ret, .seq _ :: ks, j, fr, H, ds, log => runK P E F n (.out .ret) ks j fr H ds log
 | n + 1, .out .ret, .blk _ :: ks, j, fr, H, ds, log => runK P E F n (.out .ret) ks j fr H ds log
 | n + 1, .code c, ks, j, fr, H, ds, log => match c with
  | .seq a b => runK P E F n (.code a) (.seq b :: ks) j fr H ds log
  | .block id c => runK P E F n (.code c) (.blk id :: ks) j fr H ds log
  | .scope c => runK P E F n (.code c) ks j fr H ds log
  | .loop c => .ok (.loop j c ks fr H) ds log
  | .cond o a b => match evalT E.gl fr o with
   | some (.bool t) => match ds with
    | [] => .need t log
    | d :: ds' => if d then runK P E F n (.code a) ks j fr H ds' (t :: log) else runK P E F n (.code b) ks j fr H ds' ((!t) :: log)
   | _ => .fail 41
  | c => match evalCodeD P E F c fr H ds log with
   | .ok (x, fr', H') ds' log' => runK P E F n (.out x) ks j fr' H' ds' log'
   | .need t l => .need t l
   | .fail m => .fail m
def loopsOf : Code → List Ki → List (Code × List Ki)
 | .seq a b, ks => loopsOf a (.seq b :: ks) ++ loopsOf b ks
 | .block id c, ks => loopsOf c (.blk id :: ks)
 | .scope c, ks => loopsOf c ks
 | .cond _ a b, ks => loopsOf a ks ++ loopsOf b ks
 | .loop c, ks => (c, ks) :: loopsOf c (.lp :: ks)
 | _, _ => []
def postK (P : Program) (E : Env) (Q : X → List T → Hp → Prop) : List Ki → List (List T → Hp → Prop) → X → List T → Hp → Prop
 | [], _ => Q
 | .seq d :: ks, As => exitThen (fun fr H => Good P E d fr H (postK P E Q ks As)) (postK P E Q ks As)
 | .blk id :: ks, As => exitBlock id (postK P E Q ks As)
 | .lp :: ks, A :: As => exitThen A (postK P E Q ks As)
 | .lp :: ks, [] => exitThen (fun _ _ => False) (postK P E Q ks [])
def mdOk : Md → Bool
 | .code c => codeOk c
 | .out _ => true
def ksOk : List Ki → Bool
 | [] => true
 | .seq d :: ks => codeOk d && ksOk ks
 | _ :: ks => ksOk ks
def OutOk (P : Program) (E : Env) (Q : X → List T → Hp → Prop) (As : List (List T → Hp → Prop)) : Out → Prop
 | .again j fr H => ∃ A, As[j]? = some A ∧ A fr H
 | .done x fr H => Q x fr H
 | .loop j c ks fr H => Good P E (.loop c) fr H (postK P E Q ks (As.drop j))
def mdGood (P : Program) (E : Env) (fr : List T) (H : Hp) (R : X → List T → Hp → Prop) : Md → Prop
 | .code c => Good P E c fr H R
 | .out x => R x fr H
section
variable {P : Program} {D : Ed} {F : Fc} {Q : X → List T → Hp → Prop} {As : List (List T → Hp → Prop)}
theorem post_lp (ks : List Ki) (j : Nat) : postK P D.env Q (.lp :: ks) (As.drop j) = exitThen (fun fr H => ∃ A, As[j]? = some A ∧ A fr H) (postK P D.env Q ks (As.drop (j + 1))) := by
 by_cases h : j < As.length
 ·rw [List.drop_eq_getElem_cons h]
  simp only [postK]
  have e : (fun fr H => ∃ A, As[j]? = some A ∧ A fr H) = As[j] := by
   funext fr H
   rw [List.getElem?_eq_getElem h]
   simp
  rw [e]
 ·rw [List.drop_of_length_le (by omega), List.drop_of_length_le (by omega)]
  simp only [postK]
  congr 1
  funext fr H
  rw [List.getElem?_eq_none (by omega)]
  simp
theorem good_leaf (hm : P.follows .mixedOrders = true) (hE : PeOk P D.gl D.env.pe) (hF : EeOk P D.gl F.ee) {c : Code} (hok : codeOk c = true) {fr fr' : List T} {H H' : Hp} {x : X} {ds log ds' log' : List Bool}
  (h : evalCodeD P D F c fr H ds log = .ok (x, fr', H') ds' log') (hl : allT log' = true) {R : X → List T → Hp → Prop} (hR : R x fr' H') : Good P D.env c fr H R := by
 intro g0 g H0 a hc K hK
 exact code_ok hm hE hF 0 c fr H x fr' H' hok (codeD_ok 0 h hl).1 g0 g H0 a hc K (fun a' g' hc' => hK x fr' H' a' g' hR hc')
theorem runK_ok (hm : P.follows .mixedOrders = true) (hE : PeOk P D.gl D.env.pe) (hF : EeOk P D.gl F.ee) : ∀ (n : Nat) (m : Md) (ks : List Ki) (j : Nat) (fr : List T) (H : Hp) (ds log : List Bool) (o : Out) (ds' log' : List Bool),
  runK P D F n m ks j fr H ds log = .ok o ds' log' → allT log' = true → mdOk m = true → ksOk ks = true → allT log = true ∧ (OutOk P D.env Q As o → mdGood P D.env fr H (postK P D.env Q ks (As.drop j)) m) := by
 intro n
 induction n with
 | zero => intro m ks j fr H ds log o ds' log' h; simp [runK] at h
 | succ n ih =>
  intro m ks j fr H ds log o ds' log' h hl hmo hko
  cases m with
  | out x =>
   cases ks with
   | nil => simp only [runK] at h; cases h; exact ⟨hl, fun q => q⟩
   | cons k ks =>
    cases x with
    | normal => cases k with
     | seq d =>
      simp only [runK] at h
      simp only [ksOk, Bool.and_eq_true] at hko
      obtain ⟨a, b⟩ := ih _ _ _ _ _ _ _ _ _ _ h hl hko.1 hko.2
      exact ⟨a, fun q => b q⟩
     | blk id =>
      simp only [runK] at h
      obtain ⟨a, b⟩ := ih _ _ _ _ _ _ _ _ _ _ h hl rfl hko
      exact ⟨a, fun q => b q⟩
     | lp =>
      simp only [runK] at h; cases h
      refine ⟨hl, fun q => ?_⟩
      simp only [mdGood, post_lp]
      exact q
    | exit id => cases k with
     | seq d =>
      simp only [runK] at h
      simp only [ksOk, Bool.and_eq_true] at hko
      obtain ⟨a, b⟩ := ih _ _ _ _ _ _ _ _ _ _ h hl rfl hko.2
      exact ⟨a, fun q => b q⟩
     | blk id' =>
      simp only [runK] at h
      split at h
      ·rename_i e
       obtain ⟨a, b⟩ := ih _ _ _ _ _ _ _ _ _ _ h hl rfl hko
       refine ⟨a, fun q => ?_⟩
       simp only [mdGood, postK, exitBlock, if_pos e]; exact b q
      ·rename_i e
       obtain ⟨a, b⟩ := ih _ _ _ _ _ _ _ _ _ _ h hl rfl hko
       refine ⟨a, fun q => ?_⟩
       simp only [mdGood, postK, exitBlock, if_neg e]; exact b q
     | lp =>
      simp only [runK] at h
      obtain ⟨a, b⟩ := ih _ _ _ _ _ _ _ _ _ _ h hl rfl hko
      refine ⟨a, fun q => ?_⟩
      simp only [mdGood, post_lp]; exact b q
    | ret => cases k with
     | seq d =>
      simp only [runK] at h
      simp only [ksOk, Bool.and_eq_true] at hko
      obtain ⟨a, b⟩ := ih _ _ _ _ _ _ _ _ _ _ h hl rfl hko.2
      exact ⟨a, fun q => b q⟩
     | blk id' =>
      simp only [runK] at h
      obtain ⟨a, b⟩ := ih _ _ _ _ _ _ _ _ _ _ h hl rfl hko
      exact ⟨a, fun q => b q⟩
     | lp =>
      simp only [runK] at h
      obtain ⟨a, b⟩ := ih _ _ _ _ _ _ _ _ _ _ h hl rfl hko
      refine ⟨a, fun q => ?_⟩
      simp only [mdGood, post_lp]; exact b q
  | code c =>
   simp only [mdOk] at hmo
   have leaf : ∀ {c : Code}, codeOk c = true → (match evalCodeD P D F c fr H ds log with
     | .ok (x, fr', H') ds' log' => runK P D F n (.out x) ks j fr' H' ds' log'
     | .need t l => .need t l
     | .fail m => .fail m) = RD.ok o ds' log' → allT log = true ∧ (OutOk P D.env Q As o → Good P D.env c fr H (postK P D.env Q ks (As.drop j))) := by
    intro c hc h
    split at h
    ·rename_i x fr1 H1 ds1 log1 hr
     obtain ⟨a, b⟩ := ih _ _ _ _ _ _ _ _ _ _ h hl rfl hko
     exact ⟨(codeD_ok 0 hr a).2, fun q => good_leaf hm hE hF hc hr a (b q)⟩
    ·cases h
    ·cases h
   cases c with
   | seq a b =>
    simp only [runK] at h
    simp only [codeOk, Bool.and_eq_true] at hmo
    obtain ⟨p, q⟩ := ih _ _ _ _ _ _ _ _ _ _ h hl (by exact hmo.1) (by simp only [ksOk, Bool.and_eq_true]; exact ⟨hmo.2, hko⟩)
    exact ⟨p, fun r => good_seq (q r)⟩
   | block id c =>
    simp only [runK] at h
    obtain ⟨p, q⟩ := ih _ _ _ _ _ _ _ _ _ _ h hl (by exact hmo) (by exact hko)
    exact ⟨p, fun r => good_block (q r)⟩
   | scope c =>
    simp only [runK] at h
    obtain ⟨p, q⟩ := ih _ _ _ _ _ _ _ _ _ _ h hl (by exact hmo) hko
    exact ⟨p, fun r => good_scope (q r)⟩
   | loop c =>
    simp only [runK] at h
    cases h
    exact ⟨hl, fun q => q⟩
   | cond t a b =>
    simp only [runK] at h
    simp only [codeOk, Bool.and_eq_true] at hmo
    split at h
    ·rename_i t' ht
     split at h
     ·cases h
     ·rename_i d ds1
      split at h
      ·obtain ⟨p, q⟩ := ih _ _ _ _ _ _ _ _ _ _ h hl (by exact hmo.1) hko
       simp only [allT, Bool.and_eq_true] at p
       exact ⟨p.2, fun r => good_cond (E := D.env) ht (fun _ => q r) (fun e => by rw [p.1] at e; cases e)⟩
      ·obtain ⟨p, q⟩ := ih _ _ _ _ _ _ _ _ _ _ h hl (by exact hmo.2) hko
       simp only [allT, Bool.and_eq_true, Bool.not_eq_true'] at p
       exact ⟨p.2, fun r => good_cond (E := D.env) ht (fun e => by rw [p.1] at e; cases e) (fun _ => q r)⟩
    ·cases h
   | skip => simp only [runK] at h; exact leaf hmo h
   | label l => simp only [runK] at h; exact leaf hmo h
   | region id ops draw => simp only [runK] at h; exact leaf hmo h
   | exit id => simp only [runK] at h; exact leaf hmo h
   | ret => simp only [runK] at h; exact leaf hmo h
   | _ => simp only [runK] at h; exact leaf hmo h
end
end
end Go.Ps

/- The ways from cut to cut, told by what the kernel finds: kept slots, the heap, what was asked. -/
namespace Go.Ps
noncomputable section
def bodyOf (f : Func) : Code :=
 match f.body with
 | some c => c
 | none => .skip
def loopAt (f : Func) (i : Nat) : Code × List Ki := (loopsOf (bodyOf f) []).getD i (.skip, [])
inductive OutT where
 | again (j : Nat)
 | done (r : Option T)
 | loop (j : Nat) (c : Code) (ks : List Ki)
def resV (P : Program) (fr : List T) (H : Hp) : List ResultVar → Option (List T × Bool)
 | [] => some ([], true)
 | r :: rs => match resV P fr H rs with
  | some (ts, b) => match r with
   | .tmp t => some (getT fr t :: ts, b)
   | .cell a t => match getT fr a with
    | .ptr l off => match aggT P t with
     | some true => match szT P t with
      | some n => some (.agg (cellsV H l off n) :: ts, obIn H l (off + n) && b)
      | none => none
     | some false => some ((obv H l).cells.getD off undefT :: ts, obIn H l (off + 1) && b)
     | none => none
    | x => match loadT P H t x with
     | some v => some (v :: ts, b)
     | none => none
  | none => none
theorem resV_ok {P : Program} {fr : List T} {H : Hp} : ∀ {rs : List ResultVar} {ts : List T} {b : Bool}, resV P fr H rs = some (ts, b) → b = true → resAll P fr H rs = some ts
 | [], ts, b, h, hb => by simp only [resV, Option.some.injEq, Prod.mk.injEq] at h; rw [← h.1]; rfl
 | r :: rs, ts, b, h, hb => by
  simp only [resV] at h
  split at h
  ·rename_i ts1 b1 hr
   have key : ∀ x, resT P fr H r = some x → ts = x :: ts1 → b1 = true → resAll P fr H (r :: rs) = some ts := by
    intro x hx e h1
    simp only [resAll, hx, resV_ok hr h1, e]
   split at h
   ·simp only [Option.some.injEq, Prod.mk.injEq] at h
    exact key _ rfl h.1.symm (h.2.trans hb)
   ·rename_i a t
    split at h
    ·rename_i l off hp
     split at h
     ·rename_i hag
      split at h
      ·rename_i n hn
       simp only [Option.some.injEq, Prod.mk.injEq] at h
       obtain ⟨e1, e2⟩ := h
       rw [hb, Bool.and_eq_true] at e2
       refine key _ ?_ e1.symm e2.2
       simp only [resT, hp, loadT, cellsAt]
       have hc := @cellsV_eq H l off n
       have h1 := e2.1
       unfold obIn at h1
       unfold obv at hc
       split at h1
       ·rename_i ob hob
        rw [hob] at hc ⊢
        simp only [decide_eq_true_eq] at h1
        simp only [partT, hag, hn]
        rw [if_pos h1, hc h1]
       ·cases h1
      ·cases h
     ·rename_i hag
      simp only [Option.some.injEq, Prod.mk.injEq] at h
      obtain ⟨e1, e2⟩ := h
      rw [hb, Bool.and_eq_true] at e2
      refine key _ ?_ e1.symm e2.2
      simp only [resT, hp, loadT, cellsAt]
      have h1 := e2.1
      unfold obIn at h1
      unfold obv
      split at h1
      ·rename_i ob hob
       rw [hob]
       simp only [decide_eq_true_eq] at h1
       simp only [partT, hag]
       rw [List.getD_eq_getElem?_getD, List.getElem?_eq_getElem (by omega)]
       rfl
      ·cases h1
     ·cases h
    ·split at h
     ·rename_i v hv
      simp only [Option.some.injEq, Prod.mk.injEq] at h
      exact key _ hv h.1.symm (h.2.trans hb)
     ·cases h
  ·cases h
def resF (P : Program) (fn : Func) (k : Nat) (fr : List T) (H : Hp) : Option T :=
 match resV P fr H fn.results.toList with
 | some ([t], b) => if b then frzT k H t else none
 | some (ts, b) => if b then frzT k H (.tup ts) else none
 | none => none
theorem resF_ok {P : Program} {fn : Func} {k : Nat} {fr : List T} {H : Hp} {r : T} (h : resF P fn k fr H = some r) : ∃ q, resultT P fn fr H = some q ∧ frzT k H q = some r := by
 unfold resF at h
 unfold resultT
 split at h
 ·rename_i t b hr
  cases b with
  | true => rw [resV_ok hr rfl]; exact ⟨t, rfl, h⟩
  | false => cases h
 ·rename_i ts b hne hr
  cases b with
  | true =>
   rw [resV_ok hr rfl]
   refine ⟨.tup ts, ?_, h⟩
   match ts, hne with
   | [], _ => rfl
   | [x], hne => exact absurd rfl (hne x)
   | _ :: _ :: _, _ => rfl
  | false => cases h
 ·cases h
def outK (P : Program) (fn : Func) (k : Nat) (keep : List Nat) : RD Out → Option (OutT × List Bool × Hp × List T × Nat)
 | .ok (.again j fr H) _ log => some (.again j, log, H, keep.map (getT fr), fr.length)
 | .ok (.done .normal fr H) _ log => some (.done (resF P fn k fr H), log, ⟨0, []⟩, [], 0)
 | .ok (.done .ret fr H) _ log => some (.done (resF P fn k fr H), log, ⟨0, []⟩, [], 0)
 | .ok (.loop j c ks fr H) _ log => some (.loop j c ks, log, H, keep.map (getT fr), fr.length)
 | _ => none
def frK (keep : List Nat) (vs : List T) (fr : List T) (len : Nat) : List T := ovl (keep.zip vs) fr 0 len
theorem zip_lookup {fr : List T} : ∀ (keep : List Nat) (vs : List T), keep.map (getT fr) = vs → ∀ k v, (keep.zip vs).lookup k = some v → getT fr k = v
 | [], _, _, k, v, h => by simp at h
 | x :: xs, [], e, k, v, h => by simp at h
 | x :: xs, y :: ys, e, k, v, h => by
  simp only [List.map_cons, List.cons.injEq] at e
  simp only [List.zip_cons_cons, List.lookup_cons] at h
  split at h
  ·rename_i hk
   have : k = x := by simpa using hk
   cases h; rw [this]; exact e.1
  ·exact zip_lookup xs ys e.2 k v h
theorem frK_eq {keep : List Nat} {vs fr : List T} {len : Nat} (h1 : keep.map (getT fr) = vs) (h2 : fr.length = len) : frK keep vs fr len = fr := by
 unfold frK
 rw [ovl_eq (keep.zip vs) fr (zip_lookup keep vs h1) len 0 (by omega)]
 rfl
section
variable {P : Program} {D : Ed} {F : Fc} {As : List (List T → Hp → Prop)} {fn : Func} {k : Nat} {res : T} {keep : List Nat} {N : Nat} {m : Md} {ks : List Ki} {fr : List T} {H H' : Hp} {ds log : List Bool} {vs : List T} {len : Nat}
theorem way_done {r : Option T} (hm : P.follows .mixedOrders = true) (hE : PeOk P D.gl D.env.pe) (hF : EeOk P D.gl F.ee) (hmo : mdOk m = true) (hko : ksOk ks = true)
  (h : outK P fn k keep (runK P D F N m ks 0 fr H ds []) = some (.done r, log, H', vs, len)) (hr : r = some res) (hl : allT log = true) : mdGood P D.env fr H (postK P D.env (Ends P fn k res) ks As) m := by
 subst hr
 have key : ∀ (x : X) (fr1 : List T) (H1 : Hp) (ds1 : List Bool), (x = .normal ∨ x = .ret) → runK P D F N m ks 0 fr H ds [] = .ok (.done x fr1 H1) ds1 log → resF P fn k fr1 H1 = some res → mdGood P D.env fr H (postK P D.env (Ends P fn k res) ks As) m := by
  intro x fr1 H1 ds1 hx hr1 hres
  refine (runK_ok hm hE hF _ _ _ _ _ _ _ _ _ _ _ hr1 hl hmo hko).2 ⟨hx, ?_⟩
  exact resF_ok hres
 unfold outK at h
 split at h <;> try cases h
 ·rename_i fr1 H1 ds1 log1 hr1
  simp only [Option.some.injEq, Prod.mk.injEq, OutT.done.injEq] at h
  obtain ⟨e1, rfl, _⟩ := h
  exact key _ fr1 H1 ds1 (.inl rfl) hr1 e1
 ·rename_i fr1 H1 ds1 log1 hr1
  simp only [Option.some.injEq, Prod.mk.injEq, OutT.done.injEq] at h
  obtain ⟨e1, rfl, _⟩ := h
  exact key _ fr1 H1 ds1 (.inr rfl) hr1 e1
theorem way_again (hm : P.follows .mixedOrders = true) (hE : PeOk P D.gl D.env.pe) (hF : EeOk P D.gl F.ee) (hmo : mdOk m = true) (hko : ksOk ks = true) {Q : X → List T → Hp → Prop} {j : Nat}
  (h : outK P fn k keep (runK P D F N m ks 0 fr H ds []) = some (.again j, log, H', vs, len)) (hl : allT log = true) {A : List T → Hp → Prop} (hA : As[j]? = some A) (hq : ∀ fr', keep.map (getT fr') = vs → fr'.length = len → A fr' H') :
  mdGood P D.env fr H (postK P D.env Q ks As) m := by
 unfold outK at h
 split at h <;> cases h
 rename_i fr1 ds1 hr1
 exact (runK_ok hm hE hF _ _ _ _ _ _ _ _ _ _ _ hr1 hl hmo hko).2 ⟨A, hA, hq fr1 rfl rfl⟩
theorem way_loop (hm : P.follows .mixedOrders = true) (hE : PeOk P D.gl D.env.pe) (hF : EeOk P D.gl F.ee) (hmo : mdOk m = true) (hko : ksOk ks = true) {Q : X → List T → Hp → Prop} {j : Nat} {c : Code} {ks' : List Ki}
  (h : outK P fn k keep (runK P D F N m ks 0 fr H ds []) = some (.loop j c ks', log, H', vs, len)) (hl : allT log = true) (hq : ∀ fr', keep.map (getT fr') = vs → fr'.length = len → Good P D.env (.loop c) fr' H' (postK P D.env Q ks' (As.drop j))) :
  mdGood P D.env fr H (postK P D.env Q ks As) m := by
 unfold outK at h
 split at h <;> cases h
 rename_i fr1 ds1 hr1
 exact (runK_ok hm hE hF _ _ _ _ _ _ _ _ _ _ _ hr1 hl hmo hko).2 (hq fr1 rfl rfl)
theorem mapO_ints {H : Hp} {d : Nat} : ∀ (C : List T), (C.all scal1) = true → mapO (frzT (d + 1) H) C = some C
 | [], _ => rfl
 | c :: r, h => by
  simp only [List.all_cons, Bool.and_eq_true] at h
  have e : frzT (d + 1) H c = some c := by cases c <;> simp [scal1] at h <;> rfl
  simp only [mapO, e, mapO_ints r h.2]
theorem scal1_notAgg : ∀ (C : List T), (C.all scal1) = true → (C.all fun c => !c.isAgg) = true
 | [], _ => rfl
 | c :: r, h => by
  simp only [List.all_cons, Bool.and_eq_true] at h ⊢
  exact ⟨by cases c <;> simp [scal1] at h <;> rfl, scal1_notAgg r h.2⟩
theorem frz_row {H : Hp} {d l n : Nat} {o : Ob} (ho : H.get l = some o) (hsz : o.sz = 1) (hn : o.cells.length = n) (hs : (o.cells.all scal1) = true) : frzT (d + 2) H (.osl l 1 0 n) = some (T.sl false o.cells) := by
 have hm := mapO_ints (H := H) (d := d) _ hs
 have e : (o.cells.drop (0 * 1)).take (n * 1) = o.cells := by simp [← hn]
 show (match H.get l with
   | some o => if 1 ≠ 0 ∧ o.sz = 1 ∧ (0 + n) * 1 ≤ o.cells.length then
     match mapO (frzT (d + 1) H) ((o.cells.drop (0 * 1)).take (n * 1)) with
     | some cs => if 1 = 1 then (if (cs.all fun c => !c.isAgg) then some (T.sl false cs) else none) else some (T.sl false (chunk 1 n cs))
     | none => none
    else none
   | none => none) = some (T.sl false o.cells)
 rw [ho]
 simp only
 rw [if_pos ⟨by decide, hsz, by omega⟩, e, hm]
 simp only [if_true, scal1_notAgg _ hs]
theorem loop_data {E : Env} {Q : X → List T → Hp → Prop} {α : Type} (keep : List Nat) (len : Nat) (vs : α → List T) (Hd : α → Hp) (ok : α → Prop) (ms : α → Nat) {c : Code} {ks : List Ki} {As : List (List T → Hp → Prop)}
  (hb : ∀ a fr, ok a → Good P E c (frK keep (vs a) fr len) (Hd a) (postK P E Q (.lp :: ks) ((fun fr' H' => ∃ b, ms b < ms a ∧ ok b ∧ keep.map (getT fr') = vs b ∧ fr'.length = len ∧ H' = Hd b) :: As))) :
  ∀ a fr H, ok a → keep.map (getT fr) = vs a → fr.length = len → H = Hd a → Good P E (.loop c) fr H (postK P E Q ks As) := by
 intro a fr H h1 h2 h3 h4
 refine good_loop (fun n fr H => ∃ a, ms a = n ∧ ok a ∧ keep.map (getT fr) = vs a ∧ fr.length = len ∧ H = Hd a) (fun n fr H ⟨a, e, q1, q2, q3, q4⟩ => ?_) (ms a) fr H ⟨a, rfl, h1, h2, h3, h4⟩
 subst e; subst q4
 have := hb a fr q1
 rw [frK_eq q2 q3] at this
 refine this.mono fun x fr' H' hp => ?_
 simp only [postK] at hp
 cases x with
 | normal =>
  obtain ⟨b, z1, z2, z3, z4, z5⟩ := hp
  exact ⟨ms b, z1, b, rfl, z2, z3, z4, z5⟩
 | exit id => exact hp
 | ret => exact hp
theorem pure_good0 {E : Env} {c : Code} {f : FuncId} {fn : Func} (hz : GlFrz E.gl) (h1 : okFn P f = true) (hfn : P.funcs[f]? = some fn) (hb : fn.body = some c) {ts : List T} {r : T} {d : Nat} (hts : mapO (frzT d ⟨0, []⟩) ts = some ts)
  (h : Good P E c (ts ++ List.replicate (fn.ntmps - ts.length) undefT) ⟨0, []⟩ (Ends P fn k r)) : PureFn P E.gl f ts r := by
 refine ⟨h1, fun g vs hg ⟨N, hN⟩ hgl hv => ?_⟩
 have hsN : St g ⟨N, []⟩ := ⟨fun l o ho => by simp [Hp.get, findOb] at ho, fun l l' o o' ho => by simp [Hp.get, findOb] at ho, hN⟩
 have hts1 : mapO (frzT d ⟨N, []⟩) ts = some ts := by
  have : ∀ (ts ts' : List T), mapO (frzT d ⟨0, []⟩) ts = some ts' → mapO (frzT d ⟨N, []⟩) ts = some ts' := by
   intro ts
   induction ts with
   | nil => intro rs h; exact h
   | cons t ts iht =>
    intro rs h
    simp only [mapO] at h ⊢
    split at h
    ·rename_i a ha
     split at h
     ·rename_i b hb
      rw [frz_bare d 0 _ _ _ ha, iht _ hb]; exact h
     ·cases h
    ·cases h
  exact this ts ts hts
 have hv' : RdL g.bare vs ts := by
  have := frzL_ok (g0 := g.bare) hsN hts1 hv
  rw [frz_nil] at this
  exact this
 have hgl' : GlOk E.gl g.bare := by
  have := GlOk.frz (g0 := g.bare) hz hsN hgl
  rw [frz_nil] at this
  exact this
 have hs : St g.bare ⟨0, []⟩ := ⟨fun l o ho => by simp [Hp.get, findOb] at ho, fun l l' o o' ho => by simp [Hp.get, findOb] at ho, fun l _ q => q⟩
 have hframe : RdL g.bare (vs.toArray ++ Array.replicate (fn.ntmps - vs.toArray.size) undef).toList (ts ++ List.replicate (fn.ntmps - ts.length) undefT) := by
  have : (vs.toArray ++ Array.replicate (fn.ntmps - vs.toArray.size) undef).toList = vs ++ List.replicate (fn.ntmps - ts.length) undef := by simp [hv.1]
  rw [this]
  exact hv'.append (RdL.replicate _ Rd.undef)
 have hinv : CInv E g.bare ⟨0, []⟩ g.bare { tmps := vs.toArray ++ Array.replicate (fn.ntmps - vs.toArray.size) undef, defers := [] } (ts ++ List.replicate (fn.ntmps - ts.length) undefT) ⟨0, []⟩ := ⟨hg, hs, hgl', rfl, hframe, SStep.refl _ _⟩
 refine calls_of_wp hfn hb (h g.bare g.bare ⟨0, []⟩ _ hinv _ (fun x fr' H' a' g' hQ hc => ?_))
 obtain ⟨hx, q, hq, hz⟩ := hQ
 obtain ⟨v, hv1, hv2⟩ := result_ok (fn := fn) hc hq
 have e3 := hc.step
 have fin : ∃ v' g'', Ending.returned v = .returned v' ∧ g''.w = g'.w ∧ PStep g g'' ∧ Gok g'' ∧ Rd g'' v' r := by
  refine ⟨v, g'.frz H' g, rfl, rfl, ?_, ?_, frz_ok hc.st k q r v hz hv2⟩
  ·refine ⟨e3.os, e3.tape, e3.output, e3.size, fun b hb => e3.block b hb (fun l o ho => by simp [Hp.get, findOb] at ho), fun b hb => .inl (e3.sub b hb), fun b hb => ?_, rfl, rfl, rfl⟩
   rcases hb with hb | ⟨l, o, ho, rfl⟩
   ·rcases e3.fresh b hb with q | q | ⟨l, o, ho, _⟩
    ·exact .inl q
    ·exact .inr q
    ·simp [Hp.get, findOb] at ho
   ·rcases e3.live l o ho with ⟨l0, o0, q, _⟩ | q
    ·simp [Hp.get, findOb] at q
    ·exact .inr q
  ·intro b hb
   rcases hb with hb | ⟨l, o, ho, rfl⟩
   ·exact hc.ok b hb
   ·exact hc.st.lt ho
 rcases hx with rfl | rfl
 ·exact ⟨hc.df, v, hv1, fin⟩
 ·exact ⟨hc.df, v, hv1, fin⟩
end
end
end Go.Ps

/- The ways, in the form in which they are used. -/
namespace Go.Ps
structure Cx (P : Program) (D : Ed) (F : Fc) : Prop where
 hm : P.follows .mixedOrders = true
 hE : PeOk P D.gl D.env.pe
 hF : EeOk P D.gl F.ee
section
variable {P : Program} {D : Ed} {F : Fc} {As : List (List T → Hp → Prop)} {fn : Func} {k : Nat} {res : T} {keep : List Nat} {N : Nat} {c : Code} {ks : List Ki} {fr : List T} {H H' : Hp} {ds log : List Bool} {vs : List T} {len : Nat}
theorem Cx.done {r : Option T} (x : Cx P D F) (hc : codeOk c = true) (hk : ksOk ks = true)
  (h : outK P fn k keep (runK P D F N (.code c) ks 0 fr H ds []) = some (.done r, log, H', vs, len)) (hr : r = some res) (hl : allT log = true) : Good P D.env c fr H (postK P D.env (Ends P fn k res) ks As) :=
 way_done (m := .code c) x.hm x.hE x.hF hc hk h hr hl
theorem Cx.again (x : Cx P D F) (hc : codeOk c = true) (hk : ksOk ks = true) {Q : X → List T → Hp → Prop} {j : Nat}
  (h : outK P fn k keep (runK P D F N (.code c) ks 0 fr H ds []) = some (.again j, log, H', vs, len)) (hl : allT log = true) {A : List T → Hp → Prop} (hA : As[j]? = some A) (hq : ∀ fr', keep.map (getT fr') = vs → fr'.length = len → A fr' H') :
  Good P D.env c fr H (postK P D.env Q ks As) :=
 way_again (m := .code c) x.hm x.hE x.hF hc hk h hl hA hq
theorem Cx.loop (x : Cx P D F) (hc : codeOk c = true) (hk : ksOk ks = true) {Q : X → List T → Hp → Prop} {j : Nat} {c' : Code} {ks' : List Ki}
  (h : outK P fn k keep (runK P D F N (.code c) ks 0 fr H ds []) = some (.loop j c' ks', log, H', vs, len)) (hl : allT log = true) (hq : ∀ fr', keep.map (getT fr') = vs → fr'.length = len → Good P D.env (.loop c') fr' H' (postK P D.env Q ks' (As.drop j))) :
  Good P D.env c fr H (postK P D.env Q ks As) :=
 way_loop (m := .code c) x.hm x.hE x.hF hc hk h hl hq
end
theorem rdI_scal {g : G} {v : Value} {c : T} (hs : scal1 c = true) (h : Rd g v c) : RdI g v c := by
 cases h with
 | int k n => exact .int k n
 | bool b => exact .bool b
 | str s => exact .str s
 | nilp => exact .nilp
 | nils => exact .nils
 | nilf => exact .nilf
 | nili => exact .nili
 | nilm => exact .nilm
 | _ => simp [scal1] at hs
theorem scal1_cells {c : T} (hs : scal1 c = true) : c.cells = [c] := by cases c <;> simp [scal1] at hs <;> rfl
theorem rd_slf {g : G} {v : Value} {full : Bool} {xs : List T} {n : Nat} {f : Nat → T} (h : Rd g v (.sl full xs)) (hs : ∀ x ∈ xs, scal1 x = true) (hn : xs.length = n) (hf : ∀ i, i < n → xs[i]? = some (f i)) : Rd g v (.slf full n f) := by
 subst hn
 cases h with
 | sl _ _ sz b o cap vs h1 h2 h3 h4 h5 h6 h7 h8 =>
  refine .slf full xs.length f sz b o cap vs (fun q => h1 (fun e => q (by simp [e]))) (fun i hi => h2 _ (List.mem_of_getElem? (hf i hi))) h3 h4 h5 h6 h7 (fun i j u c hi hj hu hc => ?_)
  have hm := List.mem_of_getElem? (hf i hi)
  have hr := h8 _ u c hu (rows_at h2 (hf i hi) j c hc)
  rw [scal1_cells (hs _ hm)] at hc
  cases j with
  | zero => simp at hc; subst hc; exact rdI_scal (hs _ hm) hr
  | succ j => simp at hc
theorem rd_nslf {g : G} {v : Value} (full : Bool) (f : Nat → T) (h : Rd g v .nils) : Rd g v (.slf full 0 f) := by
 cases h; exact .slfn full f _
theorem PureFn.mono {P : Program} {gl : Nat → Option T} {f : FuncId} {ts : List T} {r r' : T} (h : PureFn P gl f ts r) (k : ∀ g v, Rd g v r → Rd g v r') : PureFn P gl f ts r' :=
 ⟨h.1, fun g vs hg hN hgl hv => (h.2 g vs hg hN hgl hv).mono fun _ _ ⟨v, g', e1, e2, e3, e4, e5⟩ => ⟨v, g', e1, e2, e3, e4, k _ _ e5⟩⟩
end Go.Ps

/- From a contract over trees to a run out of any world: nothing that was there is written. -/
namespace Go.Ps
def G.start (W : World) : G := { w := W, S := fun b => b < W.heap.size, al := fun _ => False, loc := fun _ => 0, cp := fun _ => 0 }
theorem start_ok (W : World) : Gok (G.start W) := fun _ h => h
theorem gl_of_tab {P : Program} {W : World} {name : String} {k : Nat} {ik : IntKind} {zs : List Int} (hn : P.globalNamed name = some k) (h : Lib.TabIs P W name ik zs) : GlAt (G.start W) k (.ref (.agg (zs.map (T.int ik))) 0) := by
 unfold Lib.TabIs World.var? at h
 rw [hn, Option.bind_some] at h
 split at h
 ·rename_i cs e fz hb
  cases h
  have hlt : k < W.heap.size := (Array.getElem?_eq_some_iff.1 hb).1
  refine ⟨?_, hlt, _, e, fz, hb, by simp [T.refLen, T.cells]⟩
  have key := Rd.ref (g := G.start W) (.agg (zs.map (T.int ik))) 0 k 0 (zs.map fun z => Value.int ik z) hlt (by simp [T.cells]) (fun j v hv => ?_) (fun j v c hv hc => ?_)
  ·exact key
  ·unfold World.cell?
   show (match W.heap[k]? with | some (.cells c _ _) => if (none : Option _).isSome then none else c[0 + j]? | _ => none) = some v
   rw [hb]
   simpa using hv
  ·simp only [T.cells, List.getElem?_map] at hv hc
   cases hz : zs[j]? with
   | none => rw [hz] at hv; simp at hv
   | some z => rw [hz] at hv hc; simp at hv hc; subst hv; subst hc; exact .int ik z
 ·cases h
theorem kept_of {g g' : G} (h : PStep g g') (may : MemPlace → Prop) : g.w.keptBut g'.w may := by
 refine ⟨h.os, h.output, fun i hi => ?_⟩
 rw [h.block i hi]
 cases ho : g.w.heap[i]? with
 | none => simp
 | some o => cases o <;> simp
theorem run_start {P : Program} {gl : Nat → Option T} {f : FuncId} {ts : List T} {r : T} (h : PureFn P gl f ts r) {W : World} (hgl : GlOk gl (G.start W)) {vs : List Value} (hv : RdL (G.start W) vs ts) :
  Calls P f vs.toArray W fun e w' => ∃ v g', e = .returned v ∧ g'.w = w' ∧ PStep (G.start W) g' ∧ Rd g' v r :=
 (h.2 (G.start W) vs (start_ok W) ⟨0, fun _ _ q => q⟩ hgl hv).mono fun _ _ ⟨v, g', e1, e2, e3, _, e5⟩ => ⟨v, g', e1, e2, e3, e5⟩
end Go.Ps

/- A function as a machine of plain states: one state for each loop's head; what the kernel finds on each way is its step. -/
namespace Go.Ps
def bt : Nat → Nat → List Bool
 | 0, _ => []
 | n + 1, k => (k % 2 == 1) :: bt n (k / 2)
theorem ite_or {α : Type} {c : Prop} [Decidable c] {a e : Option α} {o : α} (h : (if c then a else e) = some o) : (c ∧ a = some o) ∨ e = some o := by
 by_cases hc : c
 ·rw [if_pos hc] at h; exact .inl ⟨hc, h⟩
 ·rw [if_neg hc] at h; exact .inr h
/-! Trees of tests. -/
theorem tree_if {α : Type} {a : Bool} {A B : Option α} {x y : α} {k l : Bool} (h1 : k = true → A = some x) (h2 : l = true → B = some y) (h : (if a = true then k else l) = true) : (if a = true then A else B) = some (if a = true then x else y) := by
 cases a
 ·exact h2 h
 ·exact h1 h
theorem tree_leaf {α : Type} {k : Bool} {x : α} (h : k = true) : (if k = true then some x else none) = some x := if_pos h
theorem ways_if {α : Type} {a : Bool} {A B : Option α} {Q : α → Prop} (h1 : ∀ o, A = some o → Q o) (h2 : ∀ o, B = some o → Q o) (o : α) (h : (if a = true then A else B) = some o) : Q o := by
 cases a
 ·exact h2 o h
 ·exact h1 o h
theorem ways_leaf {α : Type} {k : Bool} {x : α} {Q : α → Prop} (h1 : k = true → Q x) (o : α) (h : (if k = true then some x else none) = some o) : Q o := by
 cases hk : k
 ·rw [hk] at h; simp at h
 ·rw [hk] at h; simp at h; subst h; exact h1 hk
theorem tree_leafO {α : Type} {k : Bool} {q : Option T} (h : (k && q.isSome) = true) : (if k = true then q.map (Sum.inr : T → α ⊕ T) else none) = some (.inr (q.getD undefT)) := by
 cases k <;> cases q <;> simp at h ⊢
theorem ways_leafO {α : Type} {k : Bool} {q : Option T} {Q : α ⊕ T → Prop} (h1 : k = true → ∀ r, q = some r → Q (.inr r)) (o : α ⊕ T) (h : (if k = true then q.map (Sum.inr : T → α ⊕ T) else none) = some o) : Q o := by
 cases hk : k
 ·rw [hk] at h; simp at h
 ·rw [hk] at h
  cases hq : q with
  | none => rw [hq] at h; simp at h
  | some r => rw [hq] at h; simp at h; subst h; exact h1 hk r hq
structure Mch (S : Type) where
 lp : S → Nat
 keep : Nat → List Nat
 par : Nat → List Nat
 vs : S → List T
 hp : S → Hp
 len : Nat
 step : S → Option (S ⊕ T)
def Mch.run {S : Type} (M : Mch S) : Nat → S → Option T
 | 0, _ => none
 | n + 1, s => match M.step s with
  | some (.inl s') => M.run n s'
  | some (.inr r) => some r
  | none => none
def Mch.fin {S : Type} (M : Mch S) (n : Nat) : S ⊕ T → Option T
 | .inl s => M.run n s
 | .inr r => some r
@[simp] theorem Mch.fin_inr {S : Type} (M : Mch S) (n : Nat) (r : T) : M.fin n (.inr r) = some r := rfl
@[simp] theorem Mch.fin_inl {S : Type} (M : Mch S) (n : Nat) (s : S) : M.fin n (.inl s) = M.run n s := rfl
theorem Mch.run_succ {S : Type} (M : Mch S) (n : Nat) (s : S) : M.run (n + 1) s = (M.step s).bind (M.fin n) := by
 simp only [Mch.run]
 cases M.step s with
 | none => rfl
 | some o => cases o <;> rfl
def Mch.At {S : Type} (M : Mch S) (s : S) (fr : List T) (H : Hp) : Prop := (M.keep (M.lp s)).map (getT fr) = M.vs s ∧ fr.length = M.len ∧ H = M.hp s
def Mch.Leads {S : Type} (M : Mch S) (P : Program) (D : Ed) (F : Fc) (fn : Func) (k : Nat) (cur : List Nat) (c : Code) (ks : List Ki) (fr : List T) (H : Hp) : S ⊕ T → Prop
 | .inr r => ∃ N ds log kp H' vs len, outK P fn k kp (runK P D F N (.code c) ks 0 fr H ds []) = some (.done (some r), log, H', vs, len) ∧ allT log = true
 | .inl s => (∃ N ds log j, outK P fn k (M.keep (M.lp s)) (runK P D F N (.code c) ks 0 fr H ds []) = some (.again j, log, M.hp s, M.vs s, M.len) ∧ allT log = true ∧ cur[j]? = some (M.lp s)) ∨
  (∃ N ds log j, outK P fn k (M.keep (M.lp s)) (runK P D F N (.code c) ks 0 fr H ds []) = some (.loop j (loopAt fn (M.lp s)).1 (loopAt fn (M.lp s)).2, log, M.hp s, M.vs s, M.len) ∧ allT log = true ∧ cur.drop j = M.par (M.lp s))
def Mch.Ways {S : Type} (M : Mch S) (P : Program) (D : Ed) (F : Fc) (fn : Func) (k : Nat) : Prop :=
 ∀ s o fr, M.step s = some o → M.Leads P D F fn k (M.lp s :: M.par (M.lp s)) (loopAt fn (M.lp s)).1 (.lp :: (loopAt fn (M.lp s)).2) (frK (M.keep (M.lp s)) (M.vs s) fr M.len) (M.hp s) o
/-! ### the dense forms of ways -/
abbrev wdn (r : T) (g : List Bool) : Option (OutT × List Bool × Hp × List T × Nat) := some (.done (some r), g, ⟨0, []⟩, [], 0)
abbrev wdq (q : Option T) (g : List Bool) : Option (OutT × List Bool × Hp × List T × Nat) := some (.done q, g, ⟨0, []⟩, [], 0)
noncomputable def Mch.rk {S : Type} (M : Mch S) (P : Program) (D : Ed) (F : Fc) (fn : Func) (s : S) (fr : List T) (ds : List Bool) : RD Out :=
 runK P D F 2000 (.code (loopAt fn (M.lp s)).1) (.lp :: (loopAt fn (M.lp s)).2) 0 (frK (M.keep (M.lp s)) (M.vs s) fr M.len) (M.hp s) ds []
def Mch.wa {S : Type} (M : Mch S) (P : Program) (fn : Func) (r : RD Out) (j : Nat) (g : List Bool) (s : S) : Prop := outK P fn 20 (M.keep (M.lp s)) r = some (.again j, g, M.hp s, M.vs s, M.len)
def Mch.wl {S : Type} (M : Mch S) (P : Program) (fn : Func) (r : RD Out) (j : Nat) (g : List Bool) (s : S) : Prop := outK P fn 20 (M.keep (M.lp s)) r = some (.loop j (loopAt fn (M.lp s)).1 (loopAt fn (M.lp s)).2, g, M.hp s, M.vs s, M.len)
theorem kv_some {α : Type} {K : Bool} {V o : α} (h : (if K = true then some V else none) = some o) : K = true ∧ V = o := by
 cases hk : K
 ·rw [hk] at h; simp at h
 ·rw [hk] at h; simp at h; exact ⟨rfl, h⟩
theorem wk_if {α : Type} {a k l : Bool} {x y : α} {Q : α → Prop} (h1 : k = true → ∀ o, x = o → Q o) (h2 : l = true → ∀ o, y = o → Q o) (hk : (if a = true then k else l) = true) (o : α) (h : (if a = true then x else y) = o) : Q o := by
 cases a
 ·exact h2 hk o h
 ·exact h1 hk o h
section
variable {S : Type} {M : Mch S} {P : Program} {D : Ed} {F : Fc} {fn : Func} {cur : List Nat} {c : Code} {ks : List Ki} {fr : List T} {H : Hp} {N j : Nat} {ds g : List Bool}
theorem kA {s : S} (w : M.wa P fn (runK P D F N (.code c) ks 0 fr H ds []) j g s) (hj : cur[j]? = some (M.lp s)) (hk : allT g = true) (o : S ⊕ T) (h : .inl s = o) : M.Leads P D F fn 20 cur c ks fr H o := h ▸ .inl ⟨N, ds, g, j, w, hk, hj⟩
theorem kL {s : S} (w : M.wl P fn (runK P D F N (.code c) ks 0 fr H ds []) j g s) (hj : cur.drop j = M.par (M.lp s)) (hk : allT g = true) (o : S ⊕ T) (h : .inl s = o) : M.Leads P D F fn 20 cur c ks fr H o := h ▸ .inr ⟨N, ds, g, j, w, hk, hj⟩
theorem kD {r : T} {kp : List Nat} (w : outK P fn 20 kp (runK P D F N (.code c) ks 0 fr H ds []) = wdn r g) (hk : allT g = true) (o : S ⊕ T) (h : .inr r = o) : M.Leads P D F fn 20 cur c ks fr H o := h ▸ ⟨N, ds, g, kp, _, _, _, w, hk⟩
theorem kO {q : Option T} {kp : List Nat} (w : outK P fn 20 kp (runK P D F N (.code c) ks 0 fr H ds []) = wdq q g) (hk : (allT g && q.isSome) = true) (o : S ⊕ T) (h : .inr (q.getD undefT) = o) : M.Leads P D F fn 20 cur c ks fr H o := by
 rw [Bool.and_eq_true] at hk
 cases q with
 | none => exact absurd hk.2 (by simp)
 | some r => exact h ▸ ⟨N, ds, g, kp, _, _, _, w, hk.1⟩
theorem oks_of {lp : S → Nat} (n : Nat) (hn : ((List.range n).all fun j => codeOk (loopAt fn j).1 && ksOk (.lp :: (loopAt fn j).2)) = true) (hl : ∀ σ, lp σ < n) (σ : S) : codeOk (loopAt fn (lp σ)).1 = true ∧ ksOk (.lp :: (loopAt fn (lp σ)).2) = true := by
 have := List.all_eq_true.1 hn _ (List.mem_range.2 (hl σ))
 rwa [Bool.and_eq_true] at this
end
def Mch.LeadsF {S : Type} (M : Mch S) (P : Program) (D : Ed) (F : Fc) (fn : Func) (k : Nat) (cur : List Nat) (c : Code) (ks : List Ki) (fr : List T) (H : Hp) (o : S ⊕ T) : Prop :=
 M.Leads P D F fn k cur c ks fr H o ∨ ∃ s, o = .inl s ∧ ∃ N ds log j H' vs' p d k' t0 t, outK P fn k (M.keep (M.lp s)) (runK P D F N (.code c) ks 0 fr H ds []) = some (.loop j (loopAt fn (M.lp s)).1 (loopAt fn (M.lp s)).2, log, H', vs', M.len) ∧ allT log = true ∧ cur.drop j = M.par (M.lp s) ∧
  frzT k' H' (vs'.getD p undefT) = some t0 ∧ (∀ g v, Rd g v t0 → Rd g v t) ∧ (M.keep (M.lp s))[p]? = some d ∧ d < M.len ∧ (M.keep (M.lp s)).Nodup ∧ M.vs s = vs'.set p t ∧ M.hp s = ⟨H'.next, []⟩
def Mch.WaysF {S : Type} (M : Mch S) (P : Program) (D : Ed) (F : Fc) (fn : Func) (k : Nat) : Prop :=
 ∀ s o fr, M.step s = some o → M.LeadsF P D F fn k (M.lp s :: M.par (M.lp s)) (loopAt fn (M.lp s)).1 (.lp :: (loopAt fn (M.lp s)).2) (frK (M.keep (M.lp s)) (M.vs s) fr M.len) (M.hp s) o
theorem Rd.grow {g g' : G} (hw : g'.w = g.w) (hS : ∀ b, g.S b → g'.S b) (ha : g'.al = g.al) (hl : g'.loc = g.loc) (hcp : g'.cp = g.cp) {v : Value} {t : T} (hr : Rd g v t) : Rd g' v t := by
 have hc : ∀ (a : Addr) (v : Value), g.w.cell? a = some v → g'.w.cell? a = some v := fun a v h => by rw [hw]; exact h
 induction hr with
 | int k n => exact .int k n
 | bool b => exact .bool b
 | str s => exact .str s
 | nilp => exact .nilp
 | ptr l off h => rw [← hl]; exact .ptr l off (ha ▸ h)
 | ref x off b o vs h1 hlen hcc _ ih => exact .ref x off b o vs (hS b h1) hlen (fun j v hv => hc _ _ (hcc j v hv)) ih
 | nils => exact .nils
 | slfn full f p => exact .slfn full f p
 | sl full xs sz b o cap vs h1 hsz h2 h3 h4 hlen hcc _ ih => exact .sl full xs sz b o cap vs (fun hx => hS b (h1 hx)) hsz h2 h3 h4 hlen (fun j v hv => hc _ _ (hcc j v hv)) ih
 | slf full n f sz b o cap vs h1 h2 h3 h4 h5 h6 h7 h8 => exact Rd.slf_keep hS (fun _ _ _ _ q => hc _ _ q) h1 h2 h3 h4 h5 h6 h7 h8
 | osl l sz i len b o cap h h1 h2 h3 h4 => exact .osl l sz i len b o cap (ha ▸ h) h1 (hcp ▸ h2) (fun q => hl ▸ h3 q) (fun q => hcp ▸ h4 q)
 | nilf => exact .nilf
 | fn f a c vs us h1 _ h3 _ ih1 ih2 => exact .fn f a c vs us h1 ih1 h3 ih2
 | nili => exact .nili
 | iface t v x _ ih => exact .iface t v x ih
 | nilm => exact .nilm
 | agg cs vs h1 _ ih => exact .agg cs vs h1 ih
 | tup cs vs h1 _ ih => exact .tup cs vs h1 ih
theorem CInv.freeze {E : Env} {g0 g : G} {H0 H : Hp} {a : Act} {fr : List T} (hz : GlFrz E.gl) (hc : CInv E g0 H0 g a fr H) {d k : Nat} {t0 t : T} (hd : d < fr.length) (h : frzT k H (getT fr d) = some t0) (hcv : ∀ g v, Rd g v t0 → Rd g v t) : CInv E g0 H0 (g.frz H g) a (fr.set d t) ⟨H.next, []⟩ := by
 refine ⟨fun b hb => ?_, ⟨fun l o ho => by simp [Hp.get, findOb] at ho, fun l l' o o' ho => by simp [Hp.get, findOb] at ho, hc.st.new⟩, GlOk.frz hz hc.st hc.gl, hc.df, ⟨by simp [hc.fr.1], fun j v c hv hcj => ?_⟩, ?_⟩
 ·rcases hb with hb | ⟨l, o, ho, rfl⟩
  ·exact hc.ok b hb
  ·exact hc.st.lt ho
 ·rw [List.getElem?_set] at hcj
  by_cases e : d = j
  ·subst e
   rw [if_pos rfl, if_pos hd] at hcj
   cases hcj
   rw [getT_eq, List.getD_eq_getElem?_getD, List.getElem?_eq_getElem hd] at h
   exact hcv _ _ <| frz_ok hc.st k _ _ _ h (hc.fr.2 d v _ hv (List.getElem?_eq_getElem hd))
  ·rw [if_neg e] at hcj
   exact Rd.grow (g := g) (g' := g.frz H g) rfl (fun _ q => Or.inl q) rfl rfl rfl (hc.fr.2 j v c hv hcj)
 ·have e3 := hc.step
  refine ⟨e3.os, e3.tape, e3.output, e3.size, e3.block, fun b hb => .inl (e3.sub b hb), fun b hb => ?_, e3.al, e3.loc, e3.cp, fun l o ho => by simp [Hp.get, findOb] at ho⟩
  rcases hb with hb | ⟨l, o, ho, rfl⟩
  ·exact e3.fresh b hb
  ·rcases e3.live l o ho with ⟨l0, o0, q1, q2⟩ | q
   ·exact .inr (.inr ⟨l0, o0, q1, q2⟩)
   ·exact .inr (.inl q)
theorem good_freeze {P : Program} {E : Env} {c : Code} {fr : List T} {H : Hp} {Q : X → List T → Hp → Prop} (hz : GlFrz E.gl) {d k : Nat} {t0 t : T} (hd : d < fr.length) (h : frzT k H (getT fr d) = some t0) (hcv : ∀ g v, Rd g v t0 → Rd g v t) (hG : Good P E c (fr.set d t) ⟨H.next, []⟩ Q) : Good P E c fr H Q :=
 fun g0 g H0 a hc R hR => hG g0 (g.frz H g) H0 a (hc.freeze hz hd h hcv) R hR
theorem keep_set {keep : List Nat} {fr vs : List T} {p d : Nat} {t : T} (h1 : keep.map (getT fr) = vs) (h2 : keep[p]? = some d) (h3 : d < fr.length) (h4 : keep.Nodup) : getT fr d = vs.getD p undefT ∧ keep.map (getT (fr.set d t)) = vs.set p t := by
 have hp : p < keep.length := (List.getElem?_eq_some_iff.1 h2).1
 subst h1
 refine ⟨by rw [List.getD_eq_getElem?_getD, List.getElem?_map, h2]; rfl, ?_⟩
 apply List.ext_getElem?
 intro q
 rw [List.getElem?_map, List.getElem?_set]
 by_cases e : p = q
 ·subst e
  rw [h2, if_pos rfl, if_pos (by simpa using hp)]
  simp only [Option.map_some, getT_eq]
  rw [List.getD_eq_getElem?_getD, List.getElem?_set_self h3]
  rfl
 ·rw [if_neg e, List.getElem?_map]
  cases hq : keep[q]? with
  | none => rfl
  | some d' =>
   simp only [Option.map_some, getT_eq]
   have hne : d ≠ d' := by
    intro e'
    subst e'
    have h5 := (List.getElem?_eq_some_iff.1 h2).2
    obtain ⟨hq1, hq2⟩ := List.getElem?_eq_some_iff.1 hq
    have hpw := List.pairwise_iff_getElem.1 h4
    rcases Nat.lt_or_gt_of_ne e with q1 | q1
    ·exact hpw p q hp hq1 q1 (h5.trans hq2.symm)
    ·exact hpw q p hq1 hp q1 (hq2.trans h5.symm)
   rw [List.getD_eq_getElem?_getD, List.getD_eq_getElem?_getD, List.getElem?_set_ne hne]
def Mch.Inv {S : Type} (M : Mch S) (r : T) (n j : Nat) (fr : List T) (H : Hp) : Prop := ∃ m s, m < n ∧ M.lp s = j ∧ M.run m s = some r ∧ M.At s fr H
def Imp : List (List T → Hp → Prop) → List (List T → Hp → Prop) → Prop
 | [], _ => True
 | _ :: _, [] => False
 | A :: As, B :: Bs => (∀ fr H, A fr H → B fr H) ∧ Imp As Bs
section
variable {P : Program} {D : Ed} {F : Fc} {fn : Func} {k : Nat} {S : Type} {M : Mch S}
theorem postK_mono {E : Env} {Q : X → List T → Hp → Prop} : ∀ (ks : List Ki) (As Bs : List (List T → Hp → Prop)), Imp As Bs → ∀ x fr H, postK P E Q ks As x fr H → postK P E Q ks Bs x fr H
 | [], _, _, _, x, fr, H, h => h
 | .seq d :: ks, As, Bs, hi, x, fr, H, h => by
  simp only [postK] at h ⊢
  cases x with
  | normal => exact Good.mono h (postK_mono ks As Bs hi)
  | exit id => exact postK_mono ks As Bs hi _ fr H h
  | ret => exact postK_mono ks As Bs hi _ fr H h
 | .blk id :: ks, As, Bs, hi, x, fr, H, h => by
  simp only [postK] at h ⊢
  cases x with
  | normal => exact postK_mono ks As Bs hi _ fr H h
  | exit id' =>
   simp only [exitBlock] at h ⊢
   split
   ·rename_i e; rw [if_pos e] at h; exact postK_mono ks As Bs hi _ fr H h
   ·rename_i e; rw [if_neg e] at h; exact postK_mono ks As Bs hi _ fr H h
  | ret => exact postK_mono ks As Bs hi _ fr H h
 | .lp :: ks, [], Bs, hi, x, fr, H, h => by
  simp only [postK] at h
  cases Bs with
  | nil =>
   simp only [postK]
   cases x with
   | normal => exact h.elim
   | exit id => exact postK_mono ks [] [] hi _ fr H h
   | ret => exact postK_mono ks [] [] hi _ fr H h
  | cons B Bs =>
   simp only [postK]
   cases x with
   | normal => exact h.elim
   | exit id => exact postK_mono ks [] Bs trivial _ fr H h
   | ret => exact postK_mono ks [] Bs trivial _ fr H h
 | .lp :: ks, A :: As, [], hi, x, fr, H, h => hi.elim
 | .lp :: ks, A :: As, B :: Bs, hi, x, fr, H, h => by
  simp only [postK] at h ⊢
  cases x with
  | normal => exact hi.1 fr H h
  | exit id => exact postK_mono ks As Bs hi.2 _ fr H h
  | ret => exact postK_mono ks As Bs hi.2 _ fr H h
theorem imp_map {α : Type} (f g : α → List T → Hp → Prop) : ∀ (l : List α), (∀ a ∈ l, ∀ fr H, f a fr H → g a fr H) → Imp (l.map f) (l.map g)
 | [], _ => trivial
 | a :: l, h => ⟨h a (by simp), imp_map f g l fun b hb => h b (by simp [hb])⟩
theorem Imp.drop : ∀ (j : Nat) (As Bs : List (List T → Hp → Prop)), Imp As Bs → Imp (As.drop j) (Bs.drop j)
 | 0, As, Bs, h => h
 | j + 1, [], Bs, _ => by simp [Imp]
 | j + 1, A :: As, [], h => h.elim
 | j + 1, A :: As, B :: Bs, h => Imp.drop j As Bs h.2
theorem mach_loopF (x : Cx P D F) (hz : GlFrz D.gl) (hw : M.WaysF P D F fn k) (hc : ∀ s, codeOk (loopAt fn (M.lp s)).1 = true ∧ ksOk (.lp :: (loopAt fn (M.lp s)).2) = true) (r : T) : ∀ (n : Nat) (s : S) (fr : List T) (H : Hp), M.run n s = some r → M.At s fr H →
  Good P D.env (.loop (loopAt fn (M.lp s)).1) fr H (postK P D.env (Ends P fn k r) (loopAt fn (M.lp s)).2 ((M.par (M.lp s)).map (M.Inv r n))) := by
 intro n
 induction n using Nat.strongRecOn with
 | ind n ih =>
  intro s fr H hr hat
  refine good_loop (fun m fr H => ∃ s', M.lp s' = M.lp s ∧ m ≤ n ∧ M.run m s' = some r ∧ M.At s' fr H) (fun m fr H ⟨s1, e1, hm, hr1, hat1⟩ => ?_) n fr H ⟨s, rfl, Nat.le_refl _, hr, hat⟩
  cases m with
  | zero => simp [Mch.run] at hr1
  | succ m =>
   simp only [Mch.run] at hr1
   cases hst : M.step s1 with
   | none => rw [hst] at hr1; cases hr1
   | some o =>
    rw [hst] at hr1
    have hl := hw s1 o fr hst
    obtain ⟨q1, q2, q3⟩ := hat1
    rw [frK_eq q1 q2, ← q3, e1] at hl
    obtain ⟨c1, c2⟩ := hc s1
    rw [e1] at c1 c2
    show Good P D.env (loopAt fn (M.lp s)).1 fr H (postK P D.env (Ends P fn k r) (.lp :: (loopAt fn (M.lp s)).2) ((fun fr' H' => ∃ m' < m + 1, ∃ s', M.lp s' = M.lp s ∧ m' ≤ n ∧ M.run m' s' = some r ∧ M.At s' fr' H') :: (M.par (M.lp s)).map (M.Inv r n)))
    have hi : ∀ m', m' = m → Imp ((M.lp s :: M.par (M.lp s)).map (M.Inv r m)) ((fun fr' H' => ∃ m' < m + 1, ∃ s', M.lp s' = M.lp s ∧ m' ≤ n ∧ M.run m' s' = some r ∧ M.At s' fr' H') :: (M.par (M.lp s)).map (M.Inv r n)) := fun _ _ =>
     ⟨fun fr H ⟨m', s', a1, a2, a3, a4⟩ => ⟨m', by omega, s', a2, by omega, a3, a4⟩, imp_map _ _ _ fun i _ fr H ⟨m', s', a1, a2, a3, a4⟩ => ⟨m', s', by omega, a2, a3, a4⟩⟩
    rcases hl with hl | ⟨s2, rfl, N, ds, log, j, H', vs', p, d, k', t0, t, h1, h2, h3, f1, f1c, f2, f3, f4, f5, f6⟩
    rotate_left
    ·simp only at hr1
     refine x.loop c1 c2 h1 h2 (fun fr' k1 k2 => ?_)
     obtain ⟨z1, z2⟩ := keep_set (t := t) k1 f2 (by omega) f4
     refine good_freeze (d := d) (k := k') (t := t) hz (by omega) (by rw [z1]; exact f1) f1c ?_
     have := ih m (by omega) s2 (fr'.set d t) (M.hp s2) hr1 ⟨by rw [z2, f5], by simpa using k2, rfl⟩
     rw [f6] at this
     refine this.mono (postK_mono _ _ _ ?_)
     rw [← h3]
     have := Imp.drop j _ _ (hi m rfl)
     rwa [← List.map_drop] at this
    cases o with
    | inr r' =>
     simp only [Option.some.injEq] at hr1
     subst hr1
     obtain ⟨N, ds, log, kp, H', vs, len, h1, h2⟩ := hl
     exact x.done c1 c2 h1 rfl h2
    | inl s2 =>
     simp only at hr1
     rcases hl with ⟨N, ds, log, j, h1, h2, h3⟩ | ⟨N, ds, log, j, h1, h2, h3⟩
     ·cases j with
      | zero =>
       simp only [List.getElem?_cons_zero, Option.some.injEq] at h3
       exact x.again c1 c2 h1 h2 rfl (fun fr' k1 k2 => ⟨m, by omega, s2, h3.symm, by omega, hr1, k1, k2, rfl⟩)
      | succ j =>
       simp only [List.getElem?_cons_succ] at h3
       refine x.again c1 c2 h1 h2 (A := M.Inv r n (M.lp s2)) ?_ (fun fr' k1 k2 => ⟨m, s2, by omega, rfl, hr1, k1, k2, rfl⟩)
       simp only [List.getElem?_cons_succ, List.getElem?_map, h3, Option.map_some]
     ·refine x.loop c1 c2 h1 h2 (fun fr' k1 k2 => ?_)
      have := ih m (by omega) s2 fr' (M.hp s2) hr1 ⟨k1, k2, rfl⟩
      refine this.mono (postK_mono _ _ _ ?_)
      rw [← h3]
      have hi : Imp ((M.lp s :: M.par (M.lp s)).map (M.Inv r m)) ((fun fr' H' => ∃ m' < m + 1, ∃ s', M.lp s' = M.lp s ∧ m' ≤ n ∧ M.run m' s' = some r ∧ M.At s' fr' H') :: (M.par (M.lp s)).map (M.Inv r n)) :=
       ⟨fun fr H ⟨m', s', a1, a2, a3, a4⟩ => ⟨m', by omega, s', a2, by omega, a3, a4⟩, imp_map _ _ _ fun i _ fr H ⟨m', s', a1, a2, a3, a4⟩ => ⟨m', s', by omega, a2, a3, a4⟩⟩
      have := Imp.drop j _ _ hi
      rwa [← List.map_drop] at this
theorem pure_machF {c : Code} {f : FuncId} {d : Nat} (x : Cx P D F) (hz : GlFrz D.gl) (h1 : okFn P f = true) (hfn : P.funcs[f]? = some fn) (hb : fn.body = some c) (hcb : bodyOf fn = c) (hco : codeOk c = true) {ts : List T} (hts : mapO (frzT d ⟨0, []⟩) ts = some ts) {L : Nat} (hL : fn.ntmps - ts.length = L)
  (hw : M.WaysF P D F fn k) (hc : ∀ s, codeOk (loopAt fn (M.lp s)).1 = true ∧ ksOk (.lp :: (loopAt fn (M.lp s)).2) = true) {o : S ⊕ T}
  (hl : M.Leads P D F fn k [] (bodyOf fn) [] (ts ++ List.replicate L undefT) ⟨0, []⟩ o) {n : Nat} {r : T} (hr : M.fin n o = some r) : PureFn P D.gl f ts r := by
 subst hcb; subst hL
 refine pure_good0 (E := D.env) (k := k) (d := d) (fn := fn) (c := bodyOf fn) hz h1 hfn hb hts ?_
 show Good P D.env (bodyOf fn) (ts ++ List.replicate (fn.ntmps - ts.length) undefT) ⟨0, []⟩ (postK P D.env (Ends P fn k r) [] [])
 cases o with
 | inr r' =>
  simp only [Mch.fin, Option.some.injEq] at hr
  subst hr
  obtain ⟨N, ds, log, kp, H', vs, len, h1, h2⟩ := hl
  exact x.done hco rfl h1 rfl h2
 | inl s =>
  rcases hl with ⟨N, ds, log, j, h1, h2, h3⟩ | ⟨N, ds, log, j, h1, h2, h3⟩
  ·simp at h3
  ·refine x.loop hco rfl h1 h2 (fun fr' k1 k2 => ?_)
   have := mach_loopF x hz hw hc r n s fr' (M.hp s) hr ⟨k1, k2, rfl⟩
   rw [← h3] at this
   simpa using this
theorem pure_mach {c : Code} {f : FuncId} {d : Nat} (x : Cx P D F) (hz : GlFrz D.gl) (h1 : okFn P f = true) (hfn : P.funcs[f]? = some fn) (hb : fn.body = some c) (hcb : bodyOf fn = c) (hco : codeOk c = true) {ts : List T} (hts : mapO (frzT d ⟨0, []⟩) ts = some ts) {L : Nat} (hL : fn.ntmps - ts.length = L)
  (hw : M.Ways P D F fn k) (hc : ∀ s, codeOk (loopAt fn (M.lp s)).1 = true ∧ ksOk (.lp :: (loopAt fn (M.lp s)).2) = true) {o : S ⊕ T}
  (hl : M.Leads P D F fn k [] (bodyOf fn) [] (ts ++ List.replicate L undefT) ⟨0, []⟩ o) {n : Nat} {r : T} (hr : M.fin n o = some r) : PureFn P D.gl f ts r :=
 pure_machF x hz h1 hfn hb hcb hco hts hL (fun s o fr h => .inl (hw s o fr h)) hc hl hr
def noM : Mch Empty := { lp := fun _ => 0, keep := fun _ => [], par := fun _ => [], vs := fun _ => [], hp := fun _ => ⟨0, []⟩, len := 0, step := fun _ => none }
theorem noM_ways : noM.Ways P D F fn k := fun s => s.elim
end
end Go.Ps

/- Contracts of callees to which the caller's own variables are lent. -/
namespace Go.Ps
noncomputable section
def lendS (k : Nat) (spec : List T → Option (T × List Bool)) (H : Hp) (ts : List T) : Option (T × List Bool) :=
 match mapO (frzT k ⟨0, []⟩) ts with
 | some ts' => spec ts'
 | none => match mapO (frzT k H) ts with
  | some ts' => match spec ts' with
   | some (r, cs) => if scal r then some (r, cs) else none
   | none => none
  | none => none
def pdLend (k : Nat) (f : FuncId) (spec : List T → Option (T × List Bool)) (pd : Hp → FuncId → List T → Option (T × List Bool)) : Hp → FuncId → List T → Option (T × List Bool) := fun H g ts => if g = f then lendS k spec H ts else pd H g ts
theorem pdLend_ok {P : Program} {gl : Nat → Option T} {k : Nat} {f : FuncId} {spec : List T → Option (T × List Bool)} {pd : Hp → FuncId → List T → Option (T × List Bool)} (hz : GlFrz gl) (h : PeOk P gl (Ed.env ⟨gl, pd⟩).pe)
  (hs : ∀ ts r cs, spec ts = some (r, cs) → allT cs = true → PureFn P gl f ts r) : PeOk P gl (Ed.env ⟨gl, pdLend k f spec pd⟩).pe := by
 have hpc : PcOk P gl (fun g ts => if g = f then (match spec ts with | some (r, cs) => if allT cs then some r else none | none => none) else none) := by
  intro g ts r hr
  simp only at hr
  split at hr
  ·rename_i e
   subst e
   split at hr
   ·rename_i r' cs hq
    split at hr
    ·rename_i hc
     cases hr
     have key := hs ts r cs hq hc
     exact ⟨key.1, fun g vs hg hal => key.2 g vs hg ⟨0, fun l _ => hal l⟩⟩
    ·cases hr
   ·cases hr
  ·cases hr
 intro H g ts r hr
 simp only [Ed.env, pdLend] at hr
 by_cases e : g = f
 ·subst e
  simp only [if_true] at hr
  refine lend_ok (k := k) hz hpc H g ts r ?_
  unfold lend
  unfold lendS at hr
  cases h0 : mapO (frzT k ⟨0, []⟩) ts with
  | some ts' =>
   rw [h0] at hr
   simp only [if_true] at hr ⊢
   exact hr
  | none =>
   rw [h0] at hr
   simp only at hr ⊢
   cases h1 : mapO (frzT k H) ts with
   | none => rw [h1] at hr; simp at hr
   | some ts' =>
    rw [h1] at hr
    simp only [if_true] at hr ⊢
    cases h2 : spec ts' with
    | none => rw [h2] at hr; simp at hr
    | some q =>
     obtain ⟨r', cs⟩ := q
     rw [h2] at hr
     simp only at hr ⊢
     by_cases h3 : scal r' = true
     ·rw [if_pos h3] at hr
      simp only at hr
      split at hr
      ·rename_i hc
       cases hr
       rw [if_pos hc]
       simp only [h3, if_true]
      ·cases hr
     ·rw [if_neg h3] at hr
      simp at hr
 ·rw [if_neg e] at hr
  exact h H g ts r hr
end
end Go.Ps

/- Functions that change objects: loops of a known number of rounds are run through; what must hold is listed; the contract. -/
namespace Go.Ps
noncomputable section
def loopU (f : List T → Hp → List Bool → List Bool → RD (X × List T × Hp)) : Nat → List T → Hp → List Bool → List Bool → RD (X × List T × Hp)
 | 0, _, _, _, _ => .fail 50
 | k + 1, fr, H, ds, log => match f fr H ds log with
  | .ok (.normal, fr', H') ds' log' => loopU f k fr' H' ds' log'
  | r => r
def evalCodeU (P : Program) (E : Ed) (F : Fc) (n : Nat) : Code → List T → Hp → List Bool → List Bool → RD (X × List T × Hp)
 | .seq a b, fr, H, ds, log => match evalCodeU P E F n a fr H ds log with
  | .ok (.normal, fr', H') ds' log' => evalCodeU P E F n b fr' H' ds' log'
  | r => r
 | .cond c a b, fr, H, ds, log => match evalT E.gl fr c with
  | some (.bool t) => match ds with
   | [] => .need t log
   | d :: ds' => if d then evalCodeU P E F n a fr H ds' (t :: log) else evalCodeU P E F n b fr H ds' ((!t) :: log)
  | _ => .fail 21
 | .block id c, fr, H, ds, log => match evalCodeU P E F n c fr H ds log with
  | .ok (.exit id', fr', H') ds' log' => if id' = id then .ok (.normal, fr', H') ds' log' else .ok (.exit id', fr', H') ds' log'
  | r => r
 | .scope c, fr, H, ds, log => evalCodeU P E F n c fr H ds log
 | .loop c, fr, H, ds, log => loopU (fun fr H ds log => evalCodeU P E F n c fr H ds log) n fr H ds log
 | c, fr, H, ds, log => evalCodeD P E F c fr H ds log
section
variable {P : Program} {D : Ed} {F : Fc}
theorem loopU_ok {n : Nat} {c : Code} (ih : ∀ {fr fr' : List T} {H H' : Hp} {x : X} {ds log ds' log' : List Bool}, evalCodeU P D F n c fr H ds log = .ok (x, fr', H') ds' log' → allT log' = true → evalCode P D.env F n c fr H = some (x, fr', H') ∧ allT log = true) :
  ∀ (k : Nat) {fr fr' : List T} {H H' : Hp} {x : X} {ds log ds' log' : List Bool}, loopU (fun fr H ds log => evalCodeU P D F n c fr H ds log) k fr H ds log = .ok (x, fr', H') ds' log' → allT log' = true →
   evalCode.loopN (fun fr H => evalCode P D.env F n c fr H) k fr H = some (x, fr', H') ∧ allT log = true := by
 intro k
 induction k with
 | zero => intro fr fr' H H' x ds log ds' log' h; simp [loopU] at h
 | succ k ihk =>
  intro fr fr' H H' x ds log ds' log' h hl
  simp only [loopU] at h
  simp only [evalCode.loopN]
  split at h
  ·rename_i f1 h1 ds1 log1 hr
   obtain ⟨a, b⟩ := ihk h hl
   obtain ⟨a1, b1⟩ := ih hr b
   rw [a1]; exact ⟨a, b1⟩
  ·rename_i hr
   obtain ⟨a1, b1⟩ := ih h hl
   rw [a1]
   cases x with
   | normal => exact absurd h (hr _ _ _ _)
   | exit id => exact ⟨rfl, b1⟩
   | ret => exact ⟨rfl, b1⟩
theorem codeU_ok (n : Nat) : ∀ {c : Code} {fr fr' : List T} {H H' : Hp} {x : X} {ds log ds' log' : List Bool}, evalCodeU P D F n c fr H ds log = .ok (x, fr', H') ds' log' → allT log' = true → evalCode P D.env F n c fr H = some (x, fr', H') ∧ allT log = true := by
 intro c
 induction c with
 | seq c1 c2 ih1 ih2 =>
  intro fr fr' H H' x ds log ds' log' h hl
  simp only [evalCodeU] at h
  simp only [evalCode]
  split at h
  ·rename_i f1 h1 ds1 log1 hr
   obtain ⟨a, b⟩ := ih2 h hl
   obtain ⟨a1, b1⟩ := ih1 hr b
   rw [a1]; exact ⟨a, b1⟩
  ·rename_i hr
   obtain ⟨a1, b1⟩ := ih1 h hl
   rw [a1]
   cases x with
   | normal => exact absurd h (hr _ _ _ _)
   | exit id => exact ⟨rfl, b1⟩
   | ret => exact ⟨rfl, b1⟩
 | cond o c1 c2 ih1 ih2 =>
  intro fr fr' H H' x ds log ds' log' h hl
  simp only [evalCodeU] at h
  simp only [evalCode, Ed.env]
  split at h
  ·rename_i t ht
   rw [ht]
   simp only
   split at h
   ·cases h
   ·rename_i d ds1
    split at h
    ·obtain ⟨a, b⟩ := ih1 h hl
     simp only [allT, Bool.and_eq_true] at b
     rw [if_pos b.1]; exact ⟨a, b.2⟩
    ·obtain ⟨a, b⟩ := ih2 h hl
     simp only [allT, Bool.and_eq_true, Bool.not_eq_true'] at b
     rw [if_neg (by simp [b.1])]; exact ⟨a, b.2⟩
  ·cases h
 | block id c ih =>
  intro fr fr' H H' x ds log ds' log' h hl
  simp only [evalCodeU] at h
  simp only [evalCode]
  split at h
  ·rename_i id' f1 h1 ds1 log1 hr
   split at h
   ·rename_i e
    cases h
    obtain ⟨a, b⟩ := ih hr hl
    rw [a]; simp only; rw [if_pos e]; exact ⟨rfl, b⟩
   ·rename_i e
    cases h
    obtain ⟨a, b⟩ := ih hr hl
    rw [a]; simp only; rw [if_neg e]; exact ⟨rfl, b⟩
  ·rename_i hr
   obtain ⟨a, b⟩ := ih h hl
   rw [a]
   cases x with
   | normal => exact ⟨rfl, b⟩
   | exit id' => exact absurd h (hr _ _ _ _ _)
   | ret => exact ⟨rfl, b⟩
 | scope c ih =>
  intro fr fr' H H' x ds log ds' log' h hl
  simp only [evalCodeU] at h
  simp only [evalCode]
  exact ih h hl
 | loop c ih =>
  intro fr fr' H H' x ds log ds' log' h hl
  simp only [evalCodeU] at h
  simp only [evalCode]
  exact loopU_ok ih n h hl
 | _ => intro fr fr' H H' x ds log ds' log' h hl; simp only [evalCodeU] at h; exact codeD_ok n h hl
def outU (P : Program) (fn : Func) : RD (X × List T × Hp) → Option (T × Hp × List Bool)
 | .ok (.normal, fr, H) _ log => (resultT P fn fr H).map fun r => (r, H, log)
 | .ok (.ret, fr, H) _ log => (resultT P fn fr H).map fun r => (r, H, log)
 | _ => none
theorem ee_of (x : Cx P D F) {f : FuncId} {fn : Func} {c : Code} (h1 : okFn P f = true) (h2 : fnOk P f = true) (hfn : P.funcs[f]? = some fn) (hb : fn.body = some c) {ts : List T} {L : Nat} (hL : fn.ntmps - ts.length = L) {n : Nat} {H H' : Hp} {ds log : List Bool} {r : T}
  (h : outU P fn (evalCodeU P D F n c (ts ++ List.replicate L undefT) H ds []) = some (r, H', log)) (hl : allT log = true) : EeFn P D.gl f ts H r H' := by
 subst hL
 have he : evalFn P D.env F n f ts H = some (r, H') := by
  unfold evalFn
  rw [hfn]
  simp only
  rw [hb]
  simp only
  unfold outU at h
  split at h
  ·rename_i fr1 H1 ds1 log1 hr
   simp only [Option.map_eq_some_iff] at h
   obtain ⟨q, hq, e⟩ := h
   cases e
   rw [(codeU_ok n hr hl).1]
   simp only
   unfold resultT at hq
   split at hq <;> simp_all
  ·rename_i fr1 H1 ds1 log1 hr
   simp only [Option.map_eq_some_iff] at h
   obtain ⟨q, hq, e⟩ := h
   cases e
   rw [(codeU_ok n hr hl).1]
   simp only
   unfold resultT at hq
   split at hq <;> simp_all
  ·cases h
 exact ⟨h1, fun g vs hg hs hgl hv => fn_ok x.hm x.hE x.hF h2 he g vs hg hs hgl hv⟩
def edAdd (f : FuncId) (spec : List T → Hp → Option (T × Hp × List Bool)) (ed : FuncId → List T → Hp → Option (T × Hp × List Bool)) : FuncId → List T → Hp → Option (T × Hp × List Bool) := fun g ts H => if g = f then spec ts H else ed g ts H
theorem edAdd_ok {gl : Nat → Option T} {own : Tmp → Bool} {f : FuncId} {spec : List T → Hp → Option (T × Hp × List Bool)} {ed : FuncId → List T → Hp → Option (T × Hp × List Bool)} (h : EeOk P gl (Fc.ee ⟨own, ed⟩))
  (hs : ∀ ts H r H' cs, spec ts H = some (r, H', cs) → allT cs = true → EeFn P gl f ts H r H') (own' : Tmp → Bool) : EeOk P gl (Fc.ee ⟨own', edAdd f spec ed⟩) := by
 intro g ts H r H' hr
 unfold Fc.ee edAdd at hr
 simp only at hr
 by_cases e : g = f
 ·subst e
  simp only [if_true] at hr
  split at hr
  ·rename_i r1 H1 cs hq
   split at hr
   ·rename_i hc
    cases hr
    exact hs ts H r H' cs hq hc
   ·cases hr
  ·cases hr
 ·rw [if_neg e] at hr
  exact h g ts H r H' hr
def pdAddH (f : FuncId) (spec : Hp → List T → Option (T × List Bool)) (pd : Hp → FuncId → List T → Option (T × List Bool)) : Hp → FuncId → List T → Option (T × List Bool) := fun H g ts => if g = f then spec H ts else pd H g ts
def PeFn (P : Program) (gl : Nat → Option T) (H : Hp) (f : FuncId) (ts : List T) (r : T) : Prop :=
 okFn P f = true ∧ ∀ (g : G) (vs : List Value), Gok g → St g H → GlOk gl g → RdL g vs ts →
  Calls P f vs.toArray g.w fun e w' => ∃ v g', e = .returned v ∧ g'.w = w' ∧ PStep g g' ∧ Gok g' ∧ Rd g' v r
theorem pdAddH_ok {gl : Nat → Option T} {f : FuncId} {spec : Hp → List T → Option (T × List Bool)} {pd : Hp → FuncId → List T → Option (T × List Bool)} (h : PeOk P gl (Ed.env ⟨gl, pd⟩).pe)
  (hs : ∀ H ts r cs, spec H ts = some (r, cs) → allT cs = true → PeFn P gl H f ts r) : PeOk P gl (Ed.env ⟨gl, pdAddH f spec pd⟩).pe := by
 intro H k ts r hr
 simp only [Ed.env, pdAddH] at hr
 by_cases e : k = f
 ·subst e
  simp only [if_true] at hr
  split at hr
  ·rename_i r1 cs hq
   split at hr
   ·rename_i hc
    cases hr
    exact hs H ts r cs hq hc
   ·cases hr
  ·cases hr
 ·rw [if_neg e] at hr
  exact h H k ts r hr
end
end
end Go.Ps

/- The library's functions on the road, laid at this program (by the kit's lay-shelf and lay-plain). -/
namespace Go.Proofs.Tryz
open Go.Shelf
def lays156_ren : Go.Shelf.Ren := ⟨fun | 156 => 18 | 165 => 40 | 166 => 17 | 169 => 21 | 240 => 39 | 241 => 61 | 276 => 60 | 277 => 89 | n => n, fun | 31 => 48 | 9 => 9 | 3 => 3 | 4 => 4 | 0 => 0 | 20 => 20 | 72 => 47 | 76 => 52 | 70 => 44 | 37 => 45 | 75 => 51 | 127 => 70 | 164 => 86 | 5 => 5 | 80 => 58 | n => n, fun | n => n⟩
theorem lays156 : Go.Proofs.Lays.n156 prog lays156_ren := {
 mixed := by kernel_rfl
 f156 := func18.trans (congrArg some (by kernel_rfl))
 f165 := func40.trans (congrArg some (by kernel_rfl))
 f166 := func17.trans (congrArg some (by kernel_rfl))
 f169 := func21.trans (congrArg some (by kernel_rfl))
 f240 := func39.trans (congrArg some (by kernel_rfl))
 f241 := func61.trans (congrArg some (by kernel_rfl))
 f276 := func60.trans (congrArg some (by kernel_rfl))
 f277 := func89.trans (congrArg some (by kernel_rfl))
 t0 := underlying0
 a0 := isAgg0
 z0 := sizeOf0
 v0 := zeroValue0
 t3 := underlying3
 a3 := isAgg3
 z3 := sizeOf3
 v3 := zeroValue3
 t4 := underlying4
 a4 := isAgg4
 z4 := sizeOf4
 v4 := zeroValue4
 t9 := underlying9
 a9 := isAgg9
 z9 := sizeOf9
 v9 := zeroValue9
 t20 := underlying20
 a20 := isAgg20
 z20 := sizeOf20
 v20 := zeroValue20
 t31 := underlying48
 a31 := isAgg48
 z31 := sizeOf48
 v31 := zeroValue48
 t37 := underlying45
 a37 := isAgg45
 z37 := sizeOf45
 v37 := zeroValue45
 t70 := underlying44
 a70 := isAgg44
 z70 := sizeOf44
 v70 := zeroValue44
 t72 := underlying47
 a72 := isAgg47
 z72 := sizeOf47
 v72 := zeroValue47
 t75 := underlying51
 a75 := isAgg51
 z75 := sizeOf51
 v75 := zeroValue51
 t76 := underlying52
 a76 := isAgg52
 z76 := sizeOf52
 v76 := zeroValue52
 t127 := underlying70
 a127 := isAgg70
 z127 := sizeOf70
 v127 := zeroValue70
 t164 := underlying86
 a164 := isAgg86
 z164 := sizeOf86
 v164 := zeroValue86 }
theorem Builder_Extra_156 : Builder.Extra prog lays156_ren := {
 sizeBuilder := by kernel_rfl
 liesBuilder := by kernel_rfl
 t5 := underlying5
 a5 := isAgg5
 z5 := sizeOf5
 v5 := zeroValue5
 infoByte := by kernel_rfl
 cellsByte := by kernel_rfl
 sizeByte := by kernel_rfl
 neB5 := by decide }
def laysM171_ren : Go.Shelf.Ren := ⟨fun | 171 => 16 | 243 => 38 | 246 => 59 | 283 => 85 | 284 => 86 | 285 => 87 | 286 => 88 | 129 => 103 | 317 => 102 | 318 => 104 | 319 => 105 | 320 => 106 | 337 => 116 | 338 => 117 | n => n, fun | 3 => 3 | 9 => 9 | 2 => 2 | 4 => 4 | 171 => 107 | 0 => 0 | 53 => 108 | 37 => 45 | 5 => 5 | 173 => 111 | 212 => 128 | 51 => 129 | 20 => 20 | 213 => 130 | 46 => 125 | 232 => 148 | 233 => 149 | n => n, fun | 17 => 0 | 18 => 6 | 19 => 7 | n => n⟩
theorem laysM171 : Go.Proofs.LaysM.n171 prog laysM171_ren := {
 mixed := by kernel_rfl
 f129 := func103.trans (congrArg some (by kernel_rfl))
 f171 := func16.trans (congrArg some (by kernel_rfl))
 f243 := func38.trans (congrArg some (by kernel_rfl))
 f246 := func59.trans (congrArg some (by kernel_rfl))
 f283 := func85.trans (congrArg some (by kernel_rfl))
 f284 := func86.trans (congrArg some (by kernel_rfl))
 f285 := func87.trans (congrArg some (by kernel_rfl))
 f286 := func88.trans (congrArg some (by kernel_rfl))
 f317 := func102.trans (congrArg some (by kernel_rfl))
 f318 := func104.trans (congrArg some (by kernel_rfl))
 f319 := func105.trans (congrArg some (by kernel_rfl))
 f320 := func106.trans (congrArg some (by kernel_rfl))
 f337 := func116.trans (congrArg some (by kernel_rfl))
 f338 := func117.trans (congrArg some (by kernel_rfl))
 t0 := underlying0
 a0 := isAgg0
 z0 := sizeOf0
 v0 := zeroValue0
 t2 := underlying2
 a2 := isAgg2
 z2 := sizeOf2
 v2 := zeroValue2
 t3 := underlying3
 a3 := isAgg3
 z3 := sizeOf3
 v3 := zeroValue3
 t4 := underlying4
 a4 := isAgg4
 z4 := sizeOf4
 v4 := zeroValue4
 t5 := underlying5
 a5 := isAgg5
 z5 := sizeOf5
 v5 := zeroValue5
 t9 := underlying9
 a9 := isAgg9
 z9 := sizeOf9
 v9 := zeroValue9
 t20 := underlying20
 a20 := isAgg20
 z20 := sizeOf20
 v20 := zeroValue20
 t37 := underlying45
 a37 := isAgg45
 z37 := sizeOf45
 v37 := zeroValue45
 t46 := underlying125
 a46 := isAgg125
 z46 := sizeOf125
 v46 := zeroValue125
 t51 := underlying129
 a51 := isAgg129
 z51 := sizeOf129
 v51 := zeroValue129
 t53 := underlying108
 a53 := isAgg108
 z53 := sizeOf108
 v53 := zeroValue108
 t171 := underlying107
 a171 := isAgg107
 z171 := sizeOf107
 v171 := zeroValue107
 t173 := underlying111
 a173 := isAgg111
 z173 := sizeOf111
 v173 := zeroValue111
 t212 := underlying128
 a212 := isAgg128
 z212 := sizeOf128
 v212 := zeroValue128
 t213 := underlying130
 a213 := isAgg130
 z213 := sizeOf130
 t232 := underlying148
 a232 := isAgg148
 z232 := sizeOf148
 v232 := zeroValue148
 t233 := underlying149
 a233 := isAgg149
 z233 := sizeOf149
 v233 := zeroValue149
 g17 := by kernel_rfl
 g18 := by kernel_rfl
 g19 := by kernel_rfl
 i0 := by kernel_rfl
 i2 := by kernel_rfl
 i3 := by kernel_rfl
 i4 := by kernel_rfl
 i5 := by kernel_rfl
 i9 := by kernel_rfl
 i20 := by kernel_rfl
 i37 := by kernel_rfl
 i46 := by kernel_rfl
 i51 := by kernel_rfl
 i53 := by kernel_rfl
 i171 := by kernel_rfl
 i173 := by kernel_rfl
 i212 := by kernel_rfl
 i232 := by kernel_rfl
 i233 := by kernel_rfl
 m17 := by kernel_rfl
 m18 := by kernel_rfl
 m19 := by kernel_rfl }
def lays146_ren : Go.Shelf.Ren := ⟨fun | 146 => 27 | 221 => 48 | 268 => 67 | 138 => 68 | 143 => 69 | 195 => 91 | 197 => 92 | 218 => 93 | 219 => 94 | 260 => 107 | 217 => 108 | 225 => 109 | 224 => 110 | 267 => 111 | 266 => 118 | 314 => 119 | n => n, fun | 9 => 9 | 31 => 48 | 3 => 3 | 4 => 4 | 0 => 0 | 105 => 115 | 21 => 21 | 5 => 5 | 46 => 125 | 119 => 138 | 139 => 141 | 138 => 140 | 146 => 142 | 51 => 129 | n => n, fun | 1 => 1 | 3 => 4 | 4 => 5 | n => n⟩
theorem lays146 : Go.Proofs.Lays.n146 prog lays146_ren := {
 mixed := by kernel_rfl
 f138 := func68.trans (congrArg some (by kernel_rfl))
 f143 := func69.trans (congrArg some (by kernel_rfl))
 f146 := func27.trans (congrArg some (by kernel_rfl))
 f195 := func91.trans (congrArg some (by kernel_rfl))
 f197 := func92.trans (congrArg some (by kernel_rfl))
 f217 := func108.trans (congrArg some (by kernel_rfl))
 f218 := func93.trans (congrArg some (by kernel_rfl))
 f219 := func94.trans (congrArg some (by kernel_rfl))
 f221 := func48.trans (congrArg some (by kernel_rfl))
 f224 := func110.trans (congrArg some (by kernel_rfl))
 f225 := func109.trans (congrArg some (by kernel_rfl))
 f260 := func107.trans (congrArg some (by kernel_rfl))
 f266 := func118.trans (congrArg some (by kernel_rfl))
 f267 := func111.trans (congrArg some (by kernel_rfl))
 f268 := func67.trans (congrArg some (by kernel_rfl))
 f314 := func119.trans (congrArg some (by kernel_rfl))
 t0 := underlying0
 a0 := isAgg0
 z0 := sizeOf0
 v0 := zeroValue0
 t3 := underlying3
 a3 := isAgg3
 z3 := sizeOf3
 v3 := zeroValue3
 t4 := underlying4
 a4 := isAgg4
 z4 := sizeOf4
 v4 := zeroValue4
 t5 := underlying5
 a5 := isAgg5
 z5 := sizeOf5
 v5 := zeroValue5
 t9 := underlying9
 a9 := isAgg9
 z9 := sizeOf9
 v9 := zeroValue9
 t21 := underlying21
 a21 := isAgg21
 z21 := sizeOf21
 v21 := zeroValue21
 t31 := underlying48
 a31 := isAgg48
 z31 := sizeOf48
 v31 := zeroValue48
 t46 := underlying125
 a46 := isAgg125
 z46 := sizeOf125
 v46 := zeroValue125
 t51 := underlying129
 a51 := isAgg129
 z51 := sizeOf129
 v51 := zeroValue129
 t105 := underlying115
 a105 := isAgg115
 z105 := sizeOf115
 v105 := zeroValue115
 t119 := underlying138
 a119 := isAgg138
 z119 := sizeOf138
 t138 := underlying140
 a138 := isAgg140
 z138 := sizeOf140
 v138 := zeroValue140
 t139 := underlying141
 a139 := isAgg141
 z139 := sizeOf141
 v139 := zeroValue141
 t146 := underlying142
 a146 := isAgg142
 z146 := sizeOf142
 v146 := zeroValue142
 g1 := by kernel_rfl
 g3 := by kernel_rfl
 g4 := by kernel_rfl }
def lays145_ren : Go.Shelf.Ren := ⟨fun | 145 => 72 | 220 => 100 | 219 => 94 | 217 => 108 | 225 => 109 | 224 => 110 | 267 => 111 | 266 => 118 | 314 => 119 | n => n, fun | 9 => 9 | 4 => 4 | 59 => 94 | 3 => 3 | 5 => 5 | 46 => 125 | 146 => 142 | 51 => 129 | n => n, fun | 1 => 1 | n => n⟩
theorem lays145 : Go.Proofs.Lays.n145 prog lays145_ren := {
 mixed := by kernel_rfl
 f145 := func72.trans (congrArg some (by kernel_rfl))
 f217 := func108.trans (congrArg some (by kernel_rfl))
 f219 := func94.trans (congrArg some (by kernel_rfl))
 f220 := func100.trans (congrArg some (by kernel_rfl))
 f224 := func110.trans (congrArg some (by kernel_rfl))
 f225 := func109.trans (congrArg some (by kernel_rfl))
 f266 := func118.trans (congrArg some (by kernel_rfl))
 f267 := func111.trans (congrArg some (by kernel_rfl))
 f314 := func119.trans (congrArg some (by kernel_rfl))
 t3 := underlying3
 a3 := isAgg3
 z3 := sizeOf3
 v3 := zeroValue3
 t4 := underlying4
 a4 := isAgg4
 z4 := sizeOf4
 v4 := zeroValue4
 t5 := underlying5
 a5 := isAgg5
 z5 := sizeOf5
 v5 := zeroValue5
 t9 := underlying9
 a9 := isAgg9
 z9 := sizeOf9
 v9 := zeroValue9
 t46 := underlying125
 a46 := isAgg125
 z46 := sizeOf125
 v46 := zeroValue125
 t51 := underlying129
 a51 := isAgg129
 z51 := sizeOf129
 v51 := zeroValue129
 t59 := underlying94
 a59 := isAgg94
 z59 := sizeOf94
 v59 := zeroValue94
 t146 := underlying142
 a146 := isAgg142
 z146 := sizeOf142
 v146 := zeroValue142
 g1 := by kernel_rfl }
def laysC172_ren : Go.Shelf.Ren := ⟨fun | 172 => 49 | 244 => 70 | 245 => 71 | 247 => 95 | 279 => 96 | 280 => 97 | 281 => 98 | 282 => 99 | 287 => 112 | 316 => 113 | 171 => 16 | 205 => 114 | 321 => 120 | 322 => 121 | 243 => 38 | 246 => 59 | 283 => 85 | 284 => 86 | 285 => 87 | 286 => 88 | 129 => 103 | 317 => 102 | 318 => 104 | 319 => 105 | 320 => 106 | 337 => 116 | 338 => 117 | n => n, fun | 9 => 9 | 3 => 3 | 75 => 51 | 76 => 52 | 4 => 4 | 5 => 5 | 167 => 118 | 37 => 45 | 0 => 0 | 85 => 119 | 2 => 2 | 168 => 121 | 53 => 108 | 175 => 132 | 46 => 125 | 210 => 135 | 127 => 70 | 145 => 147 | 143 => 145 | 21 => 21 | 171 => 107 | 173 => 111 | 212 => 128 | 51 => 129 | 20 => 20 | 213 => 130 | 232 => 148 | 233 => 149 | 80 => 58 | n => n, fun | 15 => 2 | 16 => 3 | 17 => 0 | 18 => 6 | 19 => 7 | n => n⟩
theorem laysC172 : Go.Proofs.LaysC.n172 prog laysC172_ren := {
 mixed := by kernel_rfl
 f129 := func103.trans (congrArg some (by kernel_rfl))
 f171 := func16.trans (congrArg some (by kernel_rfl))
 f172 := func49.trans (congrArg some (by kernel_rfl))
 f205 := func114.trans (congrArg some (by kernel_rfl))
 f243 := func38.trans (congrArg some (by kernel_rfl))
 f244 := func70.trans (congrArg some (by kernel_rfl))
 f245 := func71.trans (congrArg some (by kernel_rfl))
 f246 := func59.trans (congrArg some (by kernel_rfl))
 f247 := func95.trans (congrArg some (by kernel_rfl))
 f279 := func96.trans (congrArg some (by kernel_rfl))
 f280 := func97.trans (congrArg some (by kernel_rfl))
 f281 := func98.trans (congrArg some (by kernel_rfl))
 f282 := func99.trans (congrArg some (by kernel_rfl))
 f283 := func85.trans (congrArg some (by kernel_rfl))
 f284 := func86.trans (congrArg some (by kernel_rfl))
 f285 := func87.trans (congrArg some (by kernel_rfl))
 f286 := func88.trans (congrArg some (by kernel_rfl))
 f287 := func112.trans (congrArg some (by kernel_rfl))
 f316 := func113.trans (congrArg some (by kernel_rfl))
 f317 := func102.trans (congrArg some (by kernel_rfl))
 f318 := func104.trans (congrArg some (by kernel_rfl))
 f319 := func105.trans (congrArg some (by kernel_rfl))
 f320 := func106.trans (congrArg some (by kernel_rfl))
 f321 := func120.trans (congrArg some (by kernel_rfl))
 f322 := func121.trans (congrArg some (by kernel_rfl))
 f337 := func116.trans (congrArg some (by kernel_rfl))
 f338 := func117.trans (congrArg some (by kernel_rfl))
 t0 := underlying0
 a0 := isAgg0
 z0 := sizeOf0
 v0 := zeroValue0
 t2 := underlying2
 a2 := isAgg2
 z2 := sizeOf2
 v2 := zeroValue2
 t3 := underlying3
 a3 := isAgg3
 z3 := sizeOf3
 v3 := zeroValue3
 t4 := underlying4
 a4 := isAgg4
 z4 := sizeOf4
 v4 := zeroValue4
 t5 := underlying5
 a5 := isAgg5
 z5 := sizeOf5
 v5 := zeroValue5
 t9 := underlying9
 a9 := isAgg9
 z9 := sizeOf9
 v9 := zeroValue9
 t20 := underlying20
 a20 := isAgg20
 z20 := sizeOf20
 v20 := zeroValue20
 t21 := underlying21
 a21 := isAgg21
 z21 := sizeOf21
 v21 := zeroValue21
 t37 := underlying45
 a37 := isAgg45
 z37 := sizeOf45
 v37 := zeroValue45
 t46 := underlying125
 a46 := isAgg125
 z46 := sizeOf125
 v46 := zeroValue125
 t51 := underlying129
 a51 := isAgg129
 z51 := sizeOf129
 v51 := zeroValue129
 t53 := underlying108
 a53 := isAgg108
 z53 := sizeOf108
 v53 := zeroValue108
 t75 := underlying51
 a75 := isAgg51
 z75 := sizeOf51
 v75 := zeroValue51
 t76 := underlying52
 a76 := isAgg52
 z76 := sizeOf52
 v76 := zeroValue52
 t85 := underlying119
 a85 := isAgg119
 z85 := sizeOf119
 v85 := zeroValue119
 t127 := underlying70
 a127 := isAgg70
 z127 := sizeOf70
 v127 := zeroValue70
 t143 := underlying145
 a143 := isAgg145
 z143 := sizeOf145
 v143 := zeroValue145
 t145 := underlying147
 a145 := isAgg147
 z145 := sizeOf147
 v145 := zeroValue147
 t167 := underlying118
 a167 := isAgg118
 z167 := sizeOf118
 v167 := zeroValue118
 t168 := underlying121
 a168 := isAgg121
 z168 := sizeOf121
 v168 := zeroValue121
 t171 := underlying107
 a171 := isAgg107
 z171 := sizeOf107
 v171 := zeroValue107
 t173 := underlying111
 a173 := isAgg111
 z173 := sizeOf111
 v173 := zeroValue111
 t175 := underlying132
 a175 := isAgg132
 z175 := sizeOf132
 v175 := zeroValue132
 t210 := underlying135
 a210 := isAgg135
 z210 := sizeOf135
 v210 := zeroValue135
 t212 := underlying128
 a212 := isAgg128
 z212 := sizeOf128
 v212 := zeroValue128
 t213 := underlying130
 a213 := isAgg130
 z213 := sizeOf130
 t232 := underlying148
 a232 := isAgg148
 z232 := sizeOf148
 v232 := zeroValue148
 t233 := underlying149
 a233 := isAgg149
 z233 := sizeOf149
 v233 := zeroValue149
 g15 := by kernel_rfl
 g16 := by kernel_rfl
 g17 := by kernel_rfl
 g18 := by kernel_rfl
 g19 := by kernel_rfl
 t80 := underlying58
 a80 := isAgg58
 z80 := sizeOf58
 v80 := zeroValue58
 i0 := by kernel_rfl
 i2 := by kernel_rfl
 i3 := by kernel_rfl
 i4 := by kernel_rfl
 i5 := by kernel_rfl
 i9 := by kernel_rfl
 i20 := by kernel_rfl
 i21 := by kernel_rfl
 i37 := by kernel_rfl
 i46 := by kernel_rfl
 i51 := by kernel_rfl
 i53 := by kernel_rfl
 i75 := by kernel_rfl
 i76 := by kernel_rfl
 i80 := by kernel_rfl
 i85 := by kernel_rfl
 i127 := by kernel_rfl
 i143 := by kernel_rfl
 i145 := by kernel_rfl
 i167 := by kernel_rfl
 i168 := by kernel_rfl
 i171 := by kernel_rfl
 i173 := by kernel_rfl
 i175 := by kernel_rfl
 i210 := by kernel_rfl
 i212 := by kernel_rfl
 i232 := by kernel_rfl
 i233 := by kernel_rfl
 m15 := by kernel_rfl
 m16 := by kernel_rfl
 m17 := by kernel_rfl
 m18 := by kernel_rfl
 m19 := by kernel_rfl
 c0 := by kernel_rfl
 c2 := by kernel_rfl
 c3 := by kernel_rfl
 c4 := by kernel_rfl
 c5 := by kernel_rfl
 c9 := by kernel_rfl
 c20 := by kernel_rfl
 c21 := by kernel_rfl
 c37 := by kernel_rfl
 c46 := by kernel_rfl
 c51 := by kernel_rfl
 c53 := by kernel_rfl
 c75 := by kernel_rfl
 c76 := by kernel_rfl
 c80 := by kernel_rfl
 c85 := by kernel_rfl
 c127 := by kernel_rfl
 c143 := by kernel_rfl
 c145 := by kernel_rfl
 c167 := by kernel_rfl
 c168 := by kernel_rfl
 c171 := by kernel_rfl
 c173 := by kernel_rfl
 c175 := by kernel_rfl
 c210 := by kernel_rfl
 c212 := by kernel_rfl
 c213 := by kernel_rfl
 c232 := by kernel_rfl
 c233 := by kernel_rfl }
end Go.Proofs.Tryz

/- The example of the chapter: known() is true: a closed run. -/
namespace Go.Proofs.Tryz
open Go.Ps
def gl : Nat → Option T := fun n => if n = 0 then some (.ref (.agg (Lib.pow10Tab.map (T.int .u64))) 0) else none
def efK (f : FuncId) : Bool := [13, 15, 17].contains f
def puK (f : FuncId) : Bool := [12, 14, 7, 32, 33, 34, 35, 36, 37, 19, 20, 41, 42, 53, 43, 54, 55, 56, 57, 58, 62, 63, 64, 65, 66, 75, 76, 77, 78, 79, 80, 81, 82, 83, 84, 51, 90].contains f
def ownK (f : FuncId) (d : Tmp) : Bool := if f = 5 then d == 4 else if f = 13 then d == 0 || d == 22 else if f = 7 then d == 5 else if f = 58 then d == 1 || d == 2 else false
def peK (f : FuncId) (ts : List T) : Option T := if f = 16 then itoaX ts else if f = 18 then joinX ts else none
def eeK (f : FuncId) (ts : List T) (H : Hp) : Option (T × Hp) := if f = 39 then copyX 47 ts H else if f = 21 then strX 47 5 ts H else none
def XK : Xt := Xt.mk gl peK eeK ownK puK efK 100 60
theorem follows : prog.follows .mixedOrders = true := by kernel_rfl
theorem fnsK : ([5, 12, 14, 13, 7, 32, 33, 34, 35, 36, 37, 15, 17, 19, 20, 41, 42, 53, 43, 54, 55, 56, 57, 58, 62, 63, 64, 65, 66, 75, 76, 77, 78, 79, 80, 81, 82, 83, 84, 51, 90].all fun f => okFn prog f && fnOk prog f) = true := by kernel_rfl
theorem glFrz : GlFrz gl := by
 intro k t h
 unfold gl at h
 split at h
 ·cases h; exact ⟨5, by kernel_rfl⟩
 ·cases h
theorem tab {g : G} (hg : GlOk gl g) (n : Int) (h0 : -9223372036854775808 ≤ n) (h1 : n ≤ 9223372036854775807) : Calls prog 16 #[.int .i64 n] g.w fun e w' => e = .returned (.string ⟨(Lib.itoa n).toArray⟩) ∧ ∃ k os, w' = Sort.grow (g.w.drewN k) os := by
 refine Any.strconv_Itoa laysM171 n h0 h1 g.w ?_
 obtain ⟨e, fz, h⟩ := tab_of (hg 0 _ rfl)
 unfold Lib.TabIs World.var?
 rw [show prog.globalNamed _ = some 0 by kernel_rfl]
 simp only [Option.bind_some, h]
theorem pcK : PcOk prog gl peK := by
 intro f ts r h
 unfold peK at h
 have key : PureFn prog gl f ts r := by
  split at h
  ·rename_i e; subst e
   exact itoa_pc (ρ := laysM171_ren) (by kernel_rfl) (fun g hg n h0 h1 => tab hg n h0 h1) ts r h
  ·split at h
   ·rename_i e; subst e
    exact join_pc lays156 Builder_Extra_156 (by kernel_rfl) ts r h
   ·cases h
 exact ⟨key.1, fun g vs hg hal => key.2 g vs hg ⟨0, fun l _ => hal l⟩⟩
theorem eoK : EeOk prog gl eeK := by
 intro f ts H r H' h
 unfold eeK at h
 split at h
 ·rename_i e; subst e
  exact copy_ee (ρ := lays156_ren) { lays156 with } Builder_Extra_156.toX72 (by kernel_rfl) h
 ·split at h
  ·rename_i e; subst e
   exact str_ee (ρ := lays156_ren) { lays156 with } Builder_Extra_156 (by kernel_rfl) h
  ·cases h
theorem okK (f : FuncId) (h : f ∈ [5, 12, 14, 13, 7, 32, 33, 34, 35, 36, 37, 15, 17, 19, 20, 41, 42, 53, 43, 54, 55, 56, 57, 58, 62, 63, 64, 65, 66, 75, 76, 77, 78, 79, 80, 81, 82, 83, 84, 51, 90]) : okFn prog f = true ∧ fnOk prog f = true := by
 have := List.all_eq_true.1 fnsK f h
 simpa using this
theorem knownRuns (d : Nat) : PcOk prog gl (runP prog XK d).1 ∧ EeOk prog gl (runP prog XK d).2 := by
 refine runP_ok (X := XK) follows (fun f h => okK f ?_) (fun f h => okK f ?_) glFrz pcK eoK d
 ·have : f ∈ [12, 14, 7, 32, 33, 34, 35, 36, 37, 19, 20, 41, 42, 53, 43, 54, 55, 56, 57, 58, 62, 63, 64, 65, 66, 75, 76, 77, 78, 79, 80, 81, 82, 83, 84, 51, 90] := List.contains_iff_mem.1 h
  exact List.contains_iff_mem.1 (List.all_eq_true.1 (show (List.all _ fun f => List.contains [5, 12, 14, 13, 7, 32, 33, 34, 35, 36, 37, 15, 17, 19, 20, 41, 42, 53, 43, 54, 55, 56, 57, 58, 62, 63, 64, 65, 66, 75, 76, 77, 78, 79, 80, 81, 82, 83, 84, 51, 90] f) = true by kernel_rfl) f this)
 ·have : f ∈ [13, 15, 17] := List.contains_iff_mem.1 h
  exact List.contains_iff_mem.1 (List.all_eq_true.1 (show (List.all _ fun f => List.contains [5, 12, 14, 13, 7, 32, 33, 34, 35, 36, 37, 15, 17, 19, 20, 41, 42, 53, 43, 54, 55, 56, 57, 58, 62, 63, 64, 65, 66, 75, 76, 77, 78, 79, 80, 81, 82, 83, 84, 51, 90] f) = true by kernel_rfl) f this)
theorem known_run : pureT prog ⟨gl, lend 60 (runP prog XK 11).1⟩ (fcOf (ownK 5) (runP prog XK 11).2) 100 60 5 [] = some (.bool true) := by kernel_rfl
theorem known_ok : PureFn prog gl 5 [] (.bool true) := by
 have hk := okK 5 (by decide)
 refine ⟨hk.1, fun g vs hg hN hgl hv => ?_⟩
 have hl : vs = [] := List.eq_nil_of_length_eq_zero (by simpa using hv.1)
 subst hl
 have hb : GlOk gl g.bare := by
  obtain ⟨N, hN⟩ := hN
  have hs : St g ⟨N, []⟩ := ⟨fun l o ho => by simp [Hp.get, findOb] at ho, fun l l' o o' ho => by simp [Hp.get, findOb] at ho, hN⟩
  have := GlOk.frz (g0 := g.bare) glFrz hs hgl
  rw [frz_nil] at this
  exact this
 refine (pureT_ok (E := ⟨gl, lend 60 (runP prog XK 11).1⟩) (F := fcOf (ownK 5) (runP prog XK 11).2) follows (lend_ok glFrz (knownRuns 11).1) (by rw [fcOf_ee]; exact (knownRuns 11).2) hk.2 known_run g.bare [] hg (fun _ q => q) hb RdL.nil).mono fun e w' ⟨v, g', e1, e2, e3, e4, e5⟩ => ?_
 refine ⟨v, { w := g'.w, S := g'.S, al := g.al, loc := g.loc, cp := g.cp }, e1, e2, ⟨e3.os, e3.tape, e3.output, e3.size, e3.block, e3.sub, e3.fresh, rfl, rfl, rfl⟩, e4, ?_⟩
 exact scal_rd rfl e5
end Go.Proofs.Tryz

/- Shares, and the law's own shares: both give the same list. -/
namespace Go.Proofs.Tryz
open Go.Ps
def shv (m p : Int) (i : Nat) : T := .int .i64 (if (i : Int) < m.tmod p then IntKind.i64.wrap (IntKind.i64.wrap (m.tdiv p) + 1) else IntKind.i64.wrap (m.tdiv p))
def shC (m p : Int) (n i : Nat) : List T := (List.range i).map (shv m p) ++ List.replicate (n - i) (.int .i64 0)
def sharesT (m p : Int) : T := if m < 0 ∨ p < 1 ∨ p > 65536 then .nils else .sl false ((List.range p.toNat).map (shv m p))
def D0 : Ed := ⟨gl, fun _ _ _ => none⟩
def F0 : Fc := ⟨fun _ => false, fun _ _ _ => none⟩
theorem D0ok : PeOk prog D0.gl D0.env.pe := pdNone_ok
theorem F0ok : EeOk prog D0.gl F0.ee := eeNone_ok
theorem shC_len (m p : Int) (n i : Nat) (h : i ≤ n) : (shC m p n i).length = n := by simp [shC]; omega
theorem shC_get (m p : Int) (n i : Nat) (h : i < n) : shC m p n i = (List.range i).map (shv m p) ++ .int .i64 0 :: List.replicate (n - (i + 1)) (.int .i64 0) := by
 unfold shC
 have : n - i = (n - (i + 1)) + 1 := by omega
 rw [this, List.replicate_succ]
theorem splice_mid (a b : List T) (x y : T) (i : Nat) (h : a.length = i) : spliceT (a ++ x :: b) i [y] = a ++ y :: b := by
 subst h
 simp [spliceT]
theorem shC_step (m p : Int) (n i : Nat) (h : i < n) (y : T) (hy : y = shv m p i) : spliceT (shC m p n i) i [y] = shC m p n (i + 1) := by
 rw [shC_get m p n i h, splice_mid _ _ _ _ _ (by simp), hy]
 unfold shC
 rw [List.range_succ, List.map_append]
 simp
section
set_option maxRecDepth 100000
theorem w9_nil1 (m p : Int) : outK prog f14 20 [] (runK prog D0 F0 1000 (.code (bodyOf f14)) [] 0 ([.int .i64 m, .int .i64 p] ++ List.replicate 41 undefT) ⟨0, []⟩ [true, true, true, true, true, true, true] [])
  = some (.done (some .nils), [true, true, true, true, decide (m < 0), decide (m < 0), decide (m < 0)], ⟨0, []⟩, [], 0) := by kernel_rfl
theorem w9_nil2 (m p : Int) : outK prog f14 20 [] (runK prog D0 F0 1000 (.code (bodyOf f14)) [] 0 ([.int .i64 m, .int .i64 p] ++ List.replicate 41 undefT) ⟨0, []⟩ [false, false, false, true, true, true, true] [])
  = some (.done (some .nils), [true, decide (p < 1), decide (p < 1), decide (p < 1), !decide (m < 0), !decide (m < 0), !decide (m < 0)], ⟨0, []⟩, [], 0) := by kernel_rfl
theorem w9_nil3 (m p : Int) : outK prog f14 20 [] (runK prog D0 F0 1000 (.code (bodyOf f14)) [] 0 ([.int .i64 m, .int .i64 p] ++ List.replicate 41 undefT) ⟨0, []⟩ [false, false, false, false, false, false, true] [])
  = some (.done (some .nils), [decide (p > 65536), !decide (p < 1), !decide (p < 1), !decide (p < 1), !decide (m < 0), !decide (m < 0), !decide (m < 0)], ⟨0, []⟩, [], 0) := by kernel_rfl
theorem w9_in (m p : Int) : outK prog f14 20 [0, 1, 5, 20, 21] (runK prog D0 F0 1000 (.code (bodyOf f14)) [] 0 ([.int .i64 m, .int .i64 p] ++ List.replicate 41 undefT) ⟨0, []⟩ [false, false, false, false, false, false, false] [])
  = some (.loop 0 (loopAt f14 0).1 (loopAt f14 0).2, [decide (0 ≤ p), decide (p = p), decide (p.toNat * 8 ≤ 70368744177664), decide (p ≤ 70368744177664), !decide (p > 65536), !decide (p < 1), !decide (p < 1), !decide (p < 1), !decide (m < 0), !decide (m < 0), !decide (m < 0)],
   ⟨1, [(0, ⟨3, 1, (List.replicate p.toNat (T.int .i64 0)).flatMap T.cells⟩)]⟩, [.int .i64 m, .int .i64 p, .osl 0 1 0 p.toNat, .int .i64 p.toNat, .int .i64 0], 43) := by kernel_rfl
theorem w9_end (m p : Int) (n i : Nat) (C fr : List T) : outK prog f14 20 [] (runK prog D0 F0 1000 (.code (loopAt f14 0).1) (.lp :: (loopAt f14 0).2) 0 (frK [0, 1, 5, 20, 21] [.int .i64 m, .int .i64 p, .osl 0 1 0 n, .int .i64 n, .int .i64 i] fr 43) ⟨1, [(0, ⟨3, 1, C⟩)]⟩ [false] [])
  = some (.done (frzT 20 ⟨1, [(0, ⟨3, 1, C⟩)]⟩ (.osl 0 1 0 n)), [!decide ((i : Int) < n)], ⟨0, []⟩, [], 0) := by kernel_rfl
theorem w9_lo (m p : Int) (n i : Nat) (C fr : List T) : outK prog f14 20 [0, 1, 5, 20, 21] (runK prog D0 F0 1000 (.code (loopAt f14 0).1) (.lp :: (loopAt f14 0).2) 0 (frK [0, 1, 5, 20, 21] [.int .i64 m, .int .i64 p, .osl 0 1 0 n, .int .i64 n, .int .i64 i] fr 43) ⟨1, [(0, ⟨3, 1, C⟩)]⟩ [true, false] [])
  = some (.again 0, [!decide ((i : Int) < m.tmod p), p != 0, true, decide ((0 + i) * 1 + 1 ≤ C.length), true, decide (0 ≤ (i : Int)), decide ((i : Int) < n), p != 0, decide ((i : Int) < n)],
   ⟨1, [(0, ⟨3, 1, spliceT C ((0 + i) * 1) [.int .i64 (IntKind.i64.wrap (m.tdiv p))]⟩)]⟩, [.int .i64 m, .int .i64 p, .osl 0 1 0 n, .int .i64 n, .int .i64 (IntKind.i64.wrap ((i : Int) + 1))], 43) := by kernel_rfl
theorem w9_hi (m p : Int) (n i : Nat) (C fr : List T) : outK prog f14 20 [0, 1, 5, 20, 21] (runK prog D0 F0 1000 (.code (loopAt f14 0).1) (.lp :: (loopAt f14 0).2) 0 (frK [0, 1, 5, 20, 21] [.int .i64 m, .int .i64 p, .osl 0 1 0 n, .int .i64 n, .int .i64 i] fr 43) ⟨1, [(0, ⟨3, 1, C⟩)]⟩ [true, true] [])
  = some (.again 0, [true, decide ((0 + i) * 1 + 1 ≤ (spliceT C ((0 + i) * 1) [.int .i64 (IntKind.i64.wrap (m.tdiv p))]).length), true, decide (0 ≤ (i : Int)), decide ((i : Int) < n),
    isInt .i64 ((spliceT C ((0 + i) * 1) [.int .i64 (IntKind.i64.wrap (m.tdiv p))]).getD ((0 + i) * 1) undefT), decide ((0 + i) * 1 < (spliceT C ((0 + i) * 1) [.int .i64 (IntKind.i64.wrap (m.tdiv p))]).length), true, decide (0 ≤ (i : Int)), decide ((i : Int) < n),
    decide ((i : Int) < m.tmod p), p != 0, true, decide ((0 + i) * 1 + 1 ≤ C.length), true, decide (0 ≤ (i : Int)), decide ((i : Int) < n), p != 0, decide ((i : Int) < n)],
   ⟨1, [(0, ⟨3, 1, spliceT (spliceT C ((0 + i) * 1) [.int .i64 (IntKind.i64.wrap (m.tdiv p))]) ((0 + i) * 1) [.int .i64 (IntKind.i64.wrap (intv ((spliceT C ((0 + i) * 1) [.int .i64 (IntKind.i64.wrap (m.tdiv p))]).getD ((0 + i) * 1) undefT) + 1))]⟩)]⟩,
   [.int .i64 m, .int .i64 p, .osl 0 1 0 n, .int .i64 n, .int .i64 (IntKind.i64.wrap ((i : Int) + 1))], 43) := by kernel_rfl
theorem body9_ok : codeOk (bodyOf f14) = true := by kernel_rfl
theorem loop9_ok : codeOk (loopAt f14 0).1 = true := by kernel_rfl
theorem ks9_ok : ksOk (.lp :: (loopAt f14 0).2) = true := by kernel_rfl
theorem cx0 : Cx prog D0 F0 := ⟨follows, D0ok, F0ok⟩
theorem loop9 (m p : Int) (n : Nat) (hn : n ≤ 65536) (hp : p ≠ 0) : ∀ (i : Nat) (fr : List T) (H : Hp), i ≤ n → [0, 1, 5, 20, 21].map (getT fr) = [.int .i64 m, .int .i64 p, .osl 0 1 0 n, .int .i64 n, .int .i64 i] → fr.length = 43 → H = ⟨1, [(0, ⟨3, 1, shC m p n i⟩)]⟩ →
  Ps.Good prog D0.env (.loop (loopAt f14 0).1) fr H (postK prog D0.env (Ps.Ends prog f14 20 (.sl false (shC m p n n))) (loopAt f14 0).2 []) := by
 refine loop_data (α := Nat) [0, 1, 5, 20, 21] 43 (fun i => [.int .i64 m, .int .i64 p, .osl 0 1 0 n, .int .i64 n, .int .i64 (i : Nat)]) (fun i => ⟨1, [(0, ⟨3, 1, shC m p n i⟩)]⟩) (fun i => i ≤ n) (fun i => n - i) (fun i fr hi => ?_)
 have hlen := shC_len m p n i hi
 by_cases h1 : i < n
 ·have e0 : (0 + i) * 1 = i := by omega
  have ei : IntKind.i64.wrap ((i : Int) + 1) = ((i + 1 : Nat) : Int) := by rw [IntWalk.i64_in _ (by omega)]; omega
  by_cases h2 : (i : Int) < m.tmod p
  ·have hs : spliceT (shC m p n i) i [.int .i64 (IntKind.i64.wrap (m.tdiv p))] = (List.range i).map (shv m p) ++ .int .i64 (IntKind.i64.wrap (m.tdiv p)) :: List.replicate (n - (i + 1)) (.int .i64 0) := by
    rw [shC_get m p n i h1, splice_mid _ _ _ _ _ (by simp)]
   have hg : (spliceT (shC m p n i) i [.int .i64 (IntKind.i64.wrap (m.tdiv p))]).getD i undefT = .int .i64 (IntKind.i64.wrap (m.tdiv p)) := by
    rw [hs, List.getD_eq_getElem?_getD, List.getElem?_append_right (by simp)]
    simp
   have hl2 : (spliceT (shC m p n i) i [.int .i64 (IntKind.i64.wrap (m.tdiv p))]).length = n := by rw [hs]; simp; omega
   refine cx0.again loop9_ok ks9_ok (w9_hi m p n i _ fr) ?_ rfl ?_
   ·simp only [e0, hg, hl2, hlen, allT, isInt]
    simp [hp, h2, h1]
    omega
   ·intro fr' hk hl
    refine ⟨i + 1, by omega, by omega, ?_, hl, ?_⟩
    ·rw [hk, ei]
    ·rw [e0, hg, hs, splice_mid _ _ _ _ _ (by simp)]
     have : shC m p n (i + 1) = (List.range i).map (shv m p) ++ shv m p i :: List.replicate (n - (i + 1)) (.int .i64 0) := by
      unfold shC
      rw [List.range_succ, List.map_append]
      simp
     rw [this]
     simp only [intv, shv, if_pos h2]
  ·refine cx0.again loop9_ok ks9_ok (w9_lo m p n i _ fr) ?_ rfl ?_
   ·simp only [e0, hlen, allT]
    simp [hp, h1]
    omega
   ·intro fr' hk hl
    refine ⟨i + 1, by omega, by omega, ?_, hl, ?_⟩
    ·rw [hk, ei]
    ·rw [e0, shC_step m p n i h1 _ (by simp only [shv, if_neg h2])]
 ·have hin : i = n := by omega
  subst hin
  refine cx0.done loop9_ok ks9_ok (w9_end m p i i _ fr) ?_ ?_
  ·refine frz_row (d := 18) (o := ⟨3, 1, shC m p i i⟩) rfl rfl hlen ?_
   simp [shC, shv, scal1]
  ·simp [allT]
theorem f9_ok (m p : Int) : PureFn prog gl 14 [.int .i64 m, .int .i64 p] (sharesT m p) := by
 refine pure_good0 (E := D0.env) (k := 20) (d := 1) (fn := f14) (c := bodyOf f14) glFrz (okK 14 (by decide)).1 func14 (by kernel_rfl) (by kernel_rfl) ?_
 show Ps.Good prog D0.env (bodyOf f14) ([.int .i64 m, .int .i64 p] ++ List.replicate 41 undefT) ⟨0, []⟩ (postK prog D0.env (Ps.Ends prog f14 20 (sharesT m p)) [] [])
 by_cases h1 : m < 0
 ·refine cx0.done body9_ok rfl (w9_nil1 m p) ?_ ?_
  ·simp [sharesT, h1]
  ·simp [allT, h1]
 ·by_cases h2 : p < 1
  ·refine cx0.done body9_ok rfl (w9_nil2 m p) ?_ ?_
   ·simp [sharesT, h2]
   ·simp [allT, h1, h2]
  ·by_cases h3 : p > 65536
   ·refine cx0.done body9_ok rfl (w9_nil3 m p) ?_ ?_
    ·simp [sharesT, h3]
    ·simp [allT, h1, h2, h3]
   ·refine cx0.loop body9_ok rfl (w9_in m p) ?_ ?_
    ·simp only [allT]
     simp [h1, h2, h3]
     omega
    ·intro fr hk hl
     have hr : sharesT m p = .sl false (shC m p p.toNat p.toNat) := by
      simp only [sharesT, shC]
      rw [if_neg (by omega)]
      simp
     rw [hr]
     refine loop9 m p p.toNat (by omega) (by omega) 0 fr _ (by omega) hk hl ?_
     have : (List.replicate p.toNat (T.int .i64 0)).flatMap T.cells = List.replicate p.toNat (T.int .i64 0) := (flat_single _ (by simp [T.isAgg])).1
     rw [this]
     simp [shC]
end
end Go.Proofs.Tryz

/- The builder: what lies in the heap, and what WriteString does. -/
namespace Go.Proofs.Tryz
noncomputable section
open Go.Ps
set_option maxRecDepth 100000
def pb (p : Prop) : Bool := @decide p (Classical.propDecidable p)
theorem pb_iff {p : Prop} : pb p = true ↔ p := by unfold pb; simp
def u8s (s : List UInt8) : List T := s.map fun b => T.int .u8 b.toNat
theorem u8s_len (s : List UInt8) : (u8s s).length = s.length := by simp [u8s]
theorem u8s_app (s t : List UInt8) : u8s (s ++ t) = u8s s ++ u8s t := by simp [u8s]
theorem u8s_one : ∀ (s : List UInt8), allOne (u8s s) = true
 | [] => rfl
 | x :: r => by
  have := u8s_one r
  unfold u8s at this ⊢
  simp [allOne, T.one, this]
def wfH (H : Hp) : Prop := ∀ m o, H.get m = some o → m < H.next
theorem get_new (H : Hp) (o : Ob) (m : Nat) : (H.new o).get m = if m = H.next then some o else H.get m := by
 show (if H.next = m then some o else findOb H.objs m) = _
 by_cases h : m = H.next
 ·subst h; simp
 ·rw [if_neg (fun e => h e.symm), if_neg h]; rfl
theorem wf_new {H : Hp} (h : wfH H) (o : Ob) : wfH (H.new o) := by
 intro m q hq
 rw [get_new] at hq
 show m < H.next + 1
 split at hq
 ·omega
 ·have := h m q hq; omega
theorem wf_put {H : Hp} (h : wfH H) {l : Nat} (hl : (H.get l).isSome = true) (o : Ob) : wfH (H.put l o) := by
 intro m q hq
 rw [get_put H l o m hl] at hq
 show m < H.next
 split at hq
 ·rename_i e; subst e
  obtain ⟨o', ho'⟩ := Option.isSome_iff_exists.1 hl
  exact h _ _ ho'
 ·exact h m q hq
theorem wf_drop {H : Hp} (h : wfH H) (l : Nat) : wfH (H.drop l) := by
 intro m q hq
 rw [get_drop] at hq
 show m < H.next
 split at hq
 ·cases hq
 ·exact h m q hq
theorem obv_eq {H : Hp} {l : Nat} {o : Ob} (h : H.get l = some o) : obv H l = o := by unfold obv; rw [h]
def Bd (H : Hp) (l : Nat) (B : List UInt8) : Prop :=
 wfH H ∧ ((B = [] ∧ H.get l = some ⟨47, 0, [.nilp, .nils]⟩) ∨ (B ≠ [] ∧ ∃ L, L ≠ l ∧ H.get l = some ⟨47, 0, [.ptr l 0, .osl L 1 0 B.length]⟩ ∧ H.get L = some ⟨5, 1, u8s B⟩))
def cpH (H : Hp) (l : Nat) : Hp := match copyX 47 [.ptr l 0] H with
 | some (_, H') => H'
 | none => H
def e39 : List T → Hp → Option (T × Hp × List Bool)
 | [.ptr l 0], H => some (.tup [], cpH H l, [pb (copyX 47 [.ptr l 0] H = some (.tup [], cpH H l))])
 | _, _ => none
def F17w : Fc := ⟨fun d => d == 12, edAdd 39 e39 (fun _ _ _ => none)⟩
theorem e39_ok (ts : List T) (H : Hp) (r : T) (H' : Hp) (cs : List Bool) (h : e39 ts H = some (r, H', cs)) (hc : allT cs = true) : EeFn prog gl 39 ts H r H' := by
 unfold e39 at h
 split at h
 ·cases h
  simp only [allT, Bool.and_true, pb_iff] at hc
  exact copy_ee (ρ := lays156_ren) { lays156 with } Builder_Extra_156.toX72 (by kernel_rfl) hc
 ·cases h
theorem cx17w : Cx prog D0 F17w := ⟨follows, D0ok, edAdd_ok (own := fun _ => false) eeNone_ok e39_ok _⟩
def h17n (H1 : Hp) (l : Nat) (s : List UInt8) : Hp :=
 (H1.new ⟨5, 1, u8s s⟩).put l { obv (H1.new ⟨5, 1, u8s s⟩) l with cells := spliceT (obv (H1.new ⟨5, 1, u8s s⟩) l).cells 1 [.osl H1.next 1 0 s.length] }
def b17 (H1 : Hp) (l : Nat) : T := (obv H1 l).cells.getD 1 undefT
def n17o (H1 : Hp) (l : Nat) (s : List UInt8) : Hp := (H1.drop (oslL (b17 H1 l))).new ⟨5, 1, (obv H1 (oslL (b17 H1 l))).cells ++ u8s s⟩
def h17o (H1 : Hp) (l : Nat) (s : List UInt8) : Hp :=
 (n17o H1 l s).put l { obv (n17o H1 l s) l with cells := spliceT (obv (n17o H1 l s) l).cells 1 [.osl H1.next 1 0 (oslN (b17 H1 l) + s.length)] }
theorem w17n (l : Nat) (x : UInt8) (xs : List UInt8) (H : Hp) : outU prog f17 (evalCodeU prog D0 F17w 10 (bodyOf f17) ([.ptr l 0, .str (x :: xs)] ++ List.replicate 17 undefT) H [true] [])
  = some (.tup [.int .i64 ((x :: xs).length : Nat), .nili], h17n (cpH H l) l (x :: xs), [true, obIn ((cpH H l).new ⟨5, 1, u8s (x :: xs)⟩) l 2, true, decide ((u8s (x :: xs)).length = (x :: xs).length * 1), allOne (u8s (x :: xs)), roomT (x :: xs).length 1, isNils (b17 (cpH H l) l), obIn (cpH H l) l 2, true,
   pb (copyX 47 [.ptr l 0] H = some (.tup [], cpH H l))]) := by kernel_rfl
theorem w17o (l : Nat) (x : UInt8) (xs : List UInt8) (H : Hp) : outU prog f17 (evalCodeU prog D0 F17w 10 (bodyOf f17) ([.ptr l 0, .str (x :: xs)] ++ List.replicate 17 undefT) H [false] [])
  = some (.tup [.int .i64 ((x :: xs).length : Nat), .nili], h17o (cpH H l) l (x :: xs), [true, obIn (n17o (cpH H l) l (x :: xs)) l 2, true, decide ((u8s (x :: xs)).length = (x :: xs).length * 1), allOne (u8s (x :: xs)), obApp (cpH H l) (oslL (b17 (cpH H l) l)) 5 1 (oslN (b17 (cpH H l) l)), roomT (oslN (b17 (cpH H l) l) + (x :: xs).length) 1,
   isOsl1 (b17 (cpH H l) l), obIn (cpH H l) l 2, true, pb (copyX 47 [.ptr l 0] H = some (.tup [], cpH H l))]) := by kernel_rfl
theorem wr_ex {H : Hp} {l : Nat} {B : List UInt8} (h : Bd H l B) (x : UInt8) (xs : List UInt8) (hr : B.length + (x :: xs).length ≤ 1000000000) :
  ∃ H', EeFn prog gl 17 [.ptr l 0, .str (x :: xs)] H (.tup [.int .i64 ((x :: xs).length : Nat), .nili]) H' ∧ Bd H' l (B ++ x :: xs) := by
 obtain ⟨hw, h⟩ := h
 have hfn : okFn prog 17 = true ∧ fnOk prog 17 = true := ⟨by kernel_rfl, by kernel_rfl⟩
 have c1 : decide ((u8s (x :: xs)).length = (x :: xs).length * 1) = true := decide_eq_true (by rw [u8s_len]; omega)
 have c2 := u8s_one (x :: xs)
 rcases h with ⟨rfl, hl⟩ | ⟨hB, L, hL, hl, hLo⟩
 ·have hc : copyX 47 [.ptr l 0] H = some (.tup [], H.put l ⟨47, 0, [.ptr l 0, .nils]⟩) := by simp [copyX, hl]
  have e1 : cpH H l = H.put l ⟨47, 0, [.ptr l 0, .nils]⟩ := by unfold cpH; rw [hc]
  have hs : (H.get l).isSome = true := by rw [hl]; rfl
  have g1 : (cpH H l).get l = some ⟨47, 0, [.ptr l 0, .nils]⟩ := by rw [e1, get_put H l _ l hs, if_pos rfl]
  have w1 : wfH (cpH H l) := by rw [e1]; exact wf_put hw hs _
  have hne : l ≠ (cpH H l).next := by have := w1 _ _ g1; omega
  have g2 : ((cpH H l).new ⟨5, 1, u8s (x :: xs)⟩).get l = some ⟨47, 0, [.ptr l 0, .nils]⟩ := by rw [get_new, if_neg hne, g1]
  have hs2 : (((cpH H l).new ⟨5, 1, u8s (x :: xs)⟩).get l).isSome = true := by rw [g2]; rfl
  have e2 : h17n (cpH H l) l (x :: xs) = ((cpH H l).new ⟨5, 1, u8s (x :: xs)⟩).put l ⟨47, 0, [.ptr l 0, .osl (cpH H l).next 1 0 (x :: xs).length]⟩ := by
   unfold h17n
   rw [obv_eq g2]
   rfl
  refine ⟨h17n (cpH H l) l (x :: xs), ee_of (c := bodyOf f17) cx17w hfn.1 hfn.2 func17 (by kernel_rfl) (by kernel_rfl) (w17n l x xs H) ?_, ?_⟩
  ·have c3 : obIn ((cpH H l).new ⟨5, 1, u8s (x :: xs)⟩) l 2 = true := by unfold obIn; rw [g2]; rfl
   have c4 : obIn (cpH H l) l 2 = true := by unfold obIn; rw [g1]; rfl
   have c5 : isNils (b17 (cpH H l) l) = true := by unfold b17; rw [obv_eq g1]; rfl
   have c6 : pb (copyX 47 [.ptr l 0] H = some (.tup [], cpH H l)) = true := pb_iff.2 (by rw [e1]; exact hc)
   have c7 : roomT (x :: xs).length 1 = true := by unfold roomT; rw [decide_eq_true (by simp at hr ⊢; omega), decide_eq_true (by simp at hr ⊢; omega)]; rfl
   simp only [allT, c1, c2, c3, c4, c5, c6, c7, Bool.and_true]
  ·rw [e2]
   refine ⟨wf_put (wf_new w1 _) hs2 _, .inr ⟨by simp, (cpH H l).next, fun e => hne e.symm, ?_, ?_⟩⟩
   ·rw [get_put _ _ _ _ hs2, if_pos rfl]; rfl
   ·rw [get_put _ _ _ _ hs2, if_neg (fun e => hne e.symm), get_new, if_pos rfl]; rfl
 ·have hc : copyX 47 [.ptr l 0] H = some (.tup [], H) := by simp [copyX, hl]
  have e1 : cpH H l = H := by unfold cpH; rw [hc]
  have b1 : b17 H l = .osl L 1 0 B.length := by unfold b17; rw [obv_eq hl]; rfl
  have e3 : n17o H l (x :: xs) = (H.drop L).new ⟨5, 1, u8s (B ++ x :: xs)⟩ := by
   unfold n17o
   rw [b1]
   simp only [oslL]
   rw [obv_eq hLo, u8s_app]
  have hnl := hw _ _ hl
  have hnL := hw _ _ hLo
  have g2 : (n17o H l (x :: xs)).get l = some ⟨47, 0, [.ptr l 0, .osl L 1 0 B.length]⟩ := by
   rw [e3, get_new, if_neg (by show l ≠ H.next; omega), get_drop, if_neg (fun e => hL e.symm), hl]
  have hs2 : ((n17o H l (x :: xs)).get l).isSome = true := by rw [g2]; rfl
  have e2 : h17o H l (x :: xs) = (n17o H l (x :: xs)).put l ⟨47, 0, [.ptr l 0, .osl H.next 1 0 (B ++ x :: xs).length]⟩ := by
   unfold h17o
   rw [obv_eq g2, b1]
   simp only [oslN, List.length_append]
   rfl
  refine ⟨h17o (cpH H l) l (x :: xs), ee_of (c := bodyOf f17) cx17w hfn.1 hfn.2 func17 (by kernel_rfl) (by kernel_rfl) (w17o l x xs H) ?_, ?_⟩
  ·rw [e1]
   have c3 : obIn (n17o H l (x :: xs)) l 2 = true := by unfold obIn; rw [g2]; rfl
   have c4 : obIn H l 2 = true := by unfold obIn; rw [hl]; rfl
   have c5 : isOsl1 (b17 H l) = true := by rw [b1]; rfl
   have c6 : pb (copyX 47 [.ptr l 0] H = some (.tup [], H)) = true := pb_iff.2 hc
   have c7 : roomT (oslN (b17 H l) + (x :: xs).length) 1 = true := by
    rw [b1]; unfold roomT oslN; rw [decide_eq_true (by simp at hr ⊢; omega), decide_eq_true (by simp at hr ⊢; omega)]; rfl
   have c8 : obApp H (oslL (b17 H l)) 5 1 (oslN (b17 H l)) = true := by
    rw [b1]; unfold obApp oslL oslN; simp only; rw [hLo]; simp [u8s_len]
   simp only [allT, c1, c2, c3, c4, c5, c6, c7, c8, Bool.and_true]
  ·rw [e1, e2]
   have w3 : wfH (n17o H l (x :: xs)) := by rw [e3]; exact wf_new (wf_drop hw L) _
   refine ⟨wf_put w3 hs2 _, .inr ⟨by simp, H.next, by omega, ?_, ?_⟩⟩
   ·rw [get_put _ _ _ _ hs2, if_pos rfl]
   ·rw [get_put _ _ _ _ hs2, if_neg (by omega), e3, get_new, if_pos (show H.next = (H.drop L).next from rfl)]
end
end Go.Proofs.Tryz

/- The law's own shares, and BalanceShares: true. -/
namespace Go.Proofs.Tryz
open Go.Ps
theorem fnsA : ([47].all fun f => okFn prog f && fnOk prog f) = true := by kernel_rfl
theorem okA (f : FuncId) (h : f ∈ [47]) : okFn prog f = true ∧ fnOk prog f = true := by
 have := List.all_eq_true.1 fnsA f h
 simpa using this
section
set_option maxRecDepth 100000
theorem w10_1 (m p : Int) : outK prog f47 20 [0, 1, 5, 6] (runK prog D0 F0 1000 (.code (bodyOf f47)) [] 0 ([.int .i64 m, .int .i64 p] ++ List.replicate 40 undefT) ⟨0, []⟩ [true, true, true, true, true, true, true] [])
  = some (OutT.done (some T.nils), [true, true, true, true, decide (m < 0), decide (m < 0), decide (m < 0)], ⟨0, []⟩, [], 0) := by kernel_rfl
theorem w10_2 (m p : Int) : outK prog f47 20 [0, 1, 5, 6] (runK prog D0 F0 1000 (.code (bodyOf f47)) [] 0 ([.int .i64 m, .int .i64 p] ++ List.replicate 40 undefT) ⟨0, []⟩ [false, false, false, true, true, true, true] [])
  = some (OutT.done (some T.nils), [true, decide (p < 1), decide (p < 1), decide (p < 1), !decide (m < 0), !decide (m < 0), !decide (m < 0)], ⟨0, []⟩, [], 0) := by kernel_rfl
theorem w10_3 (m p : Int) : outK prog f47 20 [0, 1, 5, 6] (runK prog D0 F0 1000 (.code (bodyOf f47)) [] 0 ([.int .i64 m, .int .i64 p] ++ List.replicate 40 undefT) ⟨0, []⟩ [false, false, false, false, false, false, true] [])
  = some (OutT.done (some T.nils), [decide (p > 65536), !decide (p < 1), !decide (p < 1), !decide (p < 1), !decide (m < 0), !decide (m < 0), !decide (m < 0)], ⟨0, []⟩, [], 0) := by kernel_rfl
theorem w10_4 (m p : Int) : outK prog f47 20 [0, 1, 5, 6] (runK prog D0 F0 1000 (.code (bodyOf f47)) [] 0 ([.int .i64 m, .int .i64 p] ++ List.replicate 40 undefT) ⟨0, []⟩ [false, false, false, false, false, false, false] [])
  = some (OutT.loop 0 (loopAt f47 0).1 (loopAt f47 0).2, [decide (0 ≤ p), decide (p = p), decide (p.toNat * 8 ≤ 70368744177664), decide (p ≤ 70368744177664), !decide (p > 65536), !decide (p < 1), !decide (p < 1), !decide (p < 1), !decide (m < 0), !decide (m < 0), !decide (m < 0)], { next := 1, objs := [(0, { elem := 3, sz := 1, cells := List.flatMap T.cells (List.replicate p.toNat (T.int IntKind.i64 0)) })] }, [T.int IntKind.i64 m, T.int IntKind.i64 p, T.osl 0 1 0 p.toNat, T.int IntKind.i64 0], 42) := by kernel_rfl
theorem w10l_1 (m p : Int) (n i : Nat) (C fr : List T) : outK prog f47 20 [0, 1, 5, 6] (runK prog D0 F0 1000 (.code (loopAt f47 0).1) (.lp :: (loopAt f47 0).2) 0 (frK [0, 1, 5, 6] [.int .i64 m, .int .i64 p, .osl 0 1 0 n, .int .i64 i] fr 42) ⟨1, [(0, ⟨3, 1, C⟩)]⟩ [true, true] [])
  = some (OutT.again 0, [true, decide ((0 + i) * 1 + 1 ≤ (spliceT C ((0 + i) * 1) [T.int IntKind.i64 (IntKind.i64.wrap (m.tdiv p))]).length), true, true, decide ((↑i : Int) < (↑n : Int)), isInt IntKind.i64 ((spliceT C ((0 + i) * 1) [T.int IntKind.i64 (IntKind.i64.wrap (m.tdiv p))]).getD ((0 + i) * 1) undefT), decide ((0 + i) * 1 < (spliceT C ((0 + i) * 1) [T.int IntKind.i64 (IntKind.i64.wrap (m.tdiv p))]).length), true, true, decide ((↑i : Int) < (↑n : Int)), decide ((↑i : Int) < m.tmod p), p != 0, true, decide ((0 + i) * 1 + 1 ≤ C.length), true, true, decide ((↑i : Int) < (↑n : Int)), p != 0, decide ((↑i : Int) < p)], { next := 1, objs := [(0, { elem := 3, sz := 1, cells := spliceT (spliceT C ((0 + i) * 1) [T.int IntKind.i64 (IntKind.i64.wrap (m.tdiv p))]) ((0 + i) * 1) [T.int IntKind.i64 (IntKind.i64.wrap (intv ((spliceT C ((0 + i) * 1) [T.int IntKind.i64 (IntKind.i64.wrap (m.tdiv p))]).getD ((0 + i) * 1) undefT) + 1))] })] }, [T.int IntKind.i64 m, T.int IntKind.i64 p, T.osl 0 1 0 n, T.int IntKind.i64 (IntKind.i64.wrap ((↑i : Int) + 1))], 42) := by kernel_rfl
theorem w10l_2 (m p : Int) (n i : Nat) (C fr : List T) : outK prog f47 20 [0, 1, 5, 6] (runK prog D0 F0 1000 (.code (loopAt f47 0).1) (.lp :: (loopAt f47 0).2) 0 (frK [0, 1, 5, 6] [.int .i64 m, .int .i64 p, .osl 0 1 0 n, .int .i64 i] fr 42) ⟨1, [(0, ⟨3, 1, C⟩)]⟩ [true, false] [])
  = some (OutT.again 0, [!decide ((↑i : Int) < m.tmod p), p != 0, true, decide ((0 + i) * 1 + 1 ≤ C.length), true, true, decide ((↑i : Int) < (↑n : Int)), p != 0, decide ((↑i : Int) < p)], { next := 1, objs := [(0, { elem := 3, sz := 1, cells := spliceT C ((0 + i) * 1) [T.int IntKind.i64 (IntKind.i64.wrap (m.tdiv p))] })] }, [T.int IntKind.i64 m, T.int IntKind.i64 p, T.osl 0 1 0 n, T.int IntKind.i64 (IntKind.i64.wrap ((↑i : Int) + 1))], 42) := by kernel_rfl
theorem w10l_3 (m p : Int) (n i : Nat) (C fr : List T) : outK prog f47 20 [0, 1, 5, 6] (runK prog D0 F0 1000 (.code (loopAt f47 0).1) (.lp :: (loopAt f47 0).2) 0 (frK [0, 1, 5, 6] [.int .i64 m, .int .i64 p, .osl 0 1 0 n, .int .i64 i] fr 42) ⟨1, [(0, ⟨3, 1, C⟩)]⟩ [false] [])
  = some (OutT.done (frzT 20 { next := 1, objs := [(0, { elem := 3, sz := 1, cells := C })] } (T.osl 0 1 0 n)), [!decide ((↑i : Int) < p)], ⟨0, []⟩, [], 0) := by kernel_rfl
theorem body10_ok : codeOk (bodyOf f47) = true := by kernel_rfl
theorem loop10_ok : codeOk (loopAt f47 0).1 = true := by kernel_rfl
theorem ks10_ok : ksOk (.lp :: (loopAt f47 0).2) = true := by kernel_rfl
theorem loop10 (m p : Int) (n : Nat) (hn : n ≤ 65536) (hp : p ≠ 0) (hnp : (n : Int) = p) : ∀ (i : Nat) (fr : List T) (H : Hp), i ≤ n → [0, 1, 5, 6].map (getT fr) = [.int .i64 m, .int .i64 p, .osl 0 1 0 n, .int .i64 i] → fr.length = 42 → H = ⟨1, [(0, ⟨3, 1, shC m p n i⟩)]⟩ →
  Ps.Good prog D0.env (.loop (loopAt f47 0).1) fr H (postK prog D0.env (Ps.Ends prog f47 20 (.sl false (shC m p n n))) (loopAt f47 0).2 []) := by
 refine loop_data (α := Nat) [0, 1, 5, 6] 42 (fun i => [.int .i64 m, .int .i64 p, .osl 0 1 0 n, .int .i64 (i : Nat)]) (fun i => ⟨1, [(0, ⟨3, 1, shC m p n i⟩)]⟩) (fun i => i ≤ n) (fun i => n - i) (fun i fr hi => ?_)
 have hlen := shC_len m p n i hi
 by_cases h1 : i < n
 ·have e0 : (0 + i) * 1 = i := by omega
  have ei : IntKind.i64.wrap ((i : Int) + 1) = ((i + 1 : Nat) : Int) := by rw [IntWalk.i64_in _ (by omega)]; omega
  by_cases h2 : (i : Int) < m.tmod p
  ·have hs : spliceT (shC m p n i) i [.int .i64 (IntKind.i64.wrap (m.tdiv p))] = (List.range i).map (shv m p) ++ .int .i64 (IntKind.i64.wrap (m.tdiv p)) :: List.replicate (n - (i + 1)) (.int .i64 0) := by
    rw [shC_get m p n i h1, splice_mid _ _ _ _ _ (by simp)]
   have hg : (spliceT (shC m p n i) i [.int .i64 (IntKind.i64.wrap (m.tdiv p))]).getD i undefT = .int .i64 (IntKind.i64.wrap (m.tdiv p)) := by
    rw [hs, List.getD_eq_getElem?_getD, List.getElem?_append_right (by simp)]
    simp
   have hl2 : (spliceT (shC m p n i) i [.int .i64 (IntKind.i64.wrap (m.tdiv p))]).length = n := by rw [hs]; simp; omega
   refine cx0.again loop10_ok ks10_ok (w10l_1 m p n i _ fr) ?_ rfl ?_
   ·simp only [e0, hg, hl2, hlen, allT, isInt]
    simp [hp, h2, h1]
    omega
   ·intro fr' hk hl
    refine ⟨i + 1, by omega, by omega, ?_, hl, ?_⟩
    ·rw [hk, ei]
    ·rw [e0, hg, hs, splice_mid _ _ _ _ _ (by simp)]
     have : shC m p n (i + 1) = (List.range i).map (shv m p) ++ shv m p i :: List.replicate (n - (i + 1)) (.int .i64 0) := by
      unfold shC
      rw [List.range_succ, List.map_append]
      simp
     rw [this]
     simp only [intv, shv, if_pos h2]
  ·refine cx0.again loop10_ok ks10_ok (w10l_2 m p n i _ fr) ?_ rfl ?_
   ·simp only [e0, hlen, allT]
    simp [hp, h1]
    omega
   ·intro fr' hk hl
    refine ⟨i + 1, by omega, by omega, ?_, hl, ?_⟩
    ·rw [hk, ei]
    ·rw [e0, shC_step m p n i h1 _ (by simp only [shv, if_neg h2])]
 ·have hin : i = n := by omega
  subst hin
  refine cx0.done loop10_ok ks10_ok (w10l_3 m p i i _ fr) ?_ ?_
  ·refine frz_row (d := 18) (o := ⟨3, 1, shC m p i i⟩) rfl rfl hlen ?_
   simp [shC, shv, scal1]
  ·simp [allT]
   omega
theorem f10_ok (m p : Int) : PureFn prog gl 47 [.int .i64 m, .int .i64 p] (sharesT m p) := by
 refine pure_good0 (E := D0.env) (k := 20) (d := 1) (fn := f47) (c := bodyOf f47) glFrz (okA 47 (by decide)).1 func47 (by kernel_rfl) (by kernel_rfl) ?_
 show Ps.Good prog D0.env (bodyOf f47) ([.int .i64 m, .int .i64 p] ++ List.replicate 40 undefT) ⟨0, []⟩ (postK prog D0.env (Ps.Ends prog f47 20 (sharesT m p)) [] [])
 by_cases h1 : m < 0
 ·refine cx0.done body10_ok rfl (w10_1 m p) ?_ ?_
  ·simp [sharesT, h1]
  ·simp [allT, h1]
 ·by_cases h2 : p < 1
  ·refine cx0.done body10_ok rfl (w10_2 m p) ?_ ?_
   ·simp [sharesT, h2]
   ·simp [allT, h1, h2]
  ·by_cases h3 : p > 65536
   ·refine cx0.done body10_ok rfl (w10_3 m p) ?_ ?_
    ·simp [sharesT, h3]
    ·simp [allT, h1, h2, h3]
   ·refine cx0.loop body10_ok rfl (w10_4 m p) ?_ ?_
    ·simp only [allT]
     simp [h1, h2, h3]
     omega
    ·intro fr hk hl
     have hr : sharesT m p = .sl false (shC m p p.toNat p.toNat) := by
      simp only [sharesT, shC]
      rw [if_neg (by omega)]
      simp
     rw [hr]
     refine loop10 m p p.toNat (by omega) (by omega) (by omega) 0 fr _ (by omega) hk hl ?_
     have : (List.replicate p.toNat (T.int .i64 0)).flatMap T.cells = List.replicate p.toNat (T.int .i64 0) := (flat_single _ (by simp [T.isAgg])).1
     rw [this]
     simp [shC]
end
def shI (m p : Int) (i : Nat) : Int := if (i : Int) < m.tmod p then IntKind.i64.wrap (IntKind.i64.wrap (m.tdiv p) + 1) else IntKind.i64.wrap (m.tdiv p)
def shN (m p : Int) : Nat := if m < 0 ∨ p < 1 ∨ p > 65536 then 0 else p.toNat
def shF (m p : Int) : T := .slf false (shN m p) (fun i => .int .i64 (shI m p i))
theorem sh_slf (m p : Int) {g : G} {v : Value} (h : Rd g v (sharesT m p)) : Rd g v (shF m p) := by
 unfold sharesT at h
 unfold shF shN
 by_cases c : m < 0 ∨ p < 1 ∨ p > 65536
 ·rw [if_pos c] at h ⊢
  exact rd_nslf _ _ h
 ·rw [if_neg c] at h ⊢
  refine rd_slf h ?_ (by simp) ?_
  ·intro x hx
   obtain ⟨i, _, rfl⟩ := List.mem_map.1 hx
   rfl
  ·intro i hi
   rw [List.getElem?_map, List.getElem?_range hi]
   simp only [Option.map_some, shv, shI]
def s9 : List T → Option (T × List Bool)
 | [.int .i64 m, .int .i64 p] => some (shF m p, [])
 | _ => none
def s6 : List T → Option (T × List Bool)
 | [] => some (.bool true, [])
 | _ => none
def D1 : Ed := ⟨gl, pdAdd 5 s6 (pdAdd 14 s9 (pdAdd 47 s9 (fun _ _ _ => none)))⟩
theorem s9_ok {f : FuncId} (hf : ∀ m p, PureFn prog gl f [.int .i64 m, .int .i64 p] (sharesT m p)) (ts : List T) (r : T) (cs : List Bool) (h : s9 ts = some (r, cs)) : PureFn prog gl f ts r := by
 unfold s9 at h
 split at h
 ·cases h
  exact (hf _ _).mono fun g v q => sh_slf _ _ q
 ·cases h
theorem s6_ok (ts : List T) (r : T) (cs : List Bool) (h : s6 ts = some (r, cs)) : PureFn prog gl 5 ts r := by
 unfold s6 at h
 split at h
 ·cases h; exact known_ok
 ·cases h
theorem cx1 : Cx prog D1 F0 := ⟨follows, pdAdd_ok (pdAdd_ok (pdAdd_ok pdNone_ok (fun ts r cs h _ => s9_ok f10_ok ts r cs h)) (fun ts r cs h _ => s9_ok f9_ok ts r cs h)) (fun ts r cs h _ => s6_ok ts r cs h), F0ok⟩
end Go.Proofs.Tryz

/- The data of the layer balance as trees: stamps, lines, certificates. -/
namespace Go.Ps
structure Sp where
 entry : Int
 n : Nat
 at_ : Nat → Int
structure Ln where
 st : Sp
 mass : Int
 k : Nat
 from_ : Nat → Sp
 fate : Int
 closed : Int
 node : List UInt8
structure Ct where
 entries : Int
 accepted : Int
 delivered : Int
 waiting : Int
 letters : Int
 discarded : Int
 n : Nat
 line : Nat → Ln
def isT (n : Nat) (f : Nat → Int) : T := .slf false n (fun i => .int .i64 (f i))
def spT (s : Sp) : T := .agg [.int .i64 s.entry, .slf false s.n (fun i => .int .i64 (s.at_ i))]
def ssT (n : Nat) (f : Nat → Sp) : T := .slf false n (fun i => spT (f i))
def lnT (x : Ln) : T := .agg [.int .i64 x.st.entry, .slf false x.st.n (fun i => .int .i64 (x.st.at_ i)), .int .i64 x.mass, .slf false x.k (fun i => spT (x.from_ i)), .int .i64 x.fate, .int .i64 x.closed, .str x.node]
def lsT (n : Nat) (f : Nat → Ln) : T := .slf false n (fun i => lnT (f i))
def ctT (c : Ct) : T := .agg [.int .i64 c.entries, .int .i64 c.accepted, .int .i64 c.delivered, .int .i64 c.waiting, .int .i64 c.letters, .int .i64 c.discarded, .slf false c.n (fun i => lnT (c.line i))]
def slN : T → Nat
 | .slf _ n _ => n
 | _ => 0
def slF : T → Nat → T
 | .slf _ _ f => f
 | _ => fun _ => undefT
def strv : T → List UInt8
 | .str s => s
 | _ => []
def isv (t : T) (i : Nat) : Int := intv (slF t i)
def spv : T → Sp
 | .agg [e, p] => ⟨intv e, slN p, fun i => intv (slF p i)⟩
 | _ => ⟨0, 0, fun _ => 0⟩
def ssv (t : T) (i : Nat) : Sp := spv (slF t i)
def lnv : T → Ln
 | .agg [e, p, m, fs, fa, cl, nd] => ⟨⟨intv e, slN p, fun i => intv (slF p i)⟩, intv m, slN fs, fun i => spv (slF fs i), intv fa, intv cl, strv nd⟩
 | _ => ⟨⟨0, 0, fun _ => 0⟩, 0, 0, fun _ => ⟨0, 0, fun _ => 0⟩, 0, 0, []⟩
def lsv (t : T) (i : Nat) : Ln := lnv (slF t i)
def ctv : T → Ct
 | .agg [a, b, c, d, e, f, l] => ⟨intv a, intv b, intv c, intv d, intv e, intv f, slN l, fun i => lnv (slF l i)⟩
 | _ => ⟨0, 0, 0, 0, 0, 0, 0, fun _ => lnv undefT⟩
noncomputable def isV (t u : T) : Bool := @decide (t = u) (Classical.propDecidable _)
theorem isV_iff {t u : T} : isV t u = true ↔ t = u := by unfold isV; simp
@[simp] theorem isV_self (t : T) : isV t t = true := isV_iff.2 rfl
@[simp] theorem spv_spT (s : Sp) : spv (spT s) = s := rfl
@[simp] theorem lnv_lnT (x : Ln) : lnv (lnT x) = x := rfl
@[simp] theorem ctv_ctT (c : Ct) : ctv (ctT c) = c := rfl
end Go.Ps

/- First contracts, by program (gen2). -/
namespace Go.Proofs.Tryz
noncomputable section
open Go.Ps
set_option maxRecDepth 100000
/-! ### 66 -/
theorem w66_s_1 (x : Int) : outK prog f90 20 [] (runK prog D0 F0 2000 (.code (bodyOf f90)) [] 0 ([.int .i64 x] ++ List.replicate 5 undefT) ⟨0, []⟩ [] [])
  = some (OutT.done (some (T.bool (x != x))), [], ⟨0, []⟩, [], 0) := by kernel_rfl
def o66 (x : Int) : Option (Empty ⊕ T) :=
 if allT [] then some (.inr (T.bool (x != x))) else
 none
theorem run66 (x : Int) {n : Nat} {o : Empty ⊕ T} {r : T} (h : o66 x = some o) (hr : noM.fin n o = some r) : PureFn prog gl 90 [.int .i64 x] r := by
 refine pure_mach (M := noM) (fn := f90) (k := 20) (d := 8) (c := bodyOf f90) cx0 glFrz (by kernel_rfl) func90 (by kernel_rfl) rfl (by kernel_rfl) (by kernel_rfl) (L := 5) (by kernel_rfl) noM_ways (fun σ => σ.elim) ?_ hr
 unfold o66 at h
 rcases ite_or h with ⟨hk, h⟩ | h
 ·cases h
  exact ⟨2000, _, _, _, _, _, _, w66_s_1 x, hk⟩
 cases h
/-! ### 47 -/
def r47_s (x : Int) (ds : List Bool) : RD Out := runK prog D0 F0 2000 (.code (bodyOf f62)) [] 0 ([.int .i64 x] ++ List.replicate 8 undefT) ⟨0, []⟩ ds []
theorem w47_s_1 (x : Int) : outK prog f62 20 [] (r47_s x [true, true, true])
  = some (OutT.done (some (T.bool true)), [decide (x < 0), decide (x < 0), decide (x < 0)], ⟨0, []⟩, [], 0) := by kernel_rfl
theorem w47_s_2 (x : Int) : outK prog f62 20 [] (r47_s x [false, false, false])
  = some (OutT.done (some (T.bool (decide (x > 65535)))), [!decide (x < 0), !decide (x < 0), !decide (x < 0)], ⟨0, []⟩, [], 0) := by kernel_rfl
def o47 (x : Int) : Option (Empty ⊕ T) :=
 if allT [decide (x < 0), decide (x < 0), decide (x < 0)] then some (.inr (T.bool true)) else
 if allT [!decide (x < 0), !decide (x < 0), !decide (x < 0)] then some (.inr (T.bool (decide (x > 65535)))) else
 none
theorem run47 (x : Int) {n : Nat} {o : Empty ⊕ T} {r : T} (h : o47 x = some o) (hr : noM.fin n o = some r) : PureFn prog gl 62 [.int .i64 x] r := by
 refine pure_mach (M := noM) (fn := f62) (k := 20) (d := 8) (c := bodyOf f62) cx0 glFrz (by kernel_rfl) func62 (by kernel_rfl) rfl (by kernel_rfl) (by kernel_rfl) (L := 8) (by kernel_rfl) noM_ways (fun σ => σ.elim) ?_ hr
 unfold o47 at h
 rcases ite_or h with ⟨hk, h⟩ | h
 ·cases h
  exact ⟨2000, _, _, _, _, _, _, w47_s_1 x, hk⟩
 rcases ite_or h with ⟨hk, h⟩ | h
 ·cases h
  exact ⟨2000, _, _, _, _, _, _, w47_s_2 x, hk⟩
 cases h
/-! ### 34 -/
theorem w34_s_1 (x : Ln) : outK prog f53 20 [] (runK prog D0 F0 2000 (.code (bodyOf f53)) [] 0 ([lnT x] ++ List.replicate 5 undefT) ⟨0, []⟩ [] [])
  = some (OutT.done (some (T.bool (x.fate == 0))), [], ⟨0, []⟩, [], 0) := by kernel_rfl
def o34 (x : Ln) : Option (Empty ⊕ T) :=
 if allT [] then some (.inr (T.bool (x.fate == 0))) else
 none
theorem run34 (x : Ln) {n : Nat} {o : Empty ⊕ T} {r : T} (h : o34 x = some o) (hr : noM.fin n o = some r) : PureFn prog gl 53 [lnT x] r := by
 refine pure_mach (M := noM) (fn := f53) (k := 20) (d := 8) (c := bodyOf f53) cx0 glFrz (by kernel_rfl) func53 (by kernel_rfl) rfl (by kernel_rfl) (by kernel_rfl) (L := 5) (by kernel_rfl) noM_ways (fun σ => σ.elim) ?_ hr
 unfold o34 at h
 rcases ite_or h with ⟨hk, h⟩ | h
 ·cases h
  exact ⟨2000, _, _, _, _, _, _, w34_s_1 x, hk⟩
 cases h
/-! ### 37 -/
def r37_s (s : Sp) (ds : List Bool) : RD Out := runK prog D0 F0 2000 (.code (bodyOf f55)) [] 0 ([spT s] ++ List.replicate 13 undefT) ⟨0, []⟩ ds []
theorem w37_s_1 (s : Sp) : outK prog f55 20 [] (r37_s s (bt 6 63))
  = some (OutT.done (some (T.bool (s.at_ 0 == 1))), [(↑s.n : Int) == 1, (↑s.n : Int) == 1, (↑s.n : Int) == 1, true, decide (0 < (↑s.n : Int)), true, (↑s.n : Int) == 1, (↑s.n : Int) == 1, (↑s.n : Int) == 1], ⟨0, []⟩, [], 0) := by kernel_rfl
theorem w37_s_2 (s : Sp) : outK prog f55 20 [] (r37_s s (bt 6 0))
  = some (OutT.done (some (T.bool false)), [!(↑s.n : Int) == 1, !(↑s.n : Int) == 1, !(↑s.n : Int) == 1, !(↑s.n : Int) == 1, !(↑s.n : Int) == 1, !(↑s.n : Int) == 1], ⟨0, []⟩, [], 0) := by kernel_rfl
def o37 (s : Sp) : Option (Empty ⊕ T) :=
 if allT [(↑s.n : Int) == 1, (↑s.n : Int) == 1, (↑s.n : Int) == 1, true, decide (0 < (↑s.n : Int)), true, (↑s.n : Int) == 1, (↑s.n : Int) == 1, (↑s.n : Int) == 1] then some (.inr (T.bool (s.at_ 0 == 1))) else
 if allT [!(↑s.n : Int) == 1, !(↑s.n : Int) == 1, !(↑s.n : Int) == 1, !(↑s.n : Int) == 1, !(↑s.n : Int) == 1, !(↑s.n : Int) == 1] then some (.inr (T.bool false)) else
 none
theorem run37 (s : Sp) {n : Nat} {o : Empty ⊕ T} {r : T} (h : o37 s = some o) (hr : noM.fin n o = some r) : PureFn prog gl 55 [spT s] r := by
 refine pure_mach (M := noM) (fn := f55) (k := 20) (d := 8) (c := bodyOf f55) cx0 glFrz (by kernel_rfl) func55 (by kernel_rfl) rfl (by kernel_rfl) (by kernel_rfl) (L := 13) (by kernel_rfl) noM_ways (fun σ => σ.elim) ?_ hr
 unfold o37 at h
 rcases ite_or h with ⟨hk, h⟩ | h
 ·cases h
  exact ⟨2000, _, _, _, _, _, _, w37_s_1 s, hk⟩
 rcases ite_or h with ⟨hk, h⟩ | h
 ·cases h
  exact ⟨2000, _, _, _, _, _, _, w37_s_2 s, hk⟩
 cases h
/-! ### 42 -/
def r42_s (s : Sp) (ds : List Bool) : RD Out := runK prog D0 F0 2000 (.code (bodyOf f45)) [] 0 ([spT s] ++ List.replicate 13 undefT) ⟨0, []⟩ ds []
theorem w42_s_1 (s : Sp) : outK prog f45 20 [] (r42_s s (bt 6 63))
  = some (OutT.done (some (T.bool (s.at_ 0 == 1))), [(↑s.n : Int) == 1, (↑s.n : Int) == 1, (↑s.n : Int) == 1, true, decide (0 < (↑s.n : Int)), true, (↑s.n : Int) == 1, (↑s.n : Int) == 1, (↑s.n : Int) == 1], ⟨0, []⟩, [], 0) := by kernel_rfl
theorem w42_s_2 (s : Sp) : outK prog f45 20 [] (r42_s s (bt 6 0))
  = some (OutT.done (some (T.bool false)), [!(↑s.n : Int) == 1, !(↑s.n : Int) == 1, !(↑s.n : Int) == 1, !(↑s.n : Int) == 1, !(↑s.n : Int) == 1, !(↑s.n : Int) == 1], ⟨0, []⟩, [], 0) := by kernel_rfl
def o42 (s : Sp) : Option (Empty ⊕ T) :=
 if allT [(↑s.n : Int) == 1, (↑s.n : Int) == 1, (↑s.n : Int) == 1, true, decide (0 < (↑s.n : Int)), true, (↑s.n : Int) == 1, (↑s.n : Int) == 1, (↑s.n : Int) == 1] then some (.inr (T.bool (s.at_ 0 == 1))) else
 if allT [!(↑s.n : Int) == 1, !(↑s.n : Int) == 1, !(↑s.n : Int) == 1, !(↑s.n : Int) == 1, !(↑s.n : Int) == 1, !(↑s.n : Int) == 1] then some (.inr (T.bool false)) else
 none
theorem run42 (s : Sp) {n : Nat} {o : Empty ⊕ T} {r : T} (h : o42 s = some o) (hr : noM.fin n o = some r) : PureFn prog gl 45 [spT s] r := by
 refine pure_mach (M := noM) (fn := f45) (k := 20) (d := 8) (c := bodyOf f45) cx0 glFrz (by kernel_rfl) func45 (by kernel_rfl) rfl (by kernel_rfl) (by kernel_rfl) (L := 13) (by kernel_rfl) noM_ways (fun σ => σ.elim) ?_ hr
 unfold o42 at h
 rcases ite_or h with ⟨hk, h⟩ | h
 ·cases h
  exact ⟨2000, _, _, _, _, _, _, w42_s_1 s, hk⟩
 rcases ite_or h with ⟨hk, h⟩ | h
 ·cases h
  exact ⟨2000, _, _, _, _, _, _, w42_s_2 s, hk⟩
 cases h
/-! ### 35 -/
def r35_s (s : List UInt8) (ds : List Bool) : RD Out := runK prog D0 F0 2000 (.code (bodyOf f43)) [] 0 ([.str s] ++ List.replicate 46 undefT) ⟨0, []⟩ ds []
theorem w35_s_1 (s : List UInt8) : outK prog f43 20 [] (r35_s s (bt 5 31))
  = some (OutT.done (some (T.bool false)), [true, decide ((↑s.length : Int) < 1), decide ((↑s.length : Int) < 1), decide ((↑s.length : Int) < 1), decide ((↑s.length : Int) < 1)], ⟨0, []⟩, [], 0) := by kernel_rfl
theorem w35_s_2 (s : List UInt8) : outK prog f43 20 [] (r35_s s (bt 5 16))
  = some (OutT.done (some (T.bool false)), [decide ((↑s.length : Int) > 32), !decide ((↑s.length : Int) < 1), !decide ((↑s.length : Int) < 1), !decide ((↑s.length : Int) < 1), !decide ((↑s.length : Int) < 1)], ⟨0, []⟩, [], 0) := by kernel_rfl
theorem w35_s_3 (s : List UInt8) : outK prog f43 20 [0, 15, 16] (r35_s s (bt 5 0))
  = some (OutT.loop 0 (loopAt f43 0).1 (loopAt f43 0).2, [!decide ((↑s.length : Int) > 32), !decide ((↑s.length : Int) < 1), !decide ((↑s.length : Int) < 1), !decide ((↑s.length : Int) < 1), !decide ((↑s.length : Int) < 1)], ⟨0, []⟩, [T.str s, T.int .i64 (↑s.length : Int), T.int .i64 0], 47) := by kernel_rfl
def r35_0 (s : List UInt8) (x15 x16 : Int) (fr : List T) (ds : List Bool) : RD Out := runK prog D0 F0 2000 (.code (loopAt f43 0).1) (.lp :: (loopAt f43 0).2) 0 (frK [0, 15, 16] [T.str s, T.int .i64 x15, T.int .i64 x16] fr 47) ⟨0, []⟩ ds []
theorem w35_0_1 (s : List UInt8) (x15 x16 : Int) (fr : List T) : outK prog f43 20 [] (r35_0 s x15 x16 fr (bt 15 32767))
  = some (OutT.done (some (T.bool false)), [true, !decide ((↑(s.getD x16.toNat 0).toNat : Int) ≤ 122), x16 == 0, !decide ((↑(s.getD x16.toNat 0).toNat : Int) ≤ 122), x16 == 0, x16 == 0, x16 == 0, x16 == 0, !decide ((↑(s.getD x16.toNat 0).toNat : Int) ≤ 122), !decide ((↑(s.getD x16.toNat 0).toNat : Int) ≤ 122), !decide ((↑(s.getD x16.toNat 0).toNat : Int) ≤ 122), decide ((↑(s.getD x16.toNat 0).toNat : Int) ≥ 97), decide ((↑(s.getD x16.toNat 0).toNat : Int) ≥ 97), decide ((↑(s.getD x16.toNat 0).toNat : Int) ≥ 97), decide (0 ≤ x16), decide (x16 < (↑s.length : Int)), decide (x16 < x15)], ⟨0, []⟩, [], 0) := by kernel_rfl
theorem w35_0_2 (s : List UInt8) (x15 x16 : Int) (fr : List T) : outK prog f43 20 [] (r35_0 s x15 x16 fr (bt 23 7208063))
  = some (OutT.done (some (T.bool false)), [true, !decide ((↑(s.getD x16.toNat 0).toNat : Int) ≤ 122), !x16 == 0, !decide ((↑(s.getD x16.toNat 0).toNat : Int) ≤ 122), (↑(s.getD x16.toNat 0).toNat : Int) != 95, !x16 == 0, decide ((↑(s.getD x16.toNat 0).toNat : Int) < 48), (↑(s.getD x16.toNat 0).toNat : Int) != 95, decide ((↑(s.getD x16.toNat 0).toNat : Int) < 48), decide ((↑(s.getD x16.toNat 0).toNat : Int) < 48), (↑(s.getD x16.toNat 0).toNat : Int) != 95, (↑(s.getD x16.toNat 0).toNat : Int) != 95, (↑(s.getD x16.toNat 0).toNat : Int) != 95, !x16 == 0, !x16 == 0, !x16 == 0, !decide ((↑(s.getD x16.toNat 0).toNat : Int) ≤ 122), !decide ((↑(s.getD x16.toNat 0).toNat : Int) ≤ 122), !decide ((↑(s.getD x16.toNat 0).toNat : Int) ≤ 122), decide ((↑(s.getD x16.toNat 0).toNat : Int) ≥ 97), decide ((↑(s.getD x16.toNat 0).toNat : Int) ≥ 97), decide ((↑(s.getD x16.toNat 0).toNat : Int) ≥ 97), decide (0 ≤ x16), decide (x16 < (↑s.length : Int)), decide (x16 < x15)], ⟨0, []⟩, [], 0) := by kernel_rfl
theorem w35_0_3 (s : List UInt8) (x15 x16 : Int) (fr : List T) : outK prog f43 20 [] (r35_0 s x15 x16 fr (bt 23 7117951))
  = some (OutT.done (some (T.bool false)), [decide ((↑(s.getD x16.toNat 0).toNat : Int) > 57), !decide ((↑(s.getD x16.toNat 0).toNat : Int) ≤ 122), !x16 == 0, !decide ((↑(s.getD x16.toNat 0).toNat : Int) ≤ 122), (↑(s.getD x16.toNat 0).toNat : Int) != 95, !x16 == 0, !decide ((↑(s.getD x16.toNat 0).toNat : Int) < 48), (↑(s.getD x16.toNat 0).toNat : Int) != 95, !decide ((↑(s.getD x16.toNat 0).toNat : Int) < 48), !decide ((↑(s.getD x16.toNat 0).toNat : Int) < 48), (↑(s.getD x16.toNat 0).toNat : Int) != 95, (↑(s.getD x16.toNat 0).toNat : Int) != 95, (↑(s.getD x16.toNat 0).toNat : Int) != 95, !x16 == 0, !x16 == 0, !x16 == 0, !decide ((↑(s.getD x16.toNat 0).toNat : Int) ≤ 122), !decide ((↑(s.getD x16.toNat 0).toNat : Int) ≤ 122), !decide ((↑(s.getD x16.toNat 0).toNat : Int) ≤ 122), decide ((↑(s.getD x16.toNat 0).toNat : Int) ≥ 97), decide ((↑(s.getD x16.toNat 0).toNat : Int) ≥ 97), decide ((↑(s.getD x16.toNat 0).toNat : Int) ≥ 97), decide (0 ≤ x16), decide (x16 < (↑s.length : Int)), decide (x16 < x15)], ⟨0, []⟩, [], 0) := by kernel_rfl
theorem w35_0_4 (s : List UInt8) (x15 x16 : Int) (fr : List T) : outK prog f43 20 [0, 15, 16] (r35_0 s x15 x16 fr (bt 23 2923647))
  = some (OutT.again 0, [!decide ((↑(s.getD x16.toNat 0).toNat : Int) > 57), !decide ((↑(s.getD x16.toNat 0).toNat : Int) ≤ 122), !x16 == 0, !decide ((↑(s.getD x16.toNat 0).toNat : Int) ≤ 122), (↑(s.getD x16.toNat 0).toNat : Int) != 95, !x16 == 0, !decide ((↑(s.getD x16.toNat 0).toNat : Int) < 48), (↑(s.getD x16.toNat 0).toNat : Int) != 95, !decide ((↑(s.getD x16.toNat 0).toNat : Int) < 48), !decide ((↑(s.getD x16.toNat 0).toNat : Int) < 48), (↑(s.getD x16.toNat 0).toNat : Int) != 95, (↑(s.getD x16.toNat 0).toNat : Int) != 95, (↑(s.getD x16.toNat 0).toNat : Int) != 95, !x16 == 0, !x16 == 0, !x16 == 0, !decide ((↑(s.getD x16.toNat 0).toNat : Int) ≤ 122), !decide ((↑(s.getD x16.toNat 0).toNat : Int) ≤ 122), !decide ((↑(s.getD x16.toNat 0).toNat : Int) ≤ 122), decide ((↑(s.getD x16.toNat 0).toNat : Int) ≥ 97), decide ((↑(s.getD x16.toNat 0).toNat : Int) ≥ 97), decide ((↑(s.getD x16.toNat 0).toNat : Int) ≥ 97), decide (0 ≤ x16), decide (x16 < (↑s.length : Int)), decide (x16 < x15)], ⟨0, []⟩, [T.str s, T.int .i64 x15, T.int .i64 (IntKind.i64.wrap (x16 + 1))], 47) := by kernel_rfl
theorem w35_0_5 (s : List UInt8) (x15 x16 : Int) (fr : List T) : outK prog f43 20 [0, 15, 16] (r35_0 s x15 x16 fr (bt 20 327807))
  = some (OutT.again 0, [true, !decide ((↑(s.getD x16.toNat 0).toNat : Int) ≤ 122), !x16 == 0, !decide ((↑(s.getD x16.toNat 0).toNat : Int) ≤ 122), !(↑(s.getD x16.toNat 0).toNat : Int) != 95, !x16 == 0, !(↑(s.getD x16.toNat 0).toNat : Int) != 95, !(↑(s.getD x16.toNat 0).toNat : Int) != 95, !(↑(s.getD x16.toNat 0).toNat : Int) != 95, !(↑(s.getD x16.toNat 0).toNat : Int) != 95, !x16 == 0, !x16 == 0, !x16 == 0, !decide ((↑(s.getD x16.toNat 0).toNat : Int) ≤ 122), !decide ((↑(s.getD x16.toNat 0).toNat : Int) ≤ 122), !decide ((↑(s.getD x16.toNat 0).toNat : Int) ≤ 122), decide ((↑(s.getD x16.toNat 0).toNat : Int) ≥ 97), decide ((↑(s.getD x16.toNat 0).toNat : Int) ≥ 97), decide ((↑(s.getD x16.toNat 0).toNat : Int) ≥ 97), decide (0 ≤ x16), decide (x16 < (↑s.length : Int)), decide (x16 < x15)], ⟨0, []⟩, [T.str s, T.int .i64 x15, T.int .i64 (IntKind.i64.wrap (x16 + 1))], 47) := by kernel_rfl
theorem w35_0_6 (s : List UInt8) (x15 x16 : Int) (fr : List T) : outK prog f43 20 [0, 15, 16] (r35_0 s x15 x16 fr (bt 10 15))
  = some (OutT.again 0, [true, !!decide ((↑(s.getD x16.toNat 0).toNat : Int) ≤ 122), !!decide ((↑(s.getD x16.toNat 0).toNat : Int) ≤ 122), !!decide ((↑(s.getD x16.toNat 0).toNat : Int) ≤ 122), !!decide ((↑(s.getD x16.toNat 0).toNat : Int) ≤ 122), !!decide ((↑(s.getD x16.toNat 0).toNat : Int) ≤ 122), decide ((↑(s.getD x16.toNat 0).toNat : Int) ≥ 97), decide ((↑(s.getD x16.toNat 0).toNat : Int) ≥ 97), decide ((↑(s.getD x16.toNat 0).toNat : Int) ≥ 97), decide (0 ≤ x16), decide (x16 < (↑s.length : Int)), decide (x16 < x15)], ⟨0, []⟩, [T.str s, T.int .i64 x15, T.int .i64 (IntKind.i64.wrap (x16 + 1))], 47) := by kernel_rfl
theorem w35_0_7 (s : List UInt8) (x15 x16 : Int) (fr : List T) : outK prog f43 20 [] (r35_0 s x15 x16 fr (bt 15 32753))
  = some (OutT.done (some (T.bool false)), [true, true, x16 == 0, true, x16 == 0, x16 == 0, x16 == 0, x16 == 0, true, true, true, !decide ((↑(s.getD x16.toNat 0).toNat : Int) ≥ 97), !decide ((↑(s.getD x16.toNat 0).toNat : Int) ≥ 97), !decide ((↑(s.getD x16.toNat 0).toNat : Int) ≥ 97), decide (0 ≤ x16), decide (x16 < (↑s.length : Int)), decide (x16 < x15)], ⟨0, []⟩, [], 0) := by kernel_rfl
theorem w35_0_8 (s : List UInt8) (x15 x16 : Int) (fr : List T) : outK prog f43 20 [] (r35_0 s x15 x16 fr (bt 23 7208049))
  = some (OutT.done (some (T.bool false)), [true, true, !x16 == 0, true, (↑(s.getD x16.toNat 0).toNat : Int) != 95, !x16 == 0, decide ((↑(s.getD x16.toNat 0).toNat : Int) < 48), (↑(s.getD x16.toNat 0).toNat : Int) != 95, decide ((↑(s.getD x16.toNat 0).toNat : Int) < 48), decide ((↑(s.getD x16.toNat 0).toNat : Int) < 48), (↑(s.getD x16.toNat 0).toNat : Int) != 95, (↑(s.getD x16.toNat 0).toNat : Int) != 95, (↑(s.getD x16.toNat 0).toNat : Int) != 95, !x16 == 0, !x16 == 0, !x16 == 0, true, true, true, !decide ((↑(s.getD x16.toNat 0).toNat : Int) ≥ 97), !decide ((↑(s.getD x16.toNat 0).toNat : Int) ≥ 97), !decide ((↑(s.getD x16.toNat 0).toNat : Int) ≥ 97), decide (0 ≤ x16), decide (x16 < (↑s.length : Int)), decide (x16 < x15)], ⟨0, []⟩, [], 0) := by kernel_rfl
theorem w35_0_9 (s : List UInt8) (x15 x16 : Int) (fr : List T) : outK prog f43 20 [] (r35_0 s x15 x16 fr (bt 23 7117937))
  = some (OutT.done (some (T.bool false)), [decide ((↑(s.getD x16.toNat 0).toNat : Int) > 57), true, !x16 == 0, true, (↑(s.getD x16.toNat 0).toNat : Int) != 95, !x16 == 0, !decide ((↑(s.getD x16.toNat 0).toNat : Int) < 48), (↑(s.getD x16.toNat 0).toNat : Int) != 95, !decide ((↑(s.getD x16.toNat 0).toNat : Int) < 48), !decide ((↑(s.getD x16.toNat 0).toNat : Int) < 48), (↑(s.getD x16.toNat 0).toNat : Int) != 95, (↑(s.getD x16.toNat 0).toNat : Int) != 95, (↑(s.getD x16.toNat 0).toNat : Int) != 95, !x16 == 0, !x16 == 0, !x16 == 0, true, true, true, !decide ((↑(s.getD x16.toNat 0).toNat : Int) ≥ 97), !decide ((↑(s.getD x16.toNat 0).toNat : Int) ≥ 97), !decide ((↑(s.getD x16.toNat 0).toNat : Int) ≥ 97), decide (0 ≤ x16), decide (x16 < (↑s.length : Int)), decide (x16 < x15)], ⟨0, []⟩, [], 0) := by kernel_rfl
theorem w35_0_10 (s : List UInt8) (x15 x16 : Int) (fr : List T) : outK prog f43 20 [0, 15, 16] (r35_0 s x15 x16 fr (bt 23 2923633))
  = some (OutT.again 0, [!decide ((↑(s.getD x16.toNat 0).toNat : Int) > 57), true, !x16 == 0, true, (↑(s.getD x16.toNat 0).toNat : Int) != 95, !x16 == 0, !decide ((↑(s.getD x16.toNat 0).toNat : Int) < 48), (↑(s.getD x16.toNat 0).toNat : Int) != 95, !decide ((↑(s.getD x16.toNat 0).toNat : Int) < 48), !decide ((↑(s.getD x16.toNat 0).toNat : Int) < 48), (↑(s.getD x16.toNat 0).toNat : Int) != 95, (↑(s.getD x16.toNat 0).toNat : Int) != 95, (↑(s.getD x16.toNat 0).toNat : Int) != 95, !x16 == 0, !x16 == 0, !x16 == 0, true, true, true, !decide ((↑(s.getD x16.toNat 0).toNat : Int) ≥ 97), !decide ((↑(s.getD x16.toNat 0).toNat : Int) ≥ 97), !decide ((↑(s.getD x16.toNat 0).toNat : Int) ≥ 97), decide (0 ≤ x16), decide (x16 < (↑s.length : Int)), decide (x16 < x15)], ⟨0, []⟩, [T.str s, T.int .i64 x15, T.int .i64 (IntKind.i64.wrap (x16 + 1))], 47) := by kernel_rfl
theorem w35_0_11 (s : List UInt8) (x15 x16 : Int) (fr : List T) : outK prog f43 20 [0, 15, 16] (r35_0 s x15 x16 fr (bt 20 327793))
  = some (OutT.again 0, [true, true, !x16 == 0, true, !(↑(s.getD x16.toNat 0).toNat : Int) != 95, !x16 == 0, !(↑(s.getD x16.toNat 0).toNat : Int) != 95, !(↑(s.getD x16.toNat 0).toNat : Int) != 95, !(↑(s.getD x16.toNat 0).toNat : Int) != 95, !(↑(s.getD x16.toNat 0).toNat : Int) != 95, !x16 == 0, !x16 == 0, !x16 == 0, true, true, true, !decide ((↑(s.getD x16.toNat 0).toNat : Int) ≥ 97), !decide ((↑(s.getD x16.toNat 0).toNat : Int) ≥ 97), !decide ((↑(s.getD x16.toNat 0).toNat : Int) ≥ 97), decide (0 ≤ x16), decide (x16 < (↑s.length : Int)), decide (x16 < x15)], ⟨0, []⟩, [T.str s, T.int .i64 x15, T.int .i64 (IntKind.i64.wrap (x16 + 1))], 47) := by kernel_rfl
theorem w35_0_12 (s : List UInt8) (x15 x16 : Int) (fr : List T) : outK prog f43 20 [] (r35_0 s x15 x16 fr [false])
  = some (OutT.done (some (T.bool true)), [!decide (x16 < x15)], ⟨0, []⟩, [], 0) := by kernel_rfl
inductive S35 where
 | l0 (x15 x16 : Int)
def step35_0 (s : List UInt8) (x15 x16 : Int) : Option (S35 ⊕ T) :=
 if allT [true, !decide ((↑(s.getD x16.toNat 0).toNat : Int) ≤ 122), x16 == 0, !decide ((↑(s.getD x16.toNat 0).toNat : Int) ≤ 122), x16 == 0, x16 == 0, x16 == 0, x16 == 0, !decide ((↑(s.getD x16.toNat 0).toNat : Int) ≤ 122), !decide ((↑(s.getD x16.toNat 0).toNat : Int) ≤ 122), !decide ((↑(s.getD x16.toNat 0).toNat : Int) ≤ 122), decide ((↑(s.getD x16.toNat 0).toNat : Int) ≥ 97), decide ((↑(s.getD x16.toNat 0).toNat : Int) ≥ 97), decide ((↑(s.getD x16.toNat 0).toNat : Int) ≥ 97), decide (0 ≤ x16), decide (x16 < (↑s.length : Int)), decide (x16 < x15)] then some (.inr (T.bool false)) else
 if allT [true, !decide ((↑(s.getD x16.toNat 0).toNat : Int) ≤ 122), !x16 == 0, !decide ((↑(s.getD x16.toNat 0).toNat : Int) ≤ 122), (↑(s.getD x16.toNat 0).toNat : Int) != 95, !x16 == 0, decide ((↑(s.getD x16.toNat 0).toNat : Int) < 48), (↑(s.getD x16.toNat 0).toNat : Int) != 95, decide ((↑(s.getD x16.toNat 0).toNat : Int) < 48), decide ((↑(s.getD x16.toNat 0).toNat : Int) < 48), (↑(s.getD x16.toNat 0).toNat : Int) != 95, (↑(s.getD x16.toNat 0).toNat : Int) != 95, (↑(s.getD x16.toNat 0).toNat : Int) != 95, !x16 == 0, !x16 == 0, !x16 == 0, !decide ((↑(s.getD x16.toNat 0).toNat : Int) ≤ 122), !decide ((↑(s.getD x16.toNat 0).toNat : Int) ≤ 122), !decide ((↑(s.getD x16.toNat 0).toNat : Int) ≤ 122), decide ((↑(s.getD x16.toNat 0).toNat : Int) ≥ 97), decide ((↑(s.getD x16.toNat 0).toNat : Int) ≥ 97), decide ((↑(s.getD x16.toNat 0).toNat : Int) ≥ 97), decide (0 ≤ x16), decide (x16 < (↑s.length : Int)), decide (x16 < x15)] then some (.inr (T.bool false)) else
 if allT [decide ((↑(s.getD x16.toNat 0).toNat : Int) > 57), !decide ((↑(s.getD x16.toNat 0).toNat : Int) ≤ 122), !x16 == 0, !decide ((↑(s.getD x16.toNat 0).toNat : Int) ≤ 122), (↑(s.getD x16.toNat 0).toNat : Int) != 95, !x16 == 0, !decide ((↑(s.getD x16.toNat 0).toNat : Int) < 48), (↑(s.getD x16.toNat 0).toNat : Int) != 95, !decide ((↑(s.getD x16.toNat 0).toNat : Int) < 48), !decide ((↑(s.getD x16.toNat 0).toNat : Int) < 48), (↑(s.getD x16.toNat 0).toNat : Int) != 95, (↑(s.getD x16.toNat 0).toNat : Int) != 95, (↑(s.getD x16.toNat 0).toNat : Int) != 95, !x16 == 0, !x16 == 0, !x16 == 0, !decide ((↑(s.getD x16.toNat 0).toNat : Int) ≤ 122), !decide ((↑(s.getD x16.toNat 0).toNat : Int) ≤ 122), !decide ((↑(s.getD x16.toNat 0).toNat : Int) ≤ 122), decide ((↑(s.getD x16.toNat 0).toNat : Int) ≥ 97), decide ((↑(s.getD x16.toNat 0).toNat : Int) ≥ 97), decide ((↑(s.getD x16.toNat 0).toNat : Int) ≥ 97), decide (0 ≤ x16), decide (x16 < (↑s.length : Int)), decide (x16 < x15)] then some (.inr (T.bool false)) else
 if allT [!decide ((↑(s.getD x16.toNat 0).toNat : Int) > 57), !decide ((↑(s.getD x16.toNat 0).toNat : Int) ≤ 122), !x16 == 0, !decide ((↑(s.getD x16.toNat 0).toNat : Int) ≤ 122), (↑(s.getD x16.toNat 0).toNat : Int) != 95, !x16 == 0, !decide ((↑(s.getD x16.toNat 0).toNat : Int) < 48), (↑(s.getD x16.toNat 0).toNat : Int) != 95, !decide ((↑(s.getD x16.toNat 0).toNat : Int) < 48), !decide ((↑(s.getD x16.toNat 0).toNat : Int) < 48), (↑(s.getD x16.toNat 0).toNat : Int) != 95, (↑(s.getD x16.toNat 0).toNat : Int) != 95, (↑(s.getD x16.toNat 0).toNat : Int) != 95, !x16 == 0, !x16 == 0, !x16 == 0, !decide ((↑(s.getD x16.toNat 0).toNat : Int) ≤ 122), !decide ((↑(s.getD x16.toNat 0).toNat : Int) ≤ 122), !decide ((↑(s.getD x16.toNat 0).toNat : Int) ≤ 122), decide ((↑(s.getD x16.toNat 0).toNat : Int) ≥ 97), decide ((↑(s.getD x16.toNat 0).toNat : Int) ≥ 97), decide ((↑(s.getD x16.toNat 0).toNat : Int) ≥ 97), decide (0 ≤ x16), decide (x16 < (↑s.length : Int)), decide (x16 < x15)] then some (.inl (.l0 x15 (IntKind.i64.wrap (x16 + 1)))) else
 if allT [true, !decide ((↑(s.getD x16.toNat 0).toNat : Int) ≤ 122), !x16 == 0, !decide ((↑(s.getD x16.toNat 0).toNat : Int) ≤ 122), !(↑(s.getD x16.toNat 0).toNat : Int) != 95, !x16 == 0, !(↑(s.getD x16.toNat 0).toNat : Int) != 95, !(↑(s.getD x16.toNat 0).toNat : Int) != 95, !(↑(s.getD x16.toNat 0).toNat : Int) != 95, !(↑(s.getD x16.toNat 0).toNat : Int) != 95, !x16 == 0, !x16 == 0, !x16 == 0, !decide ((↑(s.getD x16.toNat 0).toNat : Int) ≤ 122), !decide ((↑(s.getD x16.toNat 0).toNat : Int) ≤ 122), !decide ((↑(s.getD x16.toNat 0).toNat : Int) ≤ 122), decide ((↑(s.getD x16.toNat 0).toNat : Int) ≥ 97), decide ((↑(s.getD x16.toNat 0).toNat : Int) ≥ 97), decide ((↑(s.getD x16.toNat 0).toNat : Int) ≥ 97), decide (0 ≤ x16), decide (x16 < (↑s.length : Int)), decide (x16 < x15)] then some (.inl (.l0 x15 (IntKind.i64.wrap (x16 + 1)))) else
 if allT [true, !!decide ((↑(s.getD x16.toNat 0).toNat : Int) ≤ 122), !!decide ((↑(s.getD x16.toNat 0).toNat : Int) ≤ 122), !!decide ((↑(s.getD x16.toNat 0).toNat : Int) ≤ 122), !!decide ((↑(s.getD x16.toNat 0).toNat : Int) ≤ 122), !!decide ((↑(s.getD x16.toNat 0).toNat : Int) ≤ 122), decide ((↑(s.getD x16.toNat 0).toNat : Int) ≥ 97), decide ((↑(s.getD x16.toNat 0).toNat : Int) ≥ 97), decide ((↑(s.getD x16.toNat 0).toNat : Int) ≥ 97), decide (0 ≤ x16), decide (x16 < (↑s.length : Int)), decide (x16 < x15)] then some (.inl (.l0 x15 (IntKind.i64.wrap (x16 + 1)))) else
 if allT [true, true, x16 == 0, true, x16 == 0, x16 == 0, x16 == 0, x16 == 0, true, true, true, !decide ((↑(s.getD x16.toNat 0).toNat : Int) ≥ 97), !decide ((↑(s.getD x16.toNat 0).toNat : Int) ≥ 97), !decide ((↑(s.getD x16.toNat 0).toNat : Int) ≥ 97), decide (0 ≤ x16), decide (x16 < (↑s.length : Int)), decide (x16 < x15)] then some (.inr (T.bool false)) else
 if allT [true, true, !x16 == 0, true, (↑(s.getD x16.toNat 0).toNat : Int) != 95, !x16 == 0, decide ((↑(s.getD x16.toNat 0).toNat : Int) < 48), (↑(s.getD x16.toNat 0).toNat : Int) != 95, decide ((↑(s.getD x16.toNat 0).toNat : Int) < 48), decide ((↑(s.getD x16.toNat 0).toNat : Int) < 48), (↑(s.getD x16.toNat 0).toNat : Int) != 95, (↑(s.getD x16.toNat 0).toNat : Int) != 95, (↑(s.getD x16.toNat 0).toNat : Int) != 95, !x16 == 0, !x16 == 0, !x16 == 0, true, true, true, !decide ((↑(s.getD x16.toNat 0).toNat : Int) ≥ 97), !decide ((↑(s.getD x16.toNat 0).toNat : Int) ≥ 97), !decide ((↑(s.getD x16.toNat 0).toNat : Int) ≥ 97), decide (0 ≤ x16), decide (x16 < (↑s.length : Int)), decide (x16 < x15)] then some (.inr (T.bool false)) else
 if allT [decide ((↑(s.getD x16.toNat 0).toNat : Int) > 57), true, !x16 == 0, true, (↑(s.getD x16.toNat 0).toNat : Int) != 95, !x16 == 0, !decide ((↑(s.getD x16.toNat 0).toNat : Int) < 48), (↑(s.getD x16.toNat 0).toNat : Int) != 95, !decide ((↑(s.getD x16.toNat 0).toNat : Int) < 48), !decide ((↑(s.getD x16.toNat 0).toNat : Int) < 48), (↑(s.getD x16.toNat 0).toNat : Int) != 95, (↑(s.getD x16.toNat 0).toNat : Int) != 95, (↑(s.getD x16.toNat 0).toNat : Int) != 95, !x16 == 0, !x16 == 0, !x16 == 0, true, true, true, !decide ((↑(s.getD x16.toNat 0).toNat : Int) ≥ 97), !decide ((↑(s.getD x16.toNat 0).toNat : Int) ≥ 97), !decide ((↑(s.getD x16.toNat 0).toNat : Int) ≥ 97), decide (0 ≤ x16), decide (x16 < (↑s.length : Int)), decide (x16 < x15)] then some (.inr (T.bool false)) else
 if allT [!decide ((↑(s.getD x16.toNat 0).toNat : Int) > 57), true, !x16 == 0, true, (↑(s.getD x16.toNat 0).toNat : Int) != 95, !x16 == 0, !decide ((↑(s.getD x16.toNat 0).toNat : Int) < 48), (↑(s.getD x16.toNat 0).toNat : Int) != 95, !decide ((↑(s.getD x16.toNat 0).toNat : Int) < 48), !decide ((↑(s.getD x16.toNat 0).toNat : Int) < 48), (↑(s.getD x16.toNat 0).toNat : Int) != 95, (↑(s.getD x16.toNat 0).toNat : Int) != 95, (↑(s.getD x16.toNat 0).toNat : Int) != 95, !x16 == 0, !x16 == 0, !x16 == 0, true, true, true, !decide ((↑(s.getD x16.toNat 0).toNat : Int) ≥ 97), !decide ((↑(s.getD x16.toNat 0).toNat : Int) ≥ 97), !decide ((↑(s.getD x16.toNat 0).toNat : Int) ≥ 97), decide (0 ≤ x16), decide (x16 < (↑s.length : Int)), decide (x16 < x15)] then some (.inl (.l0 x15 (IntKind.i64.wrap (x16 + 1)))) else
 if allT [true, true, !x16 == 0, true, !(↑(s.getD x16.toNat 0).toNat : Int) != 95, !x16 == 0, !(↑(s.getD x16.toNat 0).toNat : Int) != 95, !(↑(s.getD x16.toNat 0).toNat : Int) != 95, !(↑(s.getD x16.toNat 0).toNat : Int) != 95, !(↑(s.getD x16.toNat 0).toNat : Int) != 95, !x16 == 0, !x16 == 0, !x16 == 0, true, true, true, !decide ((↑(s.getD x16.toNat 0).toNat : Int) ≥ 97), !decide ((↑(s.getD x16.toNat 0).toNat : Int) ≥ 97), !decide ((↑(s.getD x16.toNat 0).toNat : Int) ≥ 97), decide (0 ≤ x16), decide (x16 < (↑s.length : Int)), decide (x16 < x15)] then some (.inl (.l0 x15 (IntKind.i64.wrap (x16 + 1)))) else
 if allT [!decide (x16 < x15)] then some (.inr (T.bool true)) else
 none
def step35 (s : List UInt8) : S35 → Option (S35 ⊕ T)
 | .l0 x15 x16 => step35_0 s x15 x16
def M35 (s : List UInt8) : Mch S35 where
 lp := fun σ => match σ with
  | .l0 .. => 0
 keep := fun ι => match ι with
  | 0 => [0, 15, 16]
  | _ => []
 par := fun ι => match ι with
  | 0 => []
  | _ => []
 vs := fun σ => match σ with
  | .l0 x15 x16 => [T.str s, T.int .i64 x15, T.int .i64 x16]
 hp := fun σ => match σ with
  | .l0 _ _ => ⟨0, []⟩
 len := 47
 step := step35 s
theorem ways35 (s : List UInt8) : (M35 s).Ways prog D0 F0 f43 20 := by
 intro σ o fr h
 cases σ with
 | l0 x15 x16 =>
  change step35_0 s x15 x16 = some o at h
  unfold step35_0 at h
  rcases ite_or h with ⟨hk, h⟩ | h
  ·cases h
   exact ⟨2000, _, _, _, _, _, _, w35_0_1 s x15 x16 fr, hk⟩
  rcases ite_or h with ⟨hk, h⟩ | h
  ·cases h
   exact ⟨2000, _, _, _, _, _, _, w35_0_2 s x15 x16 fr, hk⟩
  rcases ite_or h with ⟨hk, h⟩ | h
  ·cases h
   exact ⟨2000, _, _, _, _, _, _, w35_0_3 s x15 x16 fr, hk⟩
  rcases ite_or h with ⟨hk, h⟩ | h
  ·cases h
   exact .inl ⟨2000, _, _, _, w35_0_4 s x15 x16 fr, hk, rfl⟩
  rcases ite_or h with ⟨hk, h⟩ | h
  ·cases h
   exact .inl ⟨2000, _, _, _, w35_0_5 s x15 x16 fr, hk, rfl⟩
  rcases ite_or h with ⟨hk, h⟩ | h
  ·cases h
   exact .inl ⟨2000, _, _, _, w35_0_6 s x15 x16 fr, hk, rfl⟩
  rcases ite_or h with ⟨hk, h⟩ | h
  ·cases h
   exact ⟨2000, _, _, _, _, _, _, w35_0_7 s x15 x16 fr, hk⟩
  rcases ite_or h with ⟨hk, h⟩ | h
  ·cases h
   exact ⟨2000, _, _, _, _, _, _, w35_0_8 s x15 x16 fr, hk⟩
  rcases ite_or h with ⟨hk, h⟩ | h
  ·cases h
   exact ⟨2000, _, _, _, _, _, _, w35_0_9 s x15 x16 fr, hk⟩
  rcases ite_or h with ⟨hk, h⟩ | h
  ·cases h
   exact .inl ⟨2000, _, _, _, w35_0_10 s x15 x16 fr, hk, rfl⟩
  rcases ite_or h with ⟨hk, h⟩ | h
  ·cases h
   exact .inl ⟨2000, _, _, _, w35_0_11 s x15 x16 fr, hk, rfl⟩
  rcases ite_or h with ⟨hk, h⟩ | h
  ·cases h
   exact ⟨2000, _, _, _, _, _, _, w35_0_12 s x15 x16 fr, hk⟩
  cases h
theorem oks35 (s : List UInt8) : ∀ σ, Ps.codeOk (loopAt f43 ((M35 s).lp σ)).1 = true ∧ ksOk (.lp :: (loopAt f43 ((M35 s).lp σ)).2) = true := oks_of 1 (by kernel_rfl) (by intro σ; cases σ <;> exact Nat.le_of_ble_eq_true rfl)
def o35 (s : List UInt8) : Option (S35 ⊕ T) :=
 if allT [true, decide ((↑s.length : Int) < 1), decide ((↑s.length : Int) < 1), decide ((↑s.length : Int) < 1), decide ((↑s.length : Int) < 1)] then some (.inr (T.bool false)) else
 if allT [decide ((↑s.length : Int) > 32), !decide ((↑s.length : Int) < 1), !decide ((↑s.length : Int) < 1), !decide ((↑s.length : Int) < 1), !decide ((↑s.length : Int) < 1)] then some (.inr (T.bool false)) else
 if allT [!decide ((↑s.length : Int) > 32), !decide ((↑s.length : Int) < 1), !decide ((↑s.length : Int) < 1), !decide ((↑s.length : Int) < 1), !decide ((↑s.length : Int) < 1)] then some (.inl (.l0 (↑s.length : Int) 0)) else
 none
theorem run35 (s : List UInt8) {n : Nat} {o : S35 ⊕ T} {r : T} (h : o35 s = some o) (hr : (M35 s).fin n o = some r) : PureFn prog gl 43 [.str s] r := by
 refine pure_mach (M := (M35 s)) (fn := f43) (k := 20) (d := 8) (c := bodyOf f43) cx0 glFrz (by kernel_rfl) func43 (by kernel_rfl) rfl (by kernel_rfl) (by kernel_rfl) (L := 46) (by kernel_rfl) (ways35 s) (oks35 s) ?_ hr
 unfold o35 at h
 rcases ite_or h with ⟨hk, h⟩ | h
 ·cases h
  exact ⟨2000, _, _, _, _, _, _, w35_s_1 s, hk⟩
 rcases ite_or h with ⟨hk, h⟩ | h
 ·cases h
  exact ⟨2000, _, _, _, _, _, _, w35_s_2 s, hk⟩
 rcases ite_or h with ⟨hk, h⟩ | h
 ·cases h
  exact .inr ⟨2000, _, _, _, w35_s_3 s, hk, rfl⟩
 cases h
/-! ### 39 -/
theorem w39_s_1 (c : Ct) (i : Int) : outK prog f57 20 [] (runK prog D0 F0 2000 (.code (bodyOf f57)) [] 0 ([.int .i64 i, .ref (ctT c) 0] ++ List.replicate 10 undefT) ⟨0, []⟩ [] [])
  = some (OutT.done (some (T.bool ((↑(c.line i.toNat).k : Int) != 1))), [decide (0 ≤ i), decide (i < (↑c.n : Int)), true], ⟨0, []⟩, [], 0) := by kernel_rfl
def o39 (c : Ct) (i : Int) : Option (Empty ⊕ T) :=
 if allT [decide (0 ≤ i), decide (i < (↑c.n : Int)), true] then some (.inr (T.bool ((↑(c.line i.toNat).k : Int) != 1))) else
 none
theorem run39 (c : Ct) (i : Int) {n : Nat} {o : Empty ⊕ T} {r : T} (h : o39 c i = some o) (hr : noM.fin n o = some r) : PureFn prog gl 57 [.int .i64 i, .ref (ctT c) 0] r := by
 refine pure_mach (M := noM) (fn := f57) (k := 20) (d := 8) (c := bodyOf f57) cx0 glFrz (by kernel_rfl) func57 (by kernel_rfl) rfl (by kernel_rfl) (by kernel_rfl) (L := 10) (by kernel_rfl) noM_ways (fun σ => σ.elim) ?_ hr
 unfold o39 at h
 rcases ite_or h with ⟨hk, h⟩ | h
 ·cases h
  exact ⟨2000, _, _, _, _, _, _, w39_s_1 c i, hk⟩
 cases h
/-! ### 7 -/
inductive S7 where
 | l0 (x3 : Int)
 | l1 (x3 x5 : Int)
end
end Go.Proofs.Tryz

/- What the first functions compute. -/
namespace Go.Proofs.Tryz
noncomputable section
open Go.Ps
theorem c66 (x : Int) : PureFn prog gl 90 [.int .i64 x] (.bool false) := by
 refine run66 x (n := 0) (o := .inr (.bool (x != x))) rfl ?_
 simp [Mch.fin]
def bad (x : Int) : Bool := decide (x < 0) || decide (x > 65535)
theorem c47 (x : Int) : PureFn prog gl 62 [.int .i64 x] (.bool (bad x)) := by
 by_cases h : x < 0
 ·refine run47 x (n := 0) (o := .inr (.bool true)) (by simp [o47, allT, h]) ?_
  simp [Mch.fin, bad, h]
 ·refine run47 x (n := 0) (o := .inr (.bool (decide (x > 65535)))) (by simp [o47, allT, h]) ?_
  simp [Mch.fin, bad, h]
theorem c34 (x : Ln) : PureFn prog gl 53 [lnT x] (.bool (x.fate == 0)) := run34 x (n := 0) (o := .inr (.bool (x.fate == 0))) rfl rfl
def arr (s : Sp) : Bool := s.n == 1 && s.at_ 0 == 1
theorem c37 (s : Sp) : PureFn prog gl 55 [spT s] (.bool (arr s)) := by
 by_cases h : s.n = 1
 ·refine run37 s (n := 0) (o := .inr (.bool (s.at_ 0 == 1))) (by simp [o37, allT, h]) ?_
  simp [Mch.fin, arr, h]
 ·have h' : ¬ ((s.n : Int) = 1) := by omega
  refine run37 s (n := 0) (o := .inr (.bool false)) (by simp [o37, allT, h']) ?_
  simp [Mch.fin, arr, h]
theorem c42 (s : Sp) : PureFn prog gl 45 [spT s] (.bool (arr s)) := by
 by_cases h : s.n = 1
 ·refine run42 s (n := 0) (o := .inr (.bool (s.at_ 0 == 1))) (by simp [o42, allT, h]) ?_
  simp [Mch.fin, arr, h]
 ·have h' : ¬ ((s.n : Int) = 1) := by omega
  refine run42 s (n := 0) (o := .inr (.bool false)) (by simp [o42, allT, h']) ?_
  simp [Mch.fin, arr, h]
theorem c39 (c : Ct) (i : Int) (h0 : 0 ≤ i) (h1 : i < c.n) : PureFn prog gl 57 [.int .i64 i, .ref (ctT c) 0] (.bool (((c.line i.toNat).k : Int) != 1)) := by
 refine run39 c i (n := 0) (o := .inr (.bool (((c.line i.toNat).k : Int) != 1))) (by simp [o39, allT, h0, h1]) rfl
/-! ### names -/
theorem run35_ex (s : List UInt8) (hs : s.length ≤ 32) : ∀ (k i : Nat), k + i = s.length → ∃ b, (M35 s).run (k + 1) (.l0 s.length i) = some (.bool b) ∧ (b = true → ∀ j, i ≤ j → j < s.length → 48 ≤ (s.getD j 0).toNat) := by
 intro k
 induction k with
 | zero =>
  intro i hi
  refine ⟨true, ?_, fun _ j h1 h2 => by omega⟩
  have : ¬ ((i : Int) < s.length) := by omega
  simp [Mch.run, M35, step35, step35_0, allT, this]
 | succ k ih =>
  intro i hi
  obtain ⟨b, hb, hB⟩ := ih (i + 1) (by omega)
  have h1 : ((i : Int) < s.length) := by omega
  have h2 : IntKind.i64.wrap ((i : Int) + 1) = ((i + 1 : Nat) : Int) := by rw [IntWalk.i64_in _ (by omega)]; omega
  rw [Mch.run]
  have key : ∃ o, (M35 s).step (.l0 s.length i) = some o ∧ ((o = .inl (.l0 s.length ((i + 1 : Nat) : Int)) ∧ 48 ≤ (s.getD i 0).toNat) ∨ o = .inr (.bool false)) := by
   show ∃ o, step35_0 s s.length i = some o ∧ _
   unfold step35_0
   rw [h2, Int.toNat_natCast, decide_eq_true h1, decide_eq_true (show (0 : Int) ≤ i by omega)]
   have F : (decide ((↑(s.getD i 0).toNat : Int) ≥ 97) = true → 48 ≤ (s.getD i 0).toNat) ∧ (((↑(s.getD i 0).toNat : Int) != 95) = false → 48 ≤ (s.getD i 0).toNat) ∧ (decide ((↑(s.getD i 0).toNat : Int) < 48) = false → 48 ≤ (s.getD i 0).toNat) :=
    ⟨fun e => by have := of_decide_eq_true e; omega, fun e => by
     have h95 : ((s.getD i 0).toNat : Int) = 95 := by simpa using e
     omega, fun e => by have := of_decide_eq_false e; omega⟩
   revert F
   generalize decide ((↑(s.getD i 0).toNat : Int) ≥ 97) = b1
   generalize decide ((↑(s.getD i 0).toNat : Int) ≤ 122) = b2
   generalize ((i : Int) == 0) = b3
   generalize ((↑(s.getD i 0).toNat : Int) != 95) = b4
   generalize decide ((↑(s.getD i 0).toNat : Int) < 48) = b5
   generalize decide ((↑(s.getD i 0).toNat : Int) > 57) = b6
   cases b1 <;> cases b2 <;> cases b3 <;> cases b4 <;> cases b5 <;> cases b6 <;> simp [allT]
  obtain ⟨o, h3, h4⟩ := key
  rw [h3]
  rcases h4 with ⟨rfl, h5⟩ | rfl
  ·refine ⟨b, hb, fun e j g1 g2 => ?_⟩
   by_cases q : j = i
   ·subst q; exact h5
   ·exact hB e j (by omega) g2
  ·exact ⟨false, rfl, fun e => by (cases e)⟩
theorem name_ex (s : List UInt8) : ∃ b, (s = [] → b = false) ∧ (b = true → ∀ c ∈ s, 48 ≤ c.toNat) ∧ PureFn prog gl 43 [.str s] (.bool b) := by
 by_cases h1 : (s.length : Int) < 1
 ·exact ⟨false, fun _ => rfl, fun e => by (cases e), run35 s (n := 0) (o := .inr (.bool false)) (by unfold o35; rw [if_pos (by simp [allT, h1])]) rfl⟩
 ·have hne : s = [] → False := fun e => h1 (by simp [e])
  by_cases h2 : (s.length : Int) > 32
  ·exact ⟨false, fun _ => rfl, fun e => by (cases e), run35 s (n := 0) (o := .inr (.bool false)) (by unfold o35; rw [if_neg (by simp [allT, h1]), if_pos (by simp [allT, h1, h2])]) rfl⟩
  ·obtain ⟨b, hb, hB⟩ := run35_ex s (by omega) s.length 0 (by omega)
   refine ⟨b, fun e => (hne e).elim, fun e c hc => ?_, ?_⟩
   ·obtain ⟨j, hj, rfl⟩ := List.getElem_of_mem hc
    have := hB e j (by omega) hj
    rwa [List.getD_eq_getElem?_getD, List.getElem?_eq_getElem hj] at this
   exact run35 s (n := s.length + 1) (o := .inl (.l0 s.length 0)) (by unfold o35; rw [if_neg (by simp [allT, h1]), if_neg (by simp [allT, h1, h2]), if_pos (by simp [allT, h1, h2])]) hb
def isName (s : List UInt8) : Bool := Classical.choose (name_ex s)
theorem c35 (s : List UInt8) : PureFn prog gl 43 [.str s] (.bool (isName s)) := (Classical.choose_spec (name_ex s)).2.2
theorem isName_ge {s : List UInt8} (h : isName s = true) : ∀ c ∈ s, 48 ≤ c.toNat := (Classical.choose_spec (name_ex s)).2.1 h
theorem isName_nil : isName [] = false := (Classical.choose_spec (name_ex [])).1 rfl
/-! ### the contracts -/
def s66 : List T → Option (T × List Bool)
 | [.int .i64 _] => some (.bool false, [])
 | _ => none
def s47 : List T → Option (T × List Bool)
 | [.int .i64 x] => some (.bool (bad x), [])
 | _ => none
def s34 : List T → Option (T × List Bool)
 | [t] => some (.bool ((lnv t).fate == 0), [isV t (lnT (lnv t))])
 | _ => none
def s37 : List T → Option (T × List Bool)
 | [t] => some (.bool (arr (spv t)), [isV t (spT (spv t))])
 | _ => none
def s35 : List T → Option (T × List Bool)
 | [t] => some (.bool (isName (strv t)), [isV t (.str (strv t))])
 | _ => none
def s39 : List T → Option (T × List Bool)
 | [.int .i64 i, .ref t 0] => some (.bool ((((ctv t).line i.toNat).k : Int) != 1), [isV t (ctT (ctv t)), decide (0 ≤ i), decide (i < (ctv t).n)])
 | _ => none
theorem s66_ok (ts : List T) (r : T) (cs : List Bool) (h : s66 ts = some (r, cs)) (_ : allT cs = true) : PureFn prog gl 90 ts r := by
 unfold s66 at h; split at h
 ·cases h; exact c66 _
 ·cases h
theorem s47_ok (ts : List T) (r : T) (cs : List Bool) (h : s47 ts = some (r, cs)) (_ : allT cs = true) : PureFn prog gl 62 ts r := by
 unfold s47 at h; split at h
 ·cases h; exact c47 _
 ·cases h
theorem s34_ok (ts : List T) (r : T) (cs : List Bool) (h : s34 ts = some (r, cs)) (k : allT cs = true) : PureFn prog gl 53 ts r := by
 unfold s34 at h; split at h
 ·cases h
  simp only [allT, Bool.and_true, isV_iff] at k
  rw [k]; exact c34 _
 ·cases h
theorem s37_ok (ts : List T) (r : T) (cs : List Bool) (h : s37 ts = some (r, cs)) (k : allT cs = true) : PureFn prog gl 55 ts r := by
 unfold s37 at h; split at h
 ·cases h
  simp only [allT, Bool.and_true, isV_iff] at k
  rw [k]; exact c37 _
 ·cases h
theorem s42_ok (ts : List T) (r : T) (cs : List Bool) (h : s37 ts = some (r, cs)) (k : allT cs = true) : PureFn prog gl 45 ts r := by
 unfold s37 at h; split at h
 ·cases h
  simp only [allT, Bool.and_true, isV_iff] at k
  rw [k]; exact c42 _
 ·cases h
theorem s35_ok (ts : List T) (r : T) (cs : List Bool) (h : s35 ts = some (r, cs)) (k : allT cs = true) : PureFn prog gl 43 ts r := by
 unfold s35 at h; split at h
 ·cases h
  simp only [allT, Bool.and_true, isV_iff] at k
  rw [k]; exact c35 _
 ·cases h
theorem s39_ok (ts : List T) (r : T) (cs : List Bool) (h : s39 ts = some (r, cs)) (k : allT cs = true) : PureFn prog gl 57 ts r := by
 unfold s39 at h; split at h
 ·cases h
  simp only [allT, Bool.and_true, Bool.and_eq_true, isV_iff, decide_eq_true_eq] at k
  rw [k.1]; exact c39 _ _ k.2.1 k.2.2
 ·cases h
def D2 : Ed := ⟨gl, pdAdd 90 s66 (pdAdd 62 s47 (pdAdd 53 s34 (pdAdd 55 s37 (pdAdd 45 s37 (pdAdd 43 s35 (pdAdd 57 s39 D1.pd))))))⟩
theorem cx2 : Cx prog D2 F0 := ⟨follows, pdAdd_ok (pdAdd_ok (pdAdd_ok (pdAdd_ok (pdAdd_ok (pdAdd_ok (pdAdd_ok cx1.hE s39_ok) s35_ok) s42_ok) s37_ok) s34_ok) s47_ok) s66_ok, F0ok⟩
end
end Go.Proofs.Tryz

/- What the functions on stamps compute, as plain functions; the contracts by level (nothing is proved here). -/
namespace Go.Proofs.Tryz
noncomputable section
open Go.Ps
def cmpI (x y : Int) : Int := if x < y then -1 else if x > y then 1 else 0
def cmpR (n1 n2 : Nat) (f g : Nat → Int) : Nat → Nat → Int
 | 0, _ => if n1 < n2 then -1 else 0
 | k + 1, i => if n2 ≤ i then 1 else if cmpI (f i) (g i) ≠ 0 then cmpI (f i) (g i) else cmpR n1 n2 f g k (i + 1)
def cmpP (n1 : Nat) (f : Nat → Int) (n2 : Nat) (g : Nat → Int) : Int := cmpR n1 n2 f g n1 0
def cmpS (a b : Sp) : Int := if cmpI a.entry b.entry ≠ 0 then cmpI a.entry b.entry else cmpP a.n a.at_ b.n b.at_
def eqS (a b : Sp) : Bool := cmpS a b == 0
def idxR (p : Nat → Bool) : Nat → Nat → Int
 | 0, _ => -1
 | k + 1, i => if p i then (i : Int) else idxR p k (i + 1)
def idx (n : Nat) (p : Nat → Bool) : Int := idxR p n 0
def any (n : Nat) (p : Nat → Bool) : Bool := decide (idx n p ≥ 0)
def bsR (p : Nat → Int) : Nat → Nat → Nat → Nat
 | 0, i, _ => i
 | k + 1, i, j => if i < j then (if p ((i + j) / 2) < 0 then bsR p k ((i + j) / 2 + 1) j else bsR p k i ((i + j) / 2)) else i
def bs (n : Nat) (p : Nat → Int) : Nat := bsR p n 0 n
def found (n : Nat) (p : Nat → Int) : Bool := decide (bs n p < n) && p (bs n p) == 0
def chk (s : Sp) : Int :=
 if decide (s.entry < 1) then 2 else if decide (s.entry > 1048576) then 2 else if (s.n : Int) == 0 then 4 else if decide ((s.n : Int) > 512) then 9 else if any s.n (fun i => bad (s.at_ i)) then 2
 else if decide (s.at_ 0 > 1) then 11 else if s.at_ 0 == 1 then 0 else if (s.n : Int) == 1 then 4 else if decide (s.at_ 1 ≥ 128) then 2 else 0
/-! ### contracts -/
def s49 : List T → Option (T × List Bool)
 | [.int .i64 x, .int .i64 y] => some (.int .i64 (cmpI x y), [])
 | _ => none
def s48 : List T → Option (T × List Bool)
 | [.sl true [.int .i64 x, .int .i64 y]] => some (.int .i64 (if x ≠ 0 then x else y), [])
 | _ => none
def s50 : List T → Option (T × List Bool)
 | [t, u, .fn (.func 66) [] []] => some (.int .i64 (cmpP (slN t) (isv t) (slN u) (isv u)), [isV t (isT (slN t) (isv t)), isV u (isT (slN u) (isv u)), decide (slN t ≤ 281474976710656)])
 | _ => none
def s33 : List T → Option (T × List Bool)
 | [t, u] => some (.int .i64 (cmpS (spv t) (spv u)), [isV t (spT (spv t)), isV u (spT (spv u)), decide ((spv t).n ≤ 281474976710656)])
 | _ => none
def s62 : List T → Option (T × List Bool)
 | [t, u] => some (.bool (eqS (spv t) (spv u)), [isV t (spT (spv t)), isV u (spT (spv u)), decide ((spv t).n ≤ 281474976710656)])
 | _ => none
def s53 : List T → Option (T × List Bool)
 | [t, u] => some (.int .i64 (cmpS (lnv t).st (spv u)), [isV t (lnT (lnv t)), isV u (spT (spv u)), decide ((lnv t).st.n ≤ 281474976710656)])
 | _ => none
def s54 : List T → Option (T × List Bool)
 | [t, .fn (.func 62) [] []] => some (.int .i64 (idx (slN t) (fun i => bad (isv t i))), [isV t (isT (slN t) (isv t)), decide (slN t ≤ 281474976710656)])
 | [t, .fn (.func 57) [] [.ref c 0]] => some (.int .i64 (idx (slN t) (fun i => ((((ctv c).line (isv t i).toNat).k : Int) != 1))), [isV t (isT (slN t) (isv t)), isV c (ctT (ctv c)), decide (slN t ≤ 281474976710656), decide (∀ i, i < slN t → 0 ≤ isv t i ∧ isv t i < (ctv c).n)])
 | _ => none
def s38 : List T → Option (T × List Bool)
 | [t, .fn (.func 62) [] []] => some (.bool (any (slN t) (fun i => bad (isv t i))), [isV t (isT (slN t) (isv t)), decide (slN t ≤ 281474976710656)])
 | [t, .fn (.func 57) [] [.ref c 0]] => some (.bool (any (slN t) (fun i => ((((ctv c).line (isv t i).toNat).k : Int) != 1))), [isV t (isT (slN t) (isv t)), isV c (ctT (ctv c)), decide (slN t ≤ 281474976710656), decide (∀ i, i < slN t → 0 ≤ isv t i ∧ isv t i < (ctv c).n)])
 | _ => none
def s32 : List T → Option (T × List Bool)
 | [t] => some (.int .i64 (chk (spv t)), [isV t (spT (spv t)), decide ((spv t).n ≤ 281474976710656)])
 | _ => none
def modest (n : Nat) (f : Nat → Ln) : Prop := n ≤ 281474976710656 ∧ ∀ i, i < n → (f i).st.n ≤ 281474976710656
def modestB (n : Nat) (f : Nat → Ln) : Bool := @decide (modest n f) (Classical.propDecidable _)
def s52 : List T → Option (T × List Bool)
 | [t, u, .fn (.func 76) [] []] => some (.tup [.int .i64 (bs (slN t) (fun i => cmpS (lsv t i).st (spv u))), .bool (found (slN t) (fun i => cmpS (lsv t i).st (spv u)))], [isV t (lsT (slN t) (lsv t)), isV u (spT (spv u)), modestB (slN t) (lsv t)])
 | _ => none
def s36 : List T → Option (T × List Bool)
 | [t, u] => some (.tup [.int .i64 (bs (slN t) (fun i => cmpS (lsv t i).st (spv u))), .bool (found (slN t) (fun i => cmpS (lsv t i).st (spv u)))], [isV t (lsT (slN t) (lsv t)), isV u (spT (spv u)), modestB (slN t) (lsv t)])
 | _ => none
def s41 : List T → Option (T × List Bool)
 | [t, u] => some (.int .i64 (idx (slN t) (fun i => eqS (lsv t i).st (spv u))), [isV t (lsT (slN t) (lsv t)), isV u (spT (spv u)), modestB (slN t) (lsv t)])
 | _ => none
def D3 : Ed := ⟨gl, pdAdd 64 s49 (pdAdd 63 s48 D2.pd)⟩
def D4 : Ed := ⟨gl, pdAdd 66 s49 D3.pd⟩
def D5 : Ed := ⟨gl, pdAdd 65 s50 D4.pd⟩
def D6 : Ed := ⟨gl, pdAdd 42 s33 D5.pd⟩
def D7 : Ed := ⟨gl, pdAdd 51 s62 (pdAdd 76 s53 (pdAdd 77 s54 D6.pd))⟩
def D8 : Ed := ⟨gl, pdAdd 56 s38 (pdAdd 75 s52 (pdAdd 44 s41 D7.pd))⟩
def D9 : Ed := ⟨gl, pdAdd 54 s36 (pdAdd 41 s32 D8.pd)⟩
end
end Go.Proofs.Tryz
