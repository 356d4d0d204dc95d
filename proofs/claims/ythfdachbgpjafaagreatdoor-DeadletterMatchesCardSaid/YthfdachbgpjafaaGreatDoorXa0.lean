/- Texts merged: PsA, PsB, PsC, PsD, PsE, PsMa, PsF, PsG, PsH, PsHm, PsI, PsJ. -/
import Derived.Still
import Derived.Laws.Sem
import Derived.Below
import Derived.Laws.Entries
import Derived.Laws.Rows
import Derived.Laws.BytesString
import Derived.Laws.StructEq
import Derived.Lib.ConvBytes
import Derived.Laws.CopyRow
import Derived.Laws.MakeOwn
import Derived.Laws.AppendOwn
import Derived.Deep.AppendSrc
set_option linter.unusedSimpArgs false
set_option linter.unusedVariables false
set_option linter.unusedSectionVars false
namespace Go.Ps
noncomputable section
inductive T where
 |int (k:IntKind) (n:Int)
 |bool (b:Bool)
 |str (s:List UInt8)
 |nilp
 |ptr (l off:Nat)
 |ref (x:T) (off:Nat)
 |nils
 |sl (full:Bool) (xs:List T)
 |slf (full:Bool) (n:Nat) (f:Nat→T)
 |osl (l sz i len:Nat)
 |nilf
 |fn (f:Fn) (first captured:List T)
 |nili
 |iface (t:TypeId) (x:T)
 |nilm
 |mp (l:Nat)
 |yl (l:Nat)
 |agg (cs:List T)
 |tup (xs:List T)
instance:Inhabited T:=⟨.nilp⟩
abbrev undefT:T:= .tup []
def T.cells:T→List T
 | .agg cs=>cs
 |t=>[t]
def T.one:T→Bool
 | .agg _ | .tup _ =>false
 |_ =>true
def T.isAgg:T→Bool
 | .agg _ =>true
 |_ =>false
def ofCell:Value→Option T
 | .int k n=>some (.int k n)
 | .bool b=>some (.bool b)
 | .string s=>some (.str s.data.toList)
 | .pointer none=>some .nilp
 | .slice none 0 0=>some .nils
 | .nilFunc=>some .nilf
 | .nilIface=>some .nili
 | .map none=>some .nilm
 |_ =>none
def ofCells:List Value→Option (List T)
 |[]=>some []
 |v::vs=>match ofCell v with
  |some t=>match ofCells vs with
   |some ts=>some (t::ts)
   |none=>none
  |none=>none
def ofVal:Value→Option T
 | .agg cs=>match ofCells cs.toList with
  |some ts=>some (.agg ts)
  |none=>none
 | .tuple vs=>match vs.toList with
  |[]=>some (.tup [])
  |_ =>none
 |v=>ofCell v
inductive FT where
 |nl
 |nd (v:T) (l r:FT)
structure Lr where
 st:LoopState
 pe:Option Code
 fr:FT
 n:Nat
 ps:Array Tmp
 asg:Code
 bd:Code
 ow:Tmp→Bool
inductive Mo where
 |map (c:Nat) (es:List (Nat×T×T))
 |loop (r:Lr)
 |mit (m since:Nat) (seen:List Nat) (last:Nat)
 |sit (s:List UInt8) (pos:Nat)
structure Ob where
 elem:TypeId
 sz:Nat
 cells:List T
 me:Option Mo:=none
inductive Ht where
 |nl
 |nd (o:Option Ob) (l r:Ht)
noncomputable def Ht.val(t:Ht):Option Ob:=Ht.rec (motive:=fun _ =>Option Ob) none (fun o _ _ _ _ =>o) t
noncomputable def Ht.lf(t:Ht):Ht:=Ht.rec (motive:=fun _ =>Ht) .nl (fun _ l _ _ _ =>l) t
noncomputable def Ht.rt(t:Ht):Ht:=Ht.rec (motive:=fun _ =>Ht) .nl (fun _ _ r _ _ =>r) t
noncomputable def toPf(k:Nat):Nat→List Bool:=Nat.rec (motive:=fun _ =>Nat→List Bool) (fun _ =>[]) (fun _ ih n=>Nat.rec (motive:=fun _ =>List Bool) [] (fun m _ =>Nat.rec (motive:=fun _ =>List Bool) (false::ih (Nat.div m 2)) (fun _ _ =>true::ih (Nat.div m 2)) (Nat.mod m 2)) n) k
noncomputable def toP(n:Nat):List Bool:=toPf (Nat.succ n) n
noncomputable def Ht.gtp(p:List Bool):Ht→Option Ob:=List.rec (motive:=fun _ =>Ht→Option Ob) (fun t=>t.val) (fun b _ ih t=>Bool.rec (motive:=fun _ =>Option Ob) (ih t.lf) (ih t.rt) b) p
noncomputable def Ht.stp(v:Option Ob)(p:List Bool):Ht→Ht:=List.rec (motive:=fun _ =>Ht→Ht) (fun t=> .nd v t.lf t.rt) (fun b _ ih t=>Bool.rec (motive:=fun _ =>Ht) (.nd t.val (ih t.lf) t.rt) (.nd t.val t.lf (ih t.rt)) b) p
noncomputable def FT.val(t:FT):T:=FT.rec (motive:=fun _ =>T) undefT (fun v _ _ _ _ =>v) t
noncomputable def FT.lf(t:FT):FT:=FT.rec (motive:=fun _ =>FT) .nl (fun _ l _ _ _ =>l) t
noncomputable def FT.rt(t:FT):FT:=FT.rec (motive:=fun _ =>FT) .nl (fun _ _ r _ _ =>r) t
noncomputable def FT.gt(p:List Bool):FT→T:=List.rec (motive:=fun _ =>FT→T) (fun t=>t.val) (fun b _ ih t=>Bool.rec (motive:=fun _ =>T) (ih t.lf) (ih t.rt) b) p
noncomputable def FT.st(v:T)(p:List Bool):FT→FT:=List.rec (motive:=fun _ =>FT→FT) (fun t=> .nd v t.lf t.rt) (fun b _ ih t=>Bool.rec (motive:=fun _ =>FT) (.nd t.val (ih t.lf) t.rt) (.nd t.val t.lf (ih t.rt)) b) p
noncomputable def FT.view(t:FT)(n:Nat):List T:=(List.range n).map fun i=>FT.gt (toP i) t
def FT.Wf(n:Nat)(t:FT):Prop:=∀m,n≤m→FT.gt (toP m) t=undefT
def ofP:List Bool→Nat
 |[]=>0
 |b::p=>2*ofP p+(if b then 2 else 1)
theorem toPf_succ(k m:Nat):toPf (k+1) (m+1)=(!(m%2==0))::toPf k (m/2):=by
 show Nat.rec (motive:=fun _ =>List Bool) (false::toPf k (m/2)) (fun _ _ =>true::toPf k (m/2)) (m%2)=_;cases m%2<;>rfl
theorem ofP_toPf:∀(k n:Nat),n<k→ofP (toPf k n)=n
 |0,_,h=>absurd h (Nat.not_lt_zero _)
 |k+1,0,_ =>rfl
 |k+1,m+1,h=>by
  rw[toPf_succ,ofP,ofP_toPf k (m/2) (by omega)];by_cases hm:m%2=0
  ·simp[hm];omega
  ·have:(m%2==0)=false:=by simpa using hm
   simp[this];omega
theorem toP_inj{m n:Nat}(h:toP m=toP n):m=n:=by
 have h1:=ofP_toPf (m+1) m (by omega);have h2:=ofP_toPf (n+1) n (by omega);rw[←h1,←h2];exact congrArg ofP h
theorem Ht.gtp_stp(v:Option Ob):∀(p q:List Bool) (t:Ht),Ht.gtp q (Ht.stp v p t)=if q=p then v else Ht.gtp q t
 |[],[],t=>rfl
 |[],b::q,t=>by
  rw[if_neg (by simp)];show Ht.gtp (b::q) (.nd v t.lf t.rt)=_;cases b<;>rfl
 |b::p,[],t=>by
  rw[if_neg (by simp)];cases b<;>rfl
 |b::p,c::q,t=>by
  cases b<;>cases c
  ·show Ht.gtp q (Ht.stp v p t.lf)=_;rw[Ht.gtp_stp v p q];by_cases e:q=p
   ·rw[if_pos e,if_pos (by rw[e])]
   ·rw[if_neg e,if_neg (by simpa using e)];rfl
  ·rw[if_neg (by simp)];rfl
  ·rw[if_neg (by simp)];rfl
  ·show Ht.gtp q (Ht.stp v p t.rt)=_;rw[Ht.gtp_stp v p q];by_cases e:q=p
   ·rw[if_pos e,if_pos (by rw[e])]
   ·rw[if_neg e,if_neg (by simpa using e)];rfl
noncomputable def Ht.get(t:Ht)(n:Nat):Option Ob:=Ht.gtp (toP n) t
noncomputable def Ht.put(x:Option Ob)(t:Ht)(n:Nat):Ht:=Ht.stp x (toP n) t
theorem Ht.get_put(x:Option Ob)(t:Ht)(n m:Nat):(Ht.put x t n).get m=if m=n then x else t.get m:=by
 unfold Ht.put Ht.get;rw[Ht.gtp_stp];by_cases e:m=n
 ·rw[if_pos (by rw[e]),if_pos e]
 ·rw[if_neg (fun h=>e (toP_inj h)),if_neg e]
theorem Ht.get_nl(n:Nat):Ht.get .nl n=none:=by
 unfold Ht.get;have:∀p,Ht.gtp p .nl=none:=by
  intro p
  induction p with
  |nil=>rfl
  |cons b p ih=>cases b<;>exact ih
 exact this _
structure Hp where
 next:Nat
 objs:Ht
noncomputable def Hp.any(H:Hp)(l:Nat):Option Ob:=H.objs.get l
def Ob.plain(o:Ob):Option Ob:=match o.me with
 |none=>some o
 |some _ =>none
noncomputable def Hp.get(H:Hp)(l:Nat):Option Ob:=match H.any l with
 |some o=>o.plain
 |none=>none
noncomputable def Hp.put(H:Hp)(l:Nat)(o:Ob):Hp:={H with objs:=H.objs.put (some o) l}
noncomputable def Hp.drop(H:Hp)(l:Nat):Hp:={H with objs:=H.objs.put none l}
noncomputable def Hp.new(H:Hp)(o:Ob):Hp:={next:=H.next+1,objs:=H.objs.put (some o) H.next}
def Hp.empty:Hp:={next:=0,objs:= .nl}
theorem any_put(H:Hp)(l:Nat)(o:Ob)(m:Nat):(H.put l o).any m=if m=l then some o else H.any m:=Ht.get_put (some o) H.objs l m
theorem any_drop(H:Hp)(l m:Nat):(H.drop l).any m=if m=l then none else H.any m:=Ht.get_put none H.objs l m
theorem any_new(H:Hp)(o:Ob)(l:Nat):(H.new o).any l=if H.next=l then some o else H.any l:=by
 refine(Ht.get_put (some o) H.objs H.next l).trans ?_;by_cases h:l=H.next
 ·rw[if_pos h,if_pos h.symm]
 ·rw[if_neg h,if_neg (fun e=>h e.symm)];rfl
theorem get_any{H:Hp}{l:Nat}{o:Ob}(h:H.get l=some o):H.any l=some o∧o.me=none:=by
 unfold Hp.get at h;split at h
 ·rename_i o' ho;unfold Ob.plain at h;split at h
  ·rename_i hm;cases h;exact⟨ho,hm⟩
  ·cases h
 ·cases h
theorem any_get{H:Hp}{l:Nat}{o:Ob}(h:H.any l=some o)(hm:o.me=none):H.get l=some o:=by simp[Hp.get,h,Ob.plain,hm]
theorem get_eq{H H':Hp}{l l':Nat}(h:H.any l=H'.any l'):H.get l=H'.get l':=by unfold Hp.get;rw[h]
theorem get_of_any(H:Hp)(l:Nat):H.get l=(H.any l).bind Ob.plain:=by unfold Hp.get;cases H.any l<;>rfl
theorem findOb_new(H:Hp)(o:Ob)(l:Nat)(hm:o.me=none:=by rfl):(H.new o).get l=if H.next=l then some o else H.get l:=by
 rw[get_of_any,any_new,get_of_any];split
 ·simp[Ob.plain,hm]
 ·rfl
theorem get_put(H:Hp)(l:Nat)(o:Ob)(m:Nat)(hm:o.me=none):(H.put l o).get m=if m=l then some o else H.get m:=by
 rw[get_of_any,any_put,get_of_any];split
 ·simp[Ob.plain,hm]
 ·rfl
theorem get_drop(H:Hp)(l m:Nat):(H.drop l).get m=if m=l then none else H.get m:=by
 rw[get_of_any,any_drop,get_of_any];split<;>rfl
theorem any_nl(n l:Nat):Hp.any ⟨n,.nl⟩ l=none:=Ht.get_nl l
theorem get_nl(n l:Nat):Hp.get ⟨n,.nl⟩ l=none:=by unfold Hp.get;rw[any_nl]
def aggT(P:Program)(t:TypeId):Option Bool:=
 match P.underlying t with
 |some (.struct _)|some (.array _ _)=>some true
 |some _ =>some false
 |none=>none
def szT(P:Program)(t:TypeId):Option Nat:=(P.info? t).map (·.size)
def zeroT(P:Program)(t:TypeId):Option T:=
 match P.info? t with
 |some i=>match i.zero with
  |some v=>ofVal v
  |none=>none
 |none=>none
noncomputable def getT(fr:List T):Tmp→T:=List.rec (motive:=fun _ =>Nat→T) (fun _ =>undefT) (fun x _ ih n=>Nat.rec (motive:=fun _ =>T) x (fun m _ =>ih m) n) fr
noncomputable def setF(v:T)(fr:List T):Nat→List T:=List.rec (motive:=fun _ =>Nat→List T) (fun _ =>[]) (fun x xs ih n=>Nat.rec (motive:=fun _ =>List T) (v::xs) (fun m _ =>x::ih m) n) fr
noncomputable def nthO(fr:List T):Nat→Option T:=List.rec (motive:=fun _ =>Nat→Option T) (fun _ =>none) (fun x _ ih n=>Nat.rec (motive:=fun _ =>Option T) (some x) (fun m _ =>ih m) n) fr
theorem getT_eq:∀(fr:List T) (t:Tmp),getT fr t=fr.getD t undefT
 |[],_ =>rfl
 |_ ::_,0=>rfl
 |_ ::xs,n+1=>(getT_eq xs n).trans rfl
theorem setF_eq(v:T):∀(fr:List T) (t:Nat),setF v fr t=fr.set t v
 |[],_ =>rfl
 |_ ::_,0=>rfl
 |x::xs,n+1=>congrArg (x:: ·) (setF_eq v xs n)
theorem nthO_eq:∀(fr:List T) (t:Nat),nthO fr t=fr[t]?
 |[],_ =>rfl
 |_ ::_,0=>rfl
 |_ ::xs,n+1=>(nthO_eq xs n).trans rfl
def evalT(gl:Nat→Option T)(fr:List T):Operand→Option T
 | .tmp t=>some (getT fr t)
 | .const v=>ofVal v
 | .global g=>gl g
 | .func f=>some (.fn (.func f) [] [])
def evalAll(gl:Nat→Option T)(fr:List T):List Operand→Option (List T)
 |[]=>some []
 |x::xs=>match evalT gl fr x with
  |some t=>match evalAll gl fr xs with
   |some ts=>some (t::ts)
   |none=>none
  |none=>none
def cellsAt(H:Hp):T→Option (List T×Nat)
 | .ref x off=>some (x.cells,off)
 | .ptr l off=>match H.get l with
  |some o=>some (o.cells,off)
  |none=>none
 |_ =>none
def partT(P:Program)(t:TypeId)(cs:List T)(off:Nat):Option T:=
 match aggT P t with
 |some true=>match szT P t with
  |some n=>if off+n≤cs.length then some (.agg ((cs.drop off).take n))else none
  |none=>none
 |some false=>cs[off]?
 |none=>none
def loadT(P:Program)(H:Hp)(t:TypeId)(p:T):Option T:=
 match cellsAt H p with
 |some (cs,off)=>partT P t cs off
 |none=>none
def addT:T→Nat→Option T
 | .ref x off,n=>some (.ref x (off+n))
 | .ptr l off,n=>some (.ptr l (off+n))
 |_,_ =>none
def intBin(op:BinOp)(k:IntKind)(a b:Int):Option T:=
 match op with
 | .add=>some (.int k (k.wrap (a+b)))
 | .sub=>some (.int k (k.wrap (a-b)))
 | .mul=>some (.int k (k.wrap (a*b)))
 | .quo=>if b=0 then none else some (.int k (k.wrap (a.tdiv b)))
 | .rem=>if b=0 then none else some (.int k (a.tmod b))
 | .and=>some (.int k (k.wrap (BitVec.ofInt k.bits a&&&BitVec.ofInt k.bits b).toNat))
 | .or=>some (.int k (k.wrap (BitVec.ofInt k.bits a|||BitVec.ofInt k.bits b).toNat))
 | .xor=>some (.int k (k.wrap (BitVec.ofInt k.bits a^^^BitVec.ofInt k.bits b).toNat))
 | .andNot=>some (.int k (k.wrap (BitVec.ofInt k.bits a&&& ~~~BitVec.ofInt k.bits b).toNat))
 | .eql=>some (.bool (a==b))
 | .neq=>some (.bool (a !=b))
 | .lss=>some (.bool (decide (a<b)))
 | .leq=>some (.bool (decide (a≤b)))
 | .gtr=>some (.bool (decide (a>b)))
 | .geq=>some (.bool (decide (a≥b)))
 |_ =>none
def shiftBin(op:BinOp)(k:IntKind)(a b:Int):Option T:=
 match op with
 | .shl=>if b<0 then none else some (.int k (k.wrap (a*2^(min b.toNat k.bits))))
 | .shr=>if b<0 then none else some (.int k (a.fdiv (2^(min b.toNat k.bits))))
 |_ =>none
def maxStr:Nat:=4611686018427387904
def strBin(op:BinOp)(a b:List UInt8):Option T:=
 match op with
 | .add=>if a.length+b.length≤maxStr then some (.str (a++b))else none
 | .eql=>some (.bool (a==b))
 | .neq=>some (.bool (!(a==b)))
 | .lss=>some (.bool (Op.bytesLess a b))
 | .leq=>some (.bool (Op.bytesLess a b||a==b))
 | .gtr=>some (.bool (!(Op.bytesLess a b||a==b)))
 | .geq=>some (.bool (!Op.bytesLess a b))
 |_ =>none
def eqT(P:Program)(t:TypeId)(x y:T):Option Bool:=
 match P.underlying t,x,y with
 |some .bool,.bool a,.bool b=>some (a==b)
 |some (.slice _),.nils,.nils=>some true
 |some (.slice _),.nils,.sl .. =>some false
 |some (.slice _),.sl ..,.nils=>some false
 |some (.slice _),.nils,.osl .. =>some false
 |some (.slice _),.osl ..,.nils=>some false
 |some (.pointer _),.nilp,.nilp=>some true
 |some (.pointer _),.nilp,.ptr .. =>some false
 |some (.pointer _),.ptr ..,.nilp=>some false
 |some (.pointer _),.nilp,.ref .. =>some false
 |some (.pointer _),.ref ..,.nilp=>some false
 |some (.interface _),.nili,.nili=>some true
 |some (.interface _),.nili,.iface .. =>some false
 |some (.interface _),.iface ..,.nili=>some false
 |some (.func ..),.nilf,.nilf=>some true
 |some (.func ..),.nilf,.fn .. =>some false
 |some (.func ..),.fn ..,.nilf=>some false
 |some (.map ..),.nilm,.nilm=>some true
 |some (.map ..),.nilm,.mp .. =>some false
 |some (.map ..),.mp ..,.nilm=>some false
 |_,_,_ =>none
def eq1(P:Program)(t:TypeId)(x y:T):Option Bool:=
 match P.underlying t,x,y with
 |some (.int _),.int k a,.int k' b=>if k=k' then some (a==b)else none
 |some .string,.str a,.str b=>some (a==b)
 |some .bool,.bool a,.bool b=>some (a==b)
 |_,_,_ =>none
def eqFs(P:Program)(xs ys:List T):List Field→Option Bool
 |[]=>some true
 |f::r=>match xs[f.offset]?,ys[f.offset]? with
  |some a,some b=>if f.name= "_" then none else match eq1 P f.type a b with
   |some true=>eqFs P xs ys r
   |q=>q
  |_,_ =>none
def eqK(P:Program)(t:TypeId)(x y:T):Option Bool:=
 match x,y with
 | .agg xs,.agg ys=>match P.underlying t with
  |some (.struct fs)=>if P.stoodInHeld t then none else eqFs P xs ys fs.toList
  |_ =>none
 |x,y=>eq1 P t x y
def keyOk1(P:Program)(t:TypeId)(x:T):Bool:=
 match P.underlying t,x with
 |some (.int _),.int .. |some .string,.str _ |some .bool,.bool _ =>true
 |_,_ =>false
def keyFs(P:Program)(xs:List T):List Field→Bool
 |[]=>true
 |f::r=>(match xs[f.offset]? with
  |some a=> !(f.name== "_")&&keyOk1 P f.type a
  |none=>false)&&keyFs P xs r
def keyOk(P:Program)(t:TypeId)(x:T):Bool:=
 match x with
 | .agg xs=>match P.underlying t with
  |some (.struct fs)=> !(P.stoodInHeld t)&&keyFs P xs fs.toList
  |_ =>false
 |x=>keyOk1 P t x
def findM(P:Program)(t:TypeId)(k:T):List (Nat×T×T)→Nat→Option (Option (Nat×Nat×T))
 |[],_ =>some none
 |(b,k',v)::r,i=>match eqK P t k k' with
  |some true=>some (some (i,b,v))
  |some false=>findM P t k r (i+1)
  |none=>none
def entsT(H:Hp):T→Option (List (Nat×T×T))
 | .nilm=>some []
 | .mp l=>match H.any l with
  |some o=>match o.me with
   |some (.map _ es)=>some es
   |_ =>none
  |none=>none
 |_ =>none
def lookupT(P:Program)(H:Hp)(t:TypeId)(x k:T)(ok:Bool):Option T:=
 match P.underlying t with
 | some (.map kt et)=>if keyOk P kt k then match entsT H x with
   |some es=>match findM P kt k es 0 with
    |some (some (_,_,v))=>some (if ok then .tup [v,.bool true]else v)
    |some none=>match zeroT P et with
     |some z=>some (if ok then .tup [z,.bool false]else z)
     |none=>none
    |none=>none
   |none=>none
  else none
 |_ =>none
def constO:Operand→Bool
 | .const _ =>true
 |_ =>false
def bothNil:T→T→Bool
 | .nili,.nili=>true
 |_,_ =>false
def nilsOk(X Y:Operand)(a b:T):Bool:=constO X||(constO Y|| !bothNil a b)
def eqS(P:Program)(t:TypeId)(x y:T):Option Bool:=
 match x,y with
 | .agg _,.agg _ =>if P.eqGuardType P.depth t then none else eqK P t x y
 |x,y=>eqT P t x y
def binT(P:Program)(op:BinOp)(t:TypeId)(x y:T):Option T:=
 match op,x,y with
 | .shl,.int k a,.int _ b=>shiftBin .shl k a b
 | .shr,.int k a,.int _ b=>shiftBin .shr k a b
 |op,.int k a,.int k' b=>if k=k' then intBin op k a b else none
 |op,.str a,.str b=>strBin op a b
 | .eql,x,y=>(eqS P t x y).map .bool
 | .neq,x,y=>(eqS P t x y).map fun b=> .bool (!b)
 |_,_,_ =>none
def unT(op:UnOp)(x:T):Option T:=
 match op,x with
 | .neg,.int k n=>some (.int k (k.wrap (0-n)))
 | .not,.bool b=>some (.bool (!b))
 |_,_ =>none
def convT(P:Program)(src dst:TypeId)(x:T):Option T:=
 match P.underlying src,P.underlying dst,x with
 |some _,some (.int k),.int _ n=>some (.int k (k.wrap n))
 |some _,some .string,.str s=>some (.str s)
 |some (.slice e),some .string,.sl _ [.int .u8 n]=>match P.underlying e with
  |some (.int .u8)=>some (.str [UInt8.ofNat n.toNat])
  |_ =>none
 |_,_,_ =>none
def bytesT(P:Program)(src dst:TypeId)(x:T):Option T:=
 match P.underlying src,P.underlying dst,x with
 |some _,some (.slice e),.str s=>match P.underlying e with
  |some (.int .u8)=>if s.length≤70368744177664 then some (.sl false (s.map fun b=> .int .u8 b.toNat))else none
  |_ =>none
 |_,_,_ =>none
def convB(P:Program)(src dst:TypeId)(x:T):Option T:=
 match convT P src dst x with
 |some r=>some r
 |none=>bytesT P src dst x
def fieldT(P:Program)(s:TypeId)(f:Nat):Option Field:=
 match P.underlying s with
 |some (.struct fs)=>fs[f]?
 |_ =>none
def fieldAddrT(P:Program)(s:TypeId)(x:T)(f:Nat):Option T:=
 match fieldT P s f with
 |some fd=>match szT P fd.type with
  |some n=>if n=0 then none else addT x fd.offset
  |none=>none
 |none=>none
def indexAddrT(P:Program)(t:TypeId)(x i:T):Option T:=
 match i with
 | .int _ n=>
  match P.underlying t,x with
  | some (.slice e),.sl _ xs=>if 0≤n then match xs[n.toNat]? with
    |some y=>match szT P e with
     |some s=>if y.cells.length=s then some (.ref y 0)else none
     |none=>none
    |none=>none
   else none
  | some (.slice e),.slf _ len f=>if 0≤n∧n<len then match szT P e with
    |some s=>if(f n.toNat).cells.length=s then some (.ref (f n.toNat) 0)else none
    |none=>none
   else none
  | some (.slice e),.osl l sz j len=>if 0≤n∧n<len then match szT P e with
    |some s=>if sz=s then some (.ptr l ((j+n.toNat)*sz))else none
    |none=>none
   else none
  | some (.array len e),x=>if 0≤n∧n<len then match szT P e with
    |some s=>addT x (n.toNat*s)
    |none=>none
   else none
  |_,_ =>none
 |_ =>none
def indexT(P:Program)(t:TypeId)(x i:T):Option T:=
 match i with
 | .int _ n=>
  match P.underlying t,x with
  | some (.array len e),.agg cs=>if 0≤n∧n<len then match szT P e with
    |some s=>partT P e cs (n.toNat*s)
    |none=>none
   else none
  |some .string,.str s=>if 0≤n then(s[n.toNat]?).map fun b=> .int .u8 b.toNat else none
  |_,_ =>none
 |_ =>none
def boundT(x:Option T)(dflt top:Nat):Option Nat:=
 match x with
 |none=>some dflt
 |some (.int _ n)=>if 0≤n∧n≤top then some n.toNat else none
 |some _ =>none
def headOk(s:Nat):List T→Bool
 |[]=>true
 |x::_ =>x.cells.length==s
def sliceT(P:Program)(t:TypeId)(x:T)(lo hi:Option T):Option T:=
 match P.underlying t,x with
 |some .string,.str s=>
  match boundT hi s.length s.length with
  |some h=>match boundT lo 0 h with
   |some l=>some (.str ((s.take h).drop l))
   |none=>none
  |none=>none
 |some (.slice e),.sl full xs=>
  match boundT hi xs.length xs.length with
  |some h=>match boundT lo 0 h with
   |some l=>match szT P e with
    |some s=>if headOk s xs then some (.sl (full&&h==xs.length) ((xs.take h).drop l))else none
    |none=>none
   |none=>none
  |none=>none
 |some (.slice e),.slf full n f=>
  match boundT hi n n with
  |some h=>match boundT lo 0 h with
   |some l=>match szT P e with
    |some s=>if l<h∧(f l).cells.length≠s then none else some (.slf (full&&h==n) (h-l) (fun i=>f (l+i)))
    |none=>none
   |none=>none
  |none=>none
 |some (.slice e),.nils=>
  match boundT hi 0 0 with
  |some _ =>match boundT lo 0 0 with
   |some _ =>if(szT P e).isSome then some .nils else none
   |none=>none
  |none=>none
 |some (.slice e),.osl l sz j len=>
  match boundT hi len len with
  |some h=>match boundT lo 0 h with
   |some k=>match szT P e with
    |some s=>if s=sz then some (.osl l sz (j+k) (h-k))else none
    |none=>none
   |none=>none
  |none=>none
 |_,_ =>none
def lenT(P:Program)(t:TypeId)(x:T):Option T:=
 match P.underlying t,x with
 |some .string,.str s=>some (.int .i64 s.length)
 |some (.slice _),.sl _ xs=>some (.int .i64 xs.length)
 |some (.slice _),.nils=>some (.int .i64 0)
 |some (.slice _),.slf _ n _ =>some (.int .i64 n)
 |some (.slice _),.osl _ _ _ len=>some (.int .i64 len)
 |some (.array n _),_ =>some (.int .i64 n)
 |some (.map ..),.nilm=>some (.int .i64 0)
 |_,_ =>none
def lenH(P:Program)(H:Hp)(t:TypeId)(x:T):Option T:=
 match x with
 | .mp l=>match P.underlying t with
  |some (.map ..)=>match entsT H (.mp l)with
   |some es=>some (.int .i64 es.length)
   |none=>none
  |_ =>lenT P t (.mp l)
 |x=>lenT P t x
theorem lenH_of{P:Program}{H:Hp}{t:TypeId}{x r:T}(h:lenT P t x=some r):lenH P H t x=some r:=by
 unfold lenH;split
 ·split
  ·rename_i hd;simp[lenT,hd]at h
  ·exact h
 ·exact h
def minT:T→T→Option T
 | .int k x,.int _ y=>some (.int k (if y<x then y else x))
 |_,_ =>none
def maxT:T→T→Option T
 | .int k x,.int _ y=>some (.int k (if x<y then y else x))
 |_,_ =>none
def foldT(f:T→T→Option T):T→List T→Option T
 |x,[]=>some x
 |x,y::r=>match f x y with
  |some z=>foldT f z r
  |none=>none
def spliceT(cs:List T)(off:Nat)(new:List T):List T:=cs.take off++new++cs.drop (off+new.length)
def fillT(place:Nat→Option (Nat×Nat)):List T→List (Nat×T)→Option (List T)
 |cs,[]=>some cs
 |cs,(i,v)::r=>
  match place i with
  |none=>none
  |some (off,size)=>if v.cells.length=size∧off+size≤cs.length then fillT place (spliceT cs off v.cells) r else none
def placesT(P:Program):List Field→Option (List (Nat×Nat))
 |[]=>some []
 |f::r=>match szT P f.type with
  |some s=>match placesT P r with
   |some l=>some ((f.offset,s)::l)
   |none=>none
  |none=>none
def pairsT(gl:Nat→Option T)(fr:List T):List (Nat×Operand)→Option (List (Nat×T))
 |[]=>some []
 |(i,x)::r=>match evalT gl fr x with
  |some t=>match pairsT gl fr r with
   |some l=>some ((i,t)::l)
   |none=>none
  |none=>none
def buildT(P:Program)(t:TypeId)(parts:List (Nat×T)):Option T:=
 match zeroT P t with
 |some z=>
  match P.underlying t with
  |some (.struct fs)=>match placesT P fs.toList with
   |some pl=>(fillT (pl[·]?) z.cells parts).map .agg
   |none=>none
  |some (.array _ e)=>match szT P e with
   |some s=>(fillT (fun i=>some (i*s,s)) z.cells parts).map .agg
   |none=>none
  |_ =>none
 |none=>none
def setsT(sz:Nat)(ag:Bool):List T→List (Nat×T)→Option (List T)
 |xs,[]=>some xs
 |xs,(i,v)::r=>if v.cells.length=sz∧v.isAgg=ag∧i<xs.length then setsT sz ag (xs.set i v) r else none
def buildSliceT(P:Program)(t:TypeId)(len:Nat)(parts:List (Nat×T)):Option T:=
 match P.underlying t with
 |some (.slice e)=>match szT P e,aggT P e,zeroT P e with
  | some s,some ag,some z=>if 0<s∧len*s≤65536∧z.cells.length=s∧z.isAgg=ag then
    (setsT s ag (List.replicate len z) parts).map (.sl true)
   else none
  |_,_,_ =>none
 |_ =>none
def nilCheckT:T→Option T
 | .ptr l o=>some (.ptr l o)
 | .ref x o=>some (.ref x o)
 | .fn (.func f) a c=>some (.fn (.func f) a c)
 | .iface t x=>some (.iface t x)
 |_ =>none
structure Env where
 gl:Nat→Option T
 pe:Hp→FuncId→List T→Option T
def optT(ev:Operand→Option T):Option Operand→Option (Option T)
 |none=>some none
 |some x=>match ev x with
  |some t=>some (some t)
  |none=>none
def evalC(P:Program)(E:Env)(H:Hp)(fr:List T)(c:Call):Option T:=
 match c.callee with
 | .value f=>match evalT E.gl fr f with
  |some (.fn (.func g) first cap)=>match evalAll E.gl fr c.args.toList with
   |some ars=>E.pe H g (first++ars++cap)
   |none=>none
  |_ =>none
 | .invoke _ _ =>none
 | .builtin b=>match b with
  | .len=>match c.args.toList,c.argTypes.toList with
   |[x],t::_ =>match evalT E.gl fr x with
    |some a=>lenH P H t a
    |none=>none
   |_,_ =>none
  | .min=>match evalAll E.gl fr c.args.toList with
   |some (x::r)=>foldT minT x r
   |_ =>none
  | .max=>match evalAll E.gl fr c.args.toList with
   |some (x::r)=>foldT maxT x r
   |_ =>none
  |_ =>none
def evalP(P:Program)(E:Env)(own:Bool)(H:Hp)(fr:List T)(o:Oper):Option T:=
 let ev:=evalT E.gl fr
 match o.op with
 | .move x| .assign x=>ev x
 | .pick c a b=>match ev c with
  |some (.bool b')=>if b' then ev a else ev b
  |_ =>none
 | .box _ x=>if own then none else(ev x).map (.ref · 0)
 | .build t parts=>match pairsT E.gl fr parts.toList with
  |some l=>buildT P t l
  |none=>none
 | .buildSlice t len parts=>if own then none else match pairsT E.gl fr parts.toList with
  |some l=>buildSliceT P t len l
  |none=>none
 | .load t a=>match ev a with
  |some p=>loadT P H t p
  |none=>none
 | .nilCheck x=>match ev x with
  |some p=>nilCheckT p
  |none=>none
 | .binOp op t x y _ =>match ev x,ev y with
  |some a,some b=>if nilsOk x y a b then binT P op t a b else none
  |_,_ =>none
 | .unOp op _ x=>match ev x with
  |some a=>unT op a
  |none=>none
 | .convert s d x=>match ev x with
  |some a=>convB P s d a
  |none=>none
 | .makeFunc f first captured=>match evalAll E.gl fr first.toList,evalAll E.gl fr captured.toList with
  |some a,some c=>some (.fn f a c)
  |_,_ =>none
 | .fieldAddr s x f=>match ev x with
  |some a=>fieldAddrT P s a f
  |none=>none
 | .field t x f=>match ev x with
  |some (.agg cs)=>match fieldT P t f with
   |some fd=>partT P fd.type cs fd.offset
   |none=>none
  |_ =>none
 | .indexAddr t x i=>match ev x,ev i with
  |some a,some b=>indexAddrT P t a b
  |_,_ =>none
 | .index t x i=>match ev x,ev i with
  |some a,some b=>indexT P t a b
  |_,_ =>none
 | .slice t x lo hi mx=>match mx with
  |some _ =>none
  |none=>match ev x with
   |some a=>match optT ev lo,optT ev hi with
    |some l,some h=>sliceT P t a l h
    |_,_ =>none
   |none=>none
 | .extract x i=>match ev x with
  |some (.tup xs)=>xs[i]?
  |_ =>none
 | .lookup t x i ok=>match ev x,ev i with
  |some a,some b=>lookupT P H t a b ok
  |_,_ =>none
 | .call c=>evalC P E H fr c
 |_ =>none
def putT(fr:List T)(dst:Option Tmp)(v:T):List T:=
 match dst with
 |some d=>fr.set d v
 |none=>fr
noncomputable def putF(fr:List T)(dst:Option Tmp)(v:T):List T:=
 match dst with
 |some d=>setF v fr d
 |none=>fr
theorem putF_eq(fr:List T)(dst:Option Tmp)(v:T):putF fr dst v=putT fr dst v:=by
 cases dst with
 |none=>rfl
 |some d=>exact setF_eq v fr d
def yieldedT(ops:Array Oper)(fr:List T)(j:Nat):Option Bool:=
 match((ops[j]?).bind (·.dst)).bind (fun d=>fr[d]?)with
 |some (.bool b)=>some b
 |_ =>none
def wantedT(ops:Array Oper)(fr:List T)(o:Oper):Bool:=
 match o.guard with
 |none=>true
 |some (j,want)=>yieldedT ops fr j==some want
end
end Go.Ps
namespace Go.Ps
structure G where
 w:World
 S:Nat→Prop
 al:Nat→Prop
 loc:Nat→Nat
 cp:Nat→Nat
inductive RdI(g:G):Value→T→Prop
 |int (k:IntKind) (n:Int):RdI g (.int k n) (.int k n)
 |bool (b:Bool):RdI g (.bool b) (.bool b)
 |str (s:ByteArray):RdI g (.string s) (.str s.data.toList)
 |nilp:RdI g (.pointer none) .nilp
 |nils:RdI g (.slice none 0 0) .nils
 |nilf:RdI g .nilFunc .nilf
 |nili:RdI g .nilIface .nili
 |nilm:RdI g (.map none) .nilm
 |slfn (full:Bool) (f:Nat→T) (p:Option Addr):RdI g (.slice p 0 0) (.slf full 0 f)
 | slf (full:Bool) (n:Nat) (f:Nat→T) (sz b o cap:Nat) (vs:List Value):(n≠0→g.S b)→(∀i,i<n→(f i).cells.length=sz)→n≤cap→cap≤maxLen→(full=true→cap=n)→
   vs.length=n*sz→(∀(j:Nat) (v:Value),vs[j]? =some v→g.w.cell? ⟨b,o+j,none⟩=some v)→
   (∀(i j:Nat) (v:Value) (c:T),i<n→j<sz→vs[i*sz+j]? =some v→(f i).cells[j]? =some c→RdI g v c)→RdI g (.slice (some ⟨b,o,none⟩) n cap) (.slf full n f)
 |agg (cs:List T) (vs:List Value):vs.length=cs.length→(∀(j:Nat) (v:Value) (c:T),vs[j]? =some v→cs[j]? =some c→RdI g v c)→RdI g (.agg vs.toArray) (.agg cs)
inductive Rd(g:G):Value→T→Prop
 |int (k:IntKind) (n:Int):Rd g (.int k n) (.int k n)
 |bool (b:Bool):Rd g (.bool b) (.bool b)
 |str (s:ByteArray):Rd g (.string s) (.str s.data.toList)
 |nilp:Rd g (.pointer none) .nilp
 |ptr (l off:Nat):g.al l→Rd g (.pointer (some ⟨g.loc l,off,none⟩)) (.ptr l off)
 | ref (x:T) (off b o:Nat) (vs:List Value):g.S b→vs.length=x.cells.length→(∀(j:Nat) (v:Value),vs[j]? =some v→g.w.cell? ⟨b,o+j,none⟩=some v)→
   (∀(j:Nat) (v:Value) (c:T),vs[j]? =some v→x.cells[j]? =some c→Rd g v c)→Rd g (.pointer (some ⟨b,o+off,none⟩)) (.ref x off)
 |nils:Rd g (.slice none 0 0) .nils
 |slfn (full:Bool) (f:Nat→T) (p:Option Addr):Rd g (.slice p 0 0) (.slf full 0 f)
 | sl (full:Bool) (xs:List T) (sz b o cap:Nat) (vs:List Value):(xs≠[]→g.S b)→(∀x∈xs,x.cells.length=sz)→xs.length≤cap→cap≤maxLen→(full=true→cap=xs.length)→
   vs.length=xs.length*sz→(∀(j:Nat) (v:Value),vs[j]? =some v→g.w.cell? ⟨b,o+j,none⟩=some v)→
   (∀(j:Nat) (v:Value) (c:T),vs[j]? =some v→(xs.flatMap T.cells)[j]? =some c→Rd g v c)→Rd g (.slice (some ⟨b,o,none⟩) xs.length cap) (.sl full xs)
 | slf (full:Bool) (n:Nat) (f:Nat→T) (sz b o cap:Nat) (vs:List Value):(n≠0→g.S b)→(∀i,i<n→(f i).cells.length=sz)→n≤cap→cap≤maxLen→(full=true→cap=n)→
   vs.length=n*sz→(∀(j:Nat) (v:Value),vs[j]? =some v→g.w.cell? ⟨b,o+j,none⟩=some v)→
   (∀(i j:Nat) (v:Value) (c:T),i<n→j<sz→vs[i*sz+j]? =some v→(f i).cells[j]? =some c→RdI g v c)→Rd g (.slice (some ⟨b,o,none⟩) n cap) (.slf full n f)
 |osl (l sz i len b o cap:Nat):g.al l→len≤cap→i+cap≤g.cp l→(0<len∨i=0→b=g.loc l∧o=i*sz)→(i=0→cap=g.cp l)→Rd g (.slice (some ⟨b,o,none⟩) len cap) (.osl l sz i len)
 |nilf:Rd g .nilFunc .nilf
 | fn (f:Fn) (first captured:List T) (vs us:List Value):vs.length=first.length→(∀(j:Nat) (v:Value) (c:T),vs[j]? =some v→first[j]? =some c→Rd g v c)→
   us.length=captured.length→(∀(j:Nat) (v:Value) (c:T),us[j]? =some v→captured[j]? =some c→Rd g v c)→Rd g (.func f vs.toArray us.toArray) (.fn f first captured)
 |nili:Rd g .nilIface .nili
 |iface (t:TypeId) (v:Value) (x:T):Rd g v x→Rd g (.iface t v) (.iface t x)
 |nilm:Rd g (.map none) .nilm
 |mp (l:Nat):g.al l→Rd g (.map (some (g.loc l))) (.mp l)
 |yl (l:Nat):g.al l→Rd g (.func (.yield (g.loc l)) #[] #[]) (.yl l)
 |agg (cs:List T) (vs:List Value):vs.length=cs.length→(∀(j:Nat) (v:Value) (c:T),vs[j]? =some v→cs[j]? =some c→Rd g v c)→Rd g (.agg vs.toArray) (.agg cs)
 |tup (cs:List T) (vs:List Value):vs.length=cs.length→(∀(j:Nat) (v:Value) (c:T),vs[j]? =some v→cs[j]? =some c→Rd g v c)→Rd g (.tuple vs.toArray) (.tup cs)
def RdL(g:G)(vs:List Value)(ts:List T):Prop:=vs.length=ts.length∧∀(j:Nat) (v:Value) (c:T),vs[j]? =some v→ts[j]? =some c→Rd g v c
section RdL
variable{g:G}
theorem RdL.nil:RdL g [] []:=⟨rfl,fun j v c h=>by simp at h⟩
theorem RdL.cons{v:Value}{t:T}{vs:List Value}{ts:List T}(h:Rd g v t)(hs:RdL g vs ts):RdL g (v::vs) (t::ts):=by
 refine⟨by simp[hs.1],fun j u c hu hc=> ?_⟩;cases j with
 |zero=>simp at hu hc;subst hu;subst hc;exact h
 |succ j=>simp at hu hc;exact hs.2 j u c hu hc
theorem RdL.inv_cons{v:Value}{t:T}{vs:List Value}{ts:List T}(h:RdL g (v::vs) (t::ts)):Rd g v t∧RdL g vs ts:=
 ⟨h.2 0 v t rfl rfl,by simpa using h.1,fun j u c hu hc=>h.2 (j+1) u c (by simpa using hu) (by simpa using hc)⟩
theorem RdL.append{vs us:List Value}{ts ss:List T}(h:RdL g vs ts)(k:RdL g us ss):RdL g (vs++us) (ts++ss):=by
 refine⟨by simp[h.1,k.1],fun j u c hu hc=> ?_⟩;rw[List.getElem?_append]at hu hc;by_cases hj:j<vs.length
 ·rw[if_pos hj]at hu;rw[if_pos (h.1▸hj)]at hc;exact h.2 j u c hu hc
 ·rw[if_neg hj]at hu;rw[if_neg (h.1▸hj),←h.1]at hc;exact k.2 _ u c hu hc
theorem RdL.take{vs:List Value}{ts:List T}(h:RdL g vs ts)(n:Nat):RdL g (vs.take n) (ts.take n):=by
 refine⟨by simp[h.1],fun j u c hu hc=> ?_⟩;rw[List.getElem?_take]at hu hc;split at hu
 ·rename_i hj;rw[if_pos hj]at hc;exact h.2 j u c hu hc
 ·cases hu
theorem RdL.drop{vs:List Value}{ts:List T}(h:RdL g vs ts)(n:Nat):RdL g (vs.drop n) (ts.drop n):=by
 refine⟨by simp[h.1],fun j u c hu hc=> ?_⟩;rw[List.getElem?_drop]at hu hc;exact h.2 _ u c hu hc
theorem RdL.at_ {vs:List Value}{ts:List T}(h:RdL g vs ts){j:Nat}{t:T}(ht:ts[j]? =some t):∃v,vs[j]? =some v∧Rd g v t:=by
 have hj:j<ts.length:=(List.getElem?_eq_some_iff.1 ht).1;have hv:vs[j]? =some (vs[j]'(by rw[h.1];exact hj)):=List.getElem?_eq_getElem _;exact⟨_,hv,h.2 j _ t hv ht⟩
theorem RdL.set{vs:List Value}{ts:List T}(h:RdL g vs ts)(i:Nat){v:Value}{t:T}(hv:Rd g v t):RdL g (vs.set i v) (ts.set i t):=by
 refine⟨by simp[h.1],fun j u c hu hc=> ?_⟩;rw[List.getElem?_set]at hu hc;by_cases hij:i=j
 ·rw[if_pos hij]at hu hc;split at hu
  ·split at hc
   ·simp at hu hc;subst hu;subst hc;exact hv
   ·cases hc
  ·cases hu
 ·rw[if_neg hij]at hu hc;exact h.2 j u c hu hc
theorem RdL.replicate{v:Value}{t:T}(n:Nat)(h:Rd g v t):RdL g (List.replicate n v) (List.replicate n t):=by
 induction n with
 |zero=>exact RdL.nil
 |succ n ih=>exact RdL.cons h ih
end RdL
structure PStep(g g':G):Prop where
 os:g'.w.os=g.w.os
 tape:g'.w.tape=g.w.tape
 output:g'.w.output=g.w.output
 size:g.w.heap.size≤g'.w.heap.size
 block:∀b,b<g.w.heap.size→g'.w.heap[b]? =g.w.heap[b]?
 sub:∀b,g.S b→g'.S b
 fresh:∀b,g'.S b→g.S b∨g.w.heap.size≤b
 al:g'.al=g.al
 loc:g'.loc=g.loc
 cp:g'.cp=g.cp
theorem PStep.refl(g:G):PStep g g:=⟨rfl,rfl,rfl,Nat.le_refl _,fun _ _ =>rfl,fun _ h=>h,fun _ h=> .inl h,rfl,rfl,rfl⟩
theorem PStep.trans{a b c:G}(h:PStep a b)(k:PStep b c):PStep a c:=
 ⟨k.os.trans h.os,k.tape.trans h.tape,k.output.trans h.output,Nat.le_trans h.size k.size,fun i hi=>(k.block i (Nat.lt_of_lt_of_le hi h.size)).trans (h.block i hi),
  fun i hi=>k.sub i (h.sub i hi),fun i hi=>(k.fresh i hi).elim (h.fresh i) (fun q=> .inr (Nat.le_trans h.size q)),k.al.trans h.al,k.loc.trans h.loc,k.cp.trans h.cp⟩
theorem lt_of_cell{w:World}{a:Addr}{v:Value}(h:w.cell? a=some v):a.block<w.heap.size:=by
 unfold World.cell? at h;split at h
 ·rename_i hb;exact(Array.getElem?_eq_some_iff.1 hb).1
 ·cases h
theorem PStep.cell{g g':G}(h:PStep g g'){a:Addr}{v:Value}(hc:g.w.cell? a=some v):g'.w.cell? a=some v:=
 (World.cell?_of_block (w:=g.w) (h.block _ (lt_of_cell hc))).trans hc
theorem RdI.keep{g g':G}(hS:∀b,g.S b→g'.S b)(hc:∀b o v,g.S b→g.w.cell? ⟨b,o,none⟩=some v→g'.w.cell? ⟨b,o,none⟩=some v){v:Value}{t:T}(hr:RdI g v t):RdI g' v t:=by
 induction hr with
 |int k n=>exact .int k n
 |bool b=>exact .bool b
 |str s=>exact .str s
 |nilp=>exact .nilp
 |nils=>exact .nils
 |slfn full f p=>exact .slfn full f p
 |nilf=>exact .nilf
 |nili=>exact .nili
 |nilm=>exact .nilm
 |slf full n f sz b o cap vs h1 h2 h3 h4 h5 h6 h7 _ ih=>
  refine .slf full n f sz b o cap vs (fun q=>hS b (h1 q)) h2 h3 h4 h5 h6 (fun j v hv=> ?_) ih;have hn:n≠0:=by
   rintro rfl;simp at h6;subst h6;simp at hv
  exact hc b _ v (h1 hn) (h7 j v hv)
 |agg cs vs h1 _ ih=>exact .agg cs vs h1 ih
theorem RdI.rd{g:G}{v:Value}{t:T}(h:RdI g v t):Rd g v t:=by
 induction h with
 |int k n=>exact .int k n
 |bool b=>exact .bool b
 |str s=>exact .str s
 |nilp=>exact .nilp
 |nils=>exact .nils
 |slfn full f p=>exact .slfn full f p
 |nilf=>exact .nilf
 |nili=>exact .nili
 |nilm=>exact .nilm
 |slf full n f sz b o cap vs h1 h2 h3 h4 h5 h6 h7 h8 _ =>exact .slf full n f sz b o cap vs h1 h2 h3 h4 h5 h6 h7 h8
 |agg cs vs h1 _ ih=>exact .agg cs vs h1 ih
theorem RdI.pstep{g g':G}(h:PStep g g'){v:Value}{t:T}(hr:RdI g v t):RdI g' v t:=hr.keep h.sub (fun _ _ _ _ hc=>h.cell hc)
theorem Rd.slf_keep{g g':G}(hS:∀b,g.S b→g'.S b)(hc:∀b o v,g.S b→g.w.cell? ⟨b,o,none⟩=some v→g'.w.cell? ⟨b,o,none⟩=some v){full:Bool}{n:Nat}{f:Nat→T}{sz b o cap:Nat}{vs:List Value}(h1:n≠0→g.S b)(h2:∀i,i<n→(f i).cells.length=sz)(h3:n≤cap)(h4:cap≤maxLen)(h5:full=true→cap=n)
  (h6:vs.length=n*sz) (h7:∀(j:Nat) (v:Value),vs[j]? =some v→g.w.cell? ⟨b,o+j,none⟩=some v)
  (h8:∀(i j:Nat) (v:Value) (c:T),i<n→j<sz→vs[i*sz+j]? =some v→(f i).cells[j]? =some c→RdI g v c):Rd g' (.slice (some ⟨b,o,none⟩) n cap) (.slf full n f):=
 ((RdI.slf full n f sz b o cap vs h1 h2 h3 h4 h5 h6 h7 h8).keep hS hc).rd
theorem Rd.pstep{g g':G}(h:PStep g g'){v:Value}{t:T}(hr:Rd g v t):Rd g' v t:=by
 induction hr with
 |int k n=>exact .int k n
 |bool b=>exact .bool b
 |str s=>exact .str s
 |nilp=>exact .nilp
 |ptr l off hl=>rw[←h.loc];exact .ptr l off (h.al▸hl)
 |ref x off b o vs hS hlen hc _ ih=>exact .ref x off b o vs (h.sub b hS) hlen (fun j v hv=>h.cell (hc j v hv)) ih
 |nils=>exact .nils
 |slfn full f p=>exact .slfn full f p
 |sl full xs sz b o cap vs hS hsz h1 h2 h3 hlen hc _ ih=>exact .sl full xs sz b o cap vs (fun hx=>h.sub b (hS hx)) hsz h1 h2 h3 hlen (fun j v hv=>h.cell (hc j v hv)) ih
 |slf full n f sz b o cap vs h1 h2 h3 h4 h5 h6 h7 h8=>exact Rd.slf_keep h.sub (fun _ _ _ _ hc=>h.cell hc) h1 h2 h3 h4 h5 h6 h7 h8
 |osl l sz i len b o cap hl h1 h2 h3 h4=>exact .osl l sz i len b o cap (h.al▸hl) h1 (h.cp▸h2) (fun q=>h.loc▸h3 q) (fun q=>h.cp▸h4 q)
 |nilf=>exact .nilf
 |fn f first captured vs us h1 _ h2 _ ih1 ih2=>exact .fn f first captured vs us h1 ih1 h2 ih2
 |nili=>exact .nili
 |iface t v x _ ih=>exact .iface t v x ih
 |nilm=>exact .nilm
 |mp l hl=>rw[←h.loc];exact .mp l (h.al▸hl)
 |yl l hl=>rw[←h.loc];exact .yl l (h.al▸hl)
 |agg cs vs h1 _ ih=>exact .agg cs vs h1 ih
 |tup cs vs h1 _ ih=>exact .tup cs vs h1 ih
theorem RdL.pstep{g g':G}(h:PStep g g'){vs:List Value}{ts:List T}(hr:RdL g vs ts):RdL g' vs ts:=⟨hr.1,fun j v c hv hc=>(hr.2 j v c hv hc).pstep h⟩
def Gok(g:G):Prop:=∀b,g.S b→b<g.w.heap.size
def MapR(g:G)(ms:List MapEntry)(es:List (Nat×T×T)):Prop:=
 ms.map (·.born)=es.map (·.1)∧RdL g (ms.map (·.key)) (es.map (·.2.1))∧RdL g (ms.map (·.val)) (es.map (·.2.2))
theorem MapR.mono{g g':G}(h:∀v t,Rd g v t→Rd g' v t){ms:List MapEntry}{es:List (Nat×T×T)}(k:MapR g ms es):MapR g' ms es:=
 ⟨k.1,⟨k.2.1.1,fun j v c hv hc=>h v c (k.2.1.2 j v c hv hc)⟩,⟨k.2.2.1,fun j v c hv hc=>h v c (k.2.2.2 j v c hv hc)⟩⟩
def MoR(g:G):Mo→Obj→Prop
 | .map c es,b=>∃ms:Array MapEntry,b= .map ms c∧MapR g ms.toList es
 | .loop r,b=>∃(fn:FuncId) (tmps:Array Value) (D:Nat),b= .loop {state:=r.st,pending:=r.pe,fn,tmps,params:=r.ps,assign:=r.asg,body:=r.bd,defers:=D}∧RdL g tmps.toList (r.fr.view r.n)∧r.fr.Wf r.n
 | .mit m since seen last,b=>g.al m∧b= .mapIter (some (g.loc m)) since seen.toArray last
 | .sit s pos,b=>∃u:ByteArray,u.data.toList=s∧b= .stringIter u pos
theorem MoR.mono{g g':G}(h:∀v t,Rd g v t→Rd g' v t)(hl:∀l,g.al l→g'.al l∧g'.loc l=g.loc l){m:Mo}{b:Obj}(k:MoR g m b):MoR g' m b:=by
 cases m with
 |map c es=>obtain⟨ms,e,k⟩:=k;exact⟨ms,e,k.mono h⟩
 |loop r=>
  obtain⟨fn,tmps,D,e,k,hw⟩:=k;exact⟨fn,tmps,D,e,⟨k.1,fun j v c hv hc=>h v c (k.2 j v c hv hc)⟩,hw⟩
 |mit m since seen last=>exact⟨(hl m k.1).1,by rw[(hl m k.1).2];exact k.2⟩
 |sit s pos=>exact k
structure St(g:G)(H:Hp):Prop where
 own:∀l o,H.get l=some o→g.al l∧¬g.S (g.loc l)∧∃cs:Array Value,g.w.heap[g.loc l]? =some (.cells cs o.elem (0,0))∧o.cells.length≤cs.size∧
  (o.sz=0→cs.size=o.cells.length)∧(o.sz≠0→cs.size=g.cp l*o.sz∧g.cp l≤maxLen)∧RdL g (cs.toList.take o.cells.length) o.cells
 ownM:∀l o m,H.any l=some o→o.me=some m→g.al l∧¬g.S (g.loc l)∧∃b:Obj,g.w.heap[g.loc l]? =some b∧MoR g m b
 sep:∀l l' o o',H.any l=some o→H.any l'=some o'→g.loc l=g.loc l'→l=l'
 new:∀l,H.next≤l→¬g.al l
theorem St.at_ {g:G}{H:Hp}(hs:St g H){l:Nat}{o:Ob}(h:H.any l=some o):g.al l∧¬g.S (g.loc l)∧g.loc l<g.w.heap.size:=by
 cases hm:o.me with
 |none=>
  obtain⟨h1,h2,cs,h3,_⟩:=hs.own l o (any_get h hm);exact⟨h1,h2,(Array.getElem?_eq_some_iff.1 h3).1⟩
 |some p=>
  obtain⟨h1,h2,ms,h3,_⟩:=hs.ownM l o p h hm;exact⟨h1,h2,(Array.getElem?_eq_some_iff.1 h3).1⟩
theorem St.pstep{g g':G}{H:Hp}(h:PStep g g')(hs:St g H):St g' H:=by
 refine⟨fun l o ho=> ?_,fun l o m ho hm=> ?_,fun l l' o o' h1 h2 e=>hs.sep l l' o o' h1 h2 (by rw[h.loc]at e;exact e),fun l hl=>by rw[h.al];exact hs.new l hl⟩
 ·obtain⟨ha,hS,cs,hb,h1,h2,h3,h4⟩:=hs.own l o ho;have hlt:g.loc l<g.w.heap.size:=(Array.getElem?_eq_some_iff.1 hb).1;refine⟨h.al▸ha,?_,cs,?_,h1,h2,?_,h4.pstep h⟩
  ·rw[h.loc];exact fun q=>(h.fresh _ q).elim hS (fun q'=>by omega)
  ·rw[h.loc,h.block _ hlt];exact hb
  ·rw[h.cp];exact h3
 ·obtain⟨ha,hS,ms,hb,h1⟩:=hs.ownM l o m ho hm;have hlt:g.loc l<g.w.heap.size:=(Array.getElem?_eq_some_iff.1 hb).1;refine⟨h.al▸ha,?_,ms,?_,h1.mono (fun _ _ q=>q.pstep h) (fun l hl=>⟨h.al▸hl,by rw[h.loc]⟩)⟩
  ·rw[h.loc];exact fun q=>(h.fresh _ q).elim hS (fun q'=>by omega)
  ·rw[h.loc,h.block _ hlt];exact hb
theorem St.nl(g:G)(N:Nat)(h:∀l,N≤l→¬g.al l):St g ⟨N,.nl⟩:=
 ⟨fun l o ho=>(by rw[get_nl]at ho;cases ho),fun l o m ho=>(by rw[any_nl]at ho;cases ho),fun l l' o o' ho=>(by rw[any_nl]at ho;cases ho),h⟩
theorem St.empty(g:G)(h:∀l,¬g.al l):St g Hp.empty:=St.nl g 0 (fun l _ =>h l)
theorem rd_ofCell(g:G){v:Value}{t:T}(h:ofCell v=some t):Rd g v t:=by
 unfold ofCell at h;split at h<;>first|cases h|skip
 ·exact .int _ _
 ·exact .bool _
 ·exact .str _
 ·exact .nilp
 ·exact .nils
 ·exact .nilf
 ·exact .nili
 ·exact .nilm
theorem rd_ofCells(g:G):∀{vs:List Value} {ts:List T},ofCells vs=some ts→RdL g vs ts
 |[],ts,h=>by simp[ofCells]at h;subst h;exact RdL.nil
 |v::vs,ts,h=>by
  simp only[ofCells]at h;split at h
  ·rename_i t ht;split at h
   ·rename_i ts' hts;cases h;exact RdL.cons (rd_ofCell g ht) (rd_ofCells g hts)
   ·cases h
  ·cases h
theorem rd_ofVal(g:G){v:Value}{t:T}(h:ofVal v=some t):Rd g v t:=by
 unfold ofVal at h;split at h
 ·rename_i cs;split at h
  ·rename_i ts hts;cases h;have:=rd_ofCells g hts;exact Rd.agg ts cs.toList this.1 this.2
  ·cases h
 ·rename_i vs;split at h
  ·rename_i hv;cases h;have e:vs=([]:List Value).toArray:=by cases vs;simp at hv;simp[hv]
   rw[e];exact Rd.tup [] [] rfl (fun j v c h=>by simp at h)
  ·cases h
 ·exact rd_ofCell g h
section inv
variable{g:G}{v:Value}
theorem Rd.inv_int{k:IntKind}{n:Int}(h:Rd g v (.int k n)):v= .int k n:=by cases h;rfl
theorem Rd.inv_bool{b:Bool}(h:Rd g v (.bool b)):v= .bool b:=by cases h;rfl
theorem Rd.inv_str{s:List UInt8}(h:Rd g v (.str s)):∃b:ByteArray,v= .string b∧b.data.toList=s:=by cases h;exact⟨_,rfl,rfl⟩
theorem Rd.inv_agg{cs:List T}(h:Rd g v (.agg cs)):∃vs:List Value,v= .agg vs.toArray∧RdL g vs cs:=by cases h with|agg _ vs h1 h2=>exact⟨vs,rfl,h1,h2⟩
theorem Rd.inv_tup{cs:List T}(h:Rd g v (.tup cs)):∃vs:List Value,v= .tuple vs.toArray∧RdL g vs cs:=by cases h with|tup _ vs h1 h2=>exact⟨vs,rfl,h1,h2⟩
theorem Rd.inv_fn{f:Fn}{a c:List T}(h:Rd g v (.fn f a c)):∃vs us:List Value,v= .func f vs.toArray us.toArray∧RdL g vs a∧RdL g us c:=by
 cases h with|fn _ _ _ vs us h1 h2 h3 h4=>exact⟨vs,us,rfl,⟨h1,h2⟩,⟨h3,h4⟩⟩
theorem Rd.mk_agg{cs:List T}{vs:List Value}(h:RdL g vs cs):Rd g (.agg vs.toArray) (.agg cs):= .agg cs vs h.1 h.2
theorem Rd.mk_tup{cs:List T}{vs:List Value}(h:RdL g vs cs):Rd g (.tuple vs.toArray) (.tup cs):= .tup cs vs h.1 h.2
theorem Rd.mk_fn{f:Fn}{a c:List T}{vs us:List Value}(h:RdL g vs a)(k:RdL g us c):Rd g (.func f vs.toArray us.toArray) (.fn f a c):= .fn f a c vs us h.1 h.2 k.1 k.2
theorem Rd.undef:Rd g Go.undef undefT:= .tup [] [] rfl (fun j v c h=>by simp at h)
theorem Rd.cells{t:T}(h:Rd g v t):RdL g v.cells.toList t.cells:=by
 cases h with
 |agg cs vs h1 h2=>exact⟨by simpa [Value.cells,T.cells]using h1,by simpa [Value.cells,T.cells]using h2⟩
 |tup cs vs h1 h2=>exact RdL.cons (.tup cs vs h1 h2) RdL.nil
 |int k n=>exact RdL.cons (.int k n) RdL.nil
 |bool b=>exact RdL.cons (.bool b) RdL.nil
 |str s=>exact RdL.cons (.str s) RdL.nil
 |nilp=>exact RdL.cons .nilp RdL.nil
 |ptr l off hl=>exact RdL.cons (.ptr l off hl) RdL.nil
 |ref x off b o vs h1 h2 h3 h4=>exact RdL.cons (.ref x off b o vs h1 h2 h3 h4) RdL.nil
 |nils=>exact RdL.cons .nils RdL.nil
 |slfn full f p=>exact RdL.cons (.slfn full f p) RdL.nil
 |sl full xs sz b o cap vs h1 h2 h3 h4 h5 h6 h7 h8=>exact RdL.cons (.sl full xs sz b o cap vs h1 h2 h3 h4 h5 h6 h7 h8) RdL.nil
 |slf full n f sz b o cap vs h1 h2 h3 h4 h5 h6 h7 h8=>exact RdL.cons (.slf full n f sz b o cap vs h1 h2 h3 h4 h5 h6 h7 h8) RdL.nil
 |osl l sz i len b o cap h1 h2 h3 h4 h5=>exact RdL.cons (.osl l sz i len b o cap h1 h2 h3 h4 h5) RdL.nil
 |nilf=>exact RdL.cons .nilf RdL.nil
 |fn f a c vs us h1 h2 h3 h4=>exact RdL.cons (.fn f a c vs us h1 h2 h3 h4) RdL.nil
 |nili=>exact RdL.cons .nili RdL.nil
 |iface t v x hx=>exact RdL.cons (.iface t v x hx) RdL.nil
 |nilm=>exact RdL.cons .nilm RdL.nil
 |mp l hl=>exact RdL.cons (.mp l hl) RdL.nil
 |yl l hl=>exact RdL.cons (.yl l hl) RdL.nil
theorem Rd.oneCell{t:T}(h:Rd g v t)(ho:t.one=true):v.oneCell'=true:=by
 cases h<;>simp_all [T.one,Value.oneCell']
end inv
end Go.Ps
namespace Go.Ps
def okFn(P:Program)(f:FuncId):Bool:=
 match P.funcs[f]? with
 |some fn=>fn.body.isSome&& !(fn.name== "runtime.NumGoroutine")
 |none=>false
def T.refLen:T→Nat
 | .ref x _ =>x.cells.length
 |_ =>0
def GlAt(g:G)(k:Nat)(t:T):Prop:=Rd g (.pointer (some ⟨k,0,none⟩)) t∧g.S k∧∃cs e fz,g.w.heap[k]? =some (.cells cs e fz)∧cs.size=t.refLen
def GlOk(gl:Nat→Option T)(g:G):Prop:=∀k t,gl k=some t→GlAt g k t
def PeOk(P:Program)(gl:Nat→Option T)(pe:Hp→FuncId→List T→Option T):Prop:=
 ∀H f ts r,pe H f ts=some r→okFn P f=true∧∀(g:G) (vs:List Value),Gok g→St g H→GlOk gl g→RdL g vs ts→
  Calls P f vs.toArray g.w fun e w'=>∃v g',e= .returned v∧g'.w=w'∧PStep g g'∧Gok g'∧Rd g' v r
theorem GlOk.pstep{gl:Nat→Option T}{g g':G}(h:PStep g g')(hg:GlOk gl g):GlOk gl g':=fun k t ht=>by
 obtain⟨h1,h2,cs,e,fz,h3,h4⟩:=hg k t ht;exact⟨h1.pstep h,h.sub k h2,cs,e,fz,by rw[h.block k (Array.getElem?_eq_some_iff.1 h3).1];exact h3,h4⟩
def POk(P:Program)(o:Oper)(a:Act)(g:G)(t:T):Prop:=
 ∀(K:Act→World→Prop) (Q:Exit→Act→World→Prop),(∀v g',PStep g g'→Gok g'→Rd g' v t→K (a.put o.dst v) g'.w)→o.wp P a g.w K Q
theorem pok_val{P:Program}{o:Oper}{a:Act}{g:G}{t:T}{v:Value}(hg:Gok g)(hr:(execOp a.eval o).run P g.w= .ok (.value v) g.w)(h:Rd g v t):POk P o a g t:=by
 intro K Q hK;unfold Oper.wp;rw[hr];exact hK v g (PStep.refl g) hg h
def G.add(g:G)(o:Obj):G:={g with w:={g.w with heap:=g.w.heap.push o},S:=fun b=>g.S b∨b=g.w.heap.size}
theorem G.add_step(g:G)(o:Obj):PStep g (g.add o):=
 ⟨rfl,rfl,rfl,by simp[G.add],fun b hb=>by simp only[G.add];rw[Array.getElem?_push,if_neg (by omega)],fun _ h=> .inl h,fun b h=>h.elim .inl (fun e=> .inr (by omega)),rfl,rfl,rfl⟩
theorem G.add_ok{g:G}(h:Gok g)(o:Obj):Gok (g.add o):=by
 intro b hb;simp only[G.add,Array.size_push];rcases hb with hb|hb
 ·have:=h b hb;omega
 ·omega
theorem G.add_cell(g:G)(cs:Array Value)(e:TypeId)(j:Nat):(g.add (.cells cs e)).w.cell? ⟨g.w.heap.size,j,none⟩=cs[j]? :=by
 have h:(g.add (.cells cs e)).w.heap[g.w.heap.size]? =some (.cells cs e (0,0)):=by simp only[G.add];exact Array.getElem?_push_size
 simp[World.cell?,h]
theorem pok_alloc{P:Program}{o:Oper}{a:Act}{g:G}{t:T}{v:Value}{ob:Obj}(hg:Gok g)
  (hr:(execOp a.eval o).run P g.w= .ok (.value v) (g.add ob).w) (h:Rd (g.add ob) v t):POk P o a g t:=by
 intro K Q hK;unfold Oper.wp;rw[hr];exact hK v _ (g.add_step ob) (g.add_ok hg ob) h
theorem run_loadCellsFrom(P:Program)(w:World)(b o:Nat):∀(n i:Nat) (acc:Array Value) (vs:List Value),vs.length=n→
  (∀j v,vs[j]? =some v→w.cell? ⟨b,o+(i+j),none⟩=some v)→(loadCellsFrom ⟨b,o,none⟩ i n acc).run P w= .ok (acc++vs.toArray) w
 |0,i,acc,vs,hl,_ =>by
  have:vs=[]:=List.eq_nil_of_length_eq_zero hl;subst this;simp[loadCellsFrom]
 |n+1,i,acc,v::vs,hl,hc=>by
  have h0:=hc 0 v rfl
  have ih:=run_loadCellsFrom P w b o n (i+1) (acc.push v) vs (by simpa using hl) (fun j u hu=>by
   have:=hc (j+1) u (by simpa using hu);rw[show o+(i+1+j)=o+(i+(j+1)) by omega]
   exact this)
  simp only[loadCellsFrom,Sem.run_bind,Addr.add_lit,run_load];simp only[Nat.add_zero]at h0;simp[h0,ih]
theorem run_loadCells(P:Program)(w:World)(b o n:Nat)(vs:List Value)(hl:vs.length=n)(hc:∀j v,vs[j]? =some v→w.cell? ⟨b,o+j,none⟩=some v):
  (loadCells ⟨b,o,none⟩ n).run P w= .ok vs.toArray w:=by
 have:=run_loadCellsFrom P w b o n 0 #[] vs hl (fun j v hv=>by simpa using hc j v hv);simpa [loadCells]using this
theorem cellsAt_ok{g:G}{H:Hp}(hs:St g H){p:T}{v:Value}{cs:List T}{off:Nat}(h:cellsAt H p=some (cs,off))(hr:Rd g v p):
  ∃(b o:Nat) (vs:List Value),v= .pointer (some ⟨b,o+off,none⟩)∧RdL g vs cs∧∀j u,vs[j]? =some u→g.w.cell? ⟨b,o+j,none⟩=some u:=by
 cases hr<;>simp only[cellsAt]at h<;>try cases h
 case ref b o vs hS hl hc hx=>exact⟨b,o,vs,rfl,⟨hl,hx⟩,hc⟩
 case ptr l off' hl=>
  split at h
  ·rename_i ob hob;cases h;obtain⟨_,_,c,hb,h1,_,_,h4⟩:=hs.own l ob hob;refine⟨g.loc l,0,c.toList.take ob.cells.length,by simp,h4,fun j u hu=> ?_⟩;rw[List.getElem?_take]at hu;split at hu
   ·simp[World.cell?,hb]at hu⊢;exact hu
   ·cases hu
  ·cases h
theorem part_ok{P:Program}{g:G}{t:TypeId}{cs:List T}{off:Nat}{r:T}(h:partT P t cs off=some r){vs:List Value}(hv:RdL g vs cs):
  ∃u,(part t vs.toArray off).run P g.w= .ok u g.w∧Rd g u r:=by
 unfold partT aggT szT at h;unfold part isAgg sizeOf typeInfo;cases hu:P.underlying t with
 |none=>simp[hu]at h
 |some d=>
  have scalar:(cs[off]? =some r)→∃u,(match vs.toArray[off]? with|some v=>(pure v:Sem Value)|none=>stuck "part: no such cell").run P g.w= .ok u g.w∧Rd g u r:=by
   intro hc;obtain⟨u,hu',hr⟩:=hv.at_ hc;exact⟨u,by simp[hu'],hr⟩
  have aggr:(match Option.map (fun x=>x.size) (P.info? t)with|some n=>if off+n≤cs.length then some (T.agg (List.take n (List.drop off cs)))else none|none=>none)=some r→
    ∃i,P.info? t=some i∧off+i.size≤cs.length∧r= .agg ((cs.drop off).take i.size):=by
   intro hh;cases hi:P.info? t with
   |none=>simp[hi]at hh
   |some i=>simp[hi]at hh;exact⟨i,rfl,hh.1,hh.2.symm⟩
  have close:∀i,P.info? t=some i→off+i.size≤cs.length→r= .agg ((cs.drop off).take i.size)→Rd g (.agg (vs.toArray.extract off (off+i.size))) r:=by
   intro i _ hle hr;subst hr;have e:vs.toArray.extract off (off+i.size)=((vs.drop off).take i.size).toArray:=by
    simp[List.extract_eq_take_drop]
   rw[e];exact Rd.mk_agg ((hv.drop off).take i.size)
  cases d<;>simp only[hu]at h<;>simp only[Sem.run_bind,run_underlying hu,Result.andThen_ok,Sem.run_pure,Bool.false_eq_true,if_false,if_true]<;>
   first
    |exact scalar h
    |(obtain⟨i,hi,hle,hr⟩:=aggr h;exact⟨_,by simp[hi],close i hi hle hr⟩)
theorem load_ok{P:Program}{g:G}{H:Hp}(hs:St g H){t:TypeId}{p r:T}{v:Value}(h:loadT P H t p=some r)(hr:Rd g v p):
  ∃u,(Instr.loadAt t v).run P g.w= .ok u g.w∧Rd g u r:=by
 unfold loadT at h;split at h
 ·rename_i cs off hc;obtain⟨b,o,vs,rfl,hv,hcell⟩:=cellsAt_ok hs hc hr;unfold partT aggT szT at h;unfold Instr.loadAt Instr.sureAddr loadVar isAgg sizeOf typeInfo;cases hu:P.underlying t with
  |none=>simp[hu]at h
  |some d=>
   have scalar:(cs[off]? =some r)→∃u,(load ⟨b,o+off,none⟩).run P g.w= .ok u g.w∧Rd g u r:=by
    intro hc;obtain⟨u,hu',hr⟩:=hv.at_ hc;exact⟨u,by simp[hcell off u hu'],hr⟩
   have aggr:(match Option.map (fun x=>x.size) (P.info? t)with|some n=>if off+n≤cs.length then some (T.agg (List.take n (List.drop off cs)))else none|none=>none)=some r→
     ∃i,P.info? t=some i∧off+i.size≤cs.length∧r= .agg ((cs.drop off).take i.size):=by
    intro hh;cases hi:P.info? t with
    |none=>simp[hi]at hh
    |some i=>simp[hi]at hh;exact⟨i,rfl,hh.1,hh.2.symm⟩
   have close:∀i,P.info? t=some i→off+i.size≤cs.length→r= .agg ((cs.drop off).take i.size)→
     (loadCells ⟨b,o+off,none⟩ i.size).run P g.w= .ok ((vs.drop off).take i.size).toArray g.w∧Rd g (.agg ((vs.drop off).take i.size).toArray) r:=by
    intro i _ hle hr;subst hr;refine⟨run_loadCells P g.w b (o+off) i.size _ (by have:=hv.1;simp;omega) (fun j u hu'=> ?_),Rd.mk_agg ((hv.drop off).take i.size)⟩;rw[List.getElem?_take]at hu';split at hu'
    ·rw[List.getElem?_drop]at hu';rw[Nat.add_assoc];exact hcell _ u hu'
    ·cases hu'
   cases d<;>simp only[hu]at h<;>simp only[Sem.run_bind,run_underlying hu,Result.andThen_ok,Sem.run_pure,Bool.false_eq_true,if_false,if_true]<;>
    first
     |exact scalar h
     |(obtain⟨i,hi,hle,hr⟩:=aggr h;obtain⟨h1,h2⟩:=close i hi hle hr;exact⟨_,by simp[hi,h1],h2⟩)
 ·cases h
end Go.Ps
namespace Go.Ps
theorem bytes_toList(s:ByteArray):s.toList=s.data.toList:=by
 have loop:∀(n i:Nat) (r:List UInt8),s.size-i=n→ByteArray.toList.loop s i r=r.reverse++s.data.toList.drop i:=by
  intro n
  induction n with
  |zero=>
   intro i r h;rw[ByteArray.toList.loop,if_neg (by omega)];have:s.data.toList.length≤i:=by have:=ByteArray.size_data (a:=s);simp;omega
   rw[List.drop_of_length_le this];simp
  |succ n ih=>
   intro i r h;have hi:i<s.size:=by omega
   rw[ByteArray.toList.loop,if_pos hi,ih (i+1) _ (by omega)];have hl:i<s.data.toList.length:=by have:=ByteArray.size_data (a:=s);simp;omega
   rw[List.drop_eq_getElem_cons hl];have hl':i<s.data.size:=by simpa using hl
   have e:s.get! i=s.data.toList[i]:=by
    show s.data[i]! =s.data.toList[i];rw[Array.getElem_toList,getElem!_pos s.data i hl']
   simp[e]
 have h:=loop (s.size-0) 0 [] rfl;simp only[List.reverse_nil,List.nil_append,List.drop_zero]at h;exact h
theorem append_bytes(a b:ByteArray):(a++b).data.toList=a.data.toList++b.data.toList:=by
 rw[ByteArray.data_append,Array.toList_append]
section
variable{P:Program}{g:G}
theorem intBin_ok{op:BinOp}{k:IntKind}{a b:Int}{r:T}(h:intBin op k a b=some r)(t:TypeId):∃q,(binOp op t (.int k a) (.int k b)).run P g.w= .ok q g.w∧Rd g q r:=by
 cases op
 case quo=>
  simp only[intBin]at h;split at h
  ·cases h
  ·rename_i hb;cases h;exact⟨.int k (k.wrap (a.tdiv b)),by simp[binOp_quo,Op.intDiv,hb],.int _ _⟩
 case rem=>
  simp only[intBin]at h;split at h
  ·cases h
  ·rename_i hb;cases h;exact⟨.int k (a.tmod b),by simp[binOp_rem,Op.intDiv,hb],.int _ _⟩
 case add=>cases h;exact⟨_,by rw[binOp_add];rfl,.int _ _⟩
 case sub=>cases h;exact⟨_,by rw[binOp_sub];rfl,.int _ _⟩
 case mul=>cases h;exact⟨_,by rw[binOp_mul];rfl,.int _ _⟩
 case and=>cases h;exact⟨_,by rw[binOp_and];rfl,.int _ _⟩
 case or=>cases h;exact⟨_,by rw[binOp_or];rfl,.int _ _⟩
 case xor=>cases h;exact⟨_,by rw[binOp_xor];rfl,.int _ _⟩
 case andNot=>cases h;exact⟨_,by rw[binOp_andNot];rfl,.int _ _⟩
 case eql=>cases h;exact⟨_,by rw[binOp_eql];rfl,.bool _⟩
 case neq=>cases h;exact⟨_,by rw[binOp_neq];rfl,.bool _⟩
 case lss=>cases h;exact⟨_,by rw[binOp_lss];rfl,.bool _⟩
 case leq=>cases h;exact⟨_,by rw[binOp_leq];rfl,.bool _⟩
 case gtr=>cases h;exact⟨_,by rw[binOp_gtr];rfl,.bool _⟩
 case geq=>cases h;exact⟨_,by rw[binOp_geq];rfl,.bool _⟩
 case shl=>cases h
 case shr=>cases h
theorem shiftBin_ok{op:BinOp}{k k':IntKind}{a b:Int}{r:T}(h:shiftBin op k a b=some r)(t:TypeId):∃q,(binOp op t (.int k a) (.int k' b)).run P g.w= .ok q g.w∧Rd g q r:=by
 cases op
 case shl=>
  simp only[shiftBin]at h;split at h
  ·cases h
  ·rename_i hb;cases h;exact⟨_,by rw[binOp_shl];simp only[Op.shift,if_neg hb];rfl,.int _ _⟩
 case shr=>
  simp only[shiftBin]at h;split at h
  ·cases h
  ·rename_i hb;cases h;exact⟨_,by rw[binOp_shr];simp only[Op.shift,if_neg hb];rfl,.int _ _⟩
 all_goals cases h
theorem strBin_ok{op:BinOp}{a b:ByteArray}{r:T}(h:strBin op a.data.toList b.data.toList=some r)(t:TypeId):∃q,(binOp op t (.string a) (.string b)).run P g.w= .ok q g.w∧Rd g q r:=by
 cases op<;>simp only[strBin]at h<;>try cases h
 case add=>
  split at h
  ·rename_i hl;cases h;have e1:a.data.toList.length=a.size:=by simp[ByteArray.size_data]
   have e2:b.data.toList.length=b.size:=by simp[ByteArray.size_data]
   rw[e1,e2]at hl;have hlt:¬(((a.size+b.size:Nat):Int)>IntKind.i64.max):=by simp[maxStr]at hl⊢;omega
   refine⟨.string (a++b),by simp only[binOp,Op.stringOp,if_neg hlt];rfl,?_⟩;rw[←append_bytes];exact .str _
  ·cases h
 all_goals
  refine⟨_,by simp only[binOp,Op.stringOp];rfl,?_⟩;simp only[bytes_toList];exact .bool _
theorem eqT_ok{t:TypeId}{x y:T}{r:Bool}(h:eqT P t x y=some r){u v:Value}(hu:Rd g u x)(hv:Rd g v y):(Op.equal t u v).run P g.w= .ok r g.w:=by
 have key:∀d:Nat,(Op.equalIn (d+1) t u v).run P g.w= .ok r g.w:=by
  intro d;unfold eqT at h;split at h<;>try cases h
  all_goals
   rename_i hd;cases hu;cases hv;simp[Op.equalIn,run_underlying hd]
 have:=key 9999;simpa only[Op.equal,Op.maxDepth]using this
theorem eqGuard_ok{op:BinOp}{t:TypeId}{x y:T}{r:Bool}(h:eqT P t x y=some r){u v:Value}(hu:Rd g u x)(hv:Rd g v y)(X Y:Operand)(hn:nilsOk X Y x y=true):eqGuard op t X Y u v=pure ():=by
 unfold eqT at h;split at h<;>try cases h
 all_goals
  cases hu
  first
   |exact eqGuard_at_bool ..
   |exact eqGuard_at_slice ..
   |exact eqGuard_at_pointer ..
   |exact eqGuard_at_func ..
   |exact eqGuard_at_nilFunc ..
   |exact eqGuard_at_iface ..
   |(cases hv;cases op<;>rfl)
   |(cases hv;simp only[nilsOk,bothNil,Bool.not_true,Bool.or_false,Bool.or_eq_true]at hn;cases op<;>first|rfl|(rcases hn with hn|hn<;>(first|(cases X<;>simp[constO]at hn<;>rfl)|(cases Y<;>simp[constO]at hn<;>cases X<;>rfl))))
theorem eq1_ok{t:TypeId}{x y:T}{r:Bool}(h:eq1 P t x y=some r){u v:Value}(hu:Rd g u x)(hv:Rd g v y)(d:Nat):(Op.equalIn (d+1) t u v).run P g.w= .ok r g.w:=by
 unfold eq1 at h;split at h
 ·rename_i hd;split at h
  ·rename_i hk;cases h;subst hk;cases hu;cases hv;rw[run_equalIn_int _ d t _ _ _ _ hd]
  ·cases h
 ·rename_i hd;cases h;obtain⟨a,rfl,rfl⟩:=hu.inv_str;obtain⟨b,rfl,rfl⟩:=hv.inv_str;rw[run_equalIn_string _ d t _ _ hd,ByteArray.toList_eq,ByteArray.toList_eq]
 ·rename_i hd;cases h;cases hu;cases hv;rw[run_equalIn_bool' _ d t _ _ hd]
 ·cases h
theorem eq1_part{t:TypeId}{x y:T}{r:Bool}(h:eq1 P t x y=some r){cs:List T}{off:Nat}{c:T}(hc:cs[off]? =some c):partT P t cs off=some c:=by
 unfold eq1 at h;unfold partT aggT;split at h
 ·rename_i hd;rw[hd];exact hc
 ·rename_i hd;rw[hd];exact hc
 ·rename_i hd;rw[hd];exact hc
 ·cases h
theorem eqFs_ok{xs ys:List T}{us vs:List Value}(hu:RdL g us xs)(hv:RdL g vs ys)(d:Nat):∀(fs:List Field) (r:Bool),eqFs P xs ys fs=some r→(Op.eqFields (d+1) us.toArray vs.toArray fs).run P g.w= .ok r g.w
 |[],r,h=>by simp only[eqFs,Option.some.injEq]at h;subst h;simp[Op.eqFields]
 |f::fs,r,h=>by
  simp only[eqFs]at h;split at h
  ·rename_i a b ha hb;split at h
   ·cases h
   ·rename_i hn;simp only[Op.eqFields,if_pos (show f.name≠ "_" from hn),Sem.run_bind];have two:∀q,eq1 P f.type a b=some q→(Op.eqFields (d+1) us.toArray vs.toArray (f::fs)).run P g.w=(if(!q)=true then .ok false g.w else(Op.eqFields (d+1) us.toArray vs.toArray fs).run P g.w):=by
     intro q hq;obtain⟨u,e1,r1⟩:=part_ok (eq1_part hq ha) hu;obtain⟨v,e2,r2⟩:=part_ok (eq1_part hq hb) hv;simp only[Op.eqFields,if_pos (show f.name≠ "_" from hn),Sem.run_bind,e1,e2,Result.andThen_ok,eq1_ok hq r1 r2];cases q<;>simp
    have e0:(Op.eqFields (d+1) us.toArray vs.toArray (f::fs)).run P g.w= .ok r g.w:=by
     split at h
     ·rename_i hq;rw[two _ hq];exact eqFs_ok hu hv d fs r h
     ·rename_i hne;rw[two _ h];cases r with
      |true=>exact absurd h hne
      |false=>rfl
    simp only[Op.eqFields,if_pos (show f.name≠ "_" from hn),Sem.run_bind]at e0;exact e0
  ·cases h
theorem fieldsOf_eq{t:TypeId}{fs:Array Field}(h:P.underlying t=some (.struct fs)):P.fieldsOf t=fs:=by simp[Program.fieldsOf,h]
theorem eqK_ok{t:TypeId}{x y:T}{r:Bool}(h:eqK P t x y=some r){u v:Value}(hu:Rd g u x)(hv:Rd g v y)(d:Nat):(Op.equalIn (d+2) t u v).run P g.w= .ok r g.w:=by
 unfold eqK at h;split at h
 ·split at h
  ·rename_i fs hd;split at h
   ·cases h
   ·rename_i hp;obtain⟨us,rfl,hu'⟩:=hu.inv_agg;obtain⟨vs,rfl,hv'⟩:=hv.inv_agg;rw[run_equalIn_agg _ (d+1) t _ _ (by rw[fieldsOf_eq hd];exact hd) (by simpa using hp),fieldsOf_eq hd];exact eqFs_ok hu' hv' d _ _ h
  ·cases h
 ·exact eq1_ok h hu hv (d+1)
theorem bin_ok{op:BinOp}{t:TypeId}{x y r:T}(h:binT P op t x y=some r){u v:Value}(hu:Rd g u x)(hv:Rd g v y)(X Y:Operand)(hn:nilsOk X Y x y=true):
  ∃q,(do eqGuard op t X Y u v;binOp op t u v).run P g.w= .ok q g.w∧Rd g q r:=by
 unfold binT at h;split at h
 ·cases hu;cases hv;obtain⟨q,h1,h2⟩:=shiftBin_ok (P:=P) (g:=g) h t;exact⟨q,by simp only[eqGuard_at_int,Sem.run_bind,Sem.run_pure,Result.andThen_ok];exact h1,h2⟩
 ·cases hu;cases hv;obtain⟨q,h1,h2⟩:=shiftBin_ok (P:=P) (g:=g) h t;exact⟨q,by simp only[eqGuard_at_int,Sem.run_bind,Sem.run_pure,Result.andThen_ok];exact h1,h2⟩
 ·split at h
  ·rename_i hk;subst hk;cases hu;cases hv;obtain⟨q,h1,h2⟩:=intBin_ok (P:=P) (g:=g) h t;exact⟨q,by simp only[eqGuard_at_int,Sem.run_bind,Sem.run_pure,Result.andThen_ok];exact h1,h2⟩
  ·cases h
 ·obtain⟨a,rfl,rfl⟩:=hu.inv_str;obtain⟨b,rfl,rfl⟩:=hv.inv_str;obtain⟨q,h1,h2⟩:=strBin_ok (P:=P) (g:=g) h t;exact⟨q,by simp only[eqGuard_at_string,Sem.run_bind,Sem.run_pure,Result.andThen_ok];exact h1,h2⟩
 ·simp only[Option.map_eq_some_iff]at h;obtain⟨b,hb,rfl⟩:=h;unfold eqS at hb;split at hb
  ·split at hb
   ·cases hb
   ·rename_i hm;obtain⟨us,rfl,hu'⟩:=hu.inv_agg;obtain⟨vs,rfl,hv'⟩:=hv.inv_agg;refine⟨.bool b,?_,.bool _⟩;rw[Sem.run_bind,run_eqGuard_agg _ _ _ _ _ _ _ (by simpa using hm),Result.andThen_ok,run_eql_struct,eqK_ok hb hu hv 9998,Result.andThen_ok]
  ·have h1:=eqT_ok hb hu hv;have h2:=eqGuard_ok (op:= .eql) (v:=v) hb hu hv X Y hn;refine⟨.bool b,?_,.bool _⟩;rw[h2];unfold eqT at hb;split at hb<;>try cases hb
   all_goals
    cases hu;cases hv;simp only[binOp,Sem.run_bind,Sem.run_pure,Result.andThen_ok,h1]
 ·simp only[Option.map_eq_some_iff]at h;obtain⟨b,hb,rfl⟩:=h;unfold eqS at hb;split at hb
  ·split at hb
   ·cases hb
   ·rename_i hm;obtain⟨us,rfl,hu'⟩:=hu.inv_agg;obtain⟨vs,rfl,hv'⟩:=hv.inv_agg;refine⟨.bool (!b),?_,.bool _⟩;rw[Sem.run_bind,run_eqGuard_agg _ _ _ _ _ _ _ (by simpa using hm),Result.andThen_ok,run_neq_struct,eqK_ok hb hu hv 9998,Result.andThen_ok]
  ·have h1:=eqT_ok hb hu hv;have h2:=eqGuard_ok (op:= .neq) (v:=v) hb hu hv X Y hn;refine⟨.bool (!b),?_,.bool _⟩;rw[h2];unfold eqT at hb;split at hb<;>try cases hb
   all_goals
    cases hu;cases hv;simp only[binOp,Sem.run_bind,Sem.run_pure,Result.andThen_ok,h1]
 ·cases h
theorem un_ok{op:UnOp}{x r:T}(h:unT op x=some r){u:Value}(hu:Rd g u x):∃q,(Op.unary op u).run P g.w= .ok q g.w∧Rd g q r:=by
 unfold unT at h;split at h<;>try cases h
 ·cases hu;exact⟨_,by simp[Op.unary,Op.intArith],.int _ _⟩
 ·cases hu;exact⟨_,by simp[Op.unary],.bool _⟩
theorem conv_ok{s d:TypeId}{x r:T}(h:convT P s d x=some r){u:Value}(hu:Rd g u x):∃q,(convert s d u).run P g.w= .ok q g.w∧Rd g q r:=by
 unfold convT at h;split at h<;>try cases h
 ·rename_i h1 h2;cases hu;exact⟨_,by simp[convert,run_underlying h1,run_underlying h2,Conv.intToInt],.int _ _⟩
 ·rename_i h1 h2;obtain⟨a,rfl,rfl⟩:=hu.inv_str;exact⟨_,by simp[convert,run_underlying h1,run_underlying h2],.str _⟩
 ·rename_i e full n h1 h2;split at h
  ·rename_i he;cases h;cases hu with
   |sl _ _ sz b o cap vs q1 q2 q3 q4 q5 q6 q7 q8=>
    have hsz:1=sz:=q2 (.int .u8 n) (by simp);subst hsz
    match vs,q6 with
    |[v],_ =>
     have hv:=q8 0 v (.int .u8 n) rfl rfl;cases hv;have hl:=run_loadCells P g.w b o 1 [.int .u8 n] rfl q7;refine⟨.string (ByteArray.empty.push (UInt8.ofNat n.toNat)),?_,?_⟩
     ·rw[run_convert_bytes_string g.w s d e _ _ _ h1 he h2];exact run_bytesToString g.w ⟨b,o,none⟩ 1 cap [n] hl
     ·exact .str (ByteArray.empty.push (UInt8.ofNat n.toNat))
  ·cases h
theorem add_ok{x r:T}{n:Nat}(h:addT x n=some r){u:Value}(hu:Rd g u x):∃b o,u= .pointer (some ⟨b,o,none⟩)∧Rd g (.pointer (some ⟨b,o+n,none⟩)) r:=by
 unfold addT at h;split at h<;>try cases h
 ·cases hu with
  |ref _ _ b o vs h1 h2 h3 h4=>exact⟨b,_,rfl,by rw[Nat.add_assoc];exact .ref _ _ b o vs h1 h2 h3 h4⟩
 ·cases hu with
  |ptr _ _ hl=>exact⟨_,_,rfl,.ptr _ _ hl⟩
theorem fieldAddr_ok{s:TypeId}{x r:T}{f:Nat}(h:fieldAddrT P s x f=some r){u:Value}(hu:Rd g u x):∃q,(Instr.fieldAt s u f).run P g.w= .ok q g.w∧Rd g q r:=by
 unfold fieldAddrT fieldT szT at h;split at h
 ·rename_i fd hfd;split at hfd
  ·rename_i fs hd;split at h
   ·rename_i n hn;split at h
    ·cases h
    ·rename_i hn0;simp only[Option.map_eq_some_iff]at hn;obtain⟨i,hi,rfl⟩:=hn;obtain⟨b,o,rfl,hr⟩:=add_ok h hu;exact⟨_,by simp[Instr.fieldAt,run_underlying hd,hfd,Instr.sureAddr,fieldPlace,sizeOf,typeInfo,hi,hn0,Addr.add_lit],hr⟩
   ·cases h
  ·cases hfd
 ·cases h
theorem rows_at{xs:List T}{sz:Nat}(hsz:∀x∈xs,x.cells.length=sz):∀{i:Nat} {y:T},xs[i]? =some y→∀j c,y.cells[j]? =some c→(xs.flatMap T.cells)[i*sz+j]? =some c:=by
 induction xs with
 |nil=>intro i y h;simp at h
 |cons x xs ih=>
  intro i y h j c hc;have hx:=hsz x (by simp);cases i with
  |zero=>
   simp at h;subst h;have hj:j<x.cells.length:=(List.getElem?_eq_some_iff.1 hc).1;simp only[List.flatMap_cons,Nat.zero_mul,Nat.zero_add];rw[List.getElem?_append_left hj];exact hc
  |succ i=>
   simp at h;have:=ih (fun x hx=>hsz x (by simp[hx])) h j c hc;simp only[List.flatMap_cons];rw[List.getElem?_append_right (by rw[hx,Nat.succ_mul];omega),hx];rw[show(i+1)*sz+j-sz=i*sz+j by rw[Nat.succ_mul];omega];exact this
theorem flat_length{xs:List T}{sz:Nat}(hsz:∀x∈xs,x.cells.length=sz):(xs.flatMap T.cells).length=xs.length*sz:=by
 induction xs with
 |nil=>simp
 |cons x xs ih=>
  simp only[List.flatMap_cons,List.length_append,List.length_cons,ih (fun y hy=>hsz y (by simp[hy])),hsz x (by simp),Nat.succ_mul];omega
theorem indexAddr_ok{t:TypeId}{x i r:T}(h:indexAddrT P t x i=some r){u v:Value}(hu:Rd g u x)(hv:Rd g v i):∃q,(Instr.indexAt t u v).run P g.w= .ok q g.w∧Rd g q r:=by
 unfold indexAddrT szT at h;split at h
 ·rename_i k n;cases hv;split at h
  ·rename_i e full xs hd;split at h
   ·rename_i h0;split at h
    ·rename_i y hy;split at h
     ·rename_i s hs;split at h
      ·rename_i hys;cases h;simp only[Option.map_eq_some_iff]at hs;obtain⟨i,hi,rfl⟩:=hs;cases hu with
       |sl _ _ sz b o cap vs h1 h2 h3 h4 h5 h6 h7 h8=>
        have hlt:n.toNat<xs.length:=(List.getElem?_eq_some_iff.1 hy).1;have hsz:=h2 y (List.mem_of_getElem? hy);have e1:i.size=sz:=by omega
        have hmul:n.toNat*sz+sz≤xs.length*sz:=by rw[←Nat.succ_mul];exact Nat.mul_le_mul_right _ hlt
        refine⟨.pointer (some ⟨b,o+n.toNat*sz,none⟩),?_,?_⟩
        ·simp[Instr.indexAt,asIntOf,run_underlying hd,sizeOf,typeInfo,hi,e1,Addr.add_lit,h0];omega
        ·rw[show(⟨b,o+n.toNat*sz,none⟩:Addr)=⟨b,(o+n.toNat*sz)+0,none⟩from rfl];refine .ref y 0 b (o+n.toNat*sz) ((vs.drop (n.toNat*sz)).take sz) (h1 (by intro e;simp[e]at hlt)) ?_ ?_ ?_
         ·simp[h6];omega
         ·intro j w hw;rw[List.getElem?_take]at hw;split at hw
          ·rw[List.getElem?_drop]at hw;rw[Nat.add_assoc];exact h7 _ w hw
          ·cases hw
         ·intro j w c hw hc;rw[List.getElem?_take]at hw;split at hw
          ·rw[List.getElem?_drop]at hw;exact h8 _ w c hw (rows_at h2 hy j c hc)
          ·cases hw
      ·cases h
     ·cases h
    ·cases h
   ·cases h
  ·rename_i e full len f hd;split at h
   ·rename_i h0;split at h
    ·rename_i s hs;split at h
     ·rename_i hys;cases h;simp only[Option.map_eq_some_iff]at hs;obtain⟨i,hi,rfl⟩:=hs;cases hu with
      |slfn _ _ p=>exact absurd h0.2 (by simp;omega)
      |slf _ _ _ sz b o cap vs h1 h2 h3 h4 h5 h6 h7 h8=>
       have hlt:n.toNat<len:=by omega
       have hsz:=h2 n.toNat hlt;have e1:i.size=sz:=by omega
       have hmul:n.toNat*sz+sz≤len*sz:=by rw[←Nat.succ_mul];exact Nat.mul_le_mul_right _ hlt
       refine⟨.pointer (some ⟨b,o+n.toNat*sz,none⟩),?_,?_⟩
       ·simp[Instr.indexAt,asIntOf,run_underlying hd,sizeOf,typeInfo,hi,e1,Addr.add_lit,h0]
       ·rw[show(⟨b,o+n.toNat*sz,none⟩:Addr)=⟨b,(o+n.toNat*sz)+0,none⟩from rfl];refine .ref (f n.toNat) 0 b (o+n.toNat*sz) ((vs.drop (n.toNat*sz)).take sz) (h1 (by omega)) ?_ ?_ ?_
        ·simp[h6];omega
        ·intro j w hw;rw[List.getElem?_take]at hw;split at hw
         ·rw[List.getElem?_drop]at hw;rw[Nat.add_assoc];exact h7 _ w hw
         ·cases hw
        ·intro j w c hw hc;rw[List.getElem?_take]at hw;split at hw
         ·rename_i hj;rw[List.getElem?_drop]at hw;exact(h8 n.toNat j w c hlt hj hw hc).rd
         ·cases hw
     ·cases h
    ·cases h
   ·cases h
  ·rename_i e l sz j len hd;split at h
   ·rename_i h0;split at h
    ·rename_i s hs;split at h
     ·rename_i hys;cases h;simp only[Option.map_eq_some_iff]at hs;obtain⟨i,hi,rfl⟩:=hs;cases hu with
      |osl _ _ _ _ b o cap h1 h2 h3 h4 h5=>
       obtain⟨rfl,rfl⟩:=h4 (.inl (by omega));refine⟨.pointer (some ⟨g.loc l,(j+n.toNat)*sz,none⟩),?_,.ptr _ _ h1⟩;simp[Instr.indexAt,asIntOf,run_underlying hd,sizeOf,typeInfo,hi,Addr.add_lit,h0,hys,Nat.add_mul]
     ·cases h
    ·cases h
   ·cases h
  ·rename_i len e hd;split at h
   ·rename_i h0;split at h
    ·rename_i s hs;simp only[Option.map_eq_some_iff]at hs;obtain⟨i,hi,rfl⟩:=hs;obtain⟨b,o,rfl,hr⟩:=add_ok h hu;refine⟨_,?_,hr⟩;simp[Instr.indexAt,asIntOf,run_underlying hd,Instr.sureAddr,sizeOf,typeInfo,hi,Addr.add_lit,h0]
    ·cases h
   ·cases h
  ·cases h
 ·cases h
theorem index_ok{t:TypeId}{x i r:T}(h:indexT P t x i=some r){u v:Value}(hu:Rd g u x)(hv:Rd g v i):∃q,(Instr.index t u v).run P g.w= .ok q g.w∧Rd g q r:=by
 unfold indexT szT at h;split at h
 ·rename_i k n;cases hv;split at h
  ·rename_i len e cs hd;split at h
   ·rename_i h0;split at h
    ·rename_i s hs;simp only[Option.map_eq_some_iff]at hs;obtain⟨i,hi,rfl⟩:=hs;obtain⟨vs,rfl,hv⟩:=hu.inv_agg;obtain⟨q,h1,h2⟩:=part_ok (P:=P) h hv;exact⟨q,by simp[Instr.index,asIntOf,run_underlying hd,sizeOf,typeInfo,hi,h0,h1],h2⟩
    ·cases h
   ·cases h
  ·rename_i s hd;obtain⟨a,rfl,rfl⟩:=hu.inv_str;split at h
   ·rename_i h0;simp only[Option.map_eq_some_iff]at h;obtain⟨b,hb,rfl⟩:=h;refine⟨_,?_,.int _ _⟩;have hb':a[n.toNat]? =some b:=by
     have hlt:n.toNat<a.data.toList.length:=(List.getElem?_eq_some_iff.1 hb).1;have hlt':n.toNat<a.size:=by simpa [ByteArray.size_data]using hlt
     have e:=(List.getElem?_eq_some_iff.1 hb).2;rw[getElem?_pos a n.toNat hlt'];congr 1
    simp[Instr.index,asIntOf,run_underlying hd,h0,hb']
   ·cases h
  ·cases h
 ·cases h
theorem len_ok{t:TypeId}{x r:T}(h:lenT P t x=some r){u:Value}(hu:Rd g u x)(tys:Array TypeId)(ht:tys[0]? =some t)(ty:TypeId):
  ∃q,(Builtin.len_ tys ty #[u]).run P g.w= .ok q g.w∧Rd g q r:=by
 unfold lenT at h;split at h<;>try cases h
 all_goals rename_i hd
 ·obtain⟨a,rfl,rfl⟩:=hu.inv_str;refine⟨.int .i64 a.size,by simp[Builtin.len_,ht,run_underlying hd,goInt],?_⟩;have e:a.data.toList.length=a.size:=by simp[ByteArray.size_data]
  rw[e];exact .int _ _
 ·cases hu;exact⟨_,by simp[Builtin.len_,ht,run_underlying hd,goInt],.int _ _⟩
 ·cases hu;exact⟨_,by simp[Builtin.len_,ht,run_underlying hd,goInt],.int _ _⟩
 ·cases hu with
  |slfn _ _ p=>exact⟨_,by simp[Builtin.len_,ht,run_underlying hd,goInt],.int _ _⟩
  |slf _ _ _ sz b o cap vs h1 h2 h3 h4 h5 h6 h7 h8=>exact⟨_,by simp[Builtin.len_,ht,run_underlying hd,goInt],.int _ _⟩
 ·cases hu;exact⟨_,by simp[Builtin.len_,ht,run_underlying hd,goInt],.int _ _⟩
 ·exact⟨_,by simp[Builtin.len_,ht,run_underlying hd,goInt],.int _ _⟩
 ·cases hu;exact⟨_,by simp[Builtin.len_,ht,run_underlying hd,goInt],.int _ _⟩
theorem foldT_min_ok:∀{ts:List T} {x r:T},foldT minT x ts=some r→∀{u:Value} {us:List Value},Rd g u x→RdL g us ts→∃q,(us.foldlM Builtin.min2 u).run P g.w= .ok q g.w∧Rd g q r
 |[],x,r,h,u,us,hu,hus=>by
  simp[foldT]at h;subst h;have:us=[]:=List.eq_nil_of_length_eq_zero hus.1;subst this;exact⟨u,by simp,hu⟩
 |y::ts,x,r,h,u,[],hu,hus=>by simp[RdL]at hus
 |y::ts,x,r,h,u,v::us,hu,hus=>by
  obtain⟨hv,hus'⟩:=hus.inv_cons;clear hus;simp only[foldT]at h;split at h
  ·rename_i z hz;unfold minT at hz;split at hz<;>cases hz;cases hu;cases hv;obtain⟨q,h1,h2⟩:=foldT_min_ok h (.int _ _) hus';exact⟨q,by simp[Builtin.min2,h1],h2⟩
  ·cases h
theorem foldT_max_ok:∀{ts:List T} {x r:T},foldT maxT x ts=some r→∀{u:Value} {us:List Value},Rd g u x→RdL g us ts→∃q,(us.foldlM Builtin.max2 u).run P g.w= .ok q g.w∧Rd g q r
 |[],x,r,h,u,us,hu,hus=>by
  simp[foldT]at h;subst h;have:us=[]:=List.eq_nil_of_length_eq_zero hus.1;subst this;exact⟨u,by simp,hu⟩
 |y::ts,x,r,h,u,[],hu,hus=>by simp[RdL]at hus
 |y::ts,x,r,h,u,v::us,hu,hus=>by
  obtain⟨hv,hus'⟩:=hus.inv_cons;clear hus;simp only[foldT]at h;split at h
  ·rename_i z hz;unfold maxT at hz;split at hz<;>cases hz;cases hu;cases hv;obtain⟨q,h1,h2⟩:=foldT_max_ok h (.int _ _) hus';exact⟨q,by simp[Builtin.max2,h1],h2⟩
  ·cases h
end
end Go.Ps
namespace Go.Ps
theorem extract_bytes(s:ByteArray)(l h:Nat):(s.extract l h).data.toList=(s.data.toList.take h).drop l:=by
 rw[ByteArray.data_extract,Array.toList_extract,List.extract_eq_take_drop,List.drop_take]
section
variable{P:Program}{g:G}
def RdO(g:G):Option Value→Option T→Prop
 |none,none=>True
 |some v,some t=>Rd g v t
 |_,_ =>False
theorem bound_ok{x:Option T}{dflt top r:Nat}(h:boundT x dflt top=some r){v:Option Value}(hv:RdO g v x):
  (v=none∧r=dflt)∨∃k n,v=some (.int k n)∧0≤n∧n≤top∧n.toNat=r:=by
 unfold boundT at h;split at h
 ·cases h;left;cases v with
  |none=>exact⟨rfl,rfl⟩
  |some v=>simp[RdO]at hv
 ·rename_i k n;split at h
  ·rename_i hn;cases h;cases v with
   |none=>simp[RdO]at hv
   |some v=>simp only[RdO]at hv;cases hv;exact .inr ⟨k,n,rfl,hn.1,hn.2,rfl⟩
  ·cases h
 ·cases h
theorem bounds_run{isS:Bool}{len cap:Nat}{lo hi:Option Value}{l h:Nat}
  (hh:(hi=none∧h=len)∨∃k n,hi=some (.int k n)∧0≤n∧n≤(cap:Int)∧n.toNat=h)
  (hl:(lo=none∧l=0)∨∃k n,lo=some (.int k n)∧0≤n∧n≤(h:Int)∧n.toNat=l):
  (Instr.sliceBounds isS len cap lo hi none).run P g.w= .ok (l,h,cap) g.w:=by
 rcases hh with⟨rfl,rfl⟩|⟨k,n,rfl,a0,a1,rfl⟩<;>rcases hl with⟨rfl,rfl⟩|⟨k',n',rfl,b0,b1,rfl⟩<;>simp_all [Instr.sliceBounds,Instr.sliceBound,asIntOf]
theorem flat_take{xs:List T}{sz:Nat}(hsz:∀x∈xs,x.cells.length=sz)(n:Nat):(xs.take n).flatMap T.cells=(xs.flatMap T.cells).take (n*sz):=by
 induction xs generalizing n with
 |nil=>simp
 |cons x xs ih=>
  have hx:=hsz x (by simp);cases n with
  |zero=>simp
  |succ n=>
   simp only[List.take_succ_cons,List.flatMap_cons,ih (fun y hy=>hsz y (by simp[hy]))];rw[List.take_append,hx,List.take_of_length_le (l:=x.cells) (by rw[hx,Nat.succ_mul];omega),show(n+1)*sz-sz=n*sz by rw[Nat.succ_mul];omega]
theorem flat_drop{xs:List T}{sz:Nat}(hsz:∀x∈xs,x.cells.length=sz)(n:Nat):(xs.drop n).flatMap T.cells=(xs.flatMap T.cells).drop (n*sz):=by
 induction xs generalizing n with
 |nil=>simp
 |cons x xs ih=>
  have hx:=hsz x (by simp);cases n with
  |zero=>simp
  |succ n=>
   simp only[List.drop_succ_cons,List.flatMap_cons,ih (fun y hy=>hsz y (by simp[hy]))];rw[List.drop_append,hx,List.drop_of_length_le (l:=x.cells) (by rw[hx,Nat.succ_mul];omega),show(n+1)*sz-sz=n*sz by rw[Nat.succ_mul];omega];simp
theorem flat_sub{xs:List T}{sz l hh:Nat}(hsz:∀x∈xs,x.cells.length=sz)(_hle:hh≤xs.length)(j:Nat)(c:T)(hc:(((xs.take hh).drop l).flatMap T.cells)[j]? =some c):(xs.flatMap T.cells)[l*sz+j]? =some c:=by
 rw[flat_drop (fun x hx=>hsz x (List.mem_of_mem_take hx)),flat_take hsz,List.getElem?_drop,List.getElem?_take]at hc;split at hc
 ·exact hc
 ·cases hc
theorem slice_ok{t:TypeId}{x r:T}{lo hi:Option T}(h:sliceT P t x lo hi=some r){u:Value}{vlo vhi:Option Value}(hu:Rd g u x)(hlo:RdO g vlo lo)(hhi:RdO g vhi hi):
  ∃q,(Instr.sliceAt t u vlo vhi none).run P g.w= .ok q g.w∧Rd g q r:=by
 unfold sliceT at h;split at h
 ·rename_i s hd;obtain⟨a,rfl,rfl⟩:=hu.inv_str;have es:a.data.toList.length=a.size:=by simp[ByteArray.size_data]
  split at h
  ·rename_i hh eh;split at h
   ·rename_i l el;cases h;have b1:=bound_ok eh hhi;have b2:=bound_ok el hlo;rw[es]at b1;have hb:=bounds_run (P:=P) (g:=g) (isS:=false) (len:=a.size) (cap:=a.size) b1 b2;refine⟨.string (a.extract l hh),by simp[Instr.sliceAt,Instr.slice,run_underlying hd,hb],?_⟩;rw[←extract_bytes];exact .str _
   ·cases h
  ·cases h
 ·rename_i e full xs hd;split at h
  ·rename_i hh eh;split at h
   ·rename_i l el;split at h
    ·rename_i s hs;split at h
     ·rename_i hok;cases h;simp only[szT,Option.map_eq_some_iff]at hs;obtain⟨i,hi,rfl⟩:=hs;cases hu with
      |sl _ _ sz b o cap vs h1 h2 h3 h4 h5 h6 h7 h8=>
       have b1:=bound_ok eh hhi;have b2:=bound_ok el hlo;have b1':(vhi=none∧hh=xs.length)∨∃k n,vhi=some (.int k n)∧0≤n∧n≤(cap:Int)∧n.toNat=hh:=by
        rcases b1 with b1|⟨k,n,e1,e2,e3,e4⟩
        ·exact .inl b1
        ·exact .inr ⟨k,n,e1,e2,by omega,e4⟩
       have hle:hh≤xs.length:=by rcases b1 with⟨_,b1⟩|⟨k,n,e1,e2,e3,e4⟩<;>omega
       have hl:l≤hh:=by rcases b2 with⟨_,b2⟩|⟨k,n,e1,e2,e3,e4⟩<;>omega
       have hb:=bounds_run (P:=P) (g:=g) (isS:=true) (len:=xs.length) (cap:=cap) b1' b2;have hlen:((xs.take hh).drop l).length=hh-l:=by simp;omega
       refine⟨.slice (some (if cap=l then⟨b,o,none⟩else⟨b,o+l*i.size,none⟩)) (hh-l) (cap-l),?_,?_⟩
       ·simp only[Instr.sliceAt,Instr.slice,Sem.run_bind,run_underlying hd,Result.andThen_ok,hb,sizeOf,typeInfo,run_program,hi,Sem.run_pure,Option.map_some,Addr.add_lit];split<;>rfl
       ·rw[←hlen];have hcap:(full&&hh==xs.length)=true→cap-l=((xs.take hh).drop l).length:=fun q=>by
         simp only[Bool.and_eq_true,beq_iff_eq]at q;have:=h5 q.1;rw[hlen];omega
        by_cases hnil:(xs.take hh).drop l=[]
        ·rw[hnil]at hcap⊢;have:∀(b' o':Nat),Rd g (.slice (some ⟨b',o',none⟩) ([]:List T).length (cap-l)) (.sl (full&&hh==xs.length) []):=fun b' o'=>
          .sl _ [] 0 _ _ _ [] (fun q=>absurd rfl q) (by simp) (by simp) (by omega) hcap (by simp) (by simp) (by simp)
         split
         ·exact this _ _
         ·exact this _ _
        ·have hx0:xs≠[]:=by rintro rfl;simp at hnil
         have hlt:l<hh:=by
          rcases Nat.lt_or_ge l hh with q|q
          ·exact q
          ·exact absurd (List.eq_nil_of_length_eq_zero (by rw[hlen];omega)) hnil
         have esz:i.size=sz:=by
          cases xs with
          |nil=>exact absurd rfl hx0
          |cons x xs=>simp only[headOk,beq_iff_eq]at hok;rw[←hok];exact h2 x (by simp)
         rw[if_neg (by omega),esz];have hm1:l*sz≤hh*sz:=Nat.mul_le_mul_right _ (by omega);have hm2:hh*sz≤xs.length*sz:=Nat.mul_le_mul_right _ hle;have hsub:∀x∈(xs.take hh).drop l,x.cells.length=sz:=fun x hx=>h2 x (List.mem_of_mem_take (List.mem_of_mem_drop hx));refine .sl _ _ sz b (o+l*sz) (cap-l) ((vs.take (hh*sz)).drop (l*sz)) (fun _ =>h1 hx0) hsub (by rw[hlen];omega) (by omega) hcap ?_ ?_ ?_
         ·rw[hlen];simp only[List.length_drop,List.length_take,h6,Nat.sub_mul];omega
         ·intro j w hw;rw[List.getElem?_drop,List.getElem?_take]at hw;split at hw
          ·rw[Nat.add_assoc];exact h7 _ w hw
          ·cases hw
         ·intro j w c hw hc;rw[List.getElem?_drop,List.getElem?_take]at hw;split at hw
          ·refine h8 _ w c hw ?_;exact flat_sub h2 hle j c hc
          ·cases hw
     ·cases h
    ·cases h
   ·cases h
  ·cases h
 ·rename_i e full n f hd;split at h
  ·rename_i hh eh;split at h
   ·rename_i l el;split at h
    ·rename_i s hs;split at h
     ·cases h
     ·rename_i hok;cases h;simp only[szT,Option.map_eq_some_iff]at hs;obtain⟨i,hi,rfl⟩:=hs;cases hu with
      |slfn _ _ p=>
       have b1:=bound_ok eh hhi;have b2:=bound_ok el hlo;have e1:hh=0:=by rcases b1 with⟨_,b1⟩|⟨k,n,e1,e2,e3,e4⟩<;>omega
       have e2:l=0:=by rcases b2 with⟨_,b2⟩|⟨k,n,e1,e2,e3,e4⟩<;>omega
       subst e1;subst e2;have hb:=bounds_run (P:=P) (g:=g) (isS:=true) (len:=0) (cap:=0) b1 b2;exact⟨.slice p 0 0,by cases p<;>simp[Instr.sliceAt,Instr.slice,run_underlying hd,hb,sizeOf,typeInfo,hi],.slfn _ _ p⟩
      |slf _ _ _ sz b o cap vs h1 h2 h3 h4 h5 h6 h7 h8=>
       have b1:=bound_ok eh hhi;have b2:=bound_ok el hlo;have b1':(vhi=none∧hh=n)∨∃k m,vhi=some (.int k m)∧0≤m∧m≤(cap:Int)∧m.toNat=hh:=by
        rcases b1 with b1|⟨k,m,e1,e2,e3,e4⟩
        ·exact .inl b1
        ·exact .inr ⟨k,m,e1,e2,by omega,e4⟩
       have hle:hh≤n:=by rcases b1 with⟨_,b1⟩|⟨k,m,e1,e2,e3,e4⟩<;>omega
       have hl:l≤hh:=by rcases b2 with⟨_,b2⟩|⟨k,m,e1,e2,e3,e4⟩<;>omega
       have hb:=bounds_run (P:=P) (g:=g) (isS:=true) (len:=n) (cap:=cap) b1' b2;refine⟨.slice (some (if cap=l then⟨b,o,none⟩else⟨b,o+l*i.size,none⟩)) (hh-l) (cap-l),?_,?_⟩
       ·simp only[Instr.sliceAt,Instr.slice,Sem.run_bind,run_underlying hd,Result.andThen_ok,hb,sizeOf,typeInfo,run_program,hi,Sem.run_pure,Option.map_some,Addr.add_lit];split<;>rfl
       ·have hcap:(full&&hh==n)=true→cap-l=hh-l:=fun q=>by
         simp only[Bool.and_eq_true,beq_iff_eq]at q;have:=h5 q.1;omega
        by_cases hlt:l<hh
        ·have esz:i.size=sz:=by
          have q:¬(f l).cells.length≠i.size:=fun q=>hok ⟨hlt,q⟩;have:=h2 l (by omega);omega
         rw[if_neg (by omega),esz];have hm1:l*sz≤hh*sz:=Nat.mul_le_mul_right _ (by omega);have hm2:hh*sz≤n*sz:=Nat.mul_le_mul_right _ hle;refine .slf _ _ _ sz b (o+l*sz) (cap-l) ((vs.take (hh*sz)).drop (l*sz)) (fun _ =>h1 (by omega)) (fun k hk=>h2 (l+k) (by omega)) (by omega) (by omega) hcap ?_ ?_ ?_
         ·simp only[List.length_drop,List.length_take,h6,Nat.sub_mul];omega
         ·intro j w hw;rw[List.getElem?_drop,List.getElem?_take]at hw;split at hw
          ·rw[Nat.add_assoc];exact h7 _ w hw
          ·cases hw
         ·intro k j w c hk hj hw hc;rw[List.getElem?_drop,List.getElem?_take]at hw;split at hw
          ·refine h8 (l+k) j w c (by omega) hj ?_ hc;rw[Nat.add_mul,Nat.add_assoc];exact hw
          ·cases hw
        ·have hz:hh-l=0:=by omega
         rw[hz]at hcap⊢;have:∀(b' o':Nat),Rd g (.slice (some ⟨b',o',none⟩) 0 (cap-l)) (.slf (full&&hh==n) 0 (fun k=>f (l+k))):=fun b' o'=>
          .slf _ 0 _ 0 _ _ _ [] (fun q=>absurd rfl q) (fun k hk=>by omega) (by omega) (by omega) hcap (by simp) (by simp) (fun k j w c hk=>by omega)
         split
         ·exact this _ _
         ·exact this _ _
    ·cases h
   ·cases h
  ·cases h
 ·rename_i e hd;split at h
  ·rename_i hh eh;split at h
   ·rename_i l el;split at h
    ·rename_i hsz;cases h;obtain⟨s,hs⟩:=Option.isSome_iff_exists.1 hsz;simp only[szT,Option.map_eq_some_iff]at hs;obtain⟨i,hi,rfl⟩:=hs;cases hu;have b1:=bound_ok eh hhi;have b2:=bound_ok el hlo;have e1:hh=0:=by rcases b1 with⟨_,b1⟩|⟨k,n,e1,e2,e3,e4⟩<;>omega
     have e2:l=0:=by rcases b2 with⟨_,b2⟩|⟨k,n,e1,e2,e3,e4⟩<;>omega
     subst e1;subst e2;have hb:=bounds_run (P:=P) (g:=g) (isS:=true) (len:=0) (cap:=0) b1 b2;exact⟨.slice none 0 0,by simp[Instr.sliceAt,Instr.slice,run_underlying hd,hb,sizeOf,typeInfo,hi],.nils⟩
    ·cases h
   ·cases h
  ·cases h
 ·rename_i e l' sz j len hd;split at h
  ·rename_i hh eh;split at h
   ·rename_i k el;split at h
    ·rename_i s hs;split at h
     ·rename_i es;cases h;simp only[szT,Option.map_eq_some_iff]at hs;obtain⟨i,hi,rfl⟩:=hs;cases hu with
      |osl _ _ _ _ b o cap h1 h2 h3 h4 h5=>
       have b1:=bound_ok eh hhi;have b2:=bound_ok el hlo;have b1':(vhi=none∧hh=len)∨∃k n,vhi=some (.int k n)∧0≤n∧n≤(cap:Int)∧n.toNat=hh:=by
        rcases b1 with b1|⟨k,n,e1,e2,e3,e4⟩
        ·exact .inl b1
        ·exact .inr ⟨k,n,e1,e2,by omega,e4⟩
       have hle:hh≤len:=by rcases b1 with⟨_,b1⟩|⟨k,n,e1,e2,e3,e4⟩<;>omega
       have hl:k≤hh:=by rcases b2 with⟨_,b2⟩|⟨k,n,e1,e2,e3,e4⟩<;>omega
       have hb:=bounds_run (P:=P) (g:=g) (isS:=true) (len:=len) (cap:=cap) b1' b2;refine⟨.slice (some (if cap=k then⟨b,o,none⟩else⟨b,o+k*i.size,none⟩)) (hh-k) (cap-k),?_,?_⟩
       ·simp only[Instr.sliceAt,Instr.slice,Sem.run_bind,run_underlying hd,Result.andThen_ok,hb,sizeOf,typeInfo,run_program,hi,Sem.run_pure,Option.map_some,Addr.add_lit];split<;>rfl
       ·by_cases hck:cap=k
        ·rw[if_pos hck];refine .osl l' sz (j+k) (hh-k) b o (cap-k) h1 (by omega) (by omega) (fun q=> ?_) (fun q=> ?_)
         ·have:j=0∧k=0:=by omega
          obtain⟨rfl,rfl⟩:=this;simpa using h4 (.inr rfl)
         ·have:j=0∧k=0:=by omega
          obtain⟨rfl,rfl⟩:=this;simpa using h5 rfl
        ·rw[if_neg hck,es];refine .osl l' sz (j+k) (hh-k) b (o+k*sz) (cap-k) h1 (by omega) (by omega) (fun q=> ?_) (fun q=> ?_)
         ·have:=h4 (by omega);refine⟨this.1,?_⟩;rw[this.2,Nat.add_mul]
         ·have:j=0∧k=0:=by omega
          obtain⟨rfl,rfl⟩:=this;simpa using h5 rfl
     ·cases h
    ·cases h
   ·cases h
  ·cases h
 ·cases h
end
end Go.Ps
namespace Go.Ps
section
variable{P:Program}{g:G}
theorem keyOk1_ok{t:TypeId}{x:T}(h:keyOk1 P t x=true){u:Value}(hu:Rd g u x)(e:Bool)(d:Nat):(Instr.checkKey e (d+1) t u).run P g.w= .ok () g.w:=by
 unfold keyOk1 at h;split at h
 ·rename_i hd;cases hu;simp[Instr.checkKey,run_underlying hd]
 ·rename_i hd;cases hu;simp[Instr.checkKey,run_underlying hd]
 ·rename_i hd;cases hu;simp[Instr.checkKey,run_underlying hd]
 ·cases h
theorem keyOk1_part{t:TypeId}{x:T}(h:keyOk1 P t x=true){cs:List T}{off:Nat}(hc:cs[off]? =some x):partT P t cs off=some x:=by
 unfold keyOk1 at h;unfold partT aggT;split at h
 ·rename_i hd;rw[hd];exact hc
 ·rename_i hd;rw[hd];exact hc
 ·rename_i hd;rw[hd];exact hc
 ·cases h
theorem keyFs_ok{xs:List T}{us:List Value}(hu:RdL g us xs)(e:Bool)(d:Nat):∀(fs:List Field),keyFs P xs fs=true→
  (forIn fs PUnit.unit (fun f (_ :PUnit)=>if f.name≠ "_" then do
    let v←part f.type us.toArray f.offset
    Instr.checkKey e (d+1) f.type v
    pure (ForInStep.yield PUnit.unit)
   else pure (ForInStep.yield PUnit.unit)):Sem PUnit).run P g.w= .ok PUnit.unit g.w
 |[],_ =>by simp
 |f::fs,h=>by
  simp only[keyFs,Bool.and_eq_true]at h;obtain⟨h1,h2⟩:=h;split at h1
  ·rename_i a ha;simp only[Bool.and_eq_true,Bool.not_eq_true',beq_eq_false_iff_ne]at h1;obtain⟨u,e1,r1⟩:=part_ok (keyOk1_part h1.2 ha) hu;have ih:=keyFs_ok hu e d fs h2;simp only[List.forIn_cons,Sem.run_bind,if_pos h1.1,e1,Result.andThen_ok,keyOk1_ok h1.2 r1 e d,Sem.run_pure];exact ih
  ·cases h1
theorem keyOk_ok{t:TypeId}{x:T}(h:keyOk P t x=true){u:Value}(hu:Rd g u x)(e:Bool):(Instr.checkKey e 10000 t u).run P g.w= .ok () g.w:=by
 unfold keyOk at h;split at h
 ·split at h
  ·rename_i fs hd;simp only[Bool.and_eq_true,Bool.not_eq_true']at h;obtain⟨us,rfl,hu'⟩:=hu.inv_agg;have:=keyFs_ok hu' e 9998 fs.toList h.2;rw[Instr.checkKey];simp only[Sem.run_bind,run_underlying hd,Result.andThen_ok];rw[←Array.forIn_toList];simp only[Nat.reduceAdd]at this;rw[this];rfl
  ·cases h
 ·exact keyOk1_ok h hu e 9999
theorem zero_ok{t:TypeId}{z:T}(h:zeroT P t=some z):∃v,(zeroValue t).run P g.w= .ok v g.w∧Rd g v z:=by
 unfold zeroT at h;split at h
 ·rename_i i hi;split at h
  ·rename_i v hv;exact⟨v,by simp[zeroValue,typeInfo,hi,hv],rd_ofVal g h⟩
  ·cases h
 ·cases h
def FoundM(P:Program)(t:TypeId)(k:T)(ms:List MapEntry)(es:List (Nat×T×T))(i0:Nat):Option (Nat×Nat×T)→Option (Nat×Value)→Prop
 |none,none=>True
 |some (i,b,x),some (j,v)=>j=i∧i0≤i∧∃m k',ms[i-i0]? =some m∧es[i-i0]? =some (b,k',x)∧m.val=v∧eqK P t k k'=some true
 |_,_ =>False
theorem MapR.inv_cons{m:MapEntry}{ms:List MapEntry}{t:Nat×T×T}{es:List (Nat×T×T)}(h:MapR g (m::ms) (t::es)):m.born=t.1∧Rd g m.key t.2.1∧Rd g m.val t.2.2∧MapR g ms es:=by
 obtain⟨h1,h2,h3⟩:=h;simp only[List.map_cons,List.cons.injEq]at h1;obtain⟨a,b⟩:=h2.inv_cons;obtain⟨c,d⟩:=h3.inv_cons;exact⟨h1.1,a,c,h1.2,b,d⟩
theorem MapR.len{ms:List MapEntry}{es:List (Nat×T×T)}(h:MapR g ms es):ms.length=es.length:=by have:=congrArg List.length h.1;simpa using this
theorem FoundM.up{t:TypeId}{k:T}{m:MapEntry}{ms:List MapEntry}{e:Nat×T×T}{es:List (Nat×T×T)}{i0:Nat}{r:Option (Nat×Nat×T)}{q:Option (Nat×Value)}(h:FoundM P t k ms es (i0+1) r q):FoundM P t k (m::ms) (e::es) i0 r q:=by
 unfold FoundM at h⊢;split at h
 ·trivial
 ·rename_i i b x j v;obtain⟨h1,h2,m',k',h3,h4,h5,h6⟩:=h;refine⟨h1,by omega,m',k',?_,?_,h5,h6⟩
  ·rw[show i-i0=(i-(i0+1))+1 by omega];exact h3
  ·rw[show i-i0=(i-(i0+1))+1 by omega];exact h4
 ·exact h.elim
theorem asking_ok{t:TypeId}{k:T}{u:Value}(hu:Rd g u k):∀(ms:List MapEntry) (es:List (Nat×T×T)) (i:Nat) (r:Option (Nat×Nat×T)),findM P t k es i=some r→MapR g ms es→
  ∃q,(Instr.findAsking t u ms i).run P g.w= .ok q g.w∧FoundM P t k ms es i r q
 |[],[],i,r,h,_ =>by simp only[findM,Option.some.injEq]at h;subst h;exact⟨none,by simp[Instr.findAsking],trivial⟩
 |[],e::es,_,_,_,hm=>by have:=hm.len;simp at this
 |m::ms,[],_,_,_,hm=>by have:=hm.len;simp at this
 |m::ms,(b,k',x)::es,i,r,h,hm=>by
  obtain⟨h1,h2,h3,h4⟩:=hm.inv_cons;simp only[findM]at h;split at h
  ·rename_i he;cases h;have:=eqK_ok he hu h2 9998;refine⟨some (i,m.val),?_,rfl,Nat.le_refl _,m,k',by simp,by simp,rfl,he⟩;simp only[Instr.findAsking,Sem.run_bind,Op.equal,Op.maxDepth,this,Result.andThen_ok,if_true,Sem.run_pure]
  ·rename_i he;have:=eqK_ok he hu h2 9998;obtain⟨q,e1,e2⟩:=asking_ok hu ms es (i+1) r h h4;refine⟨q,?_,e2.up⟩;simp only[Instr.findAsking,Sem.run_bind,Op.equal,Op.maxDepth,this,Result.andThen_ok,Bool.false_eq_true,if_false,e1]
  ·cases h
theorem sameNow_ok{t:TypeId}{d:TypeDesc}(hd:P.underlying t=some d){k k':T}{b b':Bool}(h:eqK P t k k'=some b){u v:Value}(hu:Rd g u k)(hv:Rd g v k')(hs:Instr.sameNow d u v=some b'):b'=b:=by
 unfold eqK at h;split at h
 ·obtain⟨us,rfl,_⟩:=hu.inv_agg;obtain⟨vs,rfl,_⟩:=hv.inv_agg;simp[Instr.sameNow]at hs
 ·unfold eq1 at h;rw[hd]at h;split at h
  ·have e1:=Option.some.inj ‹some d=some _›;subst e1;split at h
   ·rename_i hk;cases h;subst hk;cases hu;cases hv;simp[Instr.sameNow]at hs;exact hs.symm
   ·cases h
  ·have e1:=Option.some.inj ‹some d=some _›;subst e1;cases h;obtain⟨a,rfl,rfl⟩:=hu.inv_str;obtain⟨c,rfl,rfl⟩:=hv.inv_str;simp only[Instr.sameNow,Option.some.injEq]at hs;rw[←hs,beq_toListBytes,ByteArray.toList_eq,ByteArray.toList_eq]
  ·have e1:=Option.some.inj ‹some d=some _›;subst e1;cases h;cases hu;cases hv;simp[Instr.sameNow]at hs;exact hs.symm
  ·cases h
theorem now_ok{t:TypeId}{d:TypeDesc}(hd:P.underlying t=some d){k:T}{u:Value}(hu:Rd g u k):∀(ms:List MapEntry) (es:List (Nat×T×T)) (i:Nat) (r:Option (Nat×Nat×T)) (q:Option (Nat×Value)),findM P t k es i=some r→MapR g ms es→
  Instr.findNow d u ms i=some q→FoundM P t k ms es i r q
 |[],[],i,r,q,h,_,hq=>by
  simp only[findM,Option.some.injEq]at h;subst h;simp only[Instr.findNow,Option.some.injEq]at hq;subst hq;trivial
 |[],e::es,_,_,_,_,hm,_ =>by have:=hm.len;simp at this
 |m::ms,[],_,_,_,_,hm,_ =>by have:=hm.len;simp at this
 |m::ms,(b,k',x)::es,i,r,q,h,hm,hq=>by
  obtain⟨h1,h2,h3,h4⟩:=hm.inv_cons;simp only[findM]at h;simp only[Instr.findNow]at hq;split at h
  ·rename_i he;cases h;split at hq
   ·cases hq;exact⟨rfl,Nat.le_refl _,m,k',by simp,by simp,rfl,he⟩
   ·rename_i hs;have:=sameNow_ok hd he hu h2 hs;cases this
   ·cases hq
  ·rename_i he;split at hq
   ·rename_i hs;have:=sameNow_ok hd he hu h2 hs;cases this
   ·exact(now_ok hd hu ms es (i+1) r q h h4 hq).up
   ·cases hq
  ·cases h
theorem findKey_ok{t:TypeId}{d:TypeDesc}(hd:P.underlying t=some d){k:T}{u:Value}(hu:Rd g u k){ms:List MapEntry}{es:List (Nat×T×T)}{r:Option (Nat×Nat×T)}(h:findM P t k es 0=some r)(hm:MapR g ms es):
  ∃q,(Instr.findKey t u ms).run P g.w= .ok q g.w∧FoundM P t k ms es 0 r q:=by
 unfold Instr.findKey;simp only[Sem.run_bind,run_underlying hd,Result.andThen_ok];split
 ·rename_i q hq;exact⟨q,by simp,now_ok hd hu ms es 0 r q h hm hq⟩
 ·exact asking_ok hu ms es 0 r h hm
theorem keyOk_und{t:TypeId}{x:T}(h:keyOk P t x=true):∃d,P.underlying t=some d:=by
 unfold keyOk keyOk1 at h;split at h
 ·split at h
  ·rename_i hd;exact⟨_,hd⟩
  ·cases h
 ·split at h<;>first|(cases h;done)|exact⟨_,by assumption⟩
theorem ents_ok{H:Hp}(hs:St g H){x:T}{es:List (Nat×T×T)}(h:entsT H x=some es){v:Value}(hv:Rd g v x):
  (v= .map none∧es=[])∨∃l ms c,v= .map (some (g.loc l))∧x= .mp l∧g.w.heap[g.loc l]? =some (.map ms c)∧MapR g ms.toList es:=by
 unfold entsT at h;split at h
 ·cases h;cases hv;exact .inl ⟨rfl,rfl⟩
 ·rename_i l;split at h
  ·rename_i o ho;split at h
   ·rename_i c es' hm;cases h;obtain⟨_,_,_,hb,ms,rfl,hr⟩:=hs.ownM l o _ ho hm;cases hv;exact .inr ⟨l,ms,c,rfl,rfl,hb,hr⟩
   ·cases h
  ·cases h
 ·cases h
theorem run_getObj_map{w:World}{r:Nat}{ms:Array MapEntry}{c:Nat}(h:w.heap[r]? =some (.map ms c)):(getObj r).run P w= .ok (.map ms c) w:=by
 simp only[getObj,Sem.run,h]
theorem lookup_ok{H:Hp}(hs:St g H){t:TypeId}{x k r:T}{ok:Bool}(h:lookupT P H t x k ok=some r){u v:Value}(hv:Rd g v x)(hu:Rd g u k):
  ∃q,(Instr.lookup t v u ok).run P g.w= .ok q g.w∧Rd g q r:=by
 unfold lookupT at h;split at h
 ·rename_i kt et hd;split at h
  ·rename_i hk;split at h
   ·rename_i es hes;obtain⟨d,hkd⟩:=keyOk_und hk
    have key:∀(ms:Array MapEntry),MapR g ms.toList es→(Instr.lookup t v u ok).run P g.w=((do
      Instr.checkKey ms.isEmpty 10000 kt u
      let(v,o)←match←Instr.findKey kt u ms.toList with
       |some (_,v)=>pure (v,true)
       |none=>do pure (←zeroValue et,false)
      pure (if ok then .tuple #[v,.bool o]else v)):Sem Value).run P g.w→
      ∃q,(Instr.lookup t v u ok).run P g.w= .ok q g.w∧Rd g q r:=by
     intro ms hm hrun;rw[hrun];simp only[Sem.run_bind,keyOk_ok hk hu,Result.andThen_ok];split at h
     ·rename_i i b y hf;cases h;obtain⟨q,e1,e2⟩:=findKey_ok hkd hu hf hm;unfold FoundM at e2;split at e2
      ·rename_i e0;cases e0
      ·rename_i i' b' x' j w hr;cases hr;obtain⟨_,_,m,k',h1,h2,h3,h4⟩:=e2;simp only[Nat.sub_zero]at h1 h2;have hval:Rd g w y:=by
        rw[←h3];exact hm.2.2.2 i m.val y (by rw[List.getElem?_map,h1];rfl) (by rw[List.getElem?_map,h2];rfl)
       simp only[e1,Result.andThen_ok,Sem.run_pure];cases ok with
       |true=>exact⟨_,rfl,Rd.mk_tup (vs:=[w,.bool true]) (RdL.cons hval (RdL.cons (.bool true) RdL.nil))⟩
       |false=>exact⟨_,rfl,hval⟩
      ·exact e2.elim
     ·rename_i hf;obtain⟨q,e1,e2⟩:=findKey_ok hkd hu hf hm;unfold FoundM at e2;split at e2
      ·split at h
       ·rename_i z hz;cases h;obtain⟨zv,hzv,hr⟩:=zero_ok (g:=g) hz;simp only[e1,Result.andThen_ok,Sem.run_bind,hzv,Sem.run_pure];cases ok with
        |true=>exact⟨_,rfl,Rd.mk_tup (vs:=[zv,.bool false]) (RdL.cons hr (RdL.cons (.bool false) RdL.nil))⟩
        |false=>exact⟨_,rfl,hr⟩
       ·cases h
      ·rename_i hr;cases hr
      ·exact e2.elim
     ·cases h
    rcases ents_ok hs hes hv with⟨rfl,rfl⟩|⟨l,ms,c,rfl,rfl,hb,hm⟩
    ·refine key #[] ⟨rfl,RdL.nil,RdL.nil⟩ ?_;simp only[Instr.lookup,Sem.run_bind,run_underlying hd,Result.andThen_ok,Sem.run_pure];rfl
    ·refine key ms hm ?_;simp only[Instr.lookup,Sem.run_bind,run_underlying hd,Result.andThen_ok,run_getObj_map hb,Sem.run_pure];rfl
   ·cases h
  ·cases h
 ·cases h
theorem lenH_ok{H:Hp}(hs:St g H){t:TypeId}{x r:T}(h:lenH P H t x=some r){v:Value}(hv:Rd g v x)(tys:Array TypeId)(ht:tys[0]? =some t)(ty:TypeId):
  lenT P t x=some r∨∃u,(Builtin.len_ tys ty #[v]).run P g.w= .ok u g.w∧Rd g u r:=by
 unfold lenH at h;split at h
 ·rename_i l;split at h
  ·rename_i k e hd;split at h
   ·rename_i es hes;cases h;rcases ents_ok hs hes hv with⟨e0,_⟩|⟨l',ms,c,rfl,e,hb,hm⟩
    ·subst e0;cases hv
    ·right;refine⟨.int .i64 ms.size,?_,?_⟩
     ·simp[Builtin.len_,ht,run_underlying hd,run_getObj_map hb,goInt]
     ·have:=hm.len;rw[show(ms.size:Int)=(es.length:Int) by rw[←this];simp];exact .int _ _
   ·cases h
  ·exact .inl h
 ·exact .inl h
end
end Go.Ps
namespace Go.Ps
section
variable{P:Program}{g:G}
theorem splice_fold(off:Nat):∀(l:List Value) (k:Nat) (cs:Array Value),off+k+l.length≤cs.size→
  ((l.zipIdx k).foldl (fun(cs:Array Value) (p:Value×Nat)=>cs.setIfInBounds (off+p.2) p.1) cs).toList=cs.toList.take (off+k)++l++cs.toList.drop (off+k+l.length)
 |[],k,cs,_ =>by simp
 |c::l,k,cs,h=>by
  simp only[List.length_cons]at h;have hk:off+k<cs.toList.length:=by simp;omega
  rw[List.zipIdx_cons,List.foldl_cons,splice_fold off l (k+1) _ (by simp;omega)];simp only[Array.toList_setIfInBounds,List.length_cons];rw[show off+(k+1)=off+k+1 by omega,show off+k+1+l.length=off+k+(l.length+1) by omega];rw[List.drop_set_of_lt (by omega)];rw[List.take_set,List.take_succ_eq_append_getElem hk];have:((cs.toList.take (off+k))++[cs.toList[off+k]]).set (off+k) c=cs.toList.take (off+k)++[c]:=by
   rw[List.set_append];have hl:(cs.toList.take (off+k)).length=off+k:=by simp at hk⊢;omega
   rw[if_neg (by omega),hl];simp
  rw[this];simp
theorem splice_cells(off:Nat)(vc cs:Array Value)(h:off+vc.size≤cs.size):
  (vc.zipIdx.foldl (fun(cs:Array Value) (p:Value×Nat)=>cs.setIfInBounds (off+p.2) p.1) cs).toList=cs.toList.take off++vc.toList++cs.toList.drop (off+vc.size):=by
 have:=splice_fold off vc.toList 0 cs (by simpa using h);rw[←Array.foldl_toList];simpa using this
def RdP(g:G):List (Nat×Value)→List (Nat×T)→Prop
 |[],[]=>True
 |(i,v)::vs,(j,t)::ts=>i=j∧Rd g v t∧RdP g vs ts
 |_,_ =>False
theorem fill_ok{place:Nat→Option (Nat×Nat)}:∀{ps:List (Nat×T)} {cs cs':List T},fillT place cs ps=some cs'→∀{qs:List (Nat×Value)} {ca:Array Value},RdP g qs ps→RdL g ca.toList cs→
  ∃ca',Instr.fill place ca qs=some ca'∧RdL g ca'.toList cs'
 |[],cs,cs',h,qs,ca,hq,hc=>by
  simp[fillT]at h;subst h;cases qs with
  |nil=>exact⟨ca,rfl,hc⟩
  |cons q qs=>simp[RdP]at hq
 |(i,t)::ps,cs,cs',h,[],ca,hq,hc=>by simp[RdP]at hq
 |(i,t)::ps,cs,cs',h,(i',v)::qs,ca,hq,hc=>by
  obtain⟨rfl,hv,hq⟩:=hq;simp only[fillT]at h;split at h
  ·cases h
  ·rename_i off size hp;split at h
   ·rename_i hcond;obtain⟨h1,h2⟩:=hcond;have hvc:=hv.cells;have e1:v.cells.size=size:=by rw[←h1,←hvc.1];simp
    have e2:ca.size=cs.length:=by rw[←hc.1];simp
    have hle:off+v.cells.size≤ca.size:=by omega
    have hs:=splice_cells off v.cells ca hle;have hr:RdL g (v.cells.zipIdx.foldl (fun(cs:Array Value) (p:Value×Nat)=>cs.setIfInBounds (off+p.2) p.1) ca).toList (spliceT cs off t.cells):=by
     rw[hs];unfold spliceT;rw[h1,←e1];exact((hc.take off).append hvc).append (hc.drop _)
    obtain⟨ca',h3,h4⟩:=fill_ok h hq hr;refine⟨ca',?_,h4⟩;simp only[Instr.fill,hp];rw[if_neg (by simp[e1];omega)];exact h3
   ·cases h
theorem places_ok:∀{fs:List Field} {pl:List (Nat×Nat)},placesT P fs=some pl→(fs.mapM (fun f=>do pure (f.offset,←sizeOf f.type)):Sem (List (Nat×Nat))).run P g.w= .ok pl g.w
 |[],pl,h=>by simp[placesT]at h;subst h;simp
 |f::fs,pl,h=>by
  simp only[placesT]at h;split at h
  ·rename_i s hs;split at h
   ·rename_i l hl;cases h;simp only[szT,Option.map_eq_some_iff]at hs;obtain⟨i,hi,rfl⟩:=hs;have ih:=places_ok hl;simp only[List.mapM_cons,Sem.run_bind,sizeOf,typeInfo,run_program,Result.andThen_ok,hi,Sem.run_pure];simp only[sizeOf,typeInfo]at ih;rw[ih];simp
   ·cases h
  ·cases h
theorem build_ok{t:TypeId}{ps:List (Nat×T)}{r:T}(h:buildT P t ps=some r){qs:List (Nat×Value)}(hq:RdP g qs ps):
  ∃q,(Instr.build t qs.toArray).run P g.w= .ok q g.w∧Rd g q r:=by
 unfold buildT at h;split at h
 ·rename_i z hz;obtain⟨v,hv,hr⟩:=zero_ok (g:=g) hz;split at h
  ·rename_i fs hd;split at h
   ·rename_i pl hpl;simp only[Option.map_eq_some_iff]at h;obtain⟨cs,hcs,rfl⟩:=h;obtain⟨ca,h1,h2⟩:=fill_ok hcs hq hr.cells;have hp:=places_ok (g:=g) hpl;refine⟨.agg ca,?_,by have:=Rd.mk_agg h2;simpa using this⟩;have hpa:(fs.mapM (fun f=>do pure (f.offset,←sizeOf f.type)):Sem (Array (Nat×Nat))).run P g.w= .ok pl.toArray g.w:=by
     obtain⟨fl⟩:=fs;rw[List.mapM_toArray];simp only[Sem.run_map];simp only at hp;rw[hp];rfl
    have h1':Instr.fill (fun x=>pl.toArray[x]?) v.cells qs=some ca:=by simpa using h1
    simp only[Instr.build,Sem.run_bind,hv,Result.andThen_ok,run_underlying hd,hpa,h1',Sem.run_pure]
   ·cases h
  ·rename_i n e hd;split at h
   ·rename_i s hs;simp only[Option.map_eq_some_iff]at h;obtain⟨cs,hcs,rfl⟩:=h;simp only[szT,Option.map_eq_some_iff]at hs;obtain⟨i,hi,rfl⟩:=hs;obtain⟨ca,h1,h2⟩:=fill_ok hcs hq hr.cells;refine⟨.agg ca,?_,by have:=Rd.mk_agg h2;simpa using this⟩;simp only[Instr.build,Sem.run_bind,hv,Result.andThen_ok,run_underlying hd,sizeOf,typeInfo,run_program,hi,Sem.run_pure,h1]
   ·cases h
  ·cases h
 ·cases h
theorem sets_fill{s:Nat}{ag:Bool}:∀{ps:List (Nat×T)} {xs xs':List T},setsT s ag xs ps=some xs'→(∀x∈xs,x.cells.length=s)→
  fillT (fun i=>some (i*s,s)) (xs.flatMap T.cells) ps=some (xs'.flatMap T.cells)∧(∀x∈xs',x.cells.length=s)∧xs'.length=xs.length
 |[],xs,xs',h,hs=>by simp[setsT]at h;subst h;exact⟨rfl,hs,rfl⟩
 |(i,t)::ps,xs,xs',h,hs=>by
  simp only[setsT]at h;split at h
  ·rename_i hc;obtain⟨h1,h2,h3⟩:=hc;have hs':∀x∈xs.set i t,x.cells.length=s:=fun x hx=>by
    rcases List.mem_or_eq_of_mem_set hx with hx|rfl
    ·exact hs x hx
    ·exact h1
   obtain⟨a,b,c⟩:=sets_fill h hs';refine⟨?_,b,by simpa using c⟩;have hmul:i*s+s≤xs.length*s:=by rw[←Nat.succ_mul];exact Nat.mul_le_mul_right _ h3
   simp only[fillT];rw[if_pos ⟨h1,by rw[flat_length hs];exact hmul⟩];rw[show spliceT (xs.flatMap T.cells) (i*s) t.cells=(xs.set i t).flatMap T.cells from ?_]
   ·exact a
   ·unfold spliceT;rw[List.set_eq_take_append_cons_drop,if_pos h3];simp only[List.flatMap_append,List.flatMap_cons,flat_take hs,flat_drop hs,h1,Nat.succ_mul,List.append_assoc]
  ·cases h
theorem zeros_ok{z:T}{v:Value}(hz:Rd g v z){n s:Nat}(hs:z.cells.length=s)(h0:0<s):
  RdL g ((Array.range (n*s)).map (v.cells[· %v.cells.size]!)).toList ((List.replicate n z).flatMap T.cells):=by
 have hc:=hz.cells;have hv:v.cells.size=s:=by rw[←hs,←hc.1];simp
 have hall:∀x∈List.replicate n z,x.cells.length=s:=fun x hx=>by rw[(List.mem_replicate.1 hx).2];exact hs
 refine⟨by simp[flat_length hall],fun j u c hu hcc=> ?_⟩;have hj:j<n*s:=by
  have:=(List.getElem?_eq_some_iff.1 hcc).1;rw[flat_length hall]at this;simpa using this
 have hi:j/s<n:=(Nat.div_lt_iff_lt_mul h0).2 hj;have hr:j%s<s:=Nat.mod_lt _ h0;have hzj:z.cells[j%s]? =some (z.cells[j%s]'(by omega)):=List.getElem?_eq_getElem _;have hx:(List.replicate n z)[j/s]? =some z:=by simp[hi]
 have h1:=rows_at hall hx (j%s) _ hzj;rw[show j/s*s+j%s=j by rw[Nat.mul_comm];exact Nat.div_add_mod j s]at h1;rw[hcc]at h1;cases h1;simp[hj]at hu;rw[hv]at hu;have hvj:v.cells.toList[j%s]? =some (v.cells[j%s]'(by omega)):=by simp
 rw[getElem!_pos v.cells (j%s) (by omega)]at hu;subst hu;exact hc.2 (j%s) _ _ hvj hzj
theorem buildSlice_ok{t:TypeId}{len:Nat}{ps:List (Nat×T)}{r:T}(h:buildSliceT P t len ps=some r){qs:List (Nat×Value)}(hq:RdP g qs ps):
  ∃(ca:Array Value) (e:TypeId),(Instr.buildSlice t len qs.toArray).run P g.w= .ok (.slice (some ⟨g.w.heap.size,0,none⟩) len len) (g.add (.cells ca e)).w∧
   Rd (g.add (.cells ca e)) (.slice (some ⟨g.w.heap.size,0,none⟩) len len) r∧
   ∃(xs:List T) (s:Nat),r= .sl true xs∧P.underlying t=some (.slice e)∧szT P e=some s∧0<s∧len*s≤65536∧(xs.flatMap T.cells).length=len*s∧RdL g ca.toList (xs.flatMap T.cells):=by
 unfold buildSliceT at h;split at h
 ·rename_i e hd;split at h
  ·rename_i s ag z hs hag hz;split at h
   ·rename_i hc;obtain⟨h0,hsmall,hzl,hza⟩:=hc;simp only[Option.map_eq_some_iff]at h;obtain⟨xs,hxs,rfl⟩:=h;simp only[szT,Option.map_eq_some_iff]at hs;obtain⟨i,hi,rfl⟩:=hs;obtain⟨v,hv,hr⟩:=zero_ok (g:=g) hz;have hall:∀x∈List.replicate len z,x.cells.length=i.size:=fun x hx=>by rw[(List.mem_replicate.1 hx).2];exact hzl
    obtain⟨h1,h2,h3⟩:=sets_fill hxs hall;have hz0:=zeros_ok hr (n:=len) hzl h0;obtain⟨ca,h4,h5⟩:=fill_ok h1 hq hz0;have hlen:xs.length=len:=by simpa using h3
    refine⟨ca,e,?_,?_,xs,i.size,rfl,hd,by simp[szT,hi],h0,hsmall,by rw[flat_length h2,hlen],h5⟩
    ·have hnot:¬(len*i.size>2^24):=by omega
     by_cases hl0:len*i.size=0
     ·have hlen0:len=0:=by
       rcases Nat.eq_zero_or_pos len with q|q
       ·exact q
       ·have:=Nat.mul_pos q h0;omega
      subst hlen0;have e0:((Array.range 0).map (fun x=>v.cells[x%v.cells.size]!))= #[]:=by simp
      simp only[Nat.zero_mul,e0]at h4;simp[Instr.buildSlice,run_underlying hd,sizeOf,typeInfo,hi,h4,newRow,G.add,Array.range_zero']
     ·simp only[Instr.buildSlice,Sem.run_bind,run_underlying hd,Result.andThen_ok,sizeOf,typeInfo,run_program,hi,Sem.run_pure,if_neg hnot,if_neg hl0,hv,h4];simp[newRow,G.add]
    ·have hst:=g.add_step (.cells ca e);have h5':=h5.pstep hst;rw[←hlen];refine .sl true xs i.size g.w.heap.size 0 xs.length ca.toList (fun _ => .inr rfl) h2 (Nat.le_refl _) ?_ (fun _ =>rfl) ?_ ?_ h5'.2
     ·have:len≤len*i.size:=Nat.le_mul_of_pos_right _ h0;simp only[maxLen];omega
     ·have:=h5.1;rw[flat_length h2]at this;simpa using this
     ·intro j u hu;rw[Nat.zero_add,G.add_cell];simpa using hu
   ·cases h
  ·cases h
 ·cases h
theorem box_ok{x:T}{v:Value}(hv:Rd g v x)(e:TypeId):
  (Instr.box e v).run P g.w= .ok (.pointer (some ⟨g.w.heap.size,0,none⟩)) (g.add (.cells v.cells e)).w∧Rd (g.add (.cells v.cells e)) (.pointer (some ⟨g.w.heap.size,0,none⟩)) (.ref x 0):=by
 have hst:=g.add_step (.cells v.cells e);have hc:=(hv.pstep hst).cells;refine⟨by simp[Instr.box,newVar,newRow,G.add],?_⟩;exact .ref x 0 g.w.heap.size 0 v.cells.toList (.inr rfl) hc.1 (fun j u hu=>by rw[Nat.zero_add,G.add_cell];simpa using hu) hc.2
theorem evalAll_ok{gl:Nat→Option T}{fr:List T}{a:Act}:∀{xs:List Operand} {ts:List T},evalAll gl fr xs=some ts→(∀x∈xs,∀t,evalT gl fr x=some t→Rd g (a.eval x) t)→RdL g (xs.map a.eval) ts
 |[],ts,h,_ =>by simp[evalAll]at h;subst h;exact RdL.nil
 |x::xs,ts,h,hx=>by
  simp only[evalAll]at h;split at h
  ·rename_i t ht;split at h
   ·rename_i ts' hts;cases h;exact RdL.cons (hx x (by simp) t ht) (evalAll_ok hts (fun y hy=>hx y (by simp[hy])))
   ·cases h
  ·cases h
theorem pairs_ok{gl:Nat→Option T}{fr:List T}{a:Act}:∀{xs:List (Nat×Operand)} {ts:List (Nat×T)},pairsT gl fr xs=some ts→
  (∀p∈xs,∀t,evalT gl fr p.2=some t→Rd g (a.eval p.2) t)→RdP g (xs.map fun p=>(p.1,a.eval p.2)) ts
 |[],ts,h,_ =>by simp[pairsT]at h;subst h;trivial
 |(i,x)::xs,ts,h,hx=>by
  simp only[pairsT]at h;split at h
  ·rename_i t ht;split at h
   ·rename_i ts' hts;cases h;exact⟨rfl,hx (i,x) (by simp) t ht,pairs_ok hts (fun y hy=>hx y (by simp[hy]))⟩
   ·cases h
  ·cases h
theorem okFn_call{f:FuncId}(h:okFn P f=true)(args:Array Value):(callFunc f args).run P g.w= .ok (.enter f args) g.w:=by
 unfold okFn at h;unfold callFunc;split at h
 ·rename_i fn hf;simp only[Bool.and_eq_true,Bool.not_eq_true',Option.isSome_iff_ne_none]at h;obtain⟨h1,h2⟩:=h;have h3:fn.body.isNone=false:=by cases hb:fn.body<;>simp_all
  simp only[Sem.run_bind,run_program,Result.andThen_ok,hf,h2,h3];simp
 ·cases h
theorem array_map_toList(f:Operand→Value)(xs:Array Operand):xs.map f=(xs.toList.map f).toArray:=by
 cases xs;simp
theorem bytes_ok{P:Program}{g:G}{a:Act}{dst:Option Tmp}{s d type:TypeId}{pos:String}{after:Array Edge}{guard:Option (Nat×Bool)}{x:Operand}(hg:Gok g){t r:T}(h:bytesT P s d t=some r)(hx:Rd g (a.eval x) t):
  POk P ⟨dst,.convert s d x,type,pos,after,guard⟩ a g r:=by
 unfold bytesT at h;split at h
 ·rename_i u1 e l hu1 hu2;split at h
  ·rename_i he;split at h
   ·rename_i hl;cases h;generalize hv:a.eval x=v at hx;cases hx with
    |str b=>
    have hrun:=Lib.run_convert_string_bytes g.w s d e b hu1 hu2 he;intro K Q hK;unfold Oper.wp;have hex:(execOp a.eval ⟨dst,.convert s d x,type,pos,after,guard⟩).run P g.w= .ok (.value (.slice (some ⟨g.w.heap.size,0,none⟩) b.size (grownCap g.w b.size 0 e))) (Lib.bytesWorld g.w e b):=by
     simp only[execOp,hv,Sem.run_bind,hrun,Result.andThen_ok,Sem.run_pure]
    rw[hex]
    let g':G:={g with w:=Lib.bytesWorld g.w e b,S:=fun k=>g.S k∨k=g.w.heap.size}
    have hsz:=Lib.bytesWorld_size g.w e b;have hge:=grownCap_ge g.w b.size 0 e;have hbl:b.size=b.data.toList.length:=(Array.length_toList).symm;have hmx:=grownCap_le_maxLen g.w b.size 0 e (by simp only[maxLen];omega);refine hK _ g' ⟨rfl,?_,?_,by show _ ≤(Lib.bytesWorld g.w e b).heap.size;omega,fun k hk=>Lib.bytesWorld_at_old g.w e b k hk,fun k hk=> .inl hk,fun k hk=> ?_,rfl,rfl,rfl⟩ ?_ ?_
    ·simp[g',Lib.bytesWorld,World.freeze,World.alloc,World.drew,-World.alloc_eq,-World.drew_eq]
    ·simp[g',Lib.bytesWorld,World.freeze,World.alloc,World.drew,-World.alloc_eq,-World.drew_eq]
    ·rcases hk with hk|hk
     ·exact .inl hk
     ·exact .inr (by omega)
    ·intro k hk;show k<(Lib.bytesWorld g.w e b).heap.size;rcases hk with hk|hk
     ·have:=hg k hk;omega
     ·omega
    ·have hbs:b.size=(b.data.toList.map fun c=>T.int .u8 c.toNat).length:=by rw[List.length_map];exact hbl
     generalize grownCap g.w b.size 0 e=cp at hge hmx⊢
     conv=>arg 2;rw[hbs]
     refine .sl false _ 1 g.w.heap.size 0 _ (b.data.toList.map fun c=>Value.int .u8 c.toNat) (fun _ => .inr rfl) (fun y hy=> ?_) (by rw[←hbs];exact hge) hmx (fun q=>by cases q) (by simp) (fun j v hj=> ?_) (fun j v c hj hc=> ?_)
     ·obtain⟨c,_,rfl⟩:=List.mem_map.1 hy;rfl
     ·rw[List.getElem?_map]at hj;obtain⟨c,hc,rfl⟩:=Option.map_eq_some_iff.1 hj;have hlt:=(List.getElem?_eq_some_iff.1 hc).1;have:=Lib.bytesWorld_cell g.w e b j (by rw[hbl];exact hlt);rw[Nat.zero_add];show(Lib.bytesWorld g.w e b).cell? _ =_;rw[this,List.getD_eq_getElem?_getD,hc];rfl
     ·have hfl:((b.data.toList.map fun c=>T.int .u8 c.toNat).flatMap T.cells)=b.data.toList.map fun c=>T.int .u8 c.toNat:=by
       rw[List.flatMap_map]
       induction b.data.toList with
       |nil=>rfl
       |cons z zs ih=>simp only[List.flatMap_cons,List.map_cons,T.cells]at ih⊢;rw[ih];rfl
      rw[hfl]at hc;rw[List.getElem?_map]at hj hc;obtain⟨c1,h1,rfl⟩:=Option.map_eq_some_iff.1 hj;obtain⟨c2,h2,rfl⟩:=Option.map_eq_some_iff.1 hc;rw[h1]at h2;cases h2;exact .int _ _
   ·cases h
  ·cases h
 ·cases h
theorem evalP_ok{E:Env}(hE:PeOk P E.gl E.pe)(hgl:GlOk E.gl g){own:Bool}{H:Hp}(hH:St g H)(hg:Gok g){fr:List T}{a:Act}{o:Oper}{t:T}
  (h:evalP P E own H fr o=some t) (hop:∀x∈o.op.operands,∀t,evalT E.gl fr x=some t→Rd g (a.eval x) t):POk P o a g t:=by
 obtain⟨dst,op,type,pos,after,guard⟩:=o;cases op<;>simp only[evalP]at h<;>simp only[Op.operands]at hop<;>try(cases h;done)
 case move x=>exact pok_val hg (by simp[execOp]) (hop x (by simp) t h)
 case assign x=>exact pok_val hg (by simp[execOp]) (hop x (by simp) t h)
 case pick c x y=>
  split at h
  ·rename_i b hb;have hc:=(hop c (by simp) _ hb).inv_bool;cases b with
   |true=>exact pok_val hg (v:=a.eval x) (by simp[execOp,hc,asBool]) (hop x (by simp) t (by simpa using h))
   |false=>exact pok_val hg (v:=a.eval y) (by simp[execOp,hc,asBool]) (hop y (by simp) t (by simpa using h))
  ·cases h
 case box e x=>
  split at h
  ·cases h
  ·simp only[Option.map_eq_some_iff]at h;obtain⟨y,hy,rfl⟩:=h;obtain⟨h1,h2⟩:=box_ok (P:=P) (hop x (by simp) y hy) e;exact pok_alloc hg (by simp only[execOp,Sem.run_bind,h1,Result.andThen_ok,Sem.run_pure]) h2
 case build ty parts=>
  split at h
  ·rename_i l hl;have hp:=pairs_ok (g:=g) (a:=a) hl (fun p hp t ht=>hop p.2 (by simp;exact⟨p.1,by simpa using hp⟩) t ht);obtain⟨q,h1,h2⟩:=build_ok h hp;refine pok_val hg (v:=q) ?_ h2;have e:(parts.map fun x=>(x.1,a.eval x.2))=(parts.toList.map fun p=>(p.1,a.eval p.2)).toArray:=by cases parts;simp
   simp only[execOp,Sem.run_bind,e,h1,Result.andThen_ok,Sem.run_pure]
  ·cases h
 case buildSlice ty len parts=>
  split at h
  ·cases h
  ·split at h
   ·rename_i l hl;have hp:=pairs_ok (g:=g) (a:=a) hl (fun p hp t ht=>hop p.2 (by simp;exact⟨p.1,by simpa using hp⟩) t ht);obtain⟨ca,e,h1,h2,_⟩:=buildSlice_ok h hp;refine pok_alloc hg (ob:= .cells ca e) ?_ h2;have e:(parts.map fun x=>(x.1,a.eval x.2))=(parts.toList.map fun p=>(p.1,a.eval p.2)).toArray:=by cases parts;simp
    simp only[execOp,Sem.run_bind,e,h1,Result.andThen_ok,Sem.run_pure]
   ·cases h
 case load ty x=>
  split at h
  ·rename_i p hp;obtain⟨u,h1,h2⟩:=load_ok hH h (hop x (by simp) p hp);exact pok_val hg (by simp only[execOp,Sem.run_bind,h1,Result.andThen_ok,Sem.run_pure]) h2
  ·cases h
 case nilCheck x=>
  split at h
  ·rename_i p hp;have hr:=hop x (by simp) p hp;unfold nilCheckT at h;split at h<;>cases h
   ·refine pok_val hg (v:=a.eval x) ?_ hr;generalize hu:a.eval x=u at hr;cases hr;simp[execOp,hu]
   ·refine pok_val hg (v:=a.eval x) ?_ hr;generalize hu:a.eval x=u at hr;cases hr;simp[execOp,hu]
   ·refine pok_val hg (v:=a.eval x) ?_ hr;generalize hu:a.eval x=u at hr;cases hr;simp[execOp,hu]
   ·refine pok_val hg (v:=a.eval x) ?_ hr;generalize hu:a.eval x=u at hr;cases hr;simp[execOp,hu]
  ·cases h
 case binOp op ty x y ty'=>
  split at h
  ·rename_i p q hp hq;split at h
   ·rename_i hn;obtain⟨u,h1,h2⟩:=bin_ok (P:=P) h (hop x (by simp) p hp) (hop y (by simp) q hq) x y hn;refine pok_val hg (v:=u) ?_ h2;simp only[execOp,Sem.run_bind]at h1⊢;simp only[h1,Result.andThen_ok,Sem.run_pure]
   ·cases h
  ·cases h
 case unOp op ty x=>
  split at h
  ·rename_i p hp;obtain⟨u,h1,h2⟩:=un_ok (P:=P) h (hop x (by simp) p hp);exact pok_val hg (by simp only[execOp,Sem.run_bind,h1,Result.andThen_ok,Sem.run_pure]) h2
  ·cases h
 case convert s d x=>
  split at h
  ·rename_i p hp;unfold convB at h;split at h
   ·rename_i r hr;cases h;obtain⟨u,h1,h2⟩:=conv_ok (P:=P) hr (hop x (by simp) p hp);exact pok_val hg (by simp only[execOp,Sem.run_bind,h1,Result.andThen_ok,Sem.run_pure]) h2
   ·exact bytes_ok hg h (hop x (by simp) p hp)
  ·cases h
 case makeFunc f first captured=>
  split at h
  ·rename_i p q hp hq;cases h;have h1:=evalAll_ok (g:=g) (a:=a) hp (fun x hx=>hop x (by simp at hx;simp[hx]));have h2:=evalAll_ok (g:=g) (a:=a) hq (fun x hx=>hop x (by simp at hx;simp[hx]));exact pok_val hg (by simp only[execOp,Sem.run_bind,Instr.makeFunc,array_map_toList,Sem.run_pure,Result.andThen_ok]) (Rd.mk_fn h1 h2)
  ·cases h
 case slice ty x lo hi mx=>
  cases mx with
  |some m=>cases h
  |none=>
   simp only at h;split at h
   ·rename_i p hp;split at h
    ·rename_i l hh hl hhi;have hlo:RdO g (lo.map a.eval) l:=by
      cases lo with
      |none=>simp[optT]at hl;subst hl;trivial
      |some y=>
       simp only[optT]at hl;split at hl
       ·rename_i z hz;cases hl;exact hop y (by simp) z hz
       ·cases hl
     have hhi':RdO g (hi.map a.eval) hh:=by
      cases hi with
      |none=>simp[optT]at hhi;subst hhi;trivial
      |some y=>
       simp only[optT]at hhi;split at hhi
       ·rename_i z hz;cases hhi;exact hop y (by simp) z hz
       ·cases hhi
     obtain⟨u,h1,h2⟩:=slice_ok (P:=P) h (hop x (by simp) p hp) hlo hhi';exact pok_val hg (by simp only[execOp,Sem.run_bind,Option.map_none,h1,Result.andThen_ok,Sem.run_pure]) h2
    ·cases h
   ·cases h
 case fieldAddr s x f=>
  split at h
  ·rename_i p hp;obtain⟨u,h1,h2⟩:=fieldAddr_ok (P:=P) h (hop x (by simp) p hp);exact pok_val hg (by simp only[execOp,Sem.run_bind,h1,Result.andThen_ok,Sem.run_pure]) h2
  ·cases h
 case field ty x f=>
  split at h
  ·rename_i cs hp;split at h
   ·rename_i fd hfd;unfold fieldT at hfd;split at hfd
    ·rename_i fs hd;obtain⟨vs,hv,hr⟩:=(hop x (by simp) _ hp).inv_agg;obtain⟨u,h1,h2⟩:=part_ok (P:=P) h hr;exact pok_val hg (v:=u) (by simp only[execOp,Instr.field,Sem.run_bind,run_underlying hd,Result.andThen_ok,hfd,hv,asAgg,Sem.run_pure,h1]) h2
    ·cases hfd
   ·cases h
  ·cases h
 case indexAddr ty x i=>
  split at h
  ·rename_i p q hp hq;obtain⟨u,h1,h2⟩:=indexAddr_ok (P:=P) h (hop x (by simp) p hp) (hop i (by simp) q hq);exact pok_val hg (by simp only[execOp,Sem.run_bind,h1,Result.andThen_ok,Sem.run_pure]) h2
  ·cases h
 case index ty x i=>
  split at h
  ·rename_i p q hp hq;obtain⟨u,h1,h2⟩:=index_ok (P:=P) h (hop x (by simp) p hp) (hop i (by simp) q hq);exact pok_val hg (by simp only[execOp,Sem.run_bind,h1,Result.andThen_ok,Sem.run_pure]) h2
  ·cases h
 case lookup ty x i ok=>
  split at h
  ·rename_i p q hp hq;obtain⟨u,h1,h2⟩:=lookup_ok (P:=P) hH h (hop x (by simp) p hp) (hop i (by simp) q hq);exact pok_val hg (by simp only[execOp,Sem.run_bind,h1,Result.andThen_ok,Sem.run_pure]) h2
  ·cases h
 case extract x i=>
  split at h
  ·rename_i cs hp;obtain⟨vs,hv,hr⟩:=(hop x (by simp) _ hp).inv_tup;obtain⟨u,h1,h2⟩:=hr.at_ h;exact pok_val hg (v:=u) (by simp[execOp,Instr.extract,hv,h1]) h2
  ·cases h
 case call c=>
  obtain⟨callee,args,tys⟩:=c;unfold evalC at h;cases callee with
  |invoke r m=>cases h
  |value f=>
   simp only[Call.operands]at hop;simp only at h;split at h
   ·rename_i k first cap hf
    split at h
    ·rename_i ars has;obtain⟨vs,us,hv,hr1,hr2⟩:=(hop f (by simp) _ hf).inv_fn;have h3:=evalAll_ok (g:=g) (a:=a) has (fun x hx=>hop x (by simp at hx;simp[hx]));obtain⟨hk,hc⟩:=hE H k _ t h;have hcall:=hc g _ hg hH hgl ((hr1.append h3).append hr2);intro K Q hK;have hrun:(execOp a.eval {dst,op:= .call ⟨.value f,args,tys⟩,type,pos,after,guard}).run P g.w= .ok (.enter k (vs++args.toList.map a.eval++us).toArray) g.w:=by
      simp only[execOp,resolve,hv,Deferred.ofValue,Sem.run_bind,Sem.run_pure,Result.andThen_ok,invoke,array_map_toList];rw[okFn_call hk];simp
     unfold Oper.wp;rw[hrun];exact hcall.mono fun e w' ⟨v,g',he,hw,hst,hok,hrd⟩=>by
      subst he;subst hw;exact hK v g' hst hok hrd
    ·cases h
   ·cases h
  |builtin b=>
   simp only[Call.operands]at hop;cases b<;>try(cases h;done)
   case len=>
    simp only at h;split at h
    ·rename_i x t0 ts hx hts;split at h
     ·rename_i p hp
      have hr := hop x (by have:x∈args.toList:=by rw[hx];simp
                           simpa using this) p hp
      have e1:args.map a.eval= #[a.eval x]:=by rw[array_map_toList,hx];rfl
      have e2:tys[0]? =some t0:=by rw[←Array.getElem?_toList,hts];rfl
      obtain⟨u,h1,h2⟩:∃u,(Builtin.len_ tys type #[a.eval x]).run P g.w= .ok u g.w∧Rd g u t:=by
       rcases lenH_ok hH h hr tys e2 type with h|h
       ·exact len_ok (P:=P) h hr tys e2 type
       ·exact h
      exact pok_val hg (v:=u) (by simp only[execOp,resolve,Sem.run_bind,Sem.run_pure,Result.andThen_ok,invoke,builtin,e1,h1]) h2
     ·cases h
    ·cases h
   case min=>
    simp only at h;split at h
    ·rename_i x r hx;have h3:=evalAll_ok (g:=g) (a:=a) hx (fun x hx=>hop x (by simpa using hx));cases hl:args.toList.map a.eval with
     |nil=>rw[hl]at h3;simp[RdL]at h3
     |cons v vs=>
      rw[hl]at h3;obtain⟨h4,h5⟩:=h3.inv_cons;obtain⟨u,h1,h2⟩:=foldT_min_ok (P:=P) h h4 h5;refine pok_val hg (v:=u) ?_ h2;simp only[execOp,resolve,Sem.run_bind,Sem.run_pure,Result.andThen_ok,invoke,builtin,array_map_toList,hl,Builtin.min_,h1]
    ·cases h
   case max=>
    simp only at h;split at h
    ·rename_i x r hx;have h3:=evalAll_ok (g:=g) (a:=a) hx (fun x hx=>hop x (by simpa using hx));cases hl:args.toList.map a.eval with
     |nil=>rw[hl]at h3;simp[RdL]at h3
     |cons v vs=>
      rw[hl]at h3;obtain⟨h4,h5⟩:=h3.inv_cons;obtain⟨u,h1,h2⟩:=foldT_max_ok (P:=P) h h4 h5;refine pok_val hg (v:=u) ?_ h2;simp only[execOp,resolve,Sem.run_bind,Sem.run_pure,Result.andThen_ok,invoke,builtin,array_map_toList,hl,Builtin.max_,h1]
    ·cases h
end
end Go.Ps
namespace Go.Ps
noncomputable section
structure Fc where
 own:Tmp→Bool
 ed:FuncId→List T→Hp→Option (T×Hp×List Bool)
def allT:List Bool→Bool
 |[]=>true
 |c::cs=>c&&allT cs
def tagH:Option (T×Hp)→Option (T×Hp×List Bool)
 |some (v,H')=>some (v,H',[])
 |none=>none
def Fc.ee(F:Fc)(f:FuncId)(ts:List T)(H:Hp):Option (T×Hp):=
 match F.ed f ts H with
 |some (r,H',cs)=>if allT cs then some (r,H')else none
 |none=>none
structure Fx where
 fr:List T
 H:Hp
 pend:Option (Tmp×TypeId)
def ownD(F:Fc)(o:Oper):Bool:=
 match o.dst with
 |some d=>F.own d
 |none=>false
def touchesT(ops:Array Oper)(o:Oper)(d:Tmp):Bool:=(o.looksAt ops).contains d||o.dst==some d
def allOne:List T→Bool
 |[]=>true
 |t::ts=>t.one&&allOne ts
def storeT(P:Program)(H:Hp)(t:TypeId)(p x:T):Option Hp:=
 match p with
 | .ptr l off=>match H.get l,szT P t with
  |some o,some n=>if x.cells.length=n∧off+n≤o.cells.length∧allOne x.cells=true then some (H.put l {o with cells:=spliceT o.cells off x.cells})else none
  |_,_ =>none
 |_ =>none
def srcCells(H:Hp):T→Option (List T)
 | .nils=>some []
 | .sl _ xs=>some (xs.flatMap T.cells)
 | .slf _ n f=>some ((List.range n).flatMap fun i=>(f i).cells)
 | .osl l sz i len=>match H.get l with
  |some o=>if(i+len)*sz≤o.cells.length then some ((o.cells.drop (i*sz)).take (len*sz))else none
  |none=>none
 | .str s=>some (s.map fun b=> .int .u8 b.toNat)
 |_ =>none
def lenOfT:T→Option Nat
 | .nils=>some 0
 | .sl _ xs=>some xs.length
 | .slf _ n _ =>some n
 | .osl _ _ _ len=>some len
 | .str s=>some s.length
 |_ =>none
def srcOk(P:Program)(tx:TypeId)(sz:Nat)(x:T):Bool:=
 match P.underlying tx,x with
 |some (.slice _),.nils|some (.slice _),.sl .. |some (.slice _),.slf .. =>true
 |some (.slice _),.osl _ sz' _ _ =>sz'==sz
 |some .string,.str _ =>sz==1
 |_,_ =>false
def roomT(m bytes:Nat):Bool:=decide (m*bytes≤70368744177664)&&decide (m≤70368744177664)
def appendT(P:Program)(H:Hp)(t tx:TypeId)(s x:T):Option (T×Hp):=
 match P.underlying t with
 |some (.slice e)=>
  match P.info? e,srcCells H x,lenOfT x with
  |some i,some new,some m=>
   if i.size=0∨new.length≠m*i.size∨allOne new=false∨(i.zero.map fun z=>z.cells.size)≠some i.size∨srcOk P tx i.size x=false then none else
   match s with
   | .nils=>if m=0 then some (.nils,H)else if roomT m i.bytes then
     some (.osl H.next i.size 0 m,H.new {elem:=e,sz:=i.size,cells:=new})else none
   | .sl true xs=>if m=0 then some (.sl true xs,H)else if roomT (xs.length+m) i.bytes&&headOk i.size xs then
     some (.osl H.next i.size 0 (xs.length+m),H.new {elem:=e,sz:=i.size,cells:=xs.flatMap T.cells++new})else none
   | .osl l sz' 0 len=>if m=0 then some (.osl l sz' 0 len,H)else match H.get l with
    | some o=>if sz'=i.size∧o.sz=i.size∧o.elem=e∧o.cells.length=len*i.size∧roomT (len+m) i.bytes=true then
      some (.osl H.next i.size 0 (len+m),(H.drop l).new {elem:=e,sz:=i.size,cells:=o.cells++new})else none
    |none=>none
   |_ =>none
  |_,_,_ =>none
 |_ =>none
def xsOf:T→Option (List T)
 | .sl _ xs=>some xs
 | .slf _ n f=>some ((List.range n).map f)
 |_ =>none
def appendN(P:Program)(H:Hp)(t tx:TypeId)(s x:T):Option (T×Hp):=
 match P.underlying t,s,xsOf x with
 |some (.slice e),.nils,some xs=>match P.info? e with
  |some i=>if i.size=0∨xs.isEmpty=true∨(xs.all fun y=>Nat.beq y.cells.length i.size)=false∨allOne (xs.flatMap T.cells)=false∨(i.zero.map fun z=>z.cells.size)≠some i.size∨srcOk P tx i.size x=false∨roomT xs.length i.bytes=false then none
   else some (.sl false xs,H)
  |none=>none
 |_,_,_ =>none
def pureApp(own:Tmp→Bool):Option Tmp→Bool
 |some d=>own (7000000+d)&& !(own (8000000+d))
 |none=>false
def appT(P:Program)(pa:Bool)(H:Hp)(t tx:TypeId)(s x:T):Option (T×Hp):=if pa then appendN P H t tx s x else appendT P H t tx s x
def makeSliceT(P:Program)(H:Hp)(t:TypeId)(l c:T):Option (T×Hp):=
 match P.underlying t,l,c with
 |some (.slice e),.int .i64 n,.int .i64 m=>
  match szT P e,(P.info? e).map (·.bytes),zeroT P e with
  | some sz,some bytes,some z=>if 0<sz∧z.cells.length=sz∧0≤n∧n=m∧n.toNat*bytes≤70368744177664∧n≤70368744177664 then
    some (.osl H.next sz 0 n.toNat,H.new {elem:=e,sz:=sz,cells:=(List.replicate n.toNat z).flatMap T.cells})else none
  |_,_,_ =>none
 |_,_,_ =>none
def setE(k x:T):List (Nat×T×T)→Nat→List (Nat×T×T)
 |[],_ =>[]
 |(b,_,_)::r,0=>(b,k,x)::r
 |e::r,i+1=>e::setE k x r i
def sameT1:T→T→Bool
 | .int k a,.int k' b=>decide (k=k')&&a==b
 | .str a,.str b=>a==b
 | .bool a,.bool b=>a==b
 |_,_ =>false
def sameTs:List T→List T→Bool
 |[],[]=>true
 |x::xs,y::ys=>sameT1 x y&&sameTs xs ys
 |_,_ =>false
def sameT:T→T→Bool
 | .agg xs,.agg ys=>sameTs xs ys
 |x,y=>sameT1 x y
def sameAt:List (Nat×T×T)→Nat→T→Bool
 |[],_,_ =>false
 |(_,k',_)::_,0,k=>sameT k' k
 |_ ::r,i+1,k=>sameAt r i k
def putM(H:Hp)(l:Nat)(o:Ob)(c:Nat)(es:List (Nat×T×T)):Hp:=H.put l {o with me:=some (.map c es)}
def seekT(P:Program)(H:Hp)(t:TypeId)(m k:T):Option (Nat×Ob×Nat×List (Nat×T×T)×TypeId×Option (Nat×Nat×T)):=
 match P.underlying t with
 |some (.map kt et)=>match m with
  | .mp l=>match H.any l with
   |some o=>match o.me with
    | some (.map c es)=>if keyOk P kt k then match findM P kt k es 0 with
      |some r=>some (l,o,c,es,et,r)
      |none=>none
     else none
    |_ =>none
   |none=>none
  |_ =>none
 |_ =>none
def updT(P:Program)(H:Hp)(t:TypeId)(m k x:T):Option Hp:=
 match seekT P H t m k with
 |some (l,o,c,es,_,some (i,_,_))=>if sameAt es i k then some (putM H l o c (setE k x es i))else none
 |some (l,o,c,es,_,none)=>some (putM H l o (c+1) (es++[(c,k,x)]))
 |none=>none
def entryT(P:Program)(H:Hp)(t:TypeId)(m k:T):Option (T×Hp):=
 match seekT P H t m k with
 |some (l,o,c,es,_,some (i,b,v))=>if sameAt es i k then some (.tup [v,.int .i64 b],putM H l o c (setE k v es i))else none
 |some (l,o,c,es,et,none)=>match zeroT P et with
  |some z=>some (.tup [z,.int .i64 c],putM H l o (c+1) (es++[(c,k,z)]))
  |none=>none
 |none=>none
def findB(b:Int):List (Nat×T×T)→Nat→Option (Nat×T)
 |[],_ =>none
 |(c,k,_)::r,i=>if(c:Int)==b then some (i,k)else findB b r (i+1)
def entryStoreT(H:Hp)(m s x:T):Option Hp:=
 match m,s with
 | .mp l,.int _ b=>match H.any l with
  |some o=>match o.me with
   |some (.map c es)=>match findB b es 0 with
    |some (i,k)=>some (putM H l o c (setE k x es i))
    |none=>none
   |_ =>none
  |none=>none
 |_,_ =>none
def delT(P:Program)(H:Hp)(t:TypeId)(m k:T):Option Hp:=
 match seekT P H t m k with
 |some (l,o,c,es,_,some (i,_,_))=>some (putM H l o c (es.eraseIdx i))
 |some (l,o,c,es,_,none)=>some (putM H l o c es)
 |none=>none
def hintOk(P:Program)(t:TypeId):Option T→Bool
 |none=>true
 |some (.int ..)=>match P.underlying t with
  |some (.map ..)=>true
  |_ =>false
 |some _ =>false
def effT(P:Program)(E:Env)(F:Fc)(H:Hp)(fr:List T)(o:Oper):Option (T×Hp):=
 let ev:=evalT E.gl fr
 match o.op with
 | .alloc t=>match zeroT P t with
  |some z=>some (.ptr H.next 0,H.new {elem:=t,sz:=0,cells:=z.cells})
  |none=>none
 | .box t x=>match ev x with
  |some y=>some (.ptr H.next 0,H.new {elem:=t,sz:=0,cells:=y.cells})
  |none=>none
 | .buildSlice t len parts=>match pairsT E.gl fr parts.toList with
  |some l=>match P.underlying t,buildSliceT P t len l with
   |some (.slice e),some (.sl _ xs)=>match szT P e with
    |some s=>some (.osl H.next s 0 len,H.new {elem:=e,sz:=s,cells:=xs.flatMap T.cells})
    |none=>none
   |_,_ =>none
  |none=>none
 | .store t p x=>match ev p,ev x with
  |some q,some y=>match storeT P H t q y with
   |some H'=>some (undefT,H')
   |none=>none
  |_,_ =>none
 | .makeSlice t l c=>match ev l,ev c with
  |some n,some m=>makeSliceT P H t n m
  |_,_ =>none
 | .makeMap t r=>match optT ev r with
  |some h=>if hintOk P t h then some (.mp H.next,H.new {elem:=t,sz:=0,cells:=[],me:=some (.map 0 [])})else none
  |none=>none
 | .mapUpdate t m k x| .insert t m k x=>match ev m,ev k,ev x with
  |some a,some b,some v=>match updT P H t a b v with
   |some H'=>some (undefT,H')
   |none=>none
  |_,_,_ =>none
 | .mapEntry t m k=>match ev m,ev k with
  |some a,some b=>entryT P H t a b
  |_,_ =>none
 | .entryStore _ m s x=>match ev m,ev s,ev x with
  |some a,some b,some v=>match entryStoreT H a b v with
   |some H'=>some (undefT,H')
   |none=>none
  |_,_,_ =>none
 | .call c=>match c.callee with
  | .value f=>match ev f with
   |some (.fn (.func g) first cap)=>match evalAll E.gl fr c.args.toList with
    |some ars=>F.ee g (first++ars++cap) H
    |none=>none
   |_ =>none
  | .builtin .delete=>match c.args.toList,c.argTypes.toList with
   |[m,k],t::_ =>match ev m,ev k with
    |some a,some b=>match delT P H t a b with
     |some H'=>some (undefT,H')
     |none=>none
    |_,_ =>none
   |_,_ =>none
  | .builtin .append=>match c.args.toList,c.argTypes.toList with
   |[s,x],[t,t']=>match ev s,ev x with
    |some a,some b=>appT P (pureApp F.own o.dst) H t t' a b
    |_,_ =>none
   |_,_ =>none
  |_ =>none
 |_ =>none
def notSlot:Operand→Tmp→Bool
 | .tmp y,d=>y !=d
 |_,_ =>true
def allocOf(F:Fc)(o:Oper):Option (Tmp×TypeId):=
 match o.op with
 | .alloc t=>match o.dst with
  |some d=>if F.own d then none else some (d,t)
  |none=>none
 |_ =>none
def plainE(P:Program)(E:Env)(F:Fc)(ops:Array Oper)(s:Fx)(o:Oper):Option Fx:=
 if wantedT ops s.fr o then
  match evalP P E (ownD F o) s.H s.fr o with
  |some v=>some {s with fr:=putT s.fr o.dst v}
  |none=>
   match allocOf F o with
   |some (d,t)=>if s.pend.isSome then none else match szT P t,zeroT P t with
    |some n,some z=>if z.cells.length=n∧d<s.fr.length then some {s with fr:=s.fr.set d undefT,pend:=some (d,t)}else none
    |_,_ =>none
   |none=>match effT P E F s.H s.fr o with
    |some (v,H')=>some {s with fr:=putT s.fr o.dst v,H:=H'}
    |none=>none
 else some {s with fr:=putT s.fr o.dst undefT}
def pendS(F:Fc)(s:Fx)(d:Tmp)(t:TypeId)(y:T):Fx:=
 if F.own (d+1000)then{fr:=s.fr.set d (.ptr s.H.next 0),H:=s.H.new {elem:=t,sz:=0,cells:=y.cells},pend:=none}else{s with fr:=s.fr.set d (.ref y 0),pend:=none}
def stepE(P:Program)(E:Env)(F:Fc)(ops:Array Oper)(s:Fx)(o:Oper):Option Fx:=
 match s.pend with
 |none=>plainE P E F ops s o
 |some (d,t)=>
  match o.op,o.dst,o.guard with
  | .store t' (.tmp d') x,none,none=>
   if d'=d then
    if t'=t∧notSlot x d=true then
     match evalT E.gl s.fr x,szT P t with
     |some y,some n=>if y.cells.length=n∧allOne y.cells=true then some (pendS F s d t y)else none
     |_,_ =>none
    else none
   else if touchesT ops o d then none else plainE P E F ops s o
  |_,_,_ =>if touchesT ops o d then none else plainE P E F ops s o
def evalSeq(P:Program)(E:Env)(F:Fc)(ops:Array Oper):List Oper→Fx→Option Fx
 |[],s=>some s
 |o::rest,s=>match stepE P E F ops s o with
  |some s'=>evalSeq P E F ops rest s'
  |none=>none
def ancMask(acc:List Nat)(o:Oper):Nat:=o.after.toList.foldl (fun s e=>if Region.binds .any e then s|||(2^e.on|||acc.getD e.on 0)else s) 0
def ancs:List Oper→List Nat→List Nat
 |[],acc=>acc
 |o::os,acc=>ancs os (acc++[ancMask acc o])
def prec(A:List Nat)(i j:Nat):Bool:=(A.getD i 0).testBit j
def namesT(ops:Array Oper)(o:Oper):List Tmp:=o.dst.toList++o.looksAt ops
def tmpsOk(ops:Array Oper)(A:List Nat):Bool:=
 ops.toList.zipIdx.all fun p=>ops.toList.zipIdx.all fun q=>
  p.2==q.2||(match q.1.dst with
   |some d=> !(namesT ops p.1).contains d||(if q.2<p.2 then prec A p.2 q.2 else prec A q.2 p.2)
   |none=>true)
def edgesBack(ops:Array Oper):Bool:=ops.toList.zipIdx.all fun p=>p.1.after.toList.all fun e=> !Region.binds .any e||decide (e.on<p.2)
def drawOk(ops:Array Oper):Bool:=edgesBack ops&&Region.noSelect ops&&tmpsOk ops (ancs ops.toList [])
def chained(A:List Nat)(m n:Nat):Bool:=(List.range' m (n-m)).all fun i=>(List.range i).all fun j=>prec A i j
def pendHit(ops:Array Oper)(s:Fx)(o:Oper):Bool:=
 match s.pend with
 |some (d,_)=>touchesT ops o d
 |none=>false
def dstIn(s:Fx)(o:Oper):Bool:=
 match o.dst with
 |some d=>decide (d<s.fr.length)
 |none=>true
def evalDraw(P:Program)(E:Env)(F:Fc)(ops:Array Oper):List Oper→Nat→Fx→Option Fx
 |[],_,s=>match s.pend with
  |none=>some s
  |some _ =>none
 |o::rest,m,s=>
  if pendHit ops s o then
   if chained (ancs ops.toList []) m ops.size then evalSeq P E F ops (o::rest) s else none
  else if dstIn s o=false then none
  else if wantedT ops s.fr o then
   match evalP P E (ownD F o) s.H s.fr o with
   |some v=>evalDraw P E F ops rest (m+1) {s with fr:=putT s.fr o.dst v}
   |none=>match allocOf F o with
    |some (d,t)=>if s.pend.isSome then none else match szT P t,zeroT P t with
     |some n,some z=>if z.cells.length=n then evalDraw P E F ops rest (m+1) {s with fr:=s.fr.set d undefT,pend:=some (d,t)}else none
     |_,_ =>none
    |none=>if chained (ancs ops.toList []) m ops.size then evalSeq P E F ops (o::rest) s else none
  else evalDraw P E F ops rest (m+1) {s with fr:=putT s.fr o.dst undefT}
def isStore(o:Oper):Bool:=
 match o.op,o.dst,o.guard with
 | .store ..,none,none=>true
 |_,_,_ =>false
def firstStore:List Oper→Nat→Option Nat
 |[],_ =>none
 |o::r,k=>if isStore o then some k else firstStore r (k+1)
def late(ops:Array Oper):Bool:=
 match firstStore ops.toList 0 with
 |some p=> !(chained (ancs ops.toList []) p ops.size)
 |none=>false
def dstsHit(ops:Array Oper)(t:Tmp):Bool:=ops.toList.any fun o=>o.dst==some t
def rootOf(ops:Array Oper):Nat→Tmp→Option Tmp
 |0,_ =>none
 | k+1,x=>if dstsHit ops x then match ops.toList.find? fun o=>o.dst==some x with
   |some o=>match o.op with
    | .fieldAddr _ (.tmp y) _ | .indexAddr _ (.tmp y) _ | .move (.tmp y)=>rootOf ops k y
    |_ =>none
   |none=>none
  else some x
def storeRoot(ops:Array Oper):Option Tmp:=
 match firstStore ops.toList 0 with
 |some p=>match ops[p]? with
  |some q=>match q.op with
   | .store _ (.tmp x) _ =>rootOf ops 5 x
   |_ =>none
  |none=>none
 |none=>none
def objOf:T→Option Nat
 | .ptr l _ | .osl l _ _ _ =>some l
 |_ =>none
def hOk(gl:Nat→Option T)(l:Nat)(fr:List T)(o:Oper):Bool:=
 match o.op with
 | .load _ a=>match evalT gl fr a with
  |some (.ref ..)=>true
  |some (.ptr l' _)=>l' !=l
  |_ =>false
 | .call c=>match c.callee with
  | .builtin .len=>c.args.toList.all fun x=>match evalT gl fr x with
   |some (.mp _)=>false
   |_ =>true
  | .builtin _ =>true
  |_ =>false
 | .lookup .. =>false
 |_ =>true
def evalSt(P:Program)(E:Env)(F:Fc)(ops:Array Oper)(A:List Nat)(p l:Nat):List Oper→Nat→Bool→Fx→Option Fx
 |[],_,af,s=>if af then some s else none
 |o::rest,m,af,s=>
  if(af&&chained A m ops.size)=true then evalSeq P E F ops (o::rest) s
  else if dstIn s o=false then none
  else if isStore o then(if af then none else match o.op with
   | .store t x y=>match evalT E.gl s.fr x,evalT E.gl s.fr y with
    | some (.ptr l' off),some v=>if l'=l then match storeT P s.H t (.ptr l' off) v with
      |some H'=>evalSt P E F ops A p l rest (m+1) true {s with H:=H'}
      |none=>none
     else none
    |_,_ =>none
   |_ =>none)
  else if wantedT ops s.fr o then
   if(if af then prec A m p else prec A p m)||hOk E.gl l s.fr o then match evalP P E (ownD F o) s.H s.fr o with
    |some v=>evalSt P E F ops A p l rest (m+1) af {s with fr:=putT s.fr o.dst v}
    |none=>none
   else none
  else evalSt P E F ops A p l rest (m+1) af {s with fr:=putT s.fr o.dst undefT}
def evalDrawX(P:Program)(E:Env)(F:Fc)(ops:Array Oper)(fr:List T)(H:Hp):Option Fx:=
 if late ops then match storeRoot ops,firstStore ops.toList 0 with
  |some b,some p=>match objOf (getT fr b)with
   |some l=>evalSt P E F ops (ancs ops.toList []) p l ops.toList 0 false ⟨fr,H,none⟩
   |none=>none
  |_,_ =>none
 else evalDraw P E F ops ops.toList 0 ⟨fr,H,none⟩
inductive X where
 |normal
 |exit (id:Nat)
 |ret
def evalCode(P:Program)(E:Env)(F:Fc)(n:Nat):Code→List T→Hp→Option (X×List T×Hp)
 | .skip,fr,H| .label _,fr,H=>some (.normal,fr,H)
 | .region _ ops draw,fr,H=>
  match(if draw then evalDrawX P E F ops fr H else evalSeq P E F ops ops.toList ⟨fr,H,none⟩)with
  |some ⟨fr',H',none⟩=>some (.normal,fr',H')
  |_ =>none
 | .seq a b,fr,H=>match evalCode P E F n a fr H with
  |some (.normal,fr',H')=>evalCode P E F n b fr' H'
  |r=>r
 | .cond c a b,fr,H=>match evalT E.gl fr c with
  |some (.bool t)=>if t then evalCode P E F n a fr H else evalCode P E F n b fr H
  |_ =>none
 | .block id c,fr,H=>match evalCode P E F n c fr H with
  |some (.exit id',fr',H')=>if id'=id then some (.normal,fr',H')else some (.exit id',fr',H')
  |r=>r
 | .loop c,fr,H=>loopN (fun fr H=>evalCode P E F n c fr H) n fr H
 | .scope c,fr,H=>evalCode P E F n c fr H
 | .exit id,fr,H=>some (.exit id,fr,H)
 | .ret,fr,H=>some (.ret,fr,H)
 |_,_,_ =>none
where
 loopN (f:List T→Hp→Option (X×List T×Hp)):Nat→List T→Hp→Option (X×List T×Hp)
  |0,_,_ =>none
  |k+1,fr,H=>match f fr H with
   |some (.normal,fr',H')=>loopN f k fr' H'
   |r=>r
def resT(P:Program)(fr:List T)(H:Hp):ResultVar→Option T
 | .tmp t=>some (getT fr t)
 | .cell a t=>loadT P H t (getT fr a)
def resAll(P:Program)(fr:List T)(H:Hp):List ResultVar→Option (List T)
 |[]=>some []
 |r::rs=>match resT P fr H r with
  |some t=>match resAll P fr H rs with
   |some ts=>some (t::ts)
   |none=>none
  |none=>none
def codeOk:Code→Bool
 | .region _ ops true=>drawOk ops
 | .seq a b| .cond _ a b=>codeOk a&&codeOk b
 | .block _ c| .loop c| .scope c=>codeOk c
 |_ =>true
end
end Go.Ps
namespace Go.Ps
noncomputable section
structure SStep(H:Hp)(g:G)(H':Hp)(g':G):Prop where
 os:g'.w.os=g.w.os
 tape:g'.w.tape=g.w.tape
 output:g'.w.output=g.w.output
 size:g.w.heap.size≤g'.w.heap.size
 block:∀b,b<g.w.heap.size→(∀l o,H.any l=some o→g.loc l≠b)→g'.w.heap[b]? =g.w.heap[b]?
 sub:∀b,g.S b→g'.S b
 fresh:∀b,g'.S b→g.S b∨g.w.heap.size≤b∨∃l o,H.any l=some o∧g.loc l=b
 al:∀l,g.al l→g'.al l
 loc:∀l,g.al l→g'.loc l=g.loc l
 cp:∀l,g.al l→g'.cp l=g.cp l
 live:∀l o,H'.any l=some o→(∃l0 o0,H.any l0=some o0∧g.loc l0=g'.loc l)∨g.w.heap.size≤g'.loc l
theorem PStep.toS{g g':G}{H:Hp}(h:PStep g g'):SStep H g H g':=
 ⟨h.os,h.tape,h.output,h.size,fun b hb _ =>h.block b hb,h.sub,fun b hb=>(h.fresh b hb).imp id .inl,fun l hl=>h.al▸hl,fun l _ =>by rw[h.loc],fun l _ =>by rw[h.cp],fun l o ho=> .inl ⟨l,o,ho,by rw[h.loc]⟩⟩
theorem SStep.refl(H:Hp)(g:G):SStep H g H g:=(PStep.refl g).toS
theorem St.lt{g:G}{H:Hp}(hs:St g H){l:Nat}{o:Ob}(h:H.any l=some o):g.loc l<g.w.heap.size:=(hs.at_ h).2.2
theorem SStep.trans{H H' H'':Hp}{a b c:G}(h:SStep H a H' b)(k:SStep H' b H'' c):SStep H a H'' c:=by
 have away:∀i,i<a.w.heap.size→(∀l o,H.any l=some o→a.loc l≠i)→∀l o,H'.any l=some o→b.loc l≠i:=by
  intro i hi hn l o ho e;rcases h.live l o ho with⟨l0,o0,h0,e0⟩|hge
  ·exact hn l0 o0 h0 (e0.trans e)
  ·omega
 refine⟨k.os.trans h.os,k.tape.trans h.tape,k.output.trans h.output,Nat.le_trans h.size k.size,fun i hi hn=> ?_,fun i hi=>k.sub i (h.sub i hi),fun i hi=> ?_,
  fun l hl=>k.al l (h.al l hl),fun l hl=>(k.loc l (h.al l hl)).trans (h.loc l hl),fun l hl=>(k.cp l (h.al l hl)).trans (h.cp l hl),fun l o ho=> ?_⟩
 ·rw[k.block i (Nat.lt_of_lt_of_le hi h.size) (away i hi hn),h.block i hi hn]
 ·rcases k.fresh i hi with hi|hi|⟨l,o,ho,e⟩
  ·exact h.fresh i hi
  ·exact .inr (.inl (Nat.le_trans h.size hi))
  ·rcases h.live l o ho with⟨l0,o0,h0,e0⟩|hge
   ·exact .inr (.inr ⟨l0,o0,h0,e0.trans e⟩)
   ·exact .inr (.inl (by omega))
 ·rcases k.live l o ho with⟨l0,o0,h0,e0⟩|hge
  ·rcases h.live l0 o0 h0 with⟨l1,o1,h1,e1⟩|hge
   ·exact .inl ⟨l1,o1,h1,e1.trans e0⟩
   ·exact .inr (by omega)
  ·exact .inr (Nat.le_trans h.size hge)
theorem SStep.cell{H H':Hp}{g g':G}(hs:St g H)(h:SStep H g H' g'){b o:Nat}{v:Value}(hS:g.S b)(hc:g.w.cell? ⟨b,o,none⟩=some v):g'.w.cell? ⟨b,o,none⟩=some v:=
 (World.cell?_of_block (w:=g.w) (a:=⟨b,o,none⟩) (h.block b (lt_of_cell hc) (fun l ob hl e=>(hs.at_ hl).2.1 (e▸hS)))).trans hc
theorem Rd.sstep{H H':Hp}{g g':G}(hs:St g H)(h:SStep H g H' g'){v:Value}{t:T}(hr:Rd g v t):Rd g' v t:=by
 induction hr with
 |int k n=>exact .int k n
 |bool b=>exact .bool b
 |str s=>exact .str s
 |nilp=>exact .nilp
 |ptr l off hl=>rw[←h.loc l hl];exact .ptr l off (h.al l hl)
 |ref x off b o vs hS hlen hc _ ih=>exact .ref x off b o vs (h.sub b hS) hlen (fun j v hv=>h.cell hs hS (hc j v hv)) ih
 |nils=>exact .nils
 |slfn full f p=>exact .slfn full f p
 |sl full xs sz b o cap vs hS hsz h1 h2 h3 hlen hc _ ih=>
  refine .sl full xs sz b o cap vs (fun hx=>h.sub b (hS hx)) hsz h1 h2 h3 hlen (fun j v hv=> ?_) ih;have hx:xs≠[]:=by
   rintro rfl;simp at hlen;subst hlen;simp at hv
  exact h.cell hs (hS hx) (hc j v hv)
 |slf full n f sz b o cap vs h1 h2 h3 h4 h5 h6 h7 h8=>exact Rd.slf_keep h.sub (fun _ _ _ hS hc=>h.cell hs hS hc) h1 h2 h3 h4 h5 h6 h7 h8
 |osl l sz i len b o cap hl h1 h2 h3 h4=>exact .osl l sz i len b o cap (h.al l hl) h1 (h.cp l hl▸h2) (fun q=>h.loc l hl▸h3 q) (fun q=>h.cp l hl▸h4 q)
 |nilf=>exact .nilf
 |fn f first captured vs us h1 _ h2 _ ih1 ih2=>exact .fn f first captured vs us h1 ih1 h2 ih2
 |nili=>exact .nili
 |iface t v x _ ih=>exact .iface t v x ih
 |nilm=>exact .nilm
 |mp l hl=>rw[←h.loc l hl];exact .mp l (h.al l hl)
 |yl l hl=>rw[←h.loc l hl];exact .yl l (h.al l hl)
 |agg cs vs h1 _ ih=>exact .agg cs vs h1 ih
 |tup cs vs h1 _ ih=>exact .tup cs vs h1 ih
theorem RdL.sstep{H H':Hp}{g g':G}(hs:St g H)(h:SStep H g H' g'){vs:List Value}{ts:List T}(hr:RdL g vs ts):RdL g' vs ts:=⟨hr.1,fun j v c hv hc=>(hr.2 j v c hv hc).sstep hs h⟩
theorem GlOk.sstep{gl:Nat→Option T}{H H':Hp}{g g':G}(hs:St g H)(h:SStep H g H' g')(hg:GlOk gl g):GlOk gl g':=fun k t ht=>by
 obtain⟨h1,h2,cs,e,fz,h3,h4⟩:=hg k t ht;refine⟨h1.sstep hs h,h.sub k h2,cs,e,fz,?_,h4⟩;rw[h.block k (Array.getElem?_eq_some_iff.1 h3).1 (fun l o ho e=>(hs.at_ ho).2.1 (e▸h2))];exact h3
def G.own(g:G)(l:Nat)(ob:Obj)(c:Nat):G:=
 {w:={g.w with heap:=g.w.heap.push ob},S:=g.S,al:=fun m=>g.al m∨m=l,loc:=fun m=>if m=l then g.w.heap.size else g.loc m,cp:=fun m=>if m=l then c else g.cp m}
theorem own_step{g:G}{H:Hp}(hs:St g H)(ob:Obj)(c:Nat)(o:Ob):SStep H g (H.new o) (g.own H.next ob c):=by
 have hn:=hs.new H.next (Nat.le_refl _);have hne:∀l,g.al l→l≠H.next:=fun l hl e=>hn (e▸hl)
 refine⟨rfl,rfl,rfl,by simp[G.own],fun b hb _ =>by simp only[G.own];rw[Array.getElem?_push,if_neg (by omega)],fun _ h=>h,fun b h=> .inl h,fun l hl=> .inl hl,
  fun l hl=>by simp[G.own,hne l hl],fun l hl=>by simp[G.own,hne l hl],fun l o' ho=> ?_⟩
 rw[any_new]at ho;split at ho
 ·rename_i e;subst e;right;simp[G.own]
 ·rename_i e;left;exact⟨l,o',ho,by simp[G.own,Ne.symm e]⟩
theorem own_ok{g:G}(h:Gok g)(l:Nat)(ob:Obj)(c:Nat):Gok (g.own l ob c):=by
 intro b hb;have:=h b hb;simp only[G.own,Array.size_push];omega
theorem own_st0{g:G}{H:Hp}(hs:St g H)(hg:Gok g){ob:Obj}{c:Nat}{o:Ob}
  (hnew:g.w.heap.size=g.w.heap.size→(∀v t,Rd g v t→Rd (g.own H.next ob c) v t)→(o.me=none→∃cs:Array Value,ob= .cells cs o.elem (0,0)∧o.cells.length≤cs.size∧(o.sz=0→cs.size=o.cells.length)∧(o.sz≠0→cs.size=c*o.sz∧c≤maxLen)∧RdL (g.own H.next ob c) (cs.toList.take o.cells.length) o.cells)∧
   (∀m,o.me=some m→MoR (g.own H.next ob c) m ob)):St (g.own H.next ob c) (H.new o):=by
 have hst:=own_step hs ob c o;have hn:=hs.new H.next (Nat.le_refl _);obtain⟨hc,hm⟩:=hnew rfl (fun v t h=>h.sstep hs hst);have hloc:(g.own H.next ob c).loc H.next=g.w.heap.size:=by simp[G.own]
 have hblk:(g.own H.next ob c).w.heap[g.w.heap.size]? =some ob:=by simp only[G.own];exact Array.getElem?_push_size
 have hnS:¬(g.own H.next ob c).S g.w.heap.size:=fun hS=>by
  have:=hg _ hS;omega
 have hold:∀l o',H.any l=some o'→(g.own H.next ob c).loc l=g.loc l∧(g.own H.next ob c).w.heap[g.loc l]? =g.w.heap[g.loc l]? :=fun l o' ho=>by
  obtain⟨h1,h2,h3⟩:=hs.at_ ho;exact⟨hst.loc l h1,by simp only[G.own];rw[Array.getElem?_push,if_neg (by omega)]⟩
 refine⟨fun l o' ho=> ?_,fun l o' m ho hme=> ?_,fun l l' o1 o2 h1 h2 e=> ?_,fun l hl=> ?_⟩
 ·obtain⟨ha0,hm0⟩:=get_any ho;rw[any_new]at ha0;split at ha0
  ·rename_i e;subst e;cases ha0;obtain⟨cs,e1,h1,h2,h3,h4⟩:=hc hm0;refine⟨.inr rfl,by rw[hloc];exact hnS,cs,by rw[hloc,hblk,e1],h1,h2,?_,h4⟩;simpa [G.own]using h3
  ·rename_i e;obtain⟨ha,hS,cs',hb,q1,q2,q3,q4⟩:=hs.own l o' (any_get ha0 hm0);obtain⟨e1,e2⟩:=hold l o' ha0;refine⟨.inl ha,by rw[e1];exact hS,cs',by rw[e1,e2];exact hb,q1,q2,?_,q4.sstep hs hst⟩;rw[hst.cp l ha];exact q3
 ·rw[any_new]at ho;split at ho
  ·rename_i e;subst e;cases ho;exact⟨.inr rfl,by rw[hloc];exact hnS,ob,by rw[hloc,hblk],hm m hme⟩
  ·rename_i e;obtain⟨ha,hS,ms,hb,q1⟩:=hs.ownM l o' m ho hme;obtain⟨e1,e2⟩:=hold l o' ho;exact⟨.inl ha,by rw[e1];exact hS,ms,by rw[e1,e2];exact hb,q1.mono (fun _ _ q=>q.sstep hs hst) (fun l hl=>⟨hst.al l hl,hst.loc l hl⟩)⟩
 ·rw[any_new]at h1 h2;split at h1
  ·rename_i e1;split at h2
   ·rename_i e2;rw[←e1,←e2]
   ·rename_i e2;rw[←e1,hloc,(hold l' o2 h2).1]at e;have:=hs.lt h2;omega
  ·rename_i e1;split at h2
   ·rename_i e2;rw[←e2,hloc,(hold l o1 h1).1]at e;have:=hs.lt h1;omega
   ·rw[(hold l o1 h1).1,(hold l' o2 h2).1]at e;exact hs.sep l l' o1 o2 h1 h2 e
 ·simp only[Hp.new]at hl;simp only[G.own];rintro(ha|ha)
  ·exact hs.new l (by omega) ha
  ·omega
theorem own_st{g:G}{H:Hp}(hs:St g H)(hg:Gok g){cs:Array Value}{c:Nat}{o:Ob}(h1:o.cells.length≤cs.size)(h2:o.sz=0→cs.size=o.cells.length)
  (h3:o.sz≠0→cs.size=c*o.sz∧c≤maxLen) (h4:RdL g (cs.toList.take o.cells.length) o.cells) (hm:o.me=none:=by rfl):St (g.own H.next (.cells cs o.elem) c) (H.new o):=
 own_st0 hs hg fun _ keep=>⟨fun _ =>⟨cs,rfl,h1,h2,h3,⟨h4.1,fun j v t hv ht=>keep v t (h4.2 j v t hv ht)⟩⟩,fun m e=>by rw[hm]at e;cases e⟩
theorem own_stM{g:G}{H:Hp}(hs:St g H)(hg:Gok g)(t:TypeId):St (g.own H.next (.map #[] 0) 0) (H.new {elem:=t,sz:=0,cells:=[],me:=some (.map 0 [])}):=
 own_st0 hs hg fun _ _ =>⟨fun e=>(by cases e),fun m e=>(by cases e;exact⟨#[],rfl,rfl,RdL.nil,RdL.nil⟩)⟩
theorem own_rd{g:G}(l:Nat)(ob:Obj)(c:Nat):Rd (g.own l ob c) (.pointer (some ⟨g.w.heap.size,0,none⟩)) (.ptr l 0):=by
 have h:=Rd.ptr (g:=g.own l ob c) l 0 (.inr rfl);simpa [G.own]using h
def G.setRow(g:G)(b:Nat)(cs:Array Value):G:={g with w:=g.w.setRow b cs}
theorem set_step{g:G}{H:Hp}{l:Nat}{o:Ob}(ho:H.any l=some o)(cs:Array Value)(o':Ob):SStep H g (H.put l o') (g.setRow (g.loc l) cs):=by
 refine⟨rfl,rfl,rfl,by simp[G.setRow,World.setRow],fun b _ hn=>setRow_other _ _ _ _ (fun e=>hn l o ho e.symm),fun _ h=>h,fun b h=> .inl h,fun _ h=>h,fun _ _ =>rfl,fun _ _ =>rfl,fun m q hq=> ?_⟩;rw[any_put]at hq;left;split at hq
 ·rename_i e;subst e;exact⟨m,o,ho,rfl⟩
 ·exact⟨m,q,hq,rfl⟩
theorem set_st{g:G}{H:Hp}(hs:St g H){l:Nat}{o:Ob}(ho:H.get l=some o){cs old:Array Value}(hold:g.w.heap[g.loc l]? =some (.cells old o.elem (0,0)))(hsz:cs.size=old.size){cells:List T}(hlen:cells.length=o.cells.length)
  (h4:RdL g (cs.toList.take cells.length) cells):St (g.setRow (g.loc l) cs) (H.put l {o with cells:=cells}):=by
 obtain⟨hoa,hom⟩:=get_any ho;have hst:=set_step (g:=g) hoa cs {o with cells:=cells};have hoth:∀m q,m≠l→H.any m=some q→(g.w.setRow (g.loc l) cs).heap[g.loc m]? =g.w.heap[g.loc m]? :=fun m q hne hq=>
  setRow_other _ _ _ _ (fun e'=>hne (hs.sep m l q o hq hoa e'))
 refine⟨fun m q hq=> ?_,fun m q mo hq hme=> ?_,fun m m' q q' h1 h2 e=> ?_,fun m hm=>hs.new m hm⟩
 ·rw[get_put H l {o with cells:=cells} m hom]at hq;split at hq
  ·rename_i e;subst e;cases hq;obtain⟨ha,hS,c0,hb,q1,q2,q3,q4⟩:=hs.own m o ho;rw[hold]at hb;cases hb;refine⟨ha,hS,cs,setRow_heap _ _ _ _ _ _ hold,by simp only;omega,fun z=>by simp only at z⊢;rw[hsz,hlen];exact q2 z,fun z=>by rw[hsz];exact q3 z,h4.sstep hs hst⟩
  ·rename_i e;obtain⟨ha,hS,c0,hb,q1,q2,q3,q4⟩:=hs.own m q hq;refine⟨ha,hS,c0,?_,q1,q2,q3,q4.sstep hs hst⟩;show(g.w.setRow (g.loc l) cs).heap[g.loc m]? =_;rw[hoth m q e (get_any hq).1];exact hb
 ·rw[any_put]at hq;split at hq
  ·cases hq;rw[hom]at hme;cases hme
  ·rename_i e;obtain⟨ha,hS,ms,hb,q1⟩:=hs.ownM m q mo hq hme;refine⟨ha,hS,ms,?_,q1.mono (fun _ _ z=>z.sstep hs hst) (fun l hl=>⟨hst.al l hl,hst.loc l hl⟩)⟩;show(g.w.setRow (g.loc l) cs).heap[g.loc m]? =_;rw[hoth m q e hq];exact hb
 ·have hex:∀m q,(H.put l {o with cells:=cells}).any m=some q→∃q0,H.any m=some q0:=fun m q hq=>by
   rw[any_put]at hq;split at hq
   ·rename_i e;subst e;exact⟨o,hoa⟩
   ·exact⟨q,hq⟩
  obtain⟨q0,hq0⟩:=hex m q h1;obtain⟨q1,hq1⟩:=hex m' q' h2;exact hs.sep m m' q0 q1 hq0 hq1 e
def G.setOb(g:G)(b:Nat)(o:Obj):G:={g with w:={g.w with heap:=g.w.heap.setIfInBounds b o}}
abbrev G.setMap(g:G)(b:Nat)(ms:Array MapEntry)(c:Nat):G:=g.setOb b (.map ms c)
theorem setOb_step{g:G}{H:Hp}{l:Nat}{o:Ob}(ho:H.any l=some o)(b':Obj)(o':Ob):SStep H g (H.put l o') (g.setOb (g.loc l) b'):=by
 refine⟨rfl,rfl,rfl,by simp[G.setOb],fun b _ hn=> ?_,fun _ h=>h,fun b h=> .inl h,fun _ h=>h,fun _ _ =>rfl,fun _ _ =>rfl,fun m q hq=> ?_⟩
 ·simp only[G.setOb];rw[Array.getElem?_setIfInBounds_ne (hn l o ho)]
 ·rw[any_put]at hq;left;split at hq
  ·rename_i e;subst e;exact⟨m,o,ho,rfl⟩
  ·exact⟨m,q,hq,rfl⟩
theorem setOb_st{g:G}{H:Hp}(hs:St g H){l:Nat}{o:Ob}(ho:H.any l=some o){b':Obj}{m':Mo}{o':Ob}(hm':o'.me=some m')(hr:MoR g m' b'):
  St (g.setOb (g.loc l) b') (H.put l o'):=by
 have hst:=setOb_step (g:=g) ho b' o';have hlt:=hs.lt ho;have hoth:∀m q,m≠l→H.any m=some q→(g.setOb (g.loc l) b').w.heap[g.loc m]? =g.w.heap[g.loc m]? :=fun m q hne hq=>by
  simp only[G.setOb];rw[Array.getElem?_setIfInBounds_ne (fun e'=>hne (hs.sep m l q o hq ho e'.symm))]
 have hself:(g.setOb (g.loc l) b').w.heap[g.loc l]? =some b':=by
  simp only[G.setOb];rw[Array.getElem?_setIfInBounds_self,if_pos hlt]
 refine⟨fun m q hq=> ?_,fun m q mo hq hme=> ?_,fun m m' q q' h1 h2 e=> ?_,fun m hm=>hs.new m hm⟩
 ·obtain⟨hqa,hqm⟩:=get_any hq;rw[any_put]at hqa;split at hqa
  ·cases hqa;rw[hm']at hqm;cases hqm
  ·rename_i e;obtain⟨ha,hS,c0,hb,q1,q2,q3,q4⟩:=hs.own m q (any_get hqa hqm);exact⟨ha,hS,c0,by rw[show(g.setOb (g.loc l) b').loc m=g.loc m from rfl,hoth m q e hqa];exact hb,q1,q2,q3,q4.sstep hs hst⟩
 ·rw[any_put]at hq;split at hq
  ·rename_i e;subst e;cases hq;rw[hm']at hme;cases hme;obtain⟨ha,hS,_⟩:=hs.at_ ho;exact⟨ha,hS,b',hself,hr.mono (fun _ _ z=>z.sstep hs hst) (fun l hl=>⟨hst.al l hl,hst.loc l hl⟩)⟩
  ·rename_i e;obtain⟨ha,hS,ms',hb,q1⟩:=hs.ownM m q mo hq hme;exact⟨ha,hS,ms',by rw[show(g.setOb (g.loc l) b').loc m=g.loc m from rfl,hoth m q e hq];exact hb,q1.mono (fun _ _ z=>z.sstep hs hst) (fun l hl=>⟨hst.al l hl,hst.loc l hl⟩)⟩
 ·have hex:∀m q,(H.put l o').any m=some q→∃q0,H.any m=some q0:=fun m q hq=>by
   rw[any_put]at hq;split at hq
   ·rename_i e;subst e;exact⟨o,ho⟩
   ·exact⟨q,hq⟩
  obtain⟨q0,hq0⟩:=hex m q h1;obtain⟨q1,hq1⟩:=hex m' q' h2;exact hs.sep m m' q0 q1 hq0 hq1 e
theorem setMap_step{g:G}{H:Hp}{l:Nat}{o:Ob}(ho:H.any l=some o)(ms:Array MapEntry)(c:Nat)(o':Ob):SStep H g (H.put l o') (g.setMap (g.loc l) ms c):=setOb_step ho _ _
theorem setMap_st{g:G}{H:Hp}(hs:St g H){l:Nat}{o:Ob}(ho:H.any l=some o){ms:Array MapEntry}{c:Nat}{es:List (Nat×T×T)}(hr:MapR g ms.toList es):
  St (g.setMap (g.loc l) ms c) (putM H l o c es):=setOb_st hs ho (m':= .map c es) rfl ⟨ms,rfl,hr⟩
theorem allOne_spec:∀{ts:List T},allOne ts=true→∀t∈ts,t.one=true
 |[],_,t,h=>by cases h
 |x::xs,h,t,ht=>by
  simp only[allOne,Bool.and_eq_true]at h;rcases List.mem_cons.1 ht with rfl|ht
  ·exact h.1
  ·exact allOne_spec h.2 t ht
theorem one_of{g:G}{vs:List Value}{ts:List T}(h:RdL g vs ts)(ho:allOne ts=true):∀v∈vs,v.oneCell'=true:=by
 intro v hv;obtain⟨j,hj,e⟩:=List.getElem_of_mem hv;have hvj:vs[j]? =some v:=by rw[List.getElem?_eq_getElem hj,e]
 have htj:ts[j]? =some (ts[j]'(by rw[←h.1];exact hj)):=List.getElem?_eq_getElem _;exact(h.2 j v _ hvj htj).oneCell (allOne_spec ho _ (List.mem_of_getElem? htj))
theorem store_ok{P:Program}{g:G}{H H':Hp}(hs:St g H){t:TypeId}{p x:T}(h:storeT P H t p x=some H'){u v:Value}(hu:Rd g u p)(hv:Rd g v x):
  ∃g',(Instr.storeAt t u v).run P g.w= .ok () g'.w∧SStep H g H' g'∧St g' H'∧(Gok g→Gok g'):=by
 unfold storeT at h;split at h
 ·rename_i l off;split at h
  ·rename_i o n ho hn;split at h
   ·rename_i hc;cases h;obtain⟨h1,h2,h3⟩:=hc;simp only[szT,Option.map_eq_some_iff]at hn;obtain⟨i,hi,rfl⟩:=hn;cases hu;obtain⟨ha,hS,cs,hb,q1,q2,q3,q4⟩:=hs.own l o ho;have hvc:=hv.cells;have hlen:v.cells.toList.length=i.size:=by rw[hvc.1,h1]
    have hsz:v.cells.size=i.size:=by simpa using hlen
    have hst:=run_storeCells_at (P:=P) (g.loc l) off o.elem v.cells.toList 0 cs g.w hb (by simp only[Array.length_toList]at hlen⊢;omega) (one_of hvc h3);refine⟨g.setRow (g.loc l) (cs.toList.take (off+0)++v.cells.toList++cs.toList.drop (off+0+v.cells.toList.length)).toArray,?_,set_step (get_any ho).1 _ _,?_,fun hg b hb=>by simpa [G.setRow,World.setRow]using hg b hb⟩
    ·simp[Instr.storeAt,Instr.sureAddr,storeVar,sizeOf,typeInfo,hi,hsz,hst,G.setRow]
    ·have hspl:(spliceT o.cells off x.cells).length=o.cells.length:=by simp[spliceT];omega
     refine set_st hs ho hb (by simp;omega) hspl ?_;rw[hspl];have key:(cs.toList.take (off+0)++v.cells.toList++cs.toList.drop (off+0+v.cells.toList.length)).take o.cells.length
       =(cs.toList.take o.cells.length).take off++v.cells.toList++(cs.toList.take o.cells.length).drop (off+x.cells.length):=by
      rw[Nat.add_zero,List.take_append,List.take_append];have e1:(cs.toList.take off).length=off:=by simp;omega
      rw[List.take_of_length_le (l:=cs.toList.take off) (by rw[e1];omega),List.take_of_length_le (l:=v.cells.toList) (by rw[e1,hlen];omega)];rw[List.take_take,show min off o.cells.length=off by omega];congr 1;rw[List.drop_take,List.length_append,e1,hlen,h1]
     show RdL g (List.take o.cells.length (cs.toList.take (off+0)++v.cells.toList++cs.toList.drop (off+0+v.cells.toList.length)).toArray.toList) _;rw[List.toList_toArray,key];unfold spliceT;exact((q4.take off).append hvc).append (q4.drop _)
   ·cases h
  ·cases h
 ·cases h
end
end Go.Ps
namespace Go.Ps
noncomputable section
section
variable{P:Program}{g:G}
theorem sameT1_ok{x y:T}(h:sameT1 x y=true){u v:Value}(hu:Rd g u x)(hv:Rd g v y)(n:Nat):Instr.sameBits n u v=true:=by
 unfold sameT1 at h;split at h
 ·simp only[Bool.and_eq_true,decide_eq_true_eq,beq_iff_eq]at h;obtain⟨rfl,rfl⟩:=h;cases hu;cases hv;cases n<;>simp[Instr.sameBits]
 ·have e:=beq_iff_eq.1 h;subst e;obtain⟨a,rfl,ha⟩:=hu.inv_str;obtain⟨b,rfl,hb⟩:=hv.inv_str;have:a=b:=by
   obtain⟨⟨a⟩⟩:=a;obtain⟨⟨b⟩⟩:=b;simp only at ha hb;rw[ha,hb]
  subst this;cases n<;>simp[Instr.sameBits,beq_toListBytes]
 ·have e:=beq_iff_eq.1 h;subst e;cases hu;cases hv;cases n<;>simp[Instr.sameBits]
 ·cases h
theorem sameTs_ok(n:Nat):∀{xs ys:List T} {us vs:List Value},sameTs xs ys=true→RdL g us xs→RdL g vs ys→us.length=vs.length∧((us.zip vs).all fun p=>Instr.sameBits n p.1 p.2)=true
 |[],[],us,vs,_,hu,hv=>by
  have e1:us=[]:=List.eq_nil_of_length_eq_zero hu.1;have e2:vs=[]:=List.eq_nil_of_length_eq_zero hv.1;subst e1;subst e2;simp
 |x::xs,y::ys,u::us,v::vs,h,hu,hv=>by
  simp only[sameTs,Bool.and_eq_true]at h;obtain⟨a,b⟩:=hu.inv_cons;obtain⟨c,d⟩:=hv.inv_cons;obtain⟨h1,h2⟩:=sameTs_ok n h.2 b d;simp[h1,h2,sameT1_ok h.1 a c n]
 |x::xs,y::ys,[],vs,h,hu,hv=>by have:=hu.1;simp at this
 |x::xs,y::ys,u::us,[],h,hu,hv=>by have:=hv.1;simp at this
 |[],_ ::_,_,_,h,_,_ =>by cases h
 |_ ::_,[],_,_,h,_,_ =>by cases h
theorem sameT_ok{x y:T}(h:sameT x y=true){u v:Value}(hu:Rd g u x)(hv:Rd g v y):Instr.sameBits 10000 u v=true:=by
 unfold sameT at h;split at h
 ·obtain⟨us,rfl,hu'⟩:=hu.inv_agg;obtain⟨vs,rfl,hv'⟩:=hv.inv_agg;obtain⟨h1,h2⟩:=sameTs_ok 9999 h hu' hv';show Instr.sameBits (9999+1) _ _ =true;simp only[Instr.sameBits,Bool.and_eq_true];exact⟨by simp[h1],h2⟩
 ·exact sameT1_ok h hu hv 10000
theorem sameAt_spec:∀{es:List (Nat×T×T)} {i:Nat} {k:T},sameAt es i k=true→∃e,es[i]? =some e∧sameT e.2.1 k=true
 |(b,k',x)::es,0,k,h=>⟨_,rfl,h⟩
 |e::es,i+1,k,h=>by
  obtain⟨q,h1,h2⟩:=sameAt_spec (es:=es) (i:=i) (k:=k) h;exact⟨q,by simpa using h1,h2⟩
theorem MapR.at_ {ms:List MapEntry}{es:List (Nat×T×T)}(h:MapR g ms es){i:Nat}{t:Nat×T×T}(ht:es[i]? =some t):∃m,ms[i]? =some m∧m.born=t.1∧Rd g m.key t.2.1∧Rd g m.val t.2.2:=by
 have hi:i<ms.length:=by rw[h.len];exact(List.getElem?_eq_some_iff.1 ht).1
 have hm:ms[i]? =some ms[i]:=List.getElem?_eq_getElem hi;refine⟨ms[i],hm,?_,?_,?_⟩
 ·have h1:=congrArg (·[i]?) h.1;simp only[List.getElem?_map,hm,ht,Option.map_some,Option.some.injEq]at h1;exact h1
 ·exact h.2.1.2 i _ _ (by rw[List.getElem?_map,hm];rfl) (by rw[List.getElem?_map,ht];rfl)
 ·exact h.2.2.2 i _ _ (by rw[List.getElem?_map,hm];rfl) (by rw[List.getElem?_map,ht];rfl)
theorem MapR.cons{m:MapEntry}{ms:List MapEntry}{t:Nat×T×T}{es:List (Nat×T×T)}(h1:m.born=t.1)(h2:Rd g m.key t.2.1)(h3:Rd g m.val t.2.2)(h:MapR g ms es):MapR g (m::ms) (t::es):=
 ⟨by simp[h1,h.1],RdL.cons h2 h.2.1,RdL.cons h3 h.2.2⟩
theorem MapR.modify(f:MapEntry→MapEntry)(hf:∀e,(f e).born=e.born){k x:T}:∀{ms:List MapEntry} {es:List (Nat×T×T)} {i:Nat} {e:MapEntry},MapR g ms es→ms[i]? =some e→Rd g (f e).key k→Rd g (f e).val x→MapR g (ms.modify i f) (setE k x es i)
 |[],es,i,e,_,he,_,_ =>by simp at he
 |m::ms,[],i,e,h,_,_,_ =>by have:=h.len;simp at this
 |m::ms,(b,k',x')::es,0,e,h,he,h1,h2=>by
  obtain⟨q1,q2,q3,q4⟩:=h.inv_cons;simp at he;subst he;exact MapR.cons (t:=(b,k,x)) (by rw[hf];exact q1) h1 h2 q4
 |m::ms,(b,k',x')::es,i+1,e,h,he,h1,h2=>by
  obtain⟨q1,q2,q3,q4⟩:=h.inv_cons;exact MapR.cons (t:=(b,k',x')) q1 q2 q3 (MapR.modify f hf q4 (by simpa using he) h1 h2)
theorem MapR.push{ms:List MapEntry}{es:List (Nat×T×T)}(h:MapR g ms es){c:Nat}{u v:Value}{k x:T}(hu:Rd g u k)(hv:Rd g v x):MapR g (ms++[{key:=u,val:=v,born:=c}]) (es++[(c,k,x)]):=by
 refine⟨by simp[h.1],?_,?_⟩
 ·rw[List.map_append,List.map_append];exact h.2.1.append (RdL.cons hu RdL.nil)
 ·rw[List.map_append,List.map_append];exact h.2.2.append (RdL.cons hv RdL.nil)
theorem MapR.erase:∀{ms:List MapEntry} {es:List (Nat×T×T)} (i:Nat),MapR g ms es→MapR g (ms.eraseIdx i) (es.eraseIdx i)
 |[],[],i,h=>by simpa using h
 |[],e::es,i,h=>by have:=h.len;simp at this
 |m::ms,[],i,h=>by have:=h.len;simp at this
 |m::ms,e::es,0,h=>by obtain⟨q1,q2,q3,q4⟩:=h.inv_cons;exact q4
 |m::ms,e::es,i+1,h=>by obtain⟨q1,q2,q3,q4⟩:=h.inv_cons;exact MapR.cons q1 q2 q3 (MapR.erase i q4)
theorem seek_ok{H:Hp}(hs:St g H){t:TypeId}{m k:T}{l:Nat}{o:Ob}{c:Nat}{es:List (Nat×T×T)}{et:TypeId}{r:Option (Nat×Nat×T)}(h:seekT P H t m k=some (l,o,c,es,et,r)){v u:Value}(hv:Rd g v m)(hu:Rd g u k):
  ∃kt ms q,P.underlying t=some (.map kt et)∧v= .map (some (g.loc l))∧H.any l=some o∧o.me=some (.map c es)∧g.w.heap[g.loc l]? =some (.map ms c)∧MapR g ms.toList es∧(∀e,(Instr.checkKey e 10000 kt u).run P g.w= .ok () g.w)∧(Instr.findKey kt u ms.toList).run P g.w= .ok q g.w∧FoundM P kt k ms.toList es 0 r q:=by
 unfold seekT at h;split at h
 ·rename_i kt et' hd;split at h
  ·rename_i l';split at h
   ·rename_i o' ho;split at h
    ·rename_i c' es' hme;split at h
     ·rename_i hk;split at h
      ·rename_i r' hf;simp only[Option.some.injEq,Prod.mk.injEq]at h;obtain⟨rfl,rfl,rfl,rfl,rfl,rfl⟩:=h;obtain⟨_,_,_,hb,ms,rfl,hr⟩:=hs.ownM _ _ _ ho hme;obtain⟨d,hkd⟩:=keyOk_und hk;obtain⟨q,e1,e2⟩:=findKey_ok hkd hu hf hr;cases hv;exact⟨kt,ms,q,hd,rfl,ho,hme,hb,hr,fun e=>keyOk_ok hk hu e,e1,e2⟩
      ·cases h
     ·cases h
    ·cases h
   ·cases h
  ·cases h
 ·cases h
theorem run_setObj_map{w:World}{r:Nat}{ms:Array MapEntry}{c:Nat}(o:Obj)(h:w.heap[r]? =some (.map ms c)):(setObj r o).run P w= .ok () {w with heap:=w.heap.setIfInBounds r o}:=by
 simp only[setObj,Sem.run,h]
theorem FoundM.some_inv{t:TypeId}{k:T}{ms:List MapEntry}{es:List (Nat×T×T)}{i b:Nat}{x:T}{q:Option (Nat×Value)}(h:FoundM P t k ms es 0 (some (i,b,x)) q):∃m k',q=some (i,m.val)∧ms[i]? =some m∧es[i]? =some (b,k',x):=by
 unfold FoundM at h;split at h
 ·rename_i e;cases e
 ·rename_i e;cases e;obtain⟨rfl,_,m,k',h1,h2,rfl,_⟩:=h;exact⟨m,k',rfl,by simpa using h1,by simpa using h2⟩
 ·exact h.elim
theorem FoundM.none_inv{t:TypeId}{k:T}{ms:List MapEntry}{es:List (Nat×T×T)}{q:Option (Nat×Value)}(h:FoundM P t k ms es 0 none q):q=none:=by
 unfold FoundM at h;split at h
 ·rfl
 ·rename_i e;cases e
 ·exact h.elim
theorem stays_ok{old new:Value}(h:Instr.sameBits 10000 old new=true){w:World}:(Instr.keyThatStays old new).run P w= .ok new w:=by
 simp[Instr.keyThatStays,h]
theorem upd_ok{H H':Hp}(hs:St g H){t:TypeId}{m k x:T}(h:updT P H t m k x=some H'){v u z:Value}(hv:Rd g v m)(hu:Rd g u k)(hz:Rd g z x):
  ∃g',(Instr.mapUpdate t v u z).run P g.w= .ok () g'.w∧SStep H g H' g'∧St g' H'∧(Gok g→Gok g'):=by
 unfold updT at h;split at h
 ·rename_i l o c es et i b y hsk;split at h
  ·rename_i hsame;cases h;obtain⟨kt,ms,q,hd,rfl,ho,hme,hb,hr,hck,hfk,hfd⟩:=seek_ok hs hsk hv hu;obtain⟨e,k',rfl,h1,h2⟩:=hfd.some_inv;obtain⟨e',h3,h4⟩:=sameAt_spec hsame;rw[h2]at h3;cases h3;obtain⟨e2,h5,_,h6,_⟩:=hr.at_ h2;rw[h1]at h5;cases h5;have hbit:=sameT_ok h4 h6 hu;have hr':MapR g (ms.modify i fun e=>{e with key:=u,val:=z}).toList (setE k x es i):=by
    rw[Array.toList_modify];exact MapR.modify (fun e=>{e with key:=u,val:=z}) (fun _ =>rfl) hr h1 hu hz
   refine⟨g.setMap (g.loc l) (ms.modify i fun e=>{e with key:=u,val:=z}) c,?_,setMap_step ho _ _ _,setMap_st hs ho hr',fun hg b hb'=>by simpa [G.setMap,G.setOb]using hg b hb'⟩;have hmi:ms[i]? =some e:=by simpa using h1
   simp only[Instr.mapUpdate,Sem.run_bind,run_underlying hd,Result.andThen_ok,run_getObj_map hb,hck,hfk,hmi,Option.map_some,Option.getD_some,stays_ok hbit,run_setObj_map _ hb];rfl
  ·cases h
 ·rename_i l o c es et hsk;cases h;obtain⟨kt,ms,q,hd,rfl,ho,hme,hb,hr,hck,hfk,hfd⟩:=seek_ok hs hsk hv hu;have:=hfd.none_inv;subst this;have hr':MapR g (ms.push {key:=u,val:=z,born:=c}).toList (es++[(c,k,x)]):=by
   rw[Array.toList_push];exact hr.push hu hz
  refine⟨g.setMap (g.loc l) (ms.push {key:=u,val:=z,born:=c}) (c+1),?_,setMap_step ho _ _ _,setMap_st hs ho hr',fun hg b hb'=>by simpa [G.setMap,G.setOb]using hg b hb'⟩;simp only[Instr.mapUpdate,Sem.run_bind,run_underlying hd,Result.andThen_ok,run_getObj_map hb,hck,hfk,run_setObj_map _ hb];rfl
 ·cases h
theorem entry_ok{H H':Hp}(hs:St g H){t:TypeId}{m k r:T}(h:entryT P H t m k=some (r,H')){v u:Value}(hv:Rd g v m)(hu:Rd g u k):
  ∃q g',(Instr.mapEntry t v u).run P g.w= .ok q g'.w∧SStep H g H' g'∧St g' H'∧(Gok g→Gok g')∧Rd g' q r:=by
 unfold entryT at h;split at h
 ·rename_i l o c es et i b y hsk;split at h
  ·rename_i hsame;cases h;obtain⟨kt,ms,q,hd,rfl,ho,hme,hb,hr,hck,hfk,hfd⟩:=seek_ok hs hsk hv hu;obtain⟨e,k',rfl,h1,h2⟩:=hfd.some_inv;obtain⟨e',h3,h4⟩:=sameAt_spec hsame;rw[h2]at h3;cases h3;obtain⟨e2,h5,h8,h6,h7⟩:=hr.at_ h2;rw[h1]at h5;cases h5;have hbit:=sameT_ok h4 h6 hu;have hr':MapR g (ms.modify i fun e=>{e with key:=u}).toList (setE k y es i):=by
    rw[Array.toList_modify];exact MapR.modify (fun e=>{e with key:=u}) (fun _ =>rfl) hr h1 hu h7
   have hst:=setMap_step (g:=g) ho (ms.modify i fun e=>{e with key:=u}) c {o with me:=some (.map c (setE k y es i))};refine⟨.tuple #[e.val,goInt e.born],g.setMap (g.loc l) (ms.modify i fun e=>{e with key:=u}) c,?_,hst,setMap_st hs ho hr',fun hg b hb'=>by simpa [G.setMap,G.setOb]using hg b hb',?_⟩
   ·have hmi:ms[i]? =some e:=by simpa using h1
    simp only[Instr.mapEntry,Sem.run_bind,run_underlying hd,Result.andThen_ok,run_getObj_map hb,hck,hfk,hmi,Option.map_some,Option.getD_some,stays_ok hbit,run_setObj_map _ hb];rfl
   ·exact Rd.mk_tup (vs:=[e.val,goInt e.born]) (RdL.cons (h7.sstep hs hst) (RdL.cons (by rw[h8];exact .int _ _) RdL.nil))
  ·cases h
 ·rename_i l o c es et hsk;split at h
  ·rename_i zt hzt;cases h;obtain⟨kt,ms,q,hd,rfl,ho,hme,hb,hr,hck,hfk,hfd⟩:=seek_ok hs hsk hv hu;have:=hfd.none_inv;subst this;obtain⟨z,hz1,hz2⟩:=zero_ok (g:=g) hzt;have hr':MapR g (ms.push {key:=u,val:=z,born:=c}).toList (es++[(c,k,zt)]):=by
    rw[Array.toList_push];exact hr.push hu hz2
   have hst:=setMap_step (g:=g) ho (ms.push {key:=u,val:=z,born:=c}) (c+1) {o with me:=some (.map (c+1) (es++[(c,k,zt)]))};refine⟨.tuple #[z,goInt c],g.setMap (g.loc l) (ms.push {key:=u,val:=z,born:=c}) (c+1),?_,hst,setMap_st hs ho hr',fun hg b hb'=>by simpa [G.setMap,G.setOb]using hg b hb',?_⟩
   ·simp only[Instr.mapEntry,Sem.run_bind,run_underlying hd,Result.andThen_ok,run_getObj_map hb,hck,hfk,hz1,run_setObj_map _ hb];rfl
   ·exact Rd.mk_tup (vs:=[z,goInt c]) (RdL.cons (hz2.sstep hs hst) (RdL.cons (.int _ _) RdL.nil))
  ·cases h
 ·cases h
theorem findB_spec{b:Int}:∀{es:List (Nat×T×T)} {i0 i:Nat} {k:T},findB b es i0=some (i,k)→∀{ms:List MapEntry},MapR g ms es→∃j x e,i=i0+j∧ms.findIdx? (fun e=>(e.born:Int)==b)=some j∧es[j]? =some (e,k,x)
 |[],_,_,_,h,_,_ =>by cases h
 |(c,k',x)::es,i0,i,k,h,[],hr=>by have:=hr.len;simp at this
 |(c,k',x)::es,i0,i,k,h,m::ms,hr=>by
  obtain⟨q1,q2,q3,q4⟩:=hr.inv_cons;simp only at q1;simp only[findB]at h;split at h
  ·rename_i hc;cases h;exact⟨0,x,c,rfl,by simp[List.findIdx?_cons,q1,hc],rfl⟩
  ·rename_i hc;obtain⟨j,x',e',h1,h2,h3⟩:=findB_spec h q4;exact⟨j+1,x',e',by omega,by simp[List.findIdx?_cons,q1,hc,h2],by simpa using h3⟩
theorem entryStore_ok{H H':Hp}(hs:St g H){m s x:T}(h:entryStoreT H m s x=some H')(t:TypeId){v u z:Value}(hv:Rd g v m)(hu:Rd g u s)(hz:Rd g z x):
  ∃g',(Instr.entryStore t v u z).run P g.w= .ok () g'.w∧SStep H g H' g'∧St g' H'∧(Gok g→Gok g'):=by
 unfold entryStoreT at h;split at h
 ·rename_i l ik b;split at h
  ·rename_i o ho;split at h
   ·rename_i c es hme;split at h
    ·rename_i i k hf;cases h;obtain⟨_,_,_,hb,ms,rfl,hr⟩:=hs.ownM _ _ _ ho hme;obtain⟨j,x',e',rfl,h2,h3⟩:=findB_spec hf hr;simp only[Nat.zero_add]at*;obtain⟨e,h5,h8,h6,h7⟩:=hr.at_ h3;cases hv;cases hu;have hr':MapR g (ms.modify j fun e=>{e with val:=z}).toList (setE k x es j):=by
      rw[Array.toList_modify];exact MapR.modify (fun e=>{e with val:=z}) (fun _ =>rfl) hr h5 h6 hz
     refine⟨g.setMap (g.loc l) (ms.modify j fun e=>{e with val:=z}) c,?_,setMap_step ho _ _ _,setMap_st hs ho hr',fun hg b hb'=>by simpa [G.setMap,G.setOb]using hg b hb'⟩;have hfi:ms.findIdx? (fun e=>(e.born:Int)==b)=some j:=by
      have:ms=ms.toList.toArray:=by simp
      rw[this,List.findIdx?_toArray];exact h2
     simp only[Instr.entryStore,Sem.run_bind,run_getObj_map hb,Result.andThen_ok,asInt,asIntOf,Sem.run_pure,hfi,run_setObj_map _ hb];rfl
    ·cases h
   ·cases h
  ·cases h
 ·cases h
theorem del_ok{H H':Hp}(hs:St g H){t:TypeId}{m k:T}(h:delT P H t m k=some H'){v u:Value}(hv:Rd g v m)(hu:Rd g u k)(tys:Array TypeId)(ht:tys[0]? =some t)(ty:TypeId):
  ∃g',(Builtin.delete_ tys ty #[v,u]).run P g.w= .ok (.tuple #[]) g'.w∧SStep H g H' g'∧St g' H'∧(Gok g→Gok g'):=by
 unfold delT at h;split at h
 ·rename_i l o c es et i b y hsk;cases h;obtain⟨kt,ms,q,hd,rfl,ho,hme,hb,hr,hck,hfk,hfd⟩:=seek_ok hs hsk hv hu;obtain⟨e,k',rfl,h1,h2⟩:=hfd.some_inv;have hr':MapR g (ms.eraseIdxIfInBounds i).toList (es.eraseIdx i):=by
   have:(ms.eraseIdxIfInBounds i).toList=ms.toList.eraseIdx i:=by simp
   rw[this];exact hr.erase i
  refine⟨g.setMap (g.loc l) (ms.eraseIdxIfInBounds i) c,?_,setMap_step ho _ _ _,setMap_st hs ho hr',fun hg b hb'=>by simpa [G.setMap,G.setOb]using hg b hb'⟩;simp only[Builtin.delete_,ht,List.getElem?_toArray,List.getElem?_cons_zero,List.getElem?_cons_succ,Sem.run_bind,run_underlying hd,Result.andThen_ok,run_getObj_map hb,hck,hfk,run_setObj_map _ hb,Sem.run_pure];rfl
 ·rename_i l o c es et hsk;cases h;obtain⟨kt,ms,q,hd,rfl,ho,hme,hb,hr,hck,hfk,hfd⟩:=seek_ok hs hsk hv hu;have:=hfd.none_inv;subst this;refine⟨g.setMap (g.loc l) ms c,?_,setMap_step ho _ _ _,setMap_st hs ho hr,fun hg b hb'=>by simpa [G.setMap,G.setOb]using hg b hb'⟩;simp only[Builtin.delete_,ht,List.getElem?_toArray,List.getElem?_cons_zero,List.getElem?_cons_succ,Sem.run_bind,run_underlying hd,Result.andThen_ok,run_getObj_map hb,hck,hfk,run_setObj_map _ hb,Sem.run_pure];rfl
 ·cases h
theorem make_map_ok{H:Hp}{t:TypeId}{h:Option T}(hh:hintOk P t h=true){v:Option Value}(hv:RdO g v h):(Instr.makeMap t v).run P g.w= .ok (.map (some g.w.heap.size)) (g.own H.next (.map #[] 0) 0).w:=by
 cases h with
 |none=>
  cases v with
  |some v=>exact hv.elim
  |none=>simp only[Instr.makeMap,Sem.run_bind,run_newObj,Result.andThen_ok,Sem.run_pure];rfl
 |some x=>
  cases v with
  |none=>exact hv.elim
  |some v=>
   have hv:Rd g v x:=hv;unfold hintOk at hh;split at hh
   ·rename_i e;cases e
   ·rename_i k n e;cases e;cases hv;split at hh
    ·rename_i hd;simp only[Instr.makeMap,Sem.run_bind,run_underlying hd,asInt,asIntOf,run_newObj,Result.andThen_ok,Sem.run_pure];rfl
    ·cases hh
   ·cases hh
end
end
end Go.Ps
namespace Go.Ps
noncomputable section
section
variable{P:Program}{g:G}{H:Hp}
theorem make_ok(hs:St g H)(hg:Gok g){t:TypeId}{l c r:T}{H':Hp}(h:makeSliceT P H t l c=some (r,H')){u v:Value}(hu:Rd g u l)(hv:Rd g v c):
  ∃q g',(Instr.makeSlice t u v).run P g.w= .ok q g'.w∧SStep H g H' g'∧St g' H'∧Gok g'∧Rd g' q r:=by
 unfold makeSliceT at h;split at h
 ·rename_i e n m hd;cases hu;cases hv;split at h
  ·rename_i sz bytes z hsz hby hz;split at h
   ·rename_i hc;cases h;obtain⟨h0,hzl,hn0,rfl,hb,hn⟩:=hc;simp only[szT,Option.map_eq_some_iff]at hsz hby;obtain⟨i,hi,rfl⟩:=hsz;obtain⟨i',hi',rfl⟩:=hby;rw[hi]at hi';cases hi';have hzz:=hz;unfold zeroT at hz;rw[hi]at hz;simp only at hz;split at hz
    ·rename_i zv hzv;have hrz:=rd_ofVal g hz;have hbi:(i.bytes:Int)*n≤281474976710656:=by
      have e:(i.bytes:Int)*n=((n.toNat*i.bytes:Nat):Int):=by
       rw[Int.natCast_mul,Int.toNat_of_nonneg hn0,Int.mul_comm]
      rw[e];omega
     have hr:=run_make (P:=P) g.w t e i zv hd hi hzv .i64 .i64 n n hn0 (Int.le_refl _) hbi (by omega);have hcells:RdL g (madeCells zv.cells (n.toNat*i.size)).toList ((List.replicate n.toNat z).flatMap T.cells):=zeros_ok hrz hzl h0;have hall:∀x∈List.replicate n.toNat z,x.cells.length=i.size:=fun x hx=>by rw[(List.mem_replicate.1 hx).2];exact hzl
     have hfl:((List.replicate n.toNat z).flatMap T.cells).length=n.toNat*i.size:=by rw[flat_length hall];simp
     have hms:(madeCells zv.cells (n.toNat*i.size)).size=n.toNat*i.size:=size_madeCells _ _;refine⟨_,g.own H.next (.cells (madeCells zv.cells (n.toNat*i.size)) e) n.toNat,hr,own_step hs _ _ _,?_,own_ok hg _ _ _,?_⟩
     ·refine own_st (o:={elem:=e,sz:=i.size,cells:=(List.replicate n.toNat z).flatMap T.cells}) hs hg (by simp only[hfl,hms];omega) (fun q=>by simp only at q;omega) (fun _ =>⟨hms,by simp only[maxLen];omega⟩) ?_;simp only[hfl];rw[List.take_of_length_le (by simp[hms])];exact hcells
     ·refine .osl H.next i.size 0 n.toNat g.w.heap.size 0 n.toNat (.inr rfl) (Nat.le_refl _) (by simp[G.own]) (fun _ =>by simp[G.own]) (fun _ =>by simp[G.own])
    ·cases hz
   ·cases h
  ·cases h
 ·cases h
theorem src_ok(hs:St g H){x:T}{new:List T}{m sz:Nat}(h1:srcCells H x=some new)(h2:lenOfT x=some m)(h3:new.length=m*sz)(h4:allOne new=true){tx:TypeId}(h5:srcOk P tx sz x=true)
  {v:Value} (hv:Rd g v x) (h0:0<sz):∃news,Src P sz tx v m news g.w∧RdL g news new:=by
 unfold srcOk at h5;split at h5
 ·rename_i e hd;simp only[srcCells,lenOfT]at h1 h2;cases h1;cases h2;cases hv;exact⟨[],Src.ofNil g.w hd 0,RdL.nil⟩
 ·rename_i e full xs hd;simp only[srcCells,lenOfT]at h1 h2;cases h1;cases h2;cases hv with
  |sl _ _ sz' b o cap vs q1 q2 q3 q4 q5 q6 q7 q8=>
   have hl:vs.length=xs.length*sz:=by rw[←h3,flat_length q2];exact q6
   have hrd:RdL g vs (xs.flatMap T.cells):=⟨by rw[h3];exact hl,q8⟩;exact⟨vs,Src.ofSlice g.w hd ⟨b,o,none⟩ xs.length cap vs hl (fun j u hu=>by rw[Addr.add_lit];exact q7 j u hu) (one_of hrd h4),hrd⟩
 ·rename_i e full n f hd;simp only[srcCells,lenOfT]at h1 h2;cases h1;cases h2;cases hv with
  |slfn _ _ p=>
   cases p with
   |none=>exact⟨[],Src.ofNil g.w hd 0,RdL.nil⟩
   |some a=>exact⟨[],Src.ofSlice g.w hd a 0 0 [] (by simp) (fun j u hu=>by simp at hu) (fun u hu=>by simp at hu),RdL.nil⟩
  |slf _ _ _ sz' b o cap vs q1 q2 q3 q4 q5 q6 q7 q8=>
   have hmap:((List.range m).flatMap fun i=>(f i).cells)=((List.range m).map f).flatMap T.cells:=by rw[List.flatMap_map]
   have hall:∀x∈(List.range m).map f,x.cells.length=sz':=fun x hx=>by
    obtain⟨i,hi,rfl⟩:=List.mem_map.1 hx;exact q2 i (by simpa using hi)
   rw[hmap]at h3 h4⊢;have hl:vs.length=m*sz:=by
    rw[←h3,flat_length hall];simpa using q6
   have hrd:RdL g vs (((List.range m).map f).flatMap T.cells):=by
    refine⟨by rw[h3];exact hl,fun j u c hu hc=> ?_⟩;have hjl:j<vs.length:=(List.getElem?_eq_some_iff.1 hu).1;rcases Nat.eq_zero_or_pos sz' with hz|hz
    ·rw[q6,hz]at hjl;omega
    ·have hjn:j<m*sz':=by omega
     have hi:j/sz'<m:=(Nat.div_lt_iff_lt_mul hz).2 hjn;have hr:j%sz'<sz':=Nat.mod_lt _ hz;have hj:j/sz'*sz'+j%sz'=j:=by rw[Nat.mul_comm];exact Nat.div_add_mod j sz'
     have hfi:=q2 _ hi;have hcj:(f (j/sz')).cells[j%sz']? =some ((f (j/sz')).cells[j%sz']'(by omega)):=List.getElem?_eq_getElem _;have hx:((List.range m).map f)[j/sz']? =some (f (j/sz')):=by simp[hi]
     have h1:=rows_at hall hx (j%sz') _ hcj;rw[hj,hc]at h1;cases h1;exact(q8 _ _ u _ hi hr (by rw[hj];exact hu) hcj).rd
   exact⟨vs,Src.ofSlice g.w hd ⟨b,o,none⟩ m cap vs hl (fun j u hu=>by rw[Addr.add_lit];exact q7 j u hu) (one_of hrd h4),hrd⟩
 ·rename_i e l sz' i len hd;simp only[srcCells,lenOfT]at h1 h2;cases h2;simp only[beq_iff_eq]at h5;subst h5;split at h1
  ·rename_i o ho;split at h1
   ·rename_i hle;cases h1;obtain⟨ha,hS,cs,hb,q1,q2,q3,q4⟩:=hs.own l o ho;cases hv with
    |osl _ _ _ _ b' o' cap p1 p2 p3 p4 p5=>
     by_cases hm:m=0
     ·subst hm;have hn:((o.cells.drop (i*sz')).take (0*sz'))=[]:=by simp
      rw[hn];exact⟨[],Src.ofSlice g.w hd ⟨b',o',none⟩ 0 cap [] (by simp) (by simp) (by simp),RdL.nil⟩
     ·obtain⟨rfl,rfl⟩:=p4 (.inl (by omega));have hmul:(i+m)*sz'=i*sz'+m*sz':=Nat.add_mul _ _ _;have hrd:RdL g (((cs.toList.take o.cells.length).drop (i*sz')).take (m*sz')) ((o.cells.drop (i*sz')).take (m*sz')):=(q4.drop _).take _;refine⟨_,Src.ofSlice g.w hd ⟨g.loc l,i*sz',none⟩ m cap _ (by rw[hrd.1];exact h3) (fun j u hu=> ?_) (one_of hrd h4),hrd⟩;rw[Addr.add_lit];rw[List.getElem?_take]at hu;split at hu
      ·rw[List.getElem?_drop,List.getElem?_take]at hu;split at hu
       ·simp[World.cell?,hb]at hu⊢;exact hu
       ·cases hu
      ·cases hu
   ·cases h1
  ·cases h1
 ·rename_i s hd;simp only[srcCells,lenOfT]at h1 h2;cases h1;cases h2;simp only[beq_iff_eq]at h5;subst h5;obtain⟨a,rfl,rfl⟩:=hv.inv_str;refine⟨byteCells a,?_,?_⟩
  ·have e:a.data.toList.length=a.size:=by simp[ByteArray.size_data]
   rw[e];exact Src.ofString g.w hd a
  ·refine⟨by simp[byteCells],fun j u c hu hc=> ?_⟩;simp only[byteCells,List.getElem?_map,Option.map_eq_some_iff]at hu hc;obtain⟨x,hx,rfl⟩:=hu;obtain⟨y,hy,rfl⟩:=hc;rw[hx]at hy;cases hy;exact .int _ _
 ·cases h5
theorem grow_ok(hs:St g H)(hg:Gok g){H0:Hp}(hH0:H0.next=H.next)(hsub:∀l o,H0.any l=some o→H.any l=some o){e:TypeId}{sz need cap:Nat}{cells:List T}{vs:List Value}{rest:Array Value}(hv:RdL g vs cells)(hlen:cells.length=need*sz)
  (hrest:rest.size=(cap-need)*sz) (hcap:need≤cap) (hmax:cap≤maxLen) (hsz:sz≠0):
  ∃g',g'.w=g.w.drew.alloc (.cells (vs.toArray++rest) e)∧SStep H g (H0.new {elem:=e,sz:=sz,cells:=cells}) g'∧St g' (H0.new {elem:=e,sz:=sz,cells:=cells})∧Gok g'∧
   Rd g' (.slice (some ⟨g.w.heap.size,0,none⟩) need cap) (.osl H0.next sz 0 need):=by
 have hs0:St g H0:=⟨fun l o ho=>hs.own l o (any_get (hsub l o (get_any ho).1) (get_any ho).2),fun l o m ho=>hs.ownM l o m (hsub l o ho),fun l l' o o' h1 h2=>hs.sep l l' o o' (hsub l o h1) (hsub l' o' h2),fun l hl=>hs.new l (hH0▸hl)⟩
 let gd:G:={g with w:=g.w.drew}
 have hp:PStep g gd:=⟨rfl,rfl,rfl,Nat.le_refl _,fun _ _ =>rfl,fun _ h=>h,fun _ h=> .inl h,rfl,rfl,rfl⟩;have hsd:=hs0.pstep hp;have hgd:Gok gd:=hg;have hdown:SStep H g H0 gd:=⟨rfl,rfl,rfl,Nat.le_refl _,fun _ _ _ =>rfl,fun _ h=>h,fun _ h=> .inl h,fun _ h=>h,fun _ _ =>rfl,fun _ _ =>rfl,fun l o ho=> .inl ⟨l,o,hsub l o ho,rfl⟩⟩;have hvl:vs.length=need*sz:=by rw[hv.1];exact hlen
 have hmul:cap*sz=need*sz+(cap-need)*sz:=by rw[←Nat.add_mul];congr 1;omega
 refine⟨gd.own H0.next (.cells (vs.toArray++rest) e) cap,rfl,hdown.trans (own_step hsd _ _ _),?_,own_ok hgd _ _ _,?_⟩
 ·refine own_st (o:={elem:=e,sz:=sz,cells:=cells}) hsd hgd (by simp;omega) (fun q=>absurd q hsz) (fun _ =>⟨by simp[hvl,hrest];omega,hmax⟩) ?_;have:(vs.toArray++rest).toList.take cells.length=vs:=by
   rw[Array.toList_append,hlen,←hvl];simp
  simp only at this⊢;rw[this];exact hv.pstep hp
 ·refine .osl H0.next sz 0 need g.w.heap.size 0 cap (.inr rfl) hcap (by simp[G.own]) (fun _ =>⟨by simp only[G.own,if_true];rfl,by simp⟩) (fun _ =>by simp[G.own])
theorem zeroCells_size(z:Array Value)(n:Nat):(Builtin.zeroCells z n).size=n*z.size:=by simp[Builtin.zeroCells]
theorem appendN_ok(hs:St g H)(hg:Gok g){t tx ty:TypeId}{s x r:T}{H':Hp}(h:appendN P H t tx s x=some (r,H')){u v:Value}(hu:Rd g u s)(hv:Rd g v x):
  ∃q g',(Builtin.append_ #[t,tx] ty #[u,v]).run P g.w= .ok q g'.w∧SStep H g H' g'∧St g' H'∧Gok g'∧Rd g' q r:=by
 unfold appendN at h;split at h
 ·rename_i e xs hd hxs;split at h
  ·rename_i i hi;split at h
   ·cases h
   ·rename_i hc;simp only[not_or]at hc;obtain⟨h0,hx,hsz,h2,h3,h4,h5⟩:=hc;have hx:xs≠[]:=fun e=>hx (by rw[e];rfl);have hsc:srcCells H x=some (xs.flatMap T.cells)∧lenOfT x=some xs.length:=by
     unfold xsOf at hxs;split at hxs
     ·cases hxs;exact⟨rfl,rfl⟩
     ·cases hxs;exact⟨by simp[srcCells,List.flatMap_map],by simp[lenOfT]⟩
     ·cases hxs
    cases h;have h0':0<i.size:=Nat.pos_of_ne_zero h0;have hsz':∀y∈xs,y.cells.length=i.size:=fun y hy=>by
     have:(xs.all fun y=>Nat.beq y.cells.length i.size)=true:=by simpa using hsz
     exact Nat.eq_of_beq_eq_true (List.all_eq_true.1 this y hy)
    have hfl:(xs.flatMap T.cells).length=xs.length*i.size:=flat_length hsz';have h2':allOne (xs.flatMap T.cells)=true:=by simpa using h2
    have h4':srcOk P tx i.size x=true:=by simpa using h4
    have hz:∃z,i.zero=some z∧z.cells.size=i.size:=by
     cases hz:i.zero with
     |none=>simp[hz]at h3
     |some z=>exact⟨z,rfl,by simpa [hz]using h3⟩
    obtain⟨z,hz,hzs⟩:=hz;have hr:xs.length*i.bytes≤70368744177664∧xs.length≤70368744177664:=by
     have:roomT xs.length i.bytes=true:=by simpa using h5
     simpa [roomT]using this
    obtain⟨news,hsr,hnew⟩:=src_ok (P:=P) hs (m:=xs.length) hsc.1 hsc.2 hfl h2' h4' hv h0';have hnl:news.length=xs.length*i.size:=hsr.newsLen;have hl0:0<xs.length:=List.length_pos_iff.2 hx;cases hu;have hrun:=run_append_grow_src (P:=P) g.w t tx ty e i z hd hi hz none 0 0 [] (by simp[Builtin.firstCells]) v xs.length news hsr (by omega) (by omega) (growslice_fits (by omega) (by rw[Nat.zero_add];omega));have hge:=grownCap_ge g.w (0+xs.length) 0 e;have hmx:=grownCap_le_maxLen g.w (0+xs.length) 0 e (by simp only[maxLen];omega);simp only[Nat.zero_add,List.nil_append]at hrun hge hmx
    let gd:G:={g with w:=g.w.drew}
    have hp:PStep g gd:=⟨rfl,rfl,rfl,Nat.le_refl _,fun _ _ =>rfl,fun _ h=>h,fun _ h=> .inl h,rfl,rfl,rfl⟩;have hgd:Gok gd:=hg;obtain⟨ca,hca⟩:∃ca,news.toArray++Builtin.zeroCells z.cells (grownCap g.w xs.length 0 e-xs.length)=ca:=⟨_,rfl⟩;rw[hca]at hrun;have hp2:=hp.trans (G.add_step gd (.cells ca e));refine⟨_,gd.add (.cells ca e),by rw[hrun];rfl,hp2.toS,hs.pstep hp2,G.add_ok hgd _,?_⟩;refine .sl false xs i.size g.w.heap.size 0 _ news (fun _ => .inr rfl) hsz' hge hmx (by simp) hnl (fun j u hu=> ?_) (fun j u c hu hc=> ?_)
    ·rw[Nat.zero_add];have:=G.add_cell gd ca e j;refine this.trans ?_;rw[←hca,Array.getElem?_append_left (by have:=(List.getElem?_eq_some_iff.1 hu).1;simpa using this)];simpa using hu
    ·exact(hnew.2 j u c hu hc).pstep hp2
  ·cases h
 ·cases h
theorem append_ok(hs:St g H)(hg:Gok g){t tx ty:TypeId}{s x r:T}{H':Hp}(h:appendT P H t tx s x=some (r,H')){u v:Value}(hu:Rd g u s)(hv:Rd g v x):
  ∃q g',(Builtin.append_ #[t,tx] ty #[u,v]).run P g.w= .ok q g'.w∧SStep H g H' g'∧St g' H'∧Gok g'∧Rd g' q r:=by
 unfold appendT at h;split at h
 ·rename_i e hd;split at h
  ·rename_i i new m hi hsrc hm;split at h
   ·cases h
   ·rename_i hc;simp only[not_or]at hc;obtain⟨h0,h1,h2,h3,h4⟩:=hc;have h0':0<i.size:=Nat.pos_of_ne_zero h0;have h1':new.length=m*i.size:=by omega
    have h2':allOne new=true:=by simpa using h2
    have h4':srcOk P tx i.size x=true:=by simpa using h4
    have hz:∃z,i.zero=some z∧z.cells.size=i.size:=by
     cases hz:i.zero with
     |none=>simp[hz]at h3
     |some z=>exact⟨z,rfl,by simpa [hz]using h3⟩
    obtain⟨z,hz,hzs⟩:=hz;obtain⟨news,hsr,hnew⟩:=src_ok (P:=P) hs hsrc hm h1' h2' h4' hv h0';have hnl:news.length=m*i.size:=hsr.newsLen;have room:∀{n b:Nat},roomT n b=true→n*b≤70368744177664∧n≤70368744177664:=fun q=>by simpa [roomT]using q
    split at h
    ·cases hu;split at h
     ·rename_i hm0;cases h;subst hm0;refine⟨.slice none 0 0,g,?_,.refl _ _,hs,hg,.nils⟩;rcases hsr.kind with⟨e',hk⟩|hk<;>simp[Builtin.append_,run_underlying hd,run_underlying hk,sizeOf,typeInfo,hi,hsr.len,hsr.cells]
     ·rename_i hm0;split at h
      ·rename_i hr;cases h;obtain⟨r1,r2⟩:=room hr;have hrun:=run_append_grow_src (P:=P) g.w t tx ty e i z hd hi hz none 0 0 [] (by simp[Builtin.firstCells]) v m news hsr (by omega) (by omega) (growslice_fits (by omega) (by rw[Nat.zero_add];omega));have hge:=grownCap_ge g.w (0+m) 0 e;have hmx:=grownCap_le_maxLen g.w (0+m) 0 e (by simp only[maxLen];omega);simp only[Nat.zero_add,List.nil_append]at hrun hge hmx;obtain⟨g',e1,e2,e3,e4,e5⟩:=grow_ok (e:=e) hs hg (H0:=H) rfl (fun _ _ q=>q) hnew h1' (rest:=Builtin.zeroCells z.cells (grownCap g.w m 0 e-m)) (by rw[zeroCells_size,hzs]) hge hmx h0;exact⟨_,g',by rw[hrun,e1],e2,e3,e4,e5⟩
      ·cases h
    ·rename_i xs;cases hu with
     |sl _ _ sz' b o cap vs q1 q2 q3 q4 q5 q6 q7 q8=>
      have hcap:=q5 rfl;subst hcap;split at h
      ·rename_i hm0;cases h;subst hm0;have hn0:news=[]:=List.eq_nil_of_length_eq_zero (by omega);subst hn0;refine⟨_,g,?_,.refl _ _,hs,hg,.sl true xs sz' b o xs.length vs q1 q2 q3 q4 q5 q6 q7 q8⟩;rcases hsr.kind with⟨e',hk⟩|hk<;>simp[Builtin.append_,run_underlying hd,run_underlying hk,sizeOf,typeInfo,hi,hsr.len,hsr.cells,storeCells]
      ·rename_i hm0;split at h
       ·rename_i hr;cases h;simp only[Bool.and_eq_true]at hr;obtain⟨r1,r2⟩:=room hr.1;have hszz:xs=[]∨sz'=i.size:=by
         cases xs with
         |nil=>exact .inl rfl
         |cons y ys=>right;have h5:=hr.2;simp only[headOk,beq_iff_eq]at h5;rw[←h5];exact(q2 y (by simp)).symm
        have hvl:vs.length=xs.length*i.size:=by
         rcases hszz with rfl|rfl
         ·simpa using q6
         ·exact q6
        have hxl:(xs.flatMap T.cells).length=xs.length*i.size:=by
         rcases hszz with rfl|rfl
         ·simp
         ·exact flat_length q2
        have hold:(Builtin.firstCells i.size xs.length (.slice (some ⟨b,o,none⟩) xs.length xs.length)).run P g.w.drew= .ok vs.toArray g.w.drew:=
         run_firstCells_some (P:=P) g.w.drew i.size xs.length ⟨b,o,none⟩ xs.length xs.length vs hvl (fun j u hu=>by rw[Addr.add_lit];exact q7 j u hu)
        have hrun:=run_append_grow_src (P:=P) g.w t tx ty e i z hd hi hz (some ⟨b,o,none⟩) xs.length xs.length vs hold v m news hsr (by omega) (by omega) (growslice_fits (by omega) (by omega));have hge:=grownCap_ge g.w (xs.length+m) xs.length e;have hmx:=grownCap_le_maxLen g.w (xs.length+m) xs.length e (by simp only[maxLen];omega);have hvs:RdL g vs (xs.flatMap T.cells):=⟨by rw[hxl];exact hvl,q8⟩;obtain⟨g',e1,e2,e3,e4,e5⟩:=grow_ok (e:=e) hs hg (H0:=H) rfl (fun _ _ q=>q) (hvs.append hnew) (need:=xs.length+m) (by rw[List.length_append,hxl,h1',Nat.add_mul]) (rest:=Builtin.zeroCells z.cells (grownCap g.w (xs.length+m) xs.length e-(xs.length+m))) (by rw[zeroCells_size,hzs]) hge hmx h0;exact⟨_,g',by rw[hrun,e1],e2,e3,e4,e5⟩
       ·cases h
    ·rename_i l sz' len;cases hu with
     |osl _ _ _ _ b o cap p1 p2 p3 p4 p5=>
      obtain⟨rfl,rfl⟩:=p4 (.inr rfl);have hcp:=p5 rfl;subst hcp;simp only[Nat.zero_mul]at*;split at h
      ·rename_i hm0;cases h;subst hm0;have hn0:news=[]:=List.eq_nil_of_length_eq_zero (by omega);subst hn0;refine⟨.slice (some ⟨g.loc l,0,none⟩) len (g.cp l),g,?_,.refl _ _,hs,hg,.osl l sz' 0 len (g.loc l) 0 (g.cp l) p1 p2 (by omega) (fun _ =>⟨rfl,by simp⟩) (fun _ =>rfl)⟩;rcases hsr.kind with⟨e',hk⟩|hk<;>simp[Builtin.append_,run_underlying hd,run_underlying hk,sizeOf,typeInfo,hi,hsr.len,hsr.cells,storeCells,p2]
      ·rename_i hm0;split at h
       ·rename_i ob hob;split at h
        ·rename_i hcc;cases h;obtain⟨c1,c2,c3,c4,c5⟩:=hcc;obtain⟨r1,r2⟩:=room c5;subst c3;obtain⟨ha,hS,cs,hb,o1,o2,o3,o4⟩:=hs.own l ob hob;obtain⟨o3,o5⟩:=o3 (by omega);rw[c2]at o3;obtain⟨hoba,hobm⟩:=get_any hob;have hdrop:∀l' o',(H.drop l).any l'=some o'→H.any l'=some o':=fun l' o' q=>by
          rw[any_drop]at q;split at q
          ·cases q
          ·exact q
         have hnl':∀l' o',(H.drop l).any l'=some o'→l'≠l:=fun l' o' q e=>by
          rw[any_drop,if_pos e]at q;cases q
         by_cases hroom:len+m≤g.cp l
         ·have hle:len*i.size+m*i.size≤cs.size:=by rw[o3,←Nat.add_mul];exact Nat.mul_le_mul_right _ hroom
          have hone:=hsr.one;have hstc:=run_storeCells_at (P:=P) (g.loc l) (len*i.size) ob.elem news 0 cs g.w hb (by omega) hone;simp only[Nat.add_zero]at hstc
          let cs':=(cs.toList.take (len*i.size)++news++cs.toList.drop (len*i.size+news.length)).toArray
          have hcs':cs'.size=cs.size:=by simp[cs'];omega
          let g':G:={w:=g.w.setRow (g.loc l) cs',S:=g.S,al:=fun k=>g.al k∨k=H.next,loc:=fun k=>if k=H.next then g.loc l else g.loc k,cp:=fun k=>if k=H.next then g.cp l else g.cp k}
          have hn:=hs.new H.next (Nat.le_refl _);have hne:∀k,g.al k→k≠H.next:=fun k hk q=>hn (q▸hk);have hstep:SStep H g ((H.drop l).new {elem:=ob.elem,sz:=i.size,cells:=ob.cells++new}) g':=by
           refine⟨rfl,rfl,rfl,by simp[g',World.setRow],fun k _ hk=>setRow_other _ _ _ _ (fun q=>hk l ob hoba q.symm),fun _ q=>q,fun _ q=> .inl q,fun k hk=> .inl hk,fun k hk=>by simp[g',hne k hk],fun k hk=>by simp[g',hne k hk],fun k o' ho'=> ?_⟩;rw[any_new]at ho';split at ho'
           ·rename_i q;exact .inl ⟨l,ob,hoba,by simp only[Hp.drop]at q;simp[g',q]⟩
           ·rename_i q;have:=hdrop k o' ho';simp only[Hp.drop]at q;exact .inl ⟨k,o',this,by simp[g',Ne.symm q]⟩
          refine⟨.slice (some ⟨g.loc l,0,none⟩) (len+m) (g.cp l),g',?_,hstep,?_,fun k hk=>by simpa [g',World.setRow]using hg k hk,?_⟩
          ·rcases hsr.kind with⟨e',hk⟩|hk<;>simp[Builtin.append_,run_underlying hd,run_underlying hk,sizeOf,typeInfo,hi,hsr.len,hsr.cells,hroom,Addr.add_lit,hstc,g',cs']
          ·have hrow:RdL g (cs'.toList.take (ob.cells++new).length) (ob.cells++new):=by
            have e1:(ob.cells++new).length=len*i.size+m*i.size:=by rw[List.length_append,c4,h1']
            have e2:cs'.toList.take (ob.cells++new).length=cs.toList.take (len*i.size)++news:=by
             simp only[cs'];have e3:(cs.toList.take (len*i.size)++news).length=len*i.size+m*i.size:=by simp;omega
             rw[e1,←e3,List.take_left]
            rw[e2];rw[c4]at o4;exact o4.append hnew
           have hothr:∀k o',¬(H.drop l).next=k→(H.drop l).any k=some o'→g'.loc k=g.loc k∧(g.w.setRow (g.loc l) cs').heap[g.loc k]? =g.w.heap[g.loc k]? :=fun k o' q ho'=>by
            have hk:=hdrop k o' ho';exact⟨hstep.loc k (hs.at_ hk).1,setRow_other _ _ _ _ (fun q'=>hnl' k o' ho' (hs.sep k l o' ob hk hoba q'))⟩
           refine⟨fun k o' ho'=> ?_,fun k o' kc ho' hme=> ?_,fun k k' o1' o2' hk1 hk2 q=> ?_,fun k hk=> ?_⟩
           ·obtain⟨ha0,hm0⟩:=get_any ho';rw[any_new]at ha0;split at ha0
            ·rename_i q;cases ha0;simp only[Hp.drop]at q;subst q;refine⟨.inr rfl,by simpa [g']using hS,cs',?_,?_,fun q=>by simp only at q;omega,fun _ =>⟨by simp[g',hcs',o3],by simpa [g']using o5⟩,hrow.sstep hs hstep⟩
             ·simp only[g',if_true];exact setRow_heap _ _ _ _ _ _ hb
             ·rw[hcs'];simp only[List.length_append,c4,h1'];omega
            ·rename_i q;have hk:=hdrop k o' ha0;obtain⟨ha',hS',cs'',hb',p1',p2',p3',p4'⟩:=hs.own k o' (any_get hk hm0);obtain⟨hloc,hbk⟩:=hothr k o' q ha0;have hcp':g'.cp k=g.cp k:=hstep.cp k ha';refine⟨.inl ha',by rw[hloc];exact hS',cs'',?_,p1',p2',by rw[hcp'];exact p3',p4'.sstep hs hstep⟩;rw[hloc];show(g.w.setRow (g.loc l) cs').heap[g.loc k]? =_;rw[hbk];exact hb'
           ·rw[any_new]at ho';split at ho'
            ·cases ho';cases hme
            ·rename_i q;have hk:=hdrop k o' ho';obtain⟨ha',hS',ms',hb',p1'⟩:=hs.ownM k o' kc hk hme;obtain⟨hloc,hbk⟩:=hothr k o' q ho';refine⟨.inl ha',by rw[hloc];exact hS',ms',?_,p1'.mono (fun _ _ z=>z.sstep hs hstep) (fun l hl=>⟨hstep.al l hl,hstep.loc l hl⟩)⟩;rw[hloc];show(g.w.setRow (g.loc l) cs').heap[g.loc k]? =_;rw[hbk];exact hb'
           ·rw[any_new]at hk1 hk2;have hnx:(H.drop l).next=H.next:=rfl;rw[hnx]at hk1 hk2;have hex:∀k o',¬H.next=k→(H.drop l).any k=some o'→H.any k=some o'∧k≠l∧g'.loc k=g.loc k:=fun k o' q ho'=>by
             have:=hdrop k o' ho';exact⟨this,hnl' k o' ho',by simp[g',Ne.symm q]⟩
            split at hk1
            ·rename_i q1;split at hk2
             ·rename_i q2;rw[←q1,←q2]
             ·rename_i q2;obtain⟨a1,a2,a3⟩:=hex k' o2' q2 hk2;rw[a3]at q;simp only[g',if_pos q1.symm]at q;exact absurd (hs.sep k' l o2' ob a1 hoba q.symm) a2
            ·rename_i q1;obtain⟨a1,a2,a3⟩:=hex k o1' q1 hk1;split at hk2
             ·rename_i q2;rw[a3]at q;simp only[g',if_pos q2.symm]at q;exact absurd (hs.sep k l o1' ob a1 hoba q) a2
             ·rename_i q2;obtain⟨b1,b2,b3⟩:=hex k' o2' q2 hk2;rw[a3,b3]at q;exact hs.sep k k' o1' o2' a1 b1 q
           ·simp only[Hp.new,Hp.drop]at hk;rintro(q|q)
            ·exact hs.new k (by omega) q
            ·omega
          ·refine .osl H.next i.size 0 (len+m) (g.loc l) 0 (g.cp l) (.inr rfl) hroom (by simp[g']) (fun _ =>by simp[g']) (fun _ =>by simp[g'])
         ·have hold:(Builtin.firstCells i.size len (.slice (some ⟨g.loc l,0,none⟩) len (g.cp l))).run P g.w.drew= .ok (cs.toList.take ob.cells.length).toArray g.w.drew:=
           run_firstCells_some (P:=P) g.w.drew i.size len ⟨g.loc l,0,none⟩ len (g.cp l) _ (by rw[o4.1];exact c4) (fun j u hu=>by
            rw[Addr.add_lit,Nat.zero_add];rw[List.getElem?_take]at hu;split at hu
            ·have hb':g.w.drew.heap[g.loc l]? =some (.cells cs ob.elem (0,0)):=hb;simp[World.cell?,hb']at hu⊢;exact hu
            ·cases hu)
          have hrun:=run_append_grow_src (P:=P) g.w t tx ty ob.elem i z hd hi hz (some ⟨g.loc l,0,none⟩) len (g.cp l) _ hold v m news hsr (by omega) (by omega) (growslice_fits (by omega) (by omega));have hge:=grownCap_ge g.w (len+m) (g.cp l) ob.elem;have hmx:=grownCap_le_maxLen g.w (len+m) (g.cp l) ob.elem (by simp only[maxLen];omega);obtain⟨g',e1,e2,e3,e4,e5⟩:=grow_ok (e:=ob.elem) hs hg (H0:=H.drop l) rfl hdrop (o4.append hnew) (need:=len+m) (by rw[List.length_append,c4,h1',Nat.add_mul]) (rest:=Builtin.zeroCells z.cells (grownCap g.w (len+m) (g.cp l) ob.elem-(len+m))) (by rw[zeroCells_size,hzs]) hge hmx h0;exact⟨_,g',by rw[hrun,e1],e2,e3,e4,e5⟩
        ·cases h
       ·cases h
    ·cases h
  ·cases h
 ·cases h
def EeOk(P:Program)(gl:Nat→Option T)(ee:FuncId→List T→Hp→Option (T×Hp)):Prop:=
 ∀f ts H r H',ee f ts H=some (r,H')→okFn P f=true∧∀(g:G) (vs:List Value),Gok g→St g H→GlOk gl g→RdL g vs ts→
  Calls P f vs.toArray g.w fun e w'=>∃v g',e= .returned v∧g'.w=w'∧SStep H g H' g'∧Gok g'∧St g' H'∧Rd g' v r
def EOk(P:Program)(o:Oper)(a:Act)(g:G)(H:Hp)(t:T)(H':Hp):Prop:=
 ∀(K:Act→World→Prop) (Q:Exit→Act→World→Prop),(∀v g',SStep H g H' g'→Gok g'→St g' H'→Rd g' v t→K (a.put o.dst v) g'.w)→o.wp P a g.w K Q
theorem appT_ok(hs:St g H)(hg:Gok g){pa:Bool}{t tx ty:TypeId}{s x r:T}{H':Hp}(h:appT P pa H t tx s x=some (r,H')){u v:Value}(hu:Rd g u s)(hv:Rd g v x):
  ∃q g',(Builtin.append_ #[t,tx] ty #[u,v]).run P g.w= .ok q g'.w∧SStep H g H' g'∧St g' H'∧Gok g'∧Rd g' q r:=by
 unfold appT at h;split at h
 ·exact appendN_ok hs hg h hu hv
 ·exact append_ok hs hg h hu hv
theorem eok_val{o:Oper}{a:Act}{t:T}{v:Value}{H':Hp}{g':G}(hr:(execOp a.eval o).run P g.w= .ok (.value v) g'.w)(h1:SStep H g H' g')(h2:St g' H')(h3:Gok g')(h:Rd g' v t):EOk P o a g H t H':=by
 intro K Q hK;unfold Oper.wp;rw[hr];exact hK v g' h1 h3 h2 h
theorem eok_skip{o:Oper}{a:Act}{H':Hp}{g':G}(hr:(execOp a.eval o).run P g.w= .ok .skip g'.w)(h1:SStep H g H' g')(h2:St g' H')(h3:Gok g'):EOk P o a g H undefT H':=by
 intro K Q hK;unfold Oper.wp;rw[hr];exact hK undef g' h1 h3 h2 Rd.undef
theorem effT_ok{E:Env}{F:Fc}(hF:EeOk P E.gl F.ee)(hgl:GlOk E.gl g)(hs:St g H)(hg:Gok g){fr:List T}{a:Act}{o:Oper}{t:T}{H':Hp}
  (h:effT P E F H fr o=some (t,H')) (hop:∀x∈o.op.operands,∀t,evalT E.gl fr x=some t→Rd g (a.eval x) t):EOk P o a g H t H':=by
 obtain⟨dst,op,type,pos,after,guard⟩:=o;cases op<;>simp only[effT]at h<;>simp only[Op.operands]at hop<;>try(cases h;done)
 case alloc e=>
  split at h
  ·rename_i z hz;cases h;obtain⟨v,hv,hr⟩:=zero_ok (g:=g) hz;have hc:=hr.cells;have hlen:v.cells.size=z.cells.length:=by rw[←hc.1];simp
   refine eok_val (g':=g.own H.next (.cells v.cells e) 0) (v:= .pointer (some ⟨g.w.heap.size,0,none⟩)) ?_ (own_step hs _ _ _) ?_ (own_ok hg _ _ _) (own_rd _ _ _)
   ·simp only[execOp,Instr.alloc,Sem.run_bind,hv,Result.andThen_ok,newVar,newRow,run_newObj,Sem.run_pure];rfl
   ·refine own_st (o:={elem:=e,sz:=0,cells:=z.cells}) hs hg (by simp only;omega) (fun _ =>hlen) (fun q=>absurd rfl q) ?_;simp only;rw[List.take_of_length_le (by rw[hc.1];exact Nat.le_refl _)];exact hc
  ·cases h
 case box e x=>
  split at h
  ·rename_i y hy;cases h;have hr:=hop x (by simp) y hy;have hc:=hr.cells;have hlen:(a.eval x).cells.size=y.cells.length:=by rw[←hc.1];simp
   refine eok_val (g':=g.own H.next (.cells (a.eval x).cells e) 0) (v:= .pointer (some ⟨g.w.heap.size,0,none⟩)) ?_ (own_step hs _ _ _) ?_ (own_ok hg _ _ _) (own_rd _ _ _)
   ·simp only[execOp,Instr.box,Sem.run_bind,Result.andThen_ok,newVar,newRow,run_newObj,Sem.run_pure];rfl
   ·refine own_st (o:={elem:=e,sz:=0,cells:=y.cells}) hs hg (by simp only;omega) (fun _ =>hlen) (fun q=>absurd rfl q) ?_;simp only;rw[List.take_of_length_le (by rw[hc.1];exact Nat.le_refl _)];exact hc
  ·cases h
 case buildSlice ty len parts=>
  split at h
  ·rename_i l hl;split at h
   ·rename_i e f xs hd hb;split at h
    ·rename_i s hsz;cases h;have hp:=pairs_ok (g:=g) (a:=a) hl (fun p hp t ht=>hop p.2 (by simp;exact⟨p.1,by simpa using hp⟩) t ht);obtain⟨ca,e',h1,_,xs',s',hr,hd',hs',h0,hsm,hfl,hrd⟩:=buildSlice_ok hb hp;cases hr;rw[hd]at hd';cases hd';rw[hsz]at hs';cases hs';have hca:ca.size=len*s:=by rw[←hfl,←hrd.1];simp
     have e1:(parts.map fun x=>(x.1,a.eval x.2))=(parts.toList.map fun p=>(p.1,a.eval p.2)).toArray:=by cases parts;simp
     have hle:len≤len*s:=Nat.le_mul_of_pos_right _ h0;refine eok_val (g':=g.own H.next (.cells ca e) len) (v:= .slice (some ⟨g.w.heap.size,0,none⟩) len len) ?_ (own_step hs _ _ _) ?_ (own_ok hg _ _ _) ?_
     ·simp only[execOp,Sem.run_bind,e1,h1,Result.andThen_ok,Sem.run_pure];rfl
     ·refine own_st (o:={elem:=e,sz:=s,cells:=xs.flatMap T.cells}) hs hg (by simp only[hfl,hca];omega) (fun q=>by simp only at q;omega) (fun _ =>⟨hca,by simp only[maxLen];omega⟩) ?_;simp only[hfl];rw[List.take_of_length_le (by simp[hca])];exact hrd
     ·exact .osl H.next s 0 len g.w.heap.size 0 len (.inr rfl) (Nat.le_refl _) (by simp[G.own]) (fun _ =>by simp[G.own]) (fun _ =>by simp[G.own])
    ·cases h
   ·cases h
  ·cases h
 case store e p x=>
  split at h
  ·rename_i q y hq hy;split at h
   ·rename_i H1 hH1;cases h;obtain⟨g',h1,h2,h3,h4⟩:=store_ok (P:=P) hs hH1 (hop p (by simp) q hq) (hop x (by simp) y hy);exact eok_skip (g':=g') (by simp only[execOp,Sem.run_bind,h1,Result.andThen_ok,Sem.run_pure]) h2 h3 (h4 hg)
   ·cases h
  ·cases h
 case makeSlice e l c=>
  split at h
  ·rename_i n m hn hm;obtain⟨q,g',h1,h2,h3,h4,h5⟩:=make_ok (P:=P) hs hg h (hop l (by simp) n hn) (hop c (by simp) m hm);exact eok_val (g':=g') (v:=q) (by simp only[execOp,Sem.run_bind,h1,Result.andThen_ok,Sem.run_pure]) h2 h3 h4 h5
  ·cases h
 case makeMap e r=>
  split at h
  ·rename_i hh hr;split at h
   ·rename_i hok;cases h;have hro:RdO g (r.map a.eval) hh:=by
     cases r with
     |none=>simp[optT]at hr;subst hr;trivial
     |some y=>
      simp only[optT]at hr;split at hr
      ·rename_i z hz;cases hr;exact hop y (by simp) z hz
      ·cases hr
    refine eok_val (g':=g.own H.next (.map #[] 0) 0) (v:= .map (some g.w.heap.size)) ?_ (own_step hs _ _ _) (own_stM hs hg e) (own_ok hg _ _ _) ?_
    ·simp only[execOp,Sem.run_bind,make_map_ok (P:=P) (g:=g) (H:=H) hok hro,Result.andThen_ok,Sem.run_pure]
    ·have:=Rd.mp (g:=g.own H.next (.map #[] 0) 0) H.next (.inr rfl);simpa [G.own]using this
   ·cases h
  ·cases h
 case mapUpdate e m k x=>
  split at h
  ·rename_i q y z hq hy hz;split at h
   ·rename_i H1 hH1;cases h;obtain⟨g',h1,h2,h3,h4⟩:=upd_ok (P:=P) hs hH1 (hop m (by simp) q hq) (hop k (by simp) y hy) (hop x (by simp) z hz);exact eok_skip (g':=g') (by simp only[execOp,Sem.run_bind,h1,Result.andThen_ok,Sem.run_pure]) h2 h3 (h4 hg)
   ·cases h
  ·cases h
 case insert e m k x=>
  split at h
  ·rename_i q y z hq hy hz;split at h
   ·rename_i H1 hH1;cases h;obtain⟨g',h1,h2,h3,h4⟩:=upd_ok (P:=P) hs hH1 (hop m (by simp) q hq) (hop k (by simp) y hy) (hop x (by simp) z hz);exact eok_skip (g':=g') (by simp only[execOp,Sem.run_bind,h1,Result.andThen_ok,Sem.run_pure]) h2 h3 (h4 hg)
   ·cases h
  ·cases h
 case mapEntry e m k=>
  split at h
  ·rename_i q y hq hy;obtain⟨u,g',h1,h2,h3,h4,h5⟩:=entry_ok (P:=P) hs h (hop m (by simp) q hq) (hop k (by simp) y hy);exact eok_val (g':=g') (v:=u) (by simp only[execOp,Sem.run_bind,h1,Result.andThen_ok,Sem.run_pure]) h2 h3 (h4 hg) h5
  ·cases h
 case entryStore e m s x=>
  split at h
  ·rename_i q y z hq hy hz;split at h
   ·rename_i H1 hH1;cases h;obtain⟨g',h1,h2,h3,h4⟩:=entryStore_ok (P:=P) hs hH1 e (hop m (by simp) q hq) (hop s (by simp) y hy) (hop x (by simp) z hz);exact eok_skip (g':=g') (by simp only[execOp,Sem.run_bind,h1,Result.andThen_ok,Sem.run_pure]) h2 h3 (h4 hg)
   ·cases h
  ·cases h
 case call c=>
  obtain⟨callee,args,tys⟩:=c;simp only[Call.operands]at hop;simp only at h;split at h
  ·rename_i f;split at h
   ·rename_i k first cap hf
    split at h
    ·rename_i ars has;obtain⟨vs,us,hv,hr1,hr2⟩:=(hop f (by simp) _ hf).inv_fn;have h3:=evalAll_ok (g:=g) (a:=a) has (fun x hx=>hop x (by simp at hx;simp[hx]));obtain⟨hk,hc⟩:=hF k _ H t H' h;have hcall:=hc g _ hg hs hgl ((hr1.append h3).append hr2);intro K Q hK;have hrun:(execOp a.eval {dst,op:= .call ⟨.value f,args,tys⟩,type,pos,after,guard}).run P g.w= .ok (.enter k (vs++args.toList.map a.eval++us).toArray) g.w:=by
      simp only[execOp,resolve,hv,Deferred.ofValue,Sem.run_bind,Sem.run_pure,Result.andThen_ok,invoke,array_map_toList];rw[okFn_call hk];simp
     unfold Oper.wp;rw[hrun];exact hcall.mono fun e w' ⟨v,g',he,hw,hst,hok,hst',hrd⟩=>by
      subst he;subst hw;exact hK v g' hst hok hst' hrd
    ·cases h
   ·cases h
  ·split at h
   ·rename_i m k t0 ts hargs htys;split at h
    ·rename_i p q hp hq;split at h
     ·rename_i H1 hH1;cases h;have e1:args= #[m,k]:=by cases args;simp at hargs;simp[hargs]
      have e2:tys[0]? =some t0:=by rw[←Array.getElem?_toList,htys];rfl
      subst e1;obtain⟨g',h1,h2,h3,h4⟩:=del_ok (P:=P) hs hH1 (hop m (by simp) p hp) (hop k (by simp) q hq) tys e2 type;exact eok_val (g':=g') (v:= .tuple #[]) (by simp[execOp,resolve,invoke,builtin,h1]) h2 h3 (h4 hg) Rd.undef
     ·cases h
    ·cases h
   ·cases h
  ·split at h
   ·rename_i s x t0 t1 hargs htys;split at h
    ·rename_i p q hp hq;have e1:args= #[s,x]:=by cases args;simp at hargs;simp[hargs]
     have e2:tys= #[t0,t1]:=by cases tys;simp at htys;simp[htys]
     subst e1;subst e2;obtain⟨u,g',h1,h2,h3,h4,h5⟩:=appT_ok (P:=P) (ty:=type) hs hg h (hop s (by simp) p hp) (hop x (by simp) q hq);exact eok_val (g':=g') (v:=u) (by simp[execOp,resolve,invoke,builtin,h1]) h2 h3 h4 h5
    ·cases h
   ·cases h
  ·cases h
end
end
end Go.Ps
namespace Go.Ps
def RdX(g:G)(a:Act)(fr:List T)(sk:Option Tmp):Prop:=
 a.tmps.size=fr.length∧∀(j:Nat) (v:Value) (c:T),sk≠some j→a.tmps[j]? =some v→fr[j]? =some c→Rd g v c
theorem RdX.of{g:G}{a:Act}{fr:List T}(h:RdL g a.tmps.toList fr)(sk:Option Tmp):RdX g a fr sk:=⟨by simpa using h.1,fun j v c _ hv hc=>h.2 j v c (by simpa using hv) hc⟩
theorem RdX.all{g:G}{a:Act}{fr:List T}(h:RdX g a fr none):RdL g a.tmps.toList fr:=⟨by simpa using h.1,fun j v c hv hc=>h.2 j v c (by simp) (by simpa using hv) hc⟩
section
variable{g:G}{a:Act}{fr:List T}{sk:Option Tmp}
theorem RdX.get(h:RdX g a fr sk){t:Tmp}(ht:sk≠some t):Rd g (a.tmps.getD t undef) (getT fr t):=by
 rw[getT_eq];by_cases hlt:t<fr.length
 ·have hlt':t<a.tmps.size:=by rw[h.1];exact hlt
  have:=h.2 t (a.tmps[t]'hlt') (fr[t]'hlt) ht (by simp[hlt']) (by simp[hlt]);simpa [hlt,hlt']using this
 ·have hlt':¬t<a.tmps.size:=by rw[h.1];exact hlt
  have e1:a.tmps.getD t undef=undef:=by simp[Array.getElem?_eq_none (Nat.le_of_not_lt hlt')]
  have e2:fr.getD t undefT=undefT:=by simp[List.getElem?_eq_none (Nat.le_of_not_lt hlt)]
  rw[e1,e2];exact Rd.undef
theorem RdX.eval{gl:Nat→Option T}(h:RdX g a fr sk)(hgl:GlOk gl g){x:Operand}(hx:∀t,x= .tmp t→sk≠some t){r:T}(hr:evalT gl fr x=some r):Rd g (a.eval x) r:=by
 cases x with
 |tmp t=>simp only[evalT,Option.some.injEq]at hr;subst hr;exact h.get (hx t rfl)
 |const v=>exact rd_ofVal g hr
 |global k=>exact(hgl k r hr).1
 |func f=>simp only[evalT,Option.some.injEq]at hr;subst hr;exact Rd.mk_fn RdL.nil RdL.nil
theorem RdX.put(h:RdX g a fr sk){dst:Option Tmp}{v:Value}{t:T}(hv:Rd g v t):RdX g (a.put dst v) (putT fr dst t) sk:=by
 cases dst with
 |none=>exact h
 |some d=>
  refine⟨by simp[Act.put,putT,h.1],fun j u c hj hu hc=> ?_⟩;simp only[Act.put,putT]at hu hc;rw[Array.getElem?_setIfInBounds]at hu;rw[List.getElem?_set]at hc;by_cases hd:d=j
  ·rw[if_pos hd]at hu hc;split at hu
   ·split at hc
    ·cases hu;cases hc;exact hv
    ·cases hc
   ·cases hu
  ·rw[if_neg hd]at hu hc;exact h.2 j u c hj hu hc
theorem RdX.step{g':G}(h:RdX g a fr sk)(hk:∀v t,Rd g v t→Rd g' v t):RdX g' a fr sk:=⟨h.1,fun j v c hj hv hc=>hk _ _ (h.2 j v c hj hv hc)⟩
theorem yielded_eq{ops:Array Oper}(h:RdX g a fr sk)(j:Nat)(hj:∀d,(ops[j]?).bind (·.dst)=some d→sk≠some d):yielded ops a.tmps j=yieldedT ops fr j:=by
 unfold yielded yieldedT;cases hd:(ops[j]?).bind (·.dst)with
 |none=>rfl
 |some d=>
  simp only[Option.bind_some];have hne:=hj d hd;by_cases hlt:d<fr.length
  ·have hlt':d<a.tmps.size:=by rw[h.1];exact hlt
   have hv:a.tmps[d]? =some a.tmps[d]:=by simp[hlt']
   have hc:fr[d]? =some fr[d]:=by simp[hlt]
   have:=h.2 d _ _ hne hv hc;rw[hv,hc];generalize a.tmps[d]=u at this;generalize fr[d]=c at this;cases this<;>rfl
  ·have hlt':¬d<a.tmps.size:=by rw[h.1];exact hlt
   rw[Array.getElem?_eq_none (Nat.le_of_not_lt hlt'),List.getElem?_eq_none (Nat.le_of_not_lt hlt)]
theorem mem_looksAt_op{ops:Array Oper}{o:Oper}{t:Tmp}(h:(Operand.tmp t)∈o.op.operands):t∈o.looksAt ops:=by
 unfold Oper.looksAt;refine List.mem_append.2 (.inl ?_);exact List.mem_filterMap.2 ⟨.tmp t,by simpa using h,rfl⟩
theorem mem_looksAt_guard{ops:Array Oper}{o:Oper}{j:Nat}{w:Bool}(hg:o.guard=some (j,w)){d:Tmp}(hd:(ops[j]?).bind (·.dst)=some d):d∈o.looksAt ops:=by
 unfold Oper.looksAt;refine List.mem_append.2 (.inr ?_);rw[hg];simp[hd]
theorem wanted_eq{ops:Array Oper}(h:RdX g a fr sk){o:Oper}(hl:∀d∈o.looksAt ops,sk≠some d):Region.wanted o (yielded ops a.tmps)=wantedT ops fr o:=by
 unfold Region.wanted wantedT;cases hg:o.guard with
 |none=>rfl
 |some p=>
  obtain⟨j,w⟩:=p;simp only;rw[yielded_eq h j (fun d hd=>hl d (mem_looksAt_guard hg hd))]
end
def Pend(P:Program)(g0 g:G)(H:Hp)(a:Act)(d:Tmp)(t:TypeId):Prop:=
 ∃(b:Nat) (cs:Array Value),a.tmps[d]? =some (.pointer (some ⟨b,0,none⟩))∧g0.w.heap.size≤b∧¬g.S b∧(∀l o,H.any l=some o→g.loc l≠b)∧g.w.heap[b]? =some (.cells cs t (0,0))∧szT P t=some cs.size
structure Inv(P:Program)(E:Env)(g0:G)(H0:Hp)(g:G)(a:Act)(s:Fx):Prop where
 ok:Gok g
 st:St g s.H
 gl:GlOk E.gl g
 df:a.defers=[]
 fr:RdX g a s.fr (s.pend.map (·.1))
 pd:∀d t,s.pend=some (d,t)→Pend P g0 g s.H a d t
 step:SStep H0 g0 s.H g
theorem Pend.pstep{P:Program}{g0 g g':G}{H:Hp}{a:Act}{d:Tmp}{t:TypeId}(h:Pend P g0 g H a d t)(hp:PStep g g'):Pend P g0 g' H a d t:=by
 obtain⟨b,cs,h1,h2,h3,h4,h5,h6⟩:=h;have hlt:b<g.w.heap.size:=(Array.getElem?_eq_some_iff.1 h5).1;exact⟨b,cs,h1,h2,fun q=>(hp.fresh b q).elim h3 (fun q=>by omega),fun l o ho=>by rw[hp.loc];exact h4 l o ho,by rw[hp.block b hlt];exact h5,h6⟩
theorem Pend.sstep{P:Program}{g0 g g':G}{H H':Hp}{a:Act}{d:Tmp}{t:TypeId}(h:Pend P g0 g H a d t)(hp:SStep H g H' g'):Pend P g0 g' H' a d t:=by
 obtain⟨b,cs,h1,h2,h3,h4,h5,h6⟩:=h;have hlt:b<g.w.heap.size:=(Array.getElem?_eq_some_iff.1 h5).1;refine⟨b,cs,h1,h2,fun q=> ?_,fun l o ho e=> ?_,by rw[hp.block b hlt h4];exact h5,h6⟩
 ·rcases hp.fresh b q with q|q|⟨l,o,q1,q2⟩
  ·exact h3 q
  ·omega
  ·exact h4 l o q1 q2
 ·rcases hp.live l o ho with⟨l0,o0,q1,q2⟩|q
  ·exact h4 l0 o0 q1 (q2.trans e)
  ·omega
theorem Pend.put{P:Program}{g0 g:G}{H:Hp}{a:Act}{d:Tmp}{t:TypeId}(h:Pend P g0 g H a d t){dst:Option Tmp}(hd:dst≠some d)(v:Value):Pend P g0 g H (a.put dst v) d t:=by
 obtain⟨b,cs,h1,h2⟩:=h;refine⟨b,cs,?_,h2⟩;cases dst with
 |none=>exact h1
 |some e=>
  have:e≠d:=fun q=>hd (by rw[q]);simp only[Act.put,Array.getElem?_setIfInBounds_ne this];exact h1
theorem put_defers(a:Act)(d:Option Tmp)(v:Value):(a.put d v).defers=a.defers:=by cases d<;>rfl
section
variable{P:Program}{E:Env}{F:Fc}{g0 g:G}{H0:Hp}{a:Act}{s:Fx}
theorem Inv.pnext(h:Inv P E g0 H0 g a s){g':G}(hp:PStep g g')(hok:Gok g'){dst:Option Tmp}{v:Value}{t:T}(hv:Rd g' v t)(hd:∀d,s.pend.map (·.1)=some d→dst≠some d):
  Inv P E g0 H0 g' (a.put dst v) {s with fr:=putT s.fr dst t}:=
 ⟨hok,h.st.pstep hp,h.gl.pstep hp,by rw[put_defers];exact h.df,(h.fr.step fun _ _ q=>q.pstep hp).put hv,fun d ty hpd=>((h.pd d ty hpd).pstep hp).put (hd d (by rw[hpd];rfl)) v,h.step.trans hp.toS⟩
theorem Inv.enext(h:Inv P E g0 H0 g a s){g':G}{H':Hp}(hp:SStep s.H g H' g')(hok:Gok g')(hst:St g' H'){dst:Option Tmp}{v:Value}{t:T}(hv:Rd g' v t)(hd:∀d,s.pend.map (·.1)=some d→dst≠some d):
  Inv P E g0 H0 g' (a.put dst v) {s with fr:=putT s.fr dst t,H:=H'}:=
 ⟨hok,hst,h.gl.sstep h.st hp,by rw[put_defers];exact h.df,(h.fr.step fun _ _ q=>q.sstep h.st hp).put hv,fun d ty hpd=>((h.pd d ty hpd).sstep hp).put (hd d (by rw[hpd];rfl)) v,h.step.trans hp⟩
theorem touch_spec{ops:Array Oper}{o:Oper}{d:Tmp}(h:touchesT ops o d=false):d∉o.looksAt ops∧o.dst≠some d:=by
 simp only[touchesT,Bool.or_eq_false_iff]at h;exact⟨by simpa using h.1,by simpa using h.2⟩
theorem alloc_pend(h:Inv P E g0 H0 g a s)(hpn:s.pend=none){o:Oper}{t:TypeId}{d:Tmp}{n:Nat}{z:T}(ho:o.op= .alloc t)(hdst:o.dst=some d)(hn:szT P t=some n)(hz:zeroT P t=some z)(hzl:z.cells.length=n)(hd:d<s.fr.length)
  {K:Act→World→Prop} {Q:Exit→Act→World→Prop} (hK:∀a' g',PStep g g'→Inv P E g0 H0 g' a' {s with fr:=s.fr.set d undefT,pend:=some (d,t)}→K a' g'.w):o.wp P a g.w K Q:=by
 obtain⟨v,hv,hr⟩:=zero_ok (g:=g) hz
 let g':G:={g with w:={g.w with heap:=g.w.heap.push (.cells v.cells t)}}
 have hp:PStep g g':=⟨rfl,rfl,rfl,by simp[g'],fun b hb=>by simp only[g'];rw[Array.getElem?_push,if_neg (by omega)],fun _ q=>q,fun _ q=> .inl q,rfl,rfl,rfl⟩;have hok:Gok g':=fun b hb=>by have:=h.ok b hb;simp only[g',Array.size_push];omega
 have hrun:(execOp a.eval o).run P g.w= .ok (.value (.pointer (some ⟨g.w.heap.size,0,none⟩))) g'.w:=by
  simp only[execOp,ho,Instr.alloc,Sem.run_bind,hv,Result.andThen_ok,newVar,newRow,run_newObj,Sem.run_pure];rfl
 unfold Oper.wp;rw[hrun];show K (a.put o.dst (.pointer (some ⟨g.w.heap.size,0,none⟩))) g'.w;have hfr:RdX g a s.fr none:=by have:=h.fr;rw[hpn]at this;exact this
 have hsz:a.tmps.size=s.fr.length:=hfr.1;refine hK _ g' hp ⟨hok,h.st.pstep hp,h.gl.pstep hp,by rw[put_defers];exact h.df,?_,fun d' t' hpd=> ?_,h.step.trans hp.toS⟩
 ·refine⟨by simp[hdst,Act.put,hsz],fun j u c hj hu hc=> ?_⟩;have hne:d≠j:=fun q=>hj (by simp[q]);simp only[hdst,Act.put,Array.getElem?_setIfInBounds_ne hne]at hu;simp only[List.getElem?_set_ne hne]at hc;exact(hfr.2 j u c (by simp) hu hc).pstep hp
 ·simp only[Option.some.injEq,Prod.mk.injEq]at hpd;obtain⟨rfl,rfl⟩:=hpd;have hc:=hr.cells;refine⟨g.w.heap.size,v.cells,?_,h.step.size,fun q=> ?_,fun l ob hl=> ?_,?_,?_⟩
  ·simp only[hdst,Act.put];rw[Array.getElem?_setIfInBounds_self,if_pos (by rw[hsz];exact hd)]
  ·exact absurd (h.ok _ q) (by omega)
  ·have:=h.st.lt hl;show g.loc l≠_;omega
  ·simp only[g'];exact Array.getElem?_push_size
  ·rw[hn,←hzl,←hc.1];simp
theorem store_pend(h:Inv P E g0 H0 g a s){o:Oper}{t:TypeId}{d:Tmp}{x:Operand}{y:T}{n:Nat}(hpn:s.pend=some (d,t))(ho:o.op= .store t (.tmp d) x)(hdst:o.dst=none)(hx:notSlot x d=true)(hy:evalT E.gl s.fr x=some y)(hn:szT P t=some n)(hyl:y.cells.length=n)(h1:allOne y.cells=true)
  {K:Act→World→Prop} {Q:Exit→Act→World→Prop} (hK:∀a' g',Inv P E g0 H0 g' a' {s with fr:=s.fr.set d (.ref y 0),pend:=none}→K a' g'.w):o.wp P a g.w K Q:=by
 obtain⟨b,cs,p1,p2,p3,p4,p5,p6⟩:=h.pd d t hpn;have hfr:RdX g a s.fr (some d):=by have:=h.fr;rw[hpn]at this;exact this
 have hr:Rd g (a.eval x) y:=hfr.eval h.gl (fun k e=>by subst e;simp only[notSlot,bne_iff_ne]at hx;intro q;cases q;exact hx rfl) hy;have hc:=hr.cells;rw[hn]at p6;have hcs:cs.size=n:=by simpa using p6.symm
 have hvs:(a.eval x).cells.size=n:=by rw[←hyl,←hc.1];simp
 have hlt:b<g.w.heap.size:=(Array.getElem?_eq_some_iff.1 p5).1;have hst:=run_storeCells_at (P:=P) b 0 t (a.eval x).cells.toList 0 cs g.w p5 (by simp;omega) (one_of hc h1);have hall:(cs.toList.take (0+0)++(a.eval x).cells.toList++cs.toList.drop (0+0+(a.eval x).cells.toList.length)).toArray=(a.eval x).cells:=by
  have:cs.toList.drop (0+0+(a.eval x).cells.toList.length)=[]:=List.drop_of_length_le (by simp;omega);rw[this];simp
 rw[hall]at hst
 let g':G:={g with w:=g.w.setRow b (a.eval x).cells,S:=fun k=>g.S k∨k=b}
 have hblk:∀k,k≠b→g'.w.heap[k]? =g.w.heap[k]? :=fun k hk=>setRow_other _ _ _ _ hk;have hbb:g'.w.heap[b]? =some (.cells (a.eval x).cells t (0,0)):=setRow_heap _ _ _ _ _ _ p5;have hcell:∀k o v,g.S k→g.w.cell? ⟨k,o,none⟩=some v→g'.w.cell? ⟨k,o,none⟩=some v:=fun k o v hk hv=>
  (World.cell?_of_block (w:=g.w) (a:=⟨k,o,none⟩) (hblk k (fun e=>p3 (e▸hk)))).trans hv
 have keep:∀v t,Rd g v t→Rd g' v t:=by
  intro v t hv
  induction hv with
  |int k n=>exact .int k n
  |bool b=>exact .bool b
  |str s=>exact .str s
  |nilp=>exact .nilp
  |ptr l off hl=>exact .ptr (g:=g') l off hl
  |ref x off b o vs hS hlen hc _ ih=>exact .ref x off b o vs (.inl hS) hlen (fun j v hv=>hcell _ _ _ hS (hc j v hv)) ih
  |nils=>exact .nils
  |slfn full f p=>exact .slfn full f p
  |sl full xs sz b o cap vs hS hsz q1 q2 q3 hlen hc _ ih=>
   refine .sl full xs sz b o cap vs (fun hx=> .inl (hS hx)) hsz q1 q2 q3 hlen (fun j v hv=> ?_) ih;have hx:xs≠[]:=by
    rintro rfl;simp at hlen;subst hlen;simp at hv
   exact hcell _ _ _ (hS hx) (hc j v hv)
  |slf full n f sz b o cap vs h1 h2 h3 h4 h5 h6 h7 h8=>exact Rd.slf_keep (g:=g) (g':=g') (fun _ q=>Or.inl q) hcell h1 h2 h3 h4 h5 h6 h7 h8
  |osl l sz i len b o cap hl q1 q2 q3 q4=>exact .osl (g:=g') l sz i len b o cap hl q1 q2 q3 q4
  |nilf=>exact .nilf
  |fn f first captured vs us q1 _ q2 _ ih1 ih2=>exact .fn f first captured vs us q1 ih1 q2 ih2
  |nili=>exact .nili
  |iface t v x _ ih=>exact .iface t v x ih
  |nilm=>exact .nilm
  |mp l hl=>exact .mp (g:=g') l hl
  |yl l hl=>exact .yl (g:=g') l hl
  |agg cs vs q1 _ ih=>exact .agg cs vs q1 ih
  |tup cs vs q1 _ ih=>exact .tup cs vs q1 ih
 have hpd:a.eval (.tmp d)= .pointer (some ⟨b,0,none⟩):=by simp[Act.eval,p1]
 obtain⟨i,hi,hin⟩:∃i,P.info? t=some i∧i.size=n:=by simpa [szT]using hn
 have hrun:(execOp a.eval o).run P g.w= .ok .skip g'.w:=by
  simp[execOp,ho,Instr.storeAt,hpd,Instr.sureAddr,storeVar,sizeOf,typeInfo,hi,hin,hvs,hst,g']
 unfold Oper.wp;rw[hrun];show K (a.put o.dst undef) g'.w;rw[hdst];show K a g'.w;refine hK a g' ⟨fun k hk=> ?_,⟨fun l ob hl=> ?_,fun l ob kc hl hme=> ?_,fun l l' q q' e1 e2 e3=>h.st.sep l l' q q' e1 e2 e3,fun l hl=>h.st.new l hl⟩,fun k r hk=>⟨keep _ _ (h.gl k r hk).1,.inl (h.gl k r hk).2.1,by rw[hblk k (fun e=>p3 (e▸(h.gl k r hk).2.1))];exact(h.gl k r hk).2.2⟩,h.df,?_,fun d' t' q=>by simp at q,?_⟩
 ·have:g'.w.heap.size=g.w.heap.size:=by simp[g',World.setRow]
  rw[this];rcases hk with hk|hk
  ·exact h.ok k hk
  ·omega
 ·obtain⟨ha,hS,c0,hb,q1,q2,q3,q4⟩:=h.st.own l ob hl;refine⟨ha,fun q=>q.elim hS (p4 l ob (get_any hl).1),c0,?_,q1,q2,q3,⟨q4.1,fun j v c hv hc=>keep _ _ (q4.2 j v c hv hc)⟩⟩;rw[hblk _ (p4 l ob (get_any hl).1)];exact hb
 ·obtain⟨ha,hS,ms,hb,q1⟩:=h.st.ownM l ob kc hl hme;refine⟨ha,fun q=>q.elim hS (p4 l ob hl),ms,?_,q1.mono keep (fun l hl=>⟨hl,rfl⟩)⟩;rw[hblk _ (p4 l ob hl)];exact hb
 ·refine⟨by simp[hfr.1],fun j v c _ hv hcc=> ?_⟩;rw[List.getElem?_set]at hcc;by_cases hj:d=j
  ·rw[if_pos hj]at hcc;split at hcc
   ·cases hcc;subst hj;rw[p1]at hv;cases hv;have hc':=(keep _ _ hr).cells;exact .ref y 0 b 0 (a.eval x).cells.toList (.inr rfl) hc'.1 (fun k u hu=>by simp[World.cell?,hbb]at hu⊢;exact hu) hc'.2
   ·cases hcc
  ·rw[if_neg hj]at hcc;exact keep _ _ (hfr.2 j v c (by simpa using hj) hv hcc)
 ·have hs:=h.step;refine⟨hs.os,hs.tape,hs.output,by simp[g',World.setRow];exact hs.size,fun k hk hno=> ?_,fun k hk=> .inl (hs.sub k hk),fun k hk=> ?_,hs.al,hs.loc,hs.cp,hs.live⟩
  ·rw[hblk k (by omega)];exact hs.block k hk hno
  ·rcases hk with hk|hk
   ·exact hs.fresh k hk
   ·exact .inr (.inl (by omega))
theorem store_own(h:Inv P E g0 H0 g a s){o:Oper}{t:TypeId}{d:Tmp}{x:Operand}{y:T}{n:Nat}(hpn:s.pend=some (d,t))(ho:o.op= .store t (.tmp d) x)(hdst:o.dst=none)(hx:notSlot x d=true)(hy:evalT E.gl s.fr x=some y)(hn:szT P t=some n)(hyl:y.cells.length=n)(h1:allOne y.cells=true)
  {K:Act→World→Prop} {Q:Exit→Act→World→Prop} (hK:∀a' g',Inv P E g0 H0 g' a' {fr:=s.fr.set d (.ptr s.H.next 0),H:=s.H.new {elem:=t,sz:=0,cells:=y.cells},pend:=none}→K a' g'.w):o.wp P a g.w K Q:=by
 obtain⟨b,cs,p1,p2,p3,p4,p5,p6⟩:=h.pd d t hpn;have hfr:RdX g a s.fr (some d):=by have:=h.fr;rw[hpn]at this;exact this
 have hr:Rd g (a.eval x) y:=hfr.eval h.gl (fun k e=>by subst e;simp only[notSlot,bne_iff_ne]at hx;intro q;cases q;exact hx rfl) hy;have hc:=hr.cells;rw[hn]at p6;have hcs:cs.size=n:=by simpa using p6.symm
 have hvs:(a.eval x).cells.size=n:=by rw[←hyl,←hc.1];simp
 have hlt:b<g.w.heap.size:=(Array.getElem?_eq_some_iff.1 p5).1;have hst:=run_storeCells_at (P:=P) b 0 t (a.eval x).cells.toList 0 cs g.w p5 (by simp;omega) (one_of hc h1);have hall:(cs.toList.take (0+0)++(a.eval x).cells.toList++cs.toList.drop (0+0+(a.eval x).cells.toList.length)).toArray=(a.eval x).cells:=by
  have:cs.toList.drop (0+0+(a.eval x).cells.toList.length)=[]:=List.drop_of_length_le (by simp;omega);rw[this];simp
 rw[hall]at hst
 let g':G:={w:=g.w.setRow b (a.eval x).cells,S:=g.S,al:=fun l=>g.al l∨l=s.H.next,loc:=fun l=>if l=s.H.next then b else g.loc l,cp:=g.cp}
 have hnl:∀l,g.al l→l≠s.H.next:=fun l hl e=>h.st.new l (by omega) hl;have hloc:∀l,g.al l→g'.loc l=g.loc l:=fun l hl=>if_neg (hnl l hl);have hblk:∀k,k≠b→g'.w.heap[k]? =g.w.heap[k]? :=fun k hk=>setRow_other _ _ _ _ hk;have hbb:g'.w.heap[b]? =some (.cells (a.eval x).cells t (0,0)):=setRow_heap _ _ _ _ _ _ p5;have hcell:∀k o v,g.S k→g.w.cell? ⟨k,o,none⟩=some v→g'.w.cell? ⟨k,o,none⟩=some v:=fun k o v hk hv=>
  (World.cell?_of_block (w:=g.w) (a:=⟨k,o,none⟩) (hblk k (fun e=>p3 (e▸hk)))).trans hv
 have keep:∀v t,Rd g v t→Rd g' v t:=by
  intro v t hv
  induction hv with
  |int k n=>exact .int k n
  |bool b=>exact .bool b
  |str s=>exact .str s
  |nilp=>exact .nilp
  |ptr l off hl=>rw[←hloc l hl];exact .ptr (g:=g') l off (.inl hl)
  |ref x off b o vs hS hlen hc _ ih=>exact .ref x off b o vs hS hlen (fun j v hv=>hcell _ _ _ hS (hc j v hv)) ih
  |nils=>exact .nils
  |slfn full f p=>exact .slfn full f p
  |sl full xs sz b o cap vs hS hsz q1 q2 q3 hlen hc _ ih=>
   refine .sl full xs sz b o cap vs hS hsz q1 q2 q3 hlen (fun j v hv=> ?_) ih;have hx:xs≠[]:=by
    rintro rfl;simp at hlen;subst hlen;simp at hv
   exact hcell _ _ _ (hS hx) (hc j v hv)
  |slf full n f sz b o cap vs h1 h2 h3 h4 h5 h6 h7 h8=>exact Rd.slf_keep (g:=g) (g':=g') (fun _ q=>q) hcell h1 h2 h3 h4 h5 h6 h7 h8
  |osl l sz i len b o cap hl q1 q2 q3 q4=>exact .osl (g:=g') l sz i len b o cap (.inl hl) q1 q2 (fun q=>by rw[hloc l hl];exact q3 q) q4
  |nilf=>exact .nilf
  |fn f first captured vs us q1 _ q2 _ ih1 ih2=>exact .fn f first captured vs us q1 ih1 q2 ih2
  |nili=>exact .nili
  |iface t v x _ ih=>exact .iface t v x ih
  |nilm=>exact .nilm
  |mp l hl=>rw[←hloc l hl];exact .mp (g:=g') l (.inl hl)
  |yl l hl=>rw[←hloc l hl];exact .yl (g:=g') l (.inl hl)
  |agg cs vs q1 _ ih=>exact .agg cs vs q1 ih
  |tup cs vs q1 _ ih=>exact .tup cs vs q1 ih
 have hpd:a.eval (.tmp d)= .pointer (some ⟨b,0,none⟩):=by simp[Act.eval,p1]
 obtain⟨i,hi,hin⟩:∃i,P.info? t=some i∧i.size=n:=by simpa [szT]using hn
 have hrun:(execOp a.eval o).run P g.w= .ok .skip g'.w:=by
  simp[execOp,ho,Instr.storeAt,hpd,Instr.sureAddr,storeVar,sizeOf,typeInfo,hi,hin,hvs,hst,g']
 unfold Oper.wp;rw[hrun];show K (a.put o.dst undef) g'.w;rw[hdst];show K a g'.w;have hsz:g'.w.heap.size=g.w.heap.size:=by simp[g',World.setRow]
 have hget:∀l ob,(s.H.new {elem:=t,sz:=0,cells:=y.cells}).any l=some ob→(l=s.H.next∧ob={elem:=t,sz:=0,cells:=y.cells})∨(l≠s.H.next∧s.H.any l=some ob):=by
  intro l ob hl;rw[any_new]at hl;split at hl
  ·rename_i e;cases hl;exact .inl ⟨e.symm,rfl⟩
  ·rename_i e;exact .inr ⟨fun q=>e q.symm,hl⟩
 have hln:g'.loc s.H.next=b:=if_pos rfl;refine hK a g' ⟨fun k hk=>by rw[hsz];exact h.ok k hk,⟨fun l ob hl=> ?_,fun l ob kc hl hme=> ?_,fun l l' q q' e1 e2 e3=> ?_,fun l hl=> ?_⟩,fun k r hk=>⟨keep _ _ (h.gl k r hk).1,(h.gl k r hk).2.1,by rw[hblk k (fun e=>p3 (e▸(h.gl k r hk).2.1))];exact(h.gl k r hk).2.2⟩,h.df,?_,fun d' t' q=>by simp at q,?_⟩
 ·rcases hget l ob (get_any hl).1 with⟨rfl,rfl⟩|⟨hne,hl'⟩
  ·have hc':RdL g' (a.eval x).cells.toList y.cells:=⟨hc.1,fun j v c hv hcc=>keep _ _ (hc.2 j v c hv hcc)⟩;refine⟨.inr rfl,by rw[hln];exact p3,(a.eval x).cells,by rw[hln];exact hbb,?_,fun _ => ?_,fun q=>absurd rfl q,?_⟩
   ·show y.cells.length≤_;omega
   ·show _ =y.cells.length;omega
   ·have:(a.eval x).cells.toList.take y.cells.length=(a.eval x).cells.toList:=List.take_of_length_le (by simp;omega);show RdL g' ((a.eval x).cells.toList.take y.cells.length) y.cells;rw[this];exact hc'
  ·obtain⟨ha,hS,c0,hb,q1,q2,q3,q4⟩:=h.st.own l ob (any_get hl' (get_any hl).2);have e:=hloc l ha;refine⟨.inl ha,by rw[e];exact hS,c0,?_,q1,q2,q3,⟨q4.1,fun j v c hv hc=>keep _ _ (q4.2 j v c hv hc)⟩⟩;rw[e,hblk _ (p4 l ob hl')];exact hb
 ·rcases hget l ob hl with⟨rfl,rfl⟩|⟨hne,hl'⟩
  ·cases hme
  ·obtain⟨ha,hS,ms,hb,q1⟩:=h.st.ownM l ob kc hl' hme;have e:=hloc l ha;refine⟨.inl ha,by rw[e];exact hS,ms,?_,q1.mono keep (fun l hl=>⟨.inl hl,hloc l hl⟩)⟩;rw[e,hblk _ (p4 l ob hl')];exact hb
 ·rcases hget l q e1 with⟨rfl,rfl⟩|⟨hne,e1'⟩
  ·rcases hget l' q' e2 with⟨rfl,rfl⟩|⟨hne',e2'⟩
   ·rfl
   ·rw[hln,hloc l' (h.st.at_ e2').1]at e3;exact absurd e3.symm (p4 l' q' e2')
  ·rcases hget l' q' e2 with⟨rfl,rfl⟩|⟨hne',e2'⟩
   ·rw[hln,hloc l (h.st.at_ e1').1]at e3;exact absurd e3 (p4 l q e1')
   ·rw[hloc l (h.st.at_ e1').1,hloc l' (h.st.at_ e2').1]at e3;exact h.st.sep l l' q q' e1' e2' e3
 ·rintro(ha|ha)
  ·exact h.st.new l (by simp only[Hp.new]at hl;omega) ha
  ·simp only[Hp.new]at hl;omega
 ·refine⟨by simp[hfr.1],fun j v c _ hv hcc=> ?_⟩;rw[List.getElem?_set]at hcc;by_cases hj:d=j
  ·rw[if_pos hj]at hcc;split at hcc
   ·cases hcc;subst hj;rw[p1]at hv;cases hv;rw[←hln];exact .ptr (g:=g') s.H.next 0 (.inr rfl)
   ·cases hcc
  ·rw[if_neg hj]at hcc;exact keep _ _ (hfr.2 j v c (by simpa using hj) hv hcc)
 ·have hs:=h.step;refine⟨hs.os,hs.tape,hs.output,by rw[hsz];exact hs.size,fun k hk hno=> ?_,hs.sub,hs.fresh,fun l hl=> .inl (hs.al l hl),fun l hl=>by rw[hloc l (hs.al l hl)];exact hs.loc l hl,hs.cp,fun l ob hl=> ?_⟩
  ·rw[hblk k (by omega)];exact hs.block k hk hno
  ·rcases hget l ob hl with⟨rfl,rfl⟩|⟨hne,hl'⟩
   ·exact .inr (by rw[hln];omega)
   ·rw[hloc l (h.st.at_ hl').1];exact hs.live l ob hl'
theorem allocOf_spec{o:Oper}{d:Tmp}{t:TypeId}(h:allocOf F o=some (d,t)):o.op= .alloc t∧o.dst=some d:=by
 unfold allocOf at h;split at h
 ·rename_i t' ho;split at h
  ·rename_i d' hd;split at h
   ·cases h
   ·cases h;exact⟨ho,hd⟩
  ·cases h
 ·cases h
theorem stepE_ok(hE:PeOk P E.gl E.pe)(hF:EeOk P E.gl F.ee){ops:Array Oper}{o:Oper}{s':Fx}(h:Inv P E g0 H0 g a s)(he:stepE P E F ops s o=some s'){i:Nat}(hi:ops[i]? =some o)
  {K:Act→World→Prop} {Q:Exit→Act→World→Prop} (hK:∀a' g',Inv P E g0 H0 g' a' s'→K a' g'.w):wpOp P ops Q i K a g.w:=by
 unfold wpOp;rw[hi];simp only;have plain:(∀d,s.pend.map (·.1)=some d→d∉o.looksAt ops∧o.dst≠some d)→plainE P E F ops s o=some s'→
   (if Region.wanted o (yielded ops a.tmps)=true then o.wp P a g.w K Q∨o.asks P a g.w∧LetsOut Q else K (a.put o.dst undef) g.w):=by
  intro hnt hp;unfold plainE at hp;have hsk:∀d∈o.looksAt ops,s.pend.map (·.1)≠some d:=fun d hd q=>(hnt d q).1 hd;rw[wanted_eq h.fr hsk];have hop:∀x∈o.op.operands,∀t,evalT E.gl s.fr x=some t→Rd g (a.eval x) t:=fun x hx t ht=>
   h.fr.eval h.gl (fun k e=>by subst e;exact hsk k (mem_looksAt_op hx)) ht
  have hdst:∀d,s.pend.map (·.1)=some d→o.dst≠some d:=fun d q=>(hnt d q).2;by_cases hw:wantedT ops s.fr o=true
  ·rw[if_pos hw]at hp⊢;left;split at hp
   ·rename_i v hv;cases hp;exact evalP_ok hE h.gl h.st h.ok hv hop K Q (fun u g' hst hok hr=>hK _ g' (h.pnext hst hok hr hdst))
   ·have eff:effT P E F s.H s.fr o=none∨∃v H',effT P E F s.H s.fr o=some (v,H'):=by
     cases effT P E F s.H s.fr o with
     |none=>exact .inl rfl
     |some p=>exact .inr ⟨p.1,p.2,rfl⟩
    have run:(match effT P E F s.H s.fr o with
      |some (v,H')=>some {s with fr:=putT s.fr o.dst v,H:=H'}
      |none=>none)=some s'→o.wp P a g.w K Q:=by
     intro hh;rcases eff with e|⟨v,H',e⟩
     ·rw[e]at hh;cases hh
     ·rw[e]at hh;cases hh;exact effT_ok hF h.gl h.st h.ok e hop K Q (fun u g' hst hok hs' hr=>hK _ g' (h.enext hst hok hs' hr hdst))
    split at hp
    ·rename_i d t hal;obtain⟨hop',hd'⟩:=allocOf_spec hal;split at hp
     ·cases hp
     ·rename_i hpn;have hpn':s.pend=none:=by simpa using hpn
      split at hp
      ·rename_i n z hn hz;split at hp
       ·rename_i hc;cases hp;exact alloc_pend h hpn' hop' hd' hn hz hc.1 hc.2 (fun a' g' _ hi'=>hK a' g' hi')
       ·cases hp
      ·cases hp
    ·exact run hp
  ·rw[if_neg hw]at hp⊢;cases hp;exact hK _ g (h.pnext (PStep.refl g) h.ok Rd.undef hdst)
 unfold stepE at he;split at he
 ·rename_i hpn;exact plain (fun d q=>by rw[hpn]at q;cases q) he
 ·rename_i d t hpn;have free:touchesT ops o d=false→∀d',s.pend.map (·.1)=some d'→d'∉o.looksAt ops∧o.dst≠some d':=fun q d' e=>by
   rw[hpn]at e;cases e;exact touch_spec q
  split at he
  ·rename_i t' d' x ho hd hgd;split at he
   ·rename_i e;subst e;split at he
    ·rename_i hc;split at he
     ·rename_i y n hy hn;split at he
      ·rename_i hcc;cases he;obtain⟨rfl,hx⟩:=hc;have hw:Region.wanted o (yielded ops a.tmps)=true:=by simp[Region.wanted,hgd]
       rw[if_pos hw];unfold pendS at hK;by_cases hown:F.own (d'+1000)=true
       ·simp only[hown,if_true]at hK;exact .inl (store_own h hpn ho hd hx hy hn hcc.1 hcc.2 (fun a' g' hi'=>hK a' g' hi'))
       ·simp only[hown]at hK;exact .inl (store_pend h hpn ho hd hx hy hn hcc.1 hcc.2 (fun a' g' hi'=>hK a' g' hi'))
      ·cases he
     ·cases he
    ·cases he
   ·split at he
    ·cases he
    ·rename_i ht;exact plain (free (by simpa using ht)) he
  ·split at he
   ·cases he
   ·rename_i ht;exact plain (free (by simpa using ht)) he
theorem seq_ok(hE:PeOk P E.gl E.pe)(hF:EeOk P E.gl F.ee){ops:Array Oper}{Q:Exit→Act→World→Prop}:∀(l:List Oper) (k:Nat) (s s':Fx) (a:Act) (g:G),(∀j,l[j]? =ops[k+j]?)→Inv P E g0 H0 g a s→evalSeq P E F ops l s=some s'→
  (∀a' g',Inv P E g0 H0 g' a' s'→Q .normal a' g'.w)→wpOps P ops Q (List.range' k l.length) a g.w
 |[],k,s,s',a,g,_,h,he,hQ=>by
  simp only[evalSeq,Option.some.injEq]at he;subst he;exact hQ a g h
 |o::l,k,s,s',a,g,hl,h,he,hQ=>by
  simp only[evalSeq]at he;split at he
  ·rename_i s1 hs1;have h0:ops[k]? =some o:=by simpa using(hl 0).symm
   rw[List.length_cons,List.range'_succ,wpOps_cons];refine stepE_ok hE hF h hs1 h0 (fun a' g' h'=> ?_);exact seq_ok hE hF l (k+1) s1 s' a' g' (fun j=>by have:=hl (j+1);simpa [Nat.add_assoc,Nat.add_comm 1 j]using this) h' he hQ
  ·cases he
end
end Go.Ps
