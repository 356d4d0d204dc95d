/- Lemmas for the card; no conditions. -/
import Derived.Test.YthfdachbgpjafaaGreatDoorXb1
import Derived.IntWalk
import Derived.Laws.IdiomRangeMap
import Derived.Laws.RangeString
import Derived.RangeFuncNested
import Derived.RangeFuncLeaves
import Derived.RangeFuncCalls
import Derived.Shelf.Small.Utf8
import Derived.Shelf.Small.Strs
import Derived.Shelf.LaysC
import Derived.Shelf.Strconv.ErrVarAll
import Derived.Shelf.Strings.Search1
import Derived.Shelf.Strings.Cut
import Derived.Shelf.Strings.IndexAnyAll
import Derived.Shelf.Unicode.ValidAny
import Derived.Test.YthfdachbgpjafaaGreatDoorProg
import Derived.KernelRfl
import Derived.WalkMore
import Derived.Shelf.RegionOpenPlain
import Derived.Deep.QuietTactic
import Derived.Deep.Draws
import Derived.Laws.RangeAny
import Derived.Laws.Runes
set_option linter.unusedSimpArgs false
set_option linter.unusedVariables false
set_option linter.unusedSectionVars false
namespace Go.Ps
noncomputable section
def FT.of(l:eY):Nat->FT->FT:=List.rec (motive:=fun _ =>Nat->FT->FT) (fun _ f=>f) (fun t _ ih i f=>ih (Nat.succ i) (FT.st t (toP i) f)) l
def FM{α:Type}(n:Nat)(k:Nat->α):α:=Nat.rec (motive:=fun _ =>α) (k 0) (fun m _ =>k (Nat.succ m)) n
def aXq{α:Type}(n:Int)(k:Int->α):α:=Int.rec (motive:=fun _ =>α) (fun m=>FM m fun j=>k (.ofNat j)) (fun m=>FM m fun j=>k (.negSucc j)) n
def Ot:IntKind->Nat
 | .i64=>9223372036854775807| .i32=>2147483647| .i16=>32767| .i8=>127| .u8=>255| .u16=>65535| .u32=>4294967295| .u64=>18446744073709551615
def sgn:IntKind->Bool
 | .i64| .i32| .i16| .i8=>true|_ =>false
def aRq(k:gB)(n:Int):Int:=
 Int.rec (motive:=fun _ =>Int) (fun m=>Bool.rec (motive:=fun _ =>Int) (k.wrap (.ofNat m)) (.ofNat m) (Nat.ble m (Ot k)))
  (fun m=>Bool.rec (motive:=fun _ =>Int) (k.wrap (.negSucc m)) (.negSucc m) (and (sgn k) (Nat.ble m (Ot k)))) n
def ltI(a b:Int):Bool:=
 Int.rec (motive:=fun _ =>Bool) (fun a=>Int.rec (motive:=fun _ =>Bool) (fun b=>Nat.ble (Nat.succ a) b) (fun _ =>false) b) (fun a=>Int.rec (motive:=fun _ =>Bool) (fun _ =>true) (fun b=>Nat.ble (Nat.succ b) a) b) a
def aHw{β:Type}(fr:List β):Nat->Option β:=List.rec (motive:=fun _ =>Nat->Option β) (fun _ =>none) (fun x _ ih n=>Nat.rec (motive:=fun _ =>Option β) (some x) (fun m _ =>ih m) n) fr
def Zz{β:Type}(l:List β):Nat:=List.rec (motive:=fun _ =>Nat->Nat) (fun n=>n) (fun _ _ ih n=>FM (Nat.succ n) ih) l 0
section
abbrev fG:=Nat->List T->Hp->Option (Bool×Hp)
variable{α:Type}(P:fA)(gl:fD)(ee:fE)(yd:fG)
def wW{β:Type}(o:Option β)(k:β->Option α):Option α:=Option.rec (motive:=fun _ =>Option α) none k o
def NM(b:Bool)(o:Option α):Option α:=Bool.rec (motive:=fun _ =>Option α) none o b
def ifB(b:Bool)(o o':Option α):Option α:=Bool.rec (motive:=fun _ =>Option α) o' o b
def AI(tr:FT)(x:gF)(k:T->Option α):Option α:=
 Operand.rec (motive:=fun _ =>Option α) (fun t=>k (FT.gt (toP t) tr)) (fun v=>wW (MN v) k) (fun g=>wW (gl g) k) (fun f=>k (.fn (.func f) [] [])) x
def UY(tr:FT)(l:iH):(List T->Option α)->Option α:=
 List.rec (motive:=fun _ =>(List T->Option α)->Option α) (fun k=>k []) (fun x _ ih k=>AI gl tr x fun t=>ih fun ts=>k (t::ts)) l
def aNa(tr:FT)(l:jB):(List (Nat×T)->Option α)->Option α:=
 List.rec (motive:=fun _ =>(List (Nat×T)->Option α)->Option α) (fun k=>k []) (fun x _ ih k=>AI gl tr x.2 fun t=>ih fun ts=>k ((x.1,t)::ts)) l
def arF(k:gB)(c:T->Option α)(n:Int):Option α:=aXq (aRq k n) fun m=>c (.int k m)
def aUc(op:iI)(k k':gB)(a b:Int)(c:T->Option α):Option α:=
 match op with
 | .shl=>wW (vU .shl k a b) c| .shr=>wW (vU .shr k a b) c| .add=>NM (Zu k k') (arF k c (Int.add a b))| .sub=>NM (Zu k k') (arF k c (Int.sub a b))| .mul=>NM (Zu k k') (arF k c (Int.mul a b))| .eql=>NM (Zu k k') (c (.bool (eqI a b)))| .neq=>NM (Zu k k') (c (.bool (not (eqI a b))))| .lss=>NM (Zu k k') (c (.bool (ltI a b)))| .leq=>NM (Zu k k') (c (.bool (not (ltI b a))))| .gtr=>NM (Zu k k') (c (.bool (ltI b a)))| .geq=>NM (Zu k k') (c (.bool (not (ltI a b))))|op=>NM (Zu k k') (wW (uV op k a b) c)
def aWd(op:iI)(a b:fV)(c:T->Option α):Option α:=
 match op with
 | .eql=>c (.bool (eqB a b))| .neq=>c (.bool (not (eqB a b)))|op=>wW (BC op a b) c
def isI(t:T)(d:Option α)(i:IntKind->Int->Option α):Option α:=match t with
 | .int k n=>i k n|_ =>d
def isS(t:T)(d:Option α)(i:List UInt8->Option α):Option α:=match t with
 | .str s=>i s|_ =>d
def aSq(op:iI)(t:eX)(x y:T)(c:T->Option α):Option α:=
 match x with
 | .int k a=>isI y none fun k' b=>aUc op k k' a b c| .str a=>isS y none fun b=>aWd op a b c|x=>wW (xX P op t x y) c
def aSj(x:T)(n:Nat)(k:T->Option α):Option α:=
 match x with
 | .ptr l off=>FM (Nat.add off n) fun o=>k (.ptr l o)| .ref y off=>FM (Nat.add off n) fun o=>k (.ref y o)|_ =>none
def Ms(t:eX)(cs:eY)(off:Nat)(k:T->Option α):Option α:=
 wW (FL P t) fun b=>ifB b (wW (tT P t) fun n=>NM (Nat.ble (Nat.add off n) (Zz cs)) (k (.agg ((cs.drop off).take n)))) (wW (aHw cs off) k)
def aHg(H:Hp)(t:eX)(k:T->Option α)(p:T):Option α:=
 match p with
 | .ptr l off=>wW (H.get l) fun o=>Ms P t o.cells off k| .ref x off=>Ms P t x.cells off k|_ =>none
def Ti(H:Hp)(t:eX)(p:T)(k:Hp->Option α)(x:T):Option α:=
 match p with
 | .ptr l off=>wW (tT P t) fun n=>ifB (and (Nat.beq n 1) x.one) (wW (H.get l) fun o=>wW (aHw o.cells off) fun _ =>k (H.put l {o with cells:=Ta x o.cells off})) (wW (tK P H t (.ptr l off) x) k)
 |_ =>none
def aTm(s:eX)(f:Nat):Option Nat:=
 match FY P s f with
 |some fd=>match tT P fd.type with
  |some n=>if n=0 then none else some fd.offset
  |none=>none
 |none=>none
def eSz(t:eX):Option Nat:=match P.underlying t with
 |some (.slice e)=>tT P e|_ =>none
def aUx(n:Int)(k:Nat->Option α):Option α:=Int.rec (motive:=fun _ =>Option α) k (fun _ =>none) n
def iaF(t:eX)(x:T)(k:T->Option α)(i:T):Option α:=isI i none fun _ n=>
 match x with
 | .osl l sz j len=>wW (eSz P t) fun s=>aUx n fun m=>NM (and (Nat.ble (Nat.succ m) len) (Nat.beq sz s)) (FM (Nat.mul (Nat.add j m) sz) fun a=>k (.ptr l a))|x=>wW (qM P t x i) k
def Vz(t:eX):Bool:=match P.underlying t with
 |some .string=>true|_ =>false
def idF(t:eX)(x:T)(k:T->Option α)(i:T):Option α:=isI i none fun _ n=>
 match x with
 | .str s=>NM (Vz P t) (aUx n fun m=>wW (aHw s m) fun b=>FM b.toNat fun c=>k (.int .u8 c))|x=>wW (zM P t x i) k
def aUm(H:Hp)(t:eX)(k:T->Option α)(x:T):Option α:=
 match x with
 | .str s=>NM (Vz P t) (FM (Zz s) fun n=>k (.int .i64 n))|x=>wW (WC P H t x) k
section
variable(tr:FT)(H:Hp)(k:T->Hp->Option α)
def kV(v:T):Option α:=k v H
def Vu(x:gF):Option α:=AI gl tr x (kV H k)
def aGk(a b:gF)(t:T):Option α:=match t with
  | .bool c=>ifB c (Vu gl tr H k a) (Vu gl tr H k b)|_ =>none
def aZy(c a b:gF):Option α:=AI gl tr c (aGk gl tr H k a b)
def aNk(t:eX)(cs:eY):Option α:=FM H.next fun n=>k (.ptr n 0) (H.new {elem:=t,sz:=0,cells:=cs})
def aTu(t:eX):Option α:=wW (wN P t) fun z=>aNk H k t z.cells
def bKp(t:eX)(x:gF):Option α:=AI gl tr x fun y=>aNk H k t y.cells
def aZv(t:eX)(a:gF):Option α:=AI gl tr a (aHg P H t (kV H k))
def aTx(t:eX)(p x:gF):Option α:=AI gl tr p fun p=>AI gl tr x (Ti P H t p (k oL))
def bKs(x:gF):Option α:=AI gl tr x fun v=>wW (IG v) (kV H k)
def bKo(op:iI)(t:eX)(x y:gF):Option α:=AI gl tr x fun a=>AI gl tr y fun b=>NM (GU x y a b) (aSq P op t a b (kV H k))
def hUn(op:UnOp)(x:gF):Option α:=AI gl tr x fun a=>wW (unT op a) (kV H k)
def aZq(s d:eX)(x:gF):Option α:=AI gl tr x fun a=>wW (UN P s d a) (kV H k)
def hFA(s:eX)(x:gF)(f:Nat):Option α:=AI gl tr x fun a=>wW (aTm P s f) fun o=>aSj a o (kV H k)
def hF2(t:eX)(f:Nat)(a:T):Option α:=match a with
  | .agg cs=>wW (FY P t f) fun fd=>Ms P fd.type cs fd.offset (kV H k)|_ =>none
def hF(t:eX)(x:gF)(f:Nat):Option α:=AI gl tr x (hF2 P H k t f)
def hIA(t:eX)(x i:gF):Option α:=AI gl tr x fun a=>AI gl tr i (iaF P t a (kV H k))
def hI(t:eX)(x i:gF):Option α:=AI gl tr x fun a=>AI gl tr i (idF P t a (kV H k))
def aZs(i:Nat)(a:T):Option α:=match a with
  | .tup xs=>wW (aHw xs i) (kV H k)|_ =>none
def hEx(x:gF)(i:Nat):Option α:=AI gl tr x (aZs H k i)
def aTv(t:eX)(ps:Array (Nat×Operand)):Option α:=aNa gl tr ps.toList fun l=>wW (NT P t l) (kV H k)
def hBS(t:eX)(len:Nat)(ps:Array (Nat×Operand)):Option α:=aNa gl tr ps.toList fun l=>match P.underlying t,rW P t len l with
  |some (.slice e),some (.sl _ xs)=>match tT P e with
   |some s=>FM H.next fun n=>k (.osl n s 0 len) (H.new {elem:=e,sz:=s,cells:=xs.flatMap T.cells})|none=>none
  |_,_ =>none
def kR(r:Option (T×Hp)):Option α:=wW r fun p=>k p.1 p.2
def aGh(xs:iH)(f:T):Option α:=match f with
   | .fn g first cap=>match g with
    | .func g=>UY gl tr xs fun ars=>kR k (ee g (first++ars++cap) H)
    |_ =>none
   | .yl l=>UY gl tr xs fun ars=>wW (yd l ars H) fun p=>k (.bool p.1) p.2|_ =>none
def aZp(f:gF)(xs:iH):Option α:=AI gl tr f (aGh gl ee yd tr H k xs)
def Zn(x:Option Operand)(c:Option T->Option α):Option α:=Option.rec (motive:=fun _ =>Option α) (c none) (fun x=>AI gl tr x fun v=>c (some v)) x
def kH(r:Option Hp):Option α:=wW r (k oL)
def aZx(t:eX)(r:Option Operand):Option α:=Zn gl tr r fun h=>NM (VO P t h) (FM H.next fun n=>k (.mp n) (H.new {elem:=t,sz:=0,cells:=[],me:=some (.map 0 [])}))
def bAa(t:eX)(m x v:gF):Option α:=AI gl tr m fun m=>AI gl tr x fun x=>AI gl tr v fun v=>kH k (YI P H t m x v)
def bKr(t:eX)(m x:gF):Option α:=AI gl tr m fun m=>AI gl tr x fun x=>kR k (ED P H t m x)
def hES(m x v:gF):Option α:=AI gl tr m fun m=>AI gl tr x fun x=>AI gl tr v fun v=>kH k (sL H m x v)
def aZw(t:eX)(m x:gF)(ok:Bool):Option α:=AI gl tr m fun m=>AI gl tr x fun x=>wW (zY P H t m x ok) (kV H k)
def aZr(xs:eY)(ts:List TypeId):Option α:=match xs,ts with
        |[m,x],t::_ =>kH k (Er P H t m x)|_,_ =>none
def hMS(t:eX)(l c:gF):Option α:=AI gl tr l fun l=>AI gl tr c fun c=>kR k (rC P H t l c)
def aZu(xs:eY)(ts:List TypeId):Option α:=match xs,ts with
        |[a],t::_ =>aUm P H t (kV H k) a|_,_ =>none
def aZo(xs:eY)(ts:List TypeId):Option α:=match xs,ts with
        |[a,b],[t,t']=>kR k (rT P H t t' a b)|_,_ =>none
def Vt(f:T->T->Option T)(xs:eY):Option α:=match xs with
        |x::r=>wW (FE f x r) (kV H k)|[]=>none
def hBu(b:Builtin)(xs:iH)(ts:List TypeId):Option α:=match b with
   | .len=>UY gl tr xs fun ars=>aZu P H k ars ts| .append=>UY gl tr xs fun ars=>aZo P H k ars ts| .min=>UY gl tr xs fun ars=>Vt H k aHq ars| .max=>UY gl tr xs fun ars=>Vt H k aHn ars| .delete=>UY gl tr xs fun ars=>aZr P H k ars ts|_ =>none
def hC(c:Call):Option α:=Callee.rec (motive:=fun _ =>Option α) (fun f=>aZp gl ee yd tr H k f c.args.toList) (fun _ _ =>none) (fun b=>hBu P gl tr H k b c.args.toList c.argTypes.toList) c.callee
def aZt(f:Fn)(a c:Array Operand):Option α:=UY gl tr a.toList fun a=>UY gl tr c.toList fun c=>k (.fn f a c) H
def hSl(t:eX)(x:gF)(lo hi mx:Option Operand):Option α:=match mx with
 |none=>AI gl tr x fun x=>Zn gl tr lo fun l=>Zn gl tr hi fun h=>wW (wY P t x l h) (kV H k)|some _ =>none
end
def opF(op:Op)(tr:FT)(H:Hp)(k:T->Hp->Option α):Option α:=
 Op.rec (motive:=fun _ =>Option α)
  (Vu gl tr H k) (Vu gl tr H k) (aZy gl tr H k) (aTu P H k) (bKp gl tr H k) (aTv P gl tr H k) (hBS P gl tr H k) (bAa P gl tr H k)
  (aZv P gl tr H k) (aTx P gl tr H k) (fun _ =>none) (fun _ =>none) (bKs gl tr H k) (fun op t x y _ =>bKo P gl tr H k op t x y) (fun op _ x=>hUn gl tr H k op x)
  (aZq P gl tr H k) (fun _ _ =>none) (fun _ _ =>none) (aZt gl tr H k) (aZx P gl tr H k) (fun _ _ =>none) (hMS P gl tr H k) (hSl P gl tr H k)
  (hFA P gl tr H k) (hF P gl tr H k) (hIA P gl tr H k) (hI P gl tr H k) (aZw P gl tr H k) (bAa P gl tr H k) (bKr P gl tr H k) (fun _ =>hES gl tr H k)
  (fun _ _ =>none) (fun _ _ =>none) (fun _ =>none) (fun _ _ _ _ =>none) (hEx gl tr H k) (hC P gl ee yd tr H k) (fun _ =>none) (fun _ =>none) (fun _ =>none) (fun _ _ =>none) (fun _ _ _ =>none) (fun _ _ =>none) op
end
def MV(tr:FT)(d:gQ)(v:T):FT:=Option.rec (motive:=fun _ =>FT) tr (fun d=>FT.st v (toP d) tr) d
def Fo(ops:fC)(tr:FT)(g:Nat×Bool):Bool:=
 match((ops[g.1]?).bind (·.dst))with
 |some d=>match FT.gt (toP d) tr with
  | .bool b=>b==g.2|_ =>false
 |none=>false
abbrev RX:=Option (List (X×FT×Hp))
abbrev RS:=Option (List (FT×Hp))
def Lu{β γ:Type}(k:β->Option (List γ))(l:List β):Option (List γ):=
 List.rec (motive:=fun _ =>Option (List γ)) (some []) (fun x r ih=>List.rec (motive:=fun _ =>Option (List γ)) (k x) (fun _ _ _ =>wW (k x) fun a=>wW ih fun b=>some (a++b)) r) l
def Xu{β γ:Type}(k:β->Option γ)(l:List β):Option γ:=match l with
 |[x]=>k x|_ =>none
def aRl(op:Op):Bool:=
 Op.rec (motive:=fun _ =>Bool) (fun _ =>false) (fun _ =>false) (fun _ _ _ =>false) (fun _ =>false) (fun _ _ =>false) (fun _ _ =>false) (fun _ _ _ =>false) (fun _ _ _ _ =>false)
  (fun _ _ =>false) (fun _ _ _ =>false) (fun _ =>false) (fun _ =>false) (fun _ =>false) (fun _ _ _ _ _ =>false) (fun _ _ _ =>false)
  (fun _ _ _ =>false) (fun _ _ =>false) (fun _ _ =>false) (fun _ _ _ =>false) (fun _ _ =>false) (fun _ _ =>false) (fun _ _ _ =>false) (fun _ _ _ _ _ =>false)
  (fun _ _ _ =>false) (fun _ _ _ =>false) (fun _ _ _ =>false) (fun _ _ _ =>false) (fun _ _ _ _ =>false) (fun _ _ _ _ =>false) (fun _ _ _ =>false) (fun _ _ _ _ =>false)
  (fun _ _ =>true) (fun _ _ =>true) (fun _ =>true) (fun _ _ _ _ =>false) (fun _ _ =>false) (fun _ =>false) (fun _ =>false) (fun _ =>false) (fun _ =>false) (fun _ _ =>false) (fun _ _ _ =>false) (fun _ _ =>false) op
def Sf(P:fA)(H:Hp)(t:eX)(x:T):Option (T×Hp):=match x with
 | .mp m=>match P.underlying t,H.any m with
  |some (.map ..),some o=>match o.me with
   |some (.map c _)=>some (.ptr H.next 0,H.new {elem:=0,sz:=0,cells:=[],me:=some (.mit m c [] c)})|_ =>none
  |_,_ =>none
 | .str s=>match P.underlying t with
  |some .string=>some (.ptr H.next 0,H.new {elem:=0,sz:=0,cells:=[],me:=some (.sit s 0)})|_ =>none
 |_ =>none
def Zt(m:Mo):Ob:={elem:=0,sz:=0,cells:=[],me:=some m}
def MD(seen:fN)(es:fQ):List (Nat×T×T):=es.filter fun e=> !seen.contains e.1
def aHt(H:Hp)(isS:Bool)(x:T):Option (List (T×Hp)):=match x with
 | .ptr l 0=>match H.any l with
  |some o=>match o.me with
   |some (.mit m since seen last)=>if isS then none else match H.any m with
    |some om=>match om.me with
     | some (.map c es)=>if(es.all fun e=>Nat.ble (Nat.succ e.1) since)&&Nat.ble since last then
       match MD seen es with
       |[]=>some [(.tup [.bool false],H.drop l)]|left=>some (left.map fun e=>(.tup [.bool true,e.2.1,e.2.2],H.put l (Zt (.mit m since (seen++[e.1]) c))))
      else none
     |_ =>none
    |none=>none
   | some (.sit s pos)=>if isS then match s[pos]? with
     |some b=>if Nat.ble (Nat.succ b.toNat) 128 then some [(.tup [.bool true,.int .i64 pos,.int .i32 b.toNat],H.put l (Zt (.sit s (pos+1))))]else none
     |none=>some [(.tup [.bool false],H.drop l)]
    else none
   |_ =>none
  |none=>none
 |_ =>none
def aJx(H:Hp)(x:T):Option (List (T×Hp)):=match x with
 | .ptr l 0=>match H.any l with
  |some o=>match o.me with
   |some (.mit m _ seen last)=>match seen.getLast?,H.any m with
    |some b,some om=>match om.me with
     | some (.map c es)=>if Nat.beq c last then match es.find? fun e=>Nat.beq e.1 b with
       |some e=>some [(.tup [e.2.1,e.2.2],H)]|none=>none
      else none
     |_ =>none
    |_,_ =>none
   |_ =>none
  |none=>none
 |_ =>none
def Xq(P:fA)(gl:fD)(tr:FT)(H:Hp)(op:Op):Option (List (T×Hp)):=match op with
 | .range t x=>AI gl tr x fun v=>wW (Sf P H t v) fun p=>some [p]| .next it s=>AI gl tr it (aHt H s)| .entry it=>AI gl tr it (aJx H)|_ =>none
def Zr(o:Oper):Bool:=
 match o.op with
 | .alloc _ | .store .. | .makeSlice .. | .box .. | .buildSlice .. | .makeMap .. | .insert .. | .mapUpdate .. | .mapEntry .. | .entryStore .. =>true
 | .call c=>match c.callee with
  | .builtin .append| .builtin .delete=>true| .value _ =>true|_ =>false
 |_ =>false
def yT:List Oper->Nat->Nat
 |[],k=>k|o::r,k=>if Zr o then k else yT r (k+1)
def aEv(ops:fC):Bool:=uU ops&&(!Rn ops&&qA (rF ops.toList []) (yT ops.toList 0) ops.size)
def aNs(H:Hp)(l:Nat):Bool:=match H.any l with
 |some o=>match o.me with
  |some (.loop _)=>true|_ =>false
 |none=>false
def Hh(H:Hp)(ro:gD):Bool:=match ro with
 |none=>true|some l=>aNs H l
def yK(r:Lr):Ob:={elem:=0,sz:=0,cells:=[],me:=some (.loop r)}
def KB{α:Type}(H:Hp)(l:Nat)(k:Lr->Option α):Option α:=wW (H.any l) fun o=>wW o.me fun m=>match m with
 | .loop r=>k r|_ =>none
def aFb(l:Nat)(tr:FT)(H:Hp):RX:=KB H l fun r=>match r.st with
 | .busy=>none
 |_ =>match r.pe with
  |none=>some [(.normal,tr,H.drop l)]|some (.exit id)=>some [(.exit id,tr,H.drop l)]|some .ret=>some [(.ret,tr,H.drop l)]|_ =>none
section
variable(P:fA)(gl:fD)(ee:fE)(yd:fG)(pc:fH)(N n:Nat)(ro:gD)
def bEm(o:Oper)(ih:FT->Hp->RS)(fr:FT)(H:Hp):RS:=wW (Xq P gl fr H o.op) (Lu fun p=>ih (MV fr o.dst p.1) p.2)
def opG(sd:Bool)(o:Oper)(ih:FT->Hp->RS)(fr:FT)(H:Hp):RS:=
 Bool.rec (motive:=fun _ =>RS) (opF P gl ee yd o.op fr H fun v H'=>ih (MV fr o.dst v) H') (Bool.rec (motive:=fun _ =>RS) none (bEm P gl o ih fr H) sd) (aRl o.op)
def aJi(sd:Bool)(ops:fC)(o:Oper)(ih:FT->Hp->RS)(fr:FT)(H:Hp):RS:=
 Option.rec (motive:=fun _ =>RS) (opG P gl ee yd sd o ih fr H)
  (fun g=>Bool.rec (motive:=fun _ =>RS) (ih (MV fr o.dst oL) H) (opG P gl ee yd sd o ih fr H) (Fo ops fr g)) o.guard
def QH(sd:Bool)(ops:fC)(l:fS):FT->Hp->RS:=
 List.rec (motive:=fun _ =>FT->Hp->RS) (fun fr H=>some [(fr,H)]) (fun o _ ih fr H=>aJi P gl ee yd sd ops o ih fr H) l
def aQo(r:Option (List T×Hp)):RS:=wW r fun p=>NM (Nat.beq (Zz p.1) n) (some [(FT.of p.1 0 .nl,p.2)])
def aEw(E:tW)(F:Fc)(ops:fC)(fr:eY)(H:Hp):Option (List T×Hp):=match qK P E F ops fr H with
 |some ⟨fr',H',none⟩=>some (fr',H')|_ =>none
def Uu(ops:fC)(fr:FT)(H:Hp):RS:=
 Bool.rec (motive:=fun _ =>RS)
  (NM (uU ops) (aQo n (Bool.rec (motive:=fun _ =>Option (List T×Hp)) (HW P ⟨gl,sB 30 pc⟩ (xY (fun _ =>true) ee) ops (fr.view n) H) (aEw P ⟨gl,sB 30 pc⟩ (xY (fun _ =>true) ee) ops (fr.view n) H) (Rn ops))))
  (QH P gl ee (fun _ _ _ =>none) false ops ops.toList fr H) (aEv ops)
def Cc(f:FT->Hp->RX)(ih:FT->Hp->RX)(fr:FT)(H:Hp):RX:=wW (f fr H) (Lu fun p=>
 X.rec (motive:=fun _ =>RX) (ih p.2.1 p.2.2) (fun id=>some [(.exit id,p.2)]) (some [(.ret,p.2)]) p.1)
def Wn(f:FT->Hp->RX)(n:Nat):FT->Hp->RX:=Nat.rec (motive:=fun _ =>FT->Hp->RX) (fun _ _ =>none) (fun _ ih fr H=>Cc f ih fr H) n
def Qb(id:Nat)(r:RX):RX:=wW r (Lu fun p=>
 X.rec (motive:=fun _ =>RX) (some [p]) (fun id'=>Bool.rec (motive:=fun _ =>RX) (some [p]) (some [(.normal,p.2)]) (Nat.beq id' id)) (some [p]) p.1)
def bDz(r:RS):RX:=wW r (Lu fun p=>some [(.normal,p)])
def aEn(a b:FT->Hp->RX)(fr:FT)(H:Hp)(t:T):RX:=match t with
  | .bool c=>Bool.rec (motive:=fun _ =>RX) (b fr H) (a fr H) c|_ =>none
abbrev jD:=Array Tmp
def Hb(ps:jD)(asg bd:Code)(tr:FT)(H:Hp)(g:T):RX:=match g with
 | .fn fk first cap=>match fk,first with
  | .func gf,[]=>NM (Hh H ro) (FM H.next fun l=>wW (ee gf (.yl l::cap) (H.new (yK ⟨.ready,none,tr,n,ps,asg,bd,fun _ =>true⟩))) fun p=>aFb l tr p.2)|_,_ =>none
 |_ =>none
def CQ(c:Code):FT->Hp->RX:=
 Code.rec (motive:=fun _ =>FT->Hp->RX)
  (fun fr H=>some [(.normal,fr,H)])
  (fun _ ops d fr H=>bDz (Bool.rec (motive:=fun _ =>RS) (QH P gl ee yd true ops ops.toList fr H) (Uu P gl ee pc n ops fr H) d))
  (fun _ _ iha ihb fr H=>Cc iha ihb fr H)
  (fun c _ _ iha ihb fr H=>AI gl fr c (aEn iha ihb fr H))
  (fun id _ ih fr H=>Qb id (ih fr H))
  (fun _ ih fr H=>Wn ih N fr H)
  (fun g ps asg bd _ _ fr H=>AI gl fr g (Hb ee n ro ps asg bd fr H))
  (fun id fr H=>some [(.exit id,fr,H)])
  (fun _ _ _ _ =>none)
  (fun _ fr H=>some [(.normal,fr,H)])
  (fun _ _ _ =>none)
  (fun fr H=>some [(.ret,fr,H)])
  (fun _ _ _ =>none) c
def ZN(H:Hp)(tr:FT):List ResultVar->Option (List T)
 |[]=>some []
 | .tmp t::r=>match ZN H tr r with
  |some ts=>some (FT.gt (toP t) tr::ts)|none=>none
 | .cell a t::r=>match tX P H t (FT.gt (toP a) tr)with
  |some v=>match ZN H tr r with
   |some ts=>some (v::ts)|none=>none
  |none=>none
def Sl(H:Hp)(ts:eY):Option (T×Hp):=match ts with
 |[t]=>some (t,H)|ts=>some (.tup ts,H)
def aZe(rs:gU)(p:X×FT×Hp):Option (T×Hp):=X.rec (motive:=fun _ =>Option (T×Hp)) (wW (ZN P p.2.2 p.2.1 rs) (Sl p.2.2)) (fun _ =>none) (wW (ZN P p.2.2 p.2.1 rs) (Sl p.2.2)) p.1
def AZ:Ht->Ht->Ht
 | .nd o l r,.nd o' l' r'=> .nd (if aMy o o' then o else none) (AZ l l') (AZ r r')
 |_,_ => .nl
abbrev iY:=List (T×Hp)
def Wt(l:iY)(a:T×Hp):Option (T×Hp):=
 List.rec (motive:=fun _ =>T×Hp->Option (T×Hp)) (fun a=>some a) (fun y _ ih a=>NM (Kd a.1 y.1&&Nat.beq a.2.next y.2.next) (ih (a.1,⟨a.2.next,AZ a.2.objs y.2.objs⟩))) l a
def aDq(l:iY):Option (T×Hp):=
 List.rec (motive:=fun _ =>Option (T×Hp)) none (fun x r _ =>Wt r x) l
def aNt:Op->Bool
 | .box .. | .buildSlice .. | .alloc _ =>true|_ =>false
def MP(ops:fS):Bool:=ops.all fun o=>(match o.dst with
  |some d=>Nat.ble (Nat.succ d) n|none=> !aNt o.op)
def wS:Code->Bool
 | .region _ ops _ =>sQ ops&&MP n ops.toList| .seq a b| .cond _ a b=>wS a&&wS b| .block _ c| .loop c=>wS c| .rangeFunc _ ps asg bd=>wS asg&&(wS bd&&ps.toList.all fun d=>Nat.ble (Nat.succ d) n)| .skip| .label _ | .exit _ | .ret=>true|_ =>false
def aNe(f:fT):Bool:=match P.funcs[f]? with
 |some fn=>match fn.body with
  |some c=>wS fn.ntmps c|none=>false
 |none=>false
def fnF(f:fT)(args:eY)(H:Hp):Option (T×Hp):=wW P.funcs[f]? fun fn=>wW fn.body fun c=>
 NM (Nat.ble (Zz args) fn.ntmps) (wW (wW (CQ P gl ee yd pc N fn.ntmps none c (FT.of args 0 .nl) H) (Lu fun p=>wW (aZe P fn.results.toList p) fun r=>some [r])) aDq)
abbrev gK:=List Tmp
def XS(ps:gK)(tr:FT)(xs:eY):FT:=match ps,xs with
 |p::ps,x::xs=>XS ps (FT.st x (toP p) tr) xs|_,_ =>tr
def HF(l:Nat)(H:Hp)(x:X):Option (Bool×Hp):=KB H l fun r=>
 X.rec (motive:=fun _ =>Option (Bool×Hp)) (some (true,H.put l (yK {r with st:= .ready,pe:=none}))) (fun id=>some (false,H.put l (yK {r with st:= .done,pe:=some (.exit id)}))) (some (false,H.put l (yK {r with st:= .done,pe:=some .ret}))) x
def aIz(l:Nat)(r:Lr)(tr:FT)(H:Hp):Option (Bool×Hp):=KB H l fun r1=>match r1.st with
 | .ready=>wW (CQ P gl ee yd pc N r.n (some l) r.bd tr (H.put l (yK {r1 with st:= .busy}))) (Xu fun p=>HF l p.2.2 p.1)
 |_ =>none
def aJa(l:Nat)(args:eY)(H:Hp):Option (Bool×Hp):=KB H l fun r=>
 NM (and (Nat.beq (Zz args) r.ps.size) (and (wS r.n r.asg) (and (wS r.n r.bd) (r.ps.toList.all fun d=>Nat.ble (Nat.succ d) r.n))))
  (wW (CQ P gl ee yd pc N r.n (some l) r.asg (XS r.ps.toList r.fr args) H) (Xu fun p=>X.rec (motive:=fun _ =>Option (Bool×Hp)) (aIz P gl ee yd pc N l r p.2.1 p.2.2) (fun _ =>none) none p.1))
end
structure Rf where
 ee:FuncId->List T->Hp->Option (T×Hp)
 yd:Nat->List T->Hp->Option (Bool×Hp)
 pc:FuncId->List T->Option T
def aGa(r:Option (T×Hp)):Option T:=wW r fun p=>pF 30 p.2 p.1
def Hl(P:fA)(gl:fD)(xe:fE)(N d:Nat):Rf:=
 Nat.rec (motive:=fun _ =>Rf) ⟨xe,fun _ _ _ =>none,fun _ _ =>none⟩
  (fun _ ih=>⟨fun f ts H=>Option.rec (motive:=fun _ =>Option (T×Hp)) (NM (and (tY P f) (aNe P f)) (fnF P gl ih.ee ih.yd ih.pc N f ts H)) some (xe f ts H),fun l ts H=>aJa P gl ih.ee ih.yd ih.pc N l ts H,fun f ts=>aGa (ih.ee f ts ⟨0,.nl⟩)⟩) d
end
end Go.Ps
namespace Go.Ps
open Go.IntWalk
noncomputable section
theorem FT.gt_nl(p:fL):FT.gt p .nl=oL:=by
 induction p with
 |nil=>rfl|cons b p ih=>cases b<;>exact ih
theorem FT.gt_st(v:T):∀(p q:fL) (t:FT),FT.gt q (FT.st v p t)=if q=p then v else FT.gt q t
 |[],[],t=>rfl
 |[],b::q,t=>by
  rw[if_neg (by simp)];show FT.gt (b::q) (.nd v t.lf t.rt)=_;cases b<;>rfl
 |b::p,[],t=>by
  rw[if_neg (by simp)];cases b<;>rfl
 |b::p,c::q,t=>by
  cases b<;>cases c
  .show FT.gt q (FT.st v p t.lf)=_;rw[FT.gt_st v p q];by_cases e:q=p
   .rw[if_pos e,if_pos (by rw[e])]
   .rw[if_neg e,if_neg (by simpa using e)];rfl
  .rw[if_neg (by simp)];rfl
  .rw[if_neg (by simp)];rfl
  .show FT.gt q (FT.st v p t.rt)=_;rw[FT.gt_st v p q];by_cases e:q=p
   .rw[if_pos e,if_pos (by rw[e])]
   .rw[if_neg e,if_neg (by simpa using e)];rfl
theorem FT.gt_put(v:T)(d m:Nat)(t:FT):FT.gt (toP m) (FT.st v (toP d) t)=if m=d then v else FT.gt (toP m) t:=by
 rw[FT.gt_st];by_cases e:m=d
 .rw[if_pos (by rw[e]),if_pos e]
 .rw[if_neg (fun h=>e (Ye h)),if_neg e]
section
variable{n:Nat}{tr:FT}
theorem zJ:(tr.view n).length=n:=by simp[FT.view]
theorem NK{i:Nat}(h:i<n):(tr.view n)[i]? =some (FT.gt (toP i) tr):=by simp[FT.view,h]
theorem YJ(hw:tr.Wf n)(i:Nat):qW (tr.view n) i=FT.gt (toP i) tr:=by
 rw[sG,aX];by_cases h:i<n
 .rw[NK h];rfl
 .rw[bH (by rw[zJ];omega),hw i (by omega)];rfl
theorem Yg{d:Nat}{v:T}:(FT.st v (toP d) tr).view n=(tr.view n).set d v:=by
 apply eB;intro i;rw[cZ];by_cases h:i<n
 .rw[NK h,FT.gt_put];by_cases e:d=i
  .subst e;rw[if_pos rfl,if_pos rfl,if_pos (by rw[zJ];exact h)]
  .rw[if_neg (fun q=>e q.symm),if_neg e,NK h]
 .rw[bH (by rw[zJ];omega)];by_cases e:d=i
  .subst e;rw[if_pos rfl,if_neg (by rw[zJ];exact h)]
  .rw[if_neg e,bH (by rw[zJ];omega)]
theorem YK{dst:gQ}{v:T}:(MV tr dst v).view n=pP (tr.view n) dst v:=by
 cases dst with
 |none=>rfl|some d=>exact Yg
theorem FT.Wf.st(hw:tr.Wf n){d:Nat}(hd:d<n){v:T}:(FT.st v (toP d) tr).Wf n:=fun m hm=>by
 rw[FT.gt_put,if_neg (by omega)];exact hw m hm
theorem FT.Wf.put(hw:tr.Wf n){dst:gQ}(hd:∀d,dst=some d->d<n){v:T}:(MV tr dst v).Wf n:=by
 cases dst with
 |none=>exact hw|some d=>exact hw.st (hd d rfl)
theorem FT.of_gt:∀(l:eY) (i:Nat) (f:FT) (m:Nat),FT.gt (toP m) (FT.of l i f)=if i<=m/\m<i+l.length then l.getD (m-i) oL else FT.gt (toP m) f
 |[],i,f,m=>by
  show FT.gt (toP m) f=_;rw[if_neg (by simp)]
 |t::l,i,f,m=>by
  show FT.gt (toP m) (FT.of l (i+1) (FT.st t (toP i) f))=_;rw[FT.of_gt l (i+1)];by_cases h1:i+1<=m/\m<i+1+l.length
  .rw[if_pos h1,if_pos (by simp;omega),show m-i=(m-(i+1))+1 by omega];rfl
  .rw[if_neg h1,FT.gt_put];by_cases e:m=i
   .subst e;rw[if_pos rfl,if_pos (by simp)];simp
   .rw[if_neg e,if_neg (by simp;omega)]
theorem Wy{l:eY}(h:l.length<=n):(FT.of l 0 .nl).view n=l++List.replicate (n-l.length) oL/\(FT.of l 0 .nl).Wf n:=by
 refine⟨?_,fun m hm=>by rw[FT.of_gt,if_neg (by omega),FT.gt_nl]⟩;apply eB;intro i;by_cases hi:i<n
 .rw[NK hi,FT.of_gt,FT.gt_nl,dC];by_cases h2:i<l.length
  .rw[if_pos (by omega),if_pos h2];simp[h2]
  .rw[if_neg (by omega),if_neg h2,List.getElem?_replicate,if_pos (by omega)]
 .rw[bH (by rw[zJ];omega),bH (by simp;omega)]
end
section
variable{α β:Type}
theorem oY{o:Option β}{k:β->Option α}{r:α}(h:wW o k=some r):∃t,o=some t/\k t=some r:=by
 cases o with
 |none=>cases h|some t=>exact⟨t,rfl,h⟩
theorem vH{b:Bool}{o:Option α}{r:α}(h:NM b o=some r):b=true/\o=some r:=by
 cases b with
 |false=>cases h|true=>exact⟨rfl,h⟩
theorem vY(n:Nat)(k:Nat->α):FM n k=k n:=by cases n<;>rfl
theorem aLl(n:Int)(k:Int->α):aXq n k=k n:=by
 cases n with
 |ofNat m=>show FM m (fun j=>k (.ofNat j))=_;rw[vY]|negSucc m=>show FM m (fun j=>k (.negSucc j))=_;rw[vY]
theorem TB(l:List β)(i:Nat):aHw l i=l[i]? :=by
 induction l generalizing i with
 |nil=>rfl
 |cons x l ih=>cases i with
  |zero=>rfl|succ i=>exact ih i
theorem MF(l:List β):Zz l=l.length:=by
 have:∀(l:List β) (n:Nat),List.rec (motive:=fun _ =>Nat->Nat) (fun n=>n) (fun _ _ ih n=>FM (Nat.succ n) ih) l n=n+l.length:=by
  intro l
  induction l with
  |nil=>intro n;rfl
  |cons x l ih=>
   intro n;show FM (Nat.succ n) _ =_;rw[vY,ih];simp;omega
 have:=this l 0;rw[bN]at this;exact this
theorem SA{a b:Nat}:Nat.ble a b=true↔a<=b:=⟨Nat.le_of_ble_eq_true,Nat.ble_eq_true_of_le⟩
theorem aOo(a b:Int):ltI a b=true↔a<b:=by
 cases a with
 |ofNat a=>cases b with
  |ofNat b=>show Nat.ble (a+1) b=true↔(a:Int)<(b:Int);rw[SA];omega|negSucc b=>show false=true↔(a:Int)<Int.negSucc b;constructor<;>intro h<;>first|cases h|omega
 |negSucc a=>cases b with
  |ofNat b=>show true=true↔Int.negSucc a<(b:Int);constructor<;>intro h<;>first|rfl|omega
  |negSucc b=>show Nat.ble (b+1) a=true↔Int.negSucc a<Int.negSucc b;rw[SA];omega
theorem Rq(a b:Int):ltI a b=decide (a<b):=by rw[eD,aOo,decide_eq_true_iff]
theorem aKl(k:gB)(n:Int):aRq k n=k.wrap n:=by
 cases n with
 |ofNat m=>
  show Bool.rec (motive:=fun _ =>Int) (k.wrap (.ofNat m)) (.ofNat m) (Nat.ble m (Ot k))=_;cases e:Nat.ble m (Ot k)with
  |false=>rfl
  |true=>
   have h:=SA.1 e;show(m:Int)=k.wrap (m:Int);cases k<;>simp only[Ot]at h
   .rw[i8_in _ (by omega)]
   .rw[i16_in _ (by omega)]
   .rw[i32_in _ (by omega)]
   .rw[i64_in _ (by omega)]
   .rw[u8_in _ (by omega)]
   .rw[u16_in _ (by omega)]
   .rw[u32_in _ (by omega)]
   .rw[u64_in _ (by omega)]
 |negSucc m=>
  show Bool.rec (motive:=fun _ =>Int) (k.wrap (.negSucc m)) (.negSucc m) (and (sgn k) (Nat.ble m (Ot k)))=_;cases e:and (sgn k) (Nat.ble m (Ot k))with
  |false=>rfl
  |true=>
   simp only[aA]at e;have h:=SA.1 e.2;have hs:=e.1;show Int.negSucc m=_;cases k<;>simp only[Ot,sgn]at h hs
   .rw[i8_in _ (by omega)]
   .rw[i16_in _ (by omega)]
   .rw[i32_in _ (by omega)]
   .rw[i64_in _ (by omega)]
   all_goals cases hs
end
end
end Go.Ps
namespace Go.Ps
noncomputable section
section
variable{α:Type}{P:fA}{gl:fD}{tr:FT}{n:Nat}
theorem pS(hw:tr.Wf n){x:gF}{k:T->Option α}{r:α}(h:AI gl tr x k=some r):∃t,pE gl (tr.view n) x=some t/\k t=some r:=by
 cases x with
 |tmp t=>exact⟨_,by rw[pE,YJ hw],h⟩|const v=>obtain⟨t,h1,h2⟩:=oY h;exact⟨t,h1,h2⟩
 |global g=>obtain⟨t,h1,h2⟩:=oY h;exact⟨t,h1,h2⟩
 |func f=>exact⟨_,rfl,h⟩
theorem yS(hw:tr.Wf n):∀{l:iH} {k:List T->Option α} {r:α},UY gl tr l k=some r->∃ts,pW gl (tr.view n) l=some ts/\k ts=some r
 |[],k,r,h=>⟨[],rfl,h⟩
 |x::l,k,r,h=>by
  obtain⟨t,h1,h2⟩:=pS hw (show AI gl tr x (fun t=>UY gl tr l fun ts=>k (t::ts))=some r from h);obtain⟨ts,h3,h4⟩:=yS hw h2;exact⟨t::ts,by simp only[pW,h1,h3],h4⟩
theorem Ff(hw:tr.Wf n):∀{l:jB} {k:List (Nat×T)->Option α} {r:α},aNa gl tr l k=some r->∃ts,BA gl (tr.view n) l=some ts/\k ts=some r
 |[],k,r,h=>⟨[],rfl,h⟩
 |(i,x)::l,k,r,h=>by
  obtain⟨t,h1,h2⟩:=pS hw (show AI gl tr x (fun t=>aNa gl tr l fun ts=>k ((i,t)::ts))=some r from h);obtain⟨ts,h3,h4⟩:=Ff hw h2;exact⟨(i,t)::ts,by simp only[BA,h1,h3],h4⟩
theorem Rj{t:T}{i:IntKind->Int->Option α}{r:α}(h:isI t none i=some r):∃k n,t= .int k n/\i k n=some r:=by
 unfold isI at h;split at h
 .exact⟨_,_,rfl,h⟩
 .cases h
theorem aUg{t:T}{i:List UInt8->Option α}{r:α}(h:isS t none i=some r):∃s,t= .str s/\i s=some r:=by
 unfold isS at h;split at h
 .exact⟨_,rfl,h⟩
 .cases h
theorem aNp{op:iI}{k k':gB}{a b:Int}{c:T->Option α}{r:α}(h:aUc op k k' a b c=some r)(t:eX):∃v,xX P op t (.int k a) (.int k' b)=some v/\c v=some r:=by
 have ar:∀(m:Int),arF k c m=some r->c (.int k (k.wrap m))=some r:=fun m h=>by
  unfold arF at h;rw[aLl,aKl]at h;exact h
 have nl:∀x y:Int,not (ltI x y)=decide (y<=x):=fun x y=>by
  rw[Rq];by_cases h:x<y
  .rw[decide_eq_true h,decide_eq_false (by omega)];rfl
  .rw[decide_eq_false h,decide_eq_true (by omega)];rfl
 have ty:∀{o:Option α},NM (Zu k k') o=some r->k=k'/\o=some r:=fun h=>by
  obtain⟨h1,h2⟩:=vH h;exact⟨aGt h1,h2⟩
 have gen:∀(op:iI),op≠ .shl->op≠ .shr->k=k'->wW (uV op k a b) c=some r->∃v,xX P op t (.int k a) (.int k' b)=some v/\c v=some r:=fun op n1 n2 e h=>by
  obtain⟨v,h1,h2⟩:=oY h;refine⟨v,?_,h2⟩;cases op<;>first|exact absurd rfl n1|exact absurd rfl n2|(simp only[xX,if_pos e];exact h1)
 cases op<;>simp only[aUc]at h
 case shl=>obtain⟨v,h1,h2⟩:=oY h;exact⟨v,h1,h2⟩
 case shr=>obtain⟨v,h1,h2⟩:=oY h;exact⟨v,h1,h2⟩
 case add=>obtain⟨e,h⟩:=ty h;exact gen _ (by simp) (by simp) e (ar _ h)
 case sub=>obtain⟨e,h⟩:=ty h;exact gen _ (by simp) (by simp) e (ar _ h)
 case mul=>obtain⟨e,h⟩:=ty h;exact gen _ (by simp) (by simp) e (ar _ h)
 case eql=>obtain⟨e,h⟩:=ty h;rw[aFi]at h;exact gen _ (by simp) (by simp) e h
 case neq=>obtain⟨e,h⟩:=ty h;rw[aFi]at h;exact gen _ (by simp) (by simp) e h
 case lss=>obtain⟨e,h⟩:=ty h;rw[Rq]at h;exact gen _ (by simp) (by simp) e h
 case leq=>obtain⟨e,h⟩:=ty h;rw[nl]at h;exact gen _ (by simp) (by simp) e h
 case gtr=>obtain⟨e,h⟩:=ty h;rw[Rq]at h;exact gen _ (by simp) (by simp) e h
 case geq=>obtain⟨e,h⟩:=ty h;rw[nl]at h;exact gen _ (by simp) (by simp) e h
 all_goals(obtain⟨e,h⟩:=ty h;exact gen _ (by simp) (by simp) e h)
theorem aPt{op:iI}{a b:fV}{c:T->Option α}{r:α}(h:aWd op a b c=some r)(t:eX):∃v,xX P op t (.str a) (.str b)=some v/\c v=some r:=by
 unfold aWd at h;split at h
 .rw[Ez]at h;exact⟨_,rfl,h⟩
 .rw[Ez]at h;exact⟨_,rfl,h⟩
 .obtain⟨v,h1,h2⟩:=oY h;refine⟨v,?_,h2⟩;cases op<;>first|exact h1|(simp[BC]at h1)
theorem aLr{op:iI}{t:eX}{x y:T}{c:T->Option α}{r:α}(h:aSq P op t x y c=some r):∃v,xX P op t x y=some v/\c v=some r:=by
 unfold aSq at h;split at h
 .obtain⟨k',b,rfl,h⟩:=Rj h;exact aNp h t
 .obtain⟨b,rfl,h⟩:=aUg h;exact aPt h t
 .exact oY h
theorem Ft{b:Bool}{o o':Option α}{r:α}(h:ifB b o o'=some r):(b=true/\o=some r)\/(b=false/\o'=some r):=by
 cases b with
 |false=>exact .inr ⟨rfl,h⟩|true=>exact .inl ⟨rfl,h⟩
theorem WX{t:eX}{cs:eY}{off:Nat}{k:T->Option α}{r:α}(h:Ms P t cs off k=some r):∃v,uB P t cs off=some v/\k v=some r:=by
 unfold Ms at h;obtain⟨b,h1,h⟩:=oY h;rcases Ft h with⟨rfl,h⟩|⟨rfl,h⟩
 .obtain⟨m,h2,h⟩:=oY h;obtain⟨h3,h⟩:=vH h;rw[MF]at h3;refine⟨_,?_,h⟩;simp only[uB,h1,h2];exact if_pos (SA.1 h3)
 .rw[TB]at h;obtain⟨v,h2,h⟩:=oY h;exact⟨v,by simp only[uB,h1,h2],h⟩
theorem aHh{H:Hp}{t:eX}{k:T->Option α}{p:T}{r:α}(h:aHg P H t k p=some r):∃v,tX P H t p=some v/\k v=some r:=by
 unfold aHg at h;split at h
 .obtain⟨o,h1,h⟩:=oY h;obtain⟨v,h2,h⟩:=WX h;exact⟨v,by simp only[tX,tR,h1,h2],h⟩
 .obtain⟨v,h2,h⟩:=WX h;exact⟨v,by simp only[tX,tR,h2],h⟩
 .cases h
theorem aAl{x:T}(h:x.one=true):x.cells=[x]:=by cases x<;>first|rfl|(simp[T.one]at h)
theorem aBq{H:Hp}{t:eX}{p x:T}{k:Hp->Option α}{r:α}(h:Ti P H t p k x=some r):∃H',tK P H t p x=some H'/\k H'=some r:=by
 unfold Ti at h;split at h
 .obtain⟨m,h1,h⟩:=oY h;rcases Ft h with⟨hc,h⟩|⟨_,h⟩
  .simp only[aA]at hc;have hm:=aB hc.1;obtain⟨o,h2,h⟩:=oY h;rw[TB]at h;obtain⟨y,h3,h'⟩:=oY h;subst hm;have hx:=aAl hc.2;have hlt:=(aK.1 h3).1;refine⟨_,?_,h'⟩;simp only[tK,h2,h1];rw[if_pos ⟨by rw[hx];rfl,by omega,by rw[hx];simp[pY,hc.2]⟩,IM];congr 3;rw[hx];simp only[qT,List.length_singleton];rw[List.set_eq_take_append_cons_drop,if_pos hlt];simp
  .exact oY h
 .cases h
theorem aLh{x:T}{m:Nat}{k:T->Option α}{r:α}(h:aSj x m k=some r):∃v,Jc x m=some v/\k v=some r:=by
 unfold aSj at h;split at h
 .rw[vY]at h;exact⟨_,rfl,h⟩
 .rw[vY]at h;exact⟨_,rfl,h⟩
 .cases h
theorem aNc{s:eX}{x:T}{f o:Nat}{v:T}(h:aTm P s f=some o)(hv:Jc x o=some v):wU P s x f=some v:=by
 unfold aTm at h;unfold wU;split at h
 .rename_i fd hfd;rw[hfd];simp only;split at h
  .rename_i m hm;rw[hm];simp only;split at h
   .cases h
   .rename_i h0;cases h;rw[if_neg h0];exact hv
  .cases h
 .cases h
theorem Mg{m:Int}{k:Nat->Option α}{r:α}(h:aUx m k=some r):∃j,m= .ofNat j/\k j=some r:=by
 cases m with
 |ofNat j=>exact⟨j,rfl,h⟩|negSucc j=>cases h
theorem aTy{t:eX}{x i:T}{k:T->Option α}{r:α}(h:iaF P t x k i=some r):∃v,qM P t x i=some v/\k v=some r:=by
 unfold iaF at h;obtain⟨ik,m,rfl,h⟩:=Rj h;split at h
 .obtain⟨s,h1,h⟩:=oY h;obtain⟨q,rfl,h'⟩:=Mg h;obtain⟨hc,h'⟩:=vH h';simp only[aA]at hc;have h2:=SA.1 hc.1;have h3:=aB hc.2;rw[vY]at h';refine⟨_,?_,h'⟩;unfold eSz at h1;split at h1
  .rename_i e hd;simp only[qM,hd,h1];rw[if_pos (by constructor<;>simp;omega),if_pos h3];rfl
  .cases h1
 .exact oY h
theorem Ku{t:eX}(h:Vz P t=true):P.underlying t=some .string:=by
 unfold Vz at h;split at h
 .assumption
 .cases h
theorem aTz{t:eX}{x i:T}{k:T->Option α}{r:α}(h:idF P t x k i=some r):∃v,zM P t x i=some v/\k v=some r:=by
 unfold idF at h;obtain⟨ik,m,rfl,h⟩:=Rj h;split at h
 .obtain⟨h1,h⟩:=vH h;obtain⟨q,rfl,h'⟩:=Mg h;rw[TB]at h';obtain⟨b,h2,h'⟩:=oY h';rw[vY]at h';refine⟨_,?_,h'⟩;simp only[zM,Ku h1];rw[if_pos (by simp)];simp only[Int.ofNat_eq_natCast,Int.toNat_natCast];rw[h2];rfl
 .exact oY h
theorem aOi{H:Hp}{t:eX}{x:T}{k:T->Option α}{r:α}(h:aUm P H t k x=some r):∃v,WC P H t x=some v/\k v=some r:=by
 unfold aUm at h;split at h
 .obtain⟨h1,h⟩:=vH h;rw[vY,MF]at h;exact⟨_,by simp only[WC,zX,Ku h1],h⟩
 .exact oY h
end
def LO(P:fA)(E:tW)(F:Fc)(H:Hp)(fr:eY)(o:Oper):Option (T×Hp):=
 match oV P E (uW F o) H fr o with
 |some v=>some (v,H)|none=>rO P E F H fr o
def vX(gl:fD)(fr:eY)(o:Oper):Option (Nat×List T):=
 match o.op with
 | .call c=>match c.callee with
  | .value f=>match pE gl fr f with
   |some (.yl l)=>match pW gl fr c.args.toList with
    |some ars=>some (l,ars)|none=>none
   |_ =>none
  |_ =>none
 |_ =>none
section
variable{α:Type}{P:fA}{gl:fD}{ee:fE}{yd:fG}{tr:FT}{n:Nat}{H:Hp}
abbrev AD(gl:fD):tW:=⟨gl,fun _ _ _ =>none⟩
abbrev RY(ee:fE):Fc:=xY (fun _ =>true) ee
theorem Fq(hw:tr.Wf n){x:Option Operand}{c:Option T->Option α}{r:α}(h:Zn gl tr x c=some r):∃t,IX (pE gl (tr.view n)) x=some t/\c t=some r:=by
 cases x with
 |none=>exact⟨none,rfl,h⟩
 |some x=>
  obtain⟨t,h1,h2⟩:=pS hw (show AI gl tr x (fun v=>c (some v))=some r from h);exact⟨some t,by simp only[IX,h1],h2⟩
theorem Wc{k:T->Hp->Option α}{o:Option (T×Hp)}{r:α}(h:kR k o=some r):∃v H',o=some (v,H')/\k v H'=some r:=by
 obtain⟨p,h1,h2⟩:=oY h;exact⟨p.1,p.2,h1,h2⟩
theorem aIa(hw:tr.Wf n){o:Oper}(hd:o.dst=none->aNt o.op=false){k:T->Hp->Option α}{r:α}(h:opF P gl ee yd o.op tr H k=some r):
  (∃v H',LO P (AD gl) (RY ee) H (tr.view n) o=some (v,H')/\k v H'=some r)\/(∃l ars b H',vX gl (tr.view n) o=some (l,ars)/\yd l ars H=some (b,H')/\k (.bool b) H'=some r):=by
 obtain⟨dst,op,ty,pos,after,guard⟩:=o;have pure:∀{v:T},oV P (AD gl) (uW (RY ee) ⟨dst,op,ty,pos,after,guard⟩) H (tr.view n) ⟨dst,op,ty,pos,after,guard⟩=some v->k v H=some r->_ :=fun{v} h1 h2=>
  (.inl ⟨v,H,by simp only[LO,h1],h2⟩:(∃v H',LO P (AD gl) (RY ee) H (tr.view n) ⟨dst,op,ty,pos,after,guard⟩=some (v,H')/\k v H'=some r)\/(∃l ars b H',vX gl (tr.view n) ⟨dst,op,ty,pos,after,guard⟩=some (l,ars)/\yd l ars H=some (b,H')/\k (.bool b) H'=some r))
 have eff:∀{v:T} {H':Hp},oV P (AD gl) (uW (RY ee) ⟨dst,op,ty,pos,after,guard⟩) H (tr.view n) ⟨dst,op,ty,pos,after,guard⟩=none->rO P (AD gl) (RY ee) H (tr.view n) ⟨dst,op,ty,pos,after,guard⟩=some (v,H')->k v H'=some r->_ :=fun{v H'} h0 h1 h2=>
  (.inl ⟨v,H',by simp only[LO,h0,h1],h2⟩:(∃v H',LO P (AD gl) (RY ee) H (tr.view n) ⟨dst,op,ty,pos,after,guard⟩=some (v,H')/\k v H'=some r)\/(∃l ars b H',vX gl (tr.view n) ⟨dst,op,ty,pos,after,guard⟩=some (l,ars)/\yd l ars H=some (b,H')/\k (.bool b) H'=some r))
 have own:aNt op=false\/uW (RY ee) ⟨dst,op,ty,pos,after,guard⟩=true:=by
  cases dst with
  |none=>exact .inl (hd rfl)|some d=>exact .inr rfl
 cases op<;>simp only[opF]at h<;>try(cases h;done)
 case move x=>obtain⟨t,h1,h2⟩:=pS hw h;exact pure (by simp only[oV,h1]) h2
 case assign x=>obtain⟨t,h1,h2⟩:=pS hw h;exact pure (by simp only[oV,h1]) h2
 case pick c a b=>
  obtain⟨t,h1,h2⟩:=pS hw h;unfold aGk at h2;split at h2
  .rename_i q;rcases Ft h2 with⟨rfl,h2⟩|⟨rfl,h2⟩
   .obtain⟨v,h3,h4⟩:=pS hw h2;exact pure (by simp only[oV,h1,h3];rfl) h4
   .obtain⟨v,h3,h4⟩:=pS hw h2;exact pure (by simp only[oV,h1,h3];rfl) h4
  .cases h2
 case alloc t=>
  obtain⟨z,h1,h2⟩:=oY h;unfold aNk at h2;rw[vY]at h2;exact eff rfl (by simp only[rO,h1]) h2
 case box t x=>
  rcases own with hf|own
  .cases hf
  obtain⟨y,h1,h2⟩:=pS hw h;unfold aNk at h2;rw[vY]at h2;exact eff (by simp only[oV,own,if_true]) (by simp only[rO,h1]) h2
 case build t ps=>
  obtain⟨l,h1,h2⟩:=Ff hw h;obtain⟨v,h3,h4⟩:=oY h2;exact pure (by simp only[oV,h1,h3]) h4
 case buildSlice t len ps=>
  rcases own with hf|own
  .cases hf
  obtain⟨l,h1,h2⟩:=Ff hw h;split at h2
  .rename_i e f xs hu hb;split at h2
   .rename_i s hs;rw[vY]at h2;exact eff (by simp only[oV,own,if_true]) (by simp only[rO,h1,hu,hb,hs]) h2
   .cases h2
  .cases h2
 case insert t m x v=>
  obtain⟨a,h1,h⟩:=pS hw h;obtain⟨b,h2,h⟩:=pS hw h;obtain⟨c,h3,h⟩:=pS hw h;obtain⟨H',h4,h⟩:=oY h;exact eff rfl (by simp only[rO,h1,h2,h3,h4]) h
 case load t a=>
  obtain⟨p,h1,h⟩:=pS hw h;obtain⟨v,h2,h⟩:=aHh h;exact pure (by simp only[oV,h1,h2]) h
 case store t p x=>
  obtain⟨a,h1,h⟩:=pS hw h;obtain⟨b,h2,h⟩:=pS hw h;obtain⟨H',h3,h⟩:=aBq h;exact eff rfl (by simp only[rO,h1,h2,h3]) h
 case nilCheck x=>
  obtain⟨a,h1,h⟩:=pS hw h;obtain⟨v,h2,h⟩:=oY h;exact pure (by simp only[oV,h1,h2]) h
 case binOp op t x y t'=>
  obtain⟨a,h1,h⟩:=pS hw h;obtain⟨b,h2,h⟩:=pS hw h;obtain⟨h3,h⟩:=vH h;obtain⟨v,h4,h⟩:=aLr h;exact pure (by simp only[oV,h1,h2,h3,if_true,h4]) h
 case unOp op t x=>
  obtain⟨a,h1,h⟩:=pS hw h;obtain⟨v,h2,h⟩:=oY h;exact pure (by simp only[oV,h1,h2]) h
 case convert s d x=>
  obtain⟨a,h1,h⟩:=pS hw h;obtain⟨v,h2,h⟩:=oY h;exact pure (by simp only[oV,h1,h2]) h
 case makeFunc f a c=>
  obtain⟨as',h1,h⟩:=yS hw h;obtain⟨cs,h2,h⟩:=yS hw h;exact pure (by simp only[oV,h1,h2]) h
 case makeMap t r=>
  obtain⟨q,h1,h⟩:=Fq hw h;obtain⟨h2,h⟩:=vH h;rw[vY]at h;exact eff rfl (by simp only[rO,h1,h2,if_true]) h
 case makeSlice t l c=>
  obtain⟨a,h1,h⟩:=pS hw h;obtain⟨b,h2,h⟩:=pS hw h;obtain⟨v,H',h3,h⟩:=Wc h;exact eff rfl (by simp only[rO,h1,h2,h3]) h
 case slice t x lo hi mx=>
  cases mx with
  |some m=>cases h
  |none=>
   obtain⟨a,h1,h⟩:=pS hw (show AI gl tr x (fun x=>Zn gl tr lo fun l=>Zn gl tr hi fun h=>wW (wY P t x l h) (kV H k))=some r from h);obtain⟨l,h2,h⟩:=Fq hw h;obtain⟨q,h3,h⟩:=Fq hw h;obtain⟨v,h4,h⟩:=oY h;exact pure (by simp only[oV,h1,h2,h3,h4]) h
 case fieldAddr s x f=>
  obtain⟨a,h1,h⟩:=pS hw h;obtain⟨q,h2,h⟩:=oY h;obtain⟨v,h3,h⟩:=aLh h;exact pure (by simp only[oV,h1,aNc h2 h3]) h
 case field t x f=>
  obtain⟨a,h1,h⟩:=pS hw h;unfold hF2 at h;split at h
  .obtain⟨fd,h2,h⟩:=oY h;obtain⟨v,h3,h⟩:=WX h;exact pure (by simp only[oV,h1,h2,h3]) h
  .cases h
 case indexAddr t x i=>
  obtain⟨a,h1,h⟩:=pS hw h;obtain⟨b,h2,h⟩:=pS hw h;obtain⟨v,h3,h⟩:=aTy h;exact pure (by simp only[oV,h1,h2,h3]) h
 case index t x i=>
  obtain⟨a,h1,h⟩:=pS hw h;obtain⟨b,h2,h⟩:=pS hw h;obtain⟨v,h3,h⟩:=aTz h;exact pure (by simp only[oV,h1,h2,h3]) h
 case lookup t m x ok=>
  obtain⟨a,h1,h⟩:=pS hw h;obtain⟨b,h2,h⟩:=pS hw h;obtain⟨v,h3,h⟩:=oY h;exact pure (by simp only[oV,h1,h2,h3]) h
 case mapUpdate t m x v=>
  obtain⟨a,h1,h⟩:=pS hw h;obtain⟨b,h2,h⟩:=pS hw h;obtain⟨c,h3,h⟩:=pS hw h;obtain⟨H',h4,h⟩:=oY h;exact eff rfl (by simp only[rO,h1,h2,h3,h4]) h
 case mapEntry t m x=>
  obtain⟨a,h1,h⟩:=pS hw h;obtain⟨b,h2,h⟩:=pS hw h;obtain⟨v,H',h3,h⟩:=Wc h;exact eff rfl (by simp only[rO,h1,h2,h3]) h
 case entryStore t m x v=>
  obtain⟨a,h1,h⟩:=pS hw h;obtain⟨b,h2,h⟩:=pS hw h;obtain⟨c,h3,h⟩:=pS hw h;obtain⟨H',h4,h⟩:=oY h;exact eff rfl (by simp only[rO,h1,h2,h3,h4]) h
 case extract x i=>
  obtain⟨a,h1,h⟩:=pS hw h;unfold aZs at h;split at h
  .obtain⟨v,h2,h⟩:=oY h;rw[TB]at h2;exact pure (by simp only[oV,h1,h2]) h
  .cases h
 case call c=>
  obtain⟨callee,args,tys⟩:=c;unfold hC at h;cases callee with
  |invoke r m=>cases h
  |value f=>
   obtain⟨t,h1,h⟩:=pS hw (show AI gl tr f _ =some r from h);unfold aGh at h;split at h
   .split at h
    .obtain⟨ars,h2,h⟩:=yS hw h;obtain⟨v,H',h3,h⟩:=Wc h;refine eff (by simp only[oV,uN,h1,h2]) ?_ h;simp only[rO,h1,h2];rw[EG];exact h3
    .cases h
   .obtain⟨ars,h2,h⟩:=yS hw h;obtain⟨p,h3,h⟩:=oY h;exact .inr ⟨_,ars,p.1,p.2,by simp only[vX,h1,h2],h3,h⟩
   .cases h
  |builtin b=>
   have h:hBu P gl tr H k b args.toList tys.toList=some r:=h;unfold hBu at h;split at h
   .obtain⟨ars,h1,h⟩:=yS hw h;unfold aZu at h;split at h
    .rename_i a t ts ht;obtain⟨v,h2,h⟩:=aOi h;refine pure ?_ h;simp only[oV,uN,ht]
     match hx:args.toList,h1 with
     |[x],h1=>
      simp only[pW]at h1;split at h1
      .rename_i y hy;cases h1;simp only[hy,h2]
      .cases h1
     |[],h1=>simp[pW]at h1
     |x::y::l,h1=>
      simp only[pW]at h1;split at h1
      .split at h1
       .rename_i ts' hts;split at hts
        .split at hts
         .cases hts;cases h1
         .cases hts
        .cases hts
       .cases h1
      .cases h1
    .cases h
   .obtain⟨ars,h1,h⟩:=yS hw h;unfold aZo at h;split at h
    .rename_i a b t t' ht;obtain⟨v,H',h2,h⟩:=Wc h;refine eff (by simp only[oV,uN]) ?_ h;simp only[rO,ht];have happ:∀z,NS P (EW (RY ee).own dst) H t t' a b=z↔rT P H t t' a b=z:=fun z=>by
      have:EW (RY ee).own dst=false:=by cases dst<;>rfl
      unfold NS;rw[this];rfl
     match hx:args.toList,h1 with
     |[x,y],h1=>
      simp only[pW]at h1;split at h1
      .rename_i u hu;split at h1
       .rename_i us hus;split at hus
        .rename_i w hw';cases hus;cases h1;simp only[hu,hw'];exact(happ _).2 h2
        .cases hus
       .cases h1
      .cases h1
     |[],h1=>simp[pW]at h1
     |[x],h1=>
      simp only[pW]at h1;split at h1
      .cases h1
      .cases h1
     |x::y::z::l,h1=>
      have:∀{l:iH} {ts:eY},pW gl (tr.view n) l=some ts->ts.length=l.length:=by
       intro l
       induction l with
       |nil=>intro ts h;cases h;rfl
       |cons x l ih=>
        intro ts h;simp only[pW]at h;split at h
        .split at h
         .rename_i us hus;cases h;simp[ih hus]
         .cases h
        .cases h
      have:=this h1;simp at this
    .cases h
   .obtain⟨ars,h1,h⟩:=yS hw h;unfold Vt at h;split at h
    .obtain⟨v,h2,h⟩:=oY h;exact pure (by simp only[oV,uN,h1,h2]) h
    .cases h
   .obtain⟨ars,h1,h⟩:=yS hw h;unfold Vt at h;split at h
    .obtain⟨v,h2,h⟩:=oY h;exact pure (by simp only[oV,uN,h1,h2]) h
    .cases h
   .obtain⟨ars,h1,h⟩:=yS hw h;unfold aZr at h;split at h
    .rename_i a b t ts ht;obtain⟨H',h2,h⟩:=oY h;refine eff (by simp only[oV,uN]) ?_ h;simp only[rO,ht]
     match hx:args.toList,h1 with
     |[x,y],h1=>
      simp only[pW]at h1;split at h1
      .rename_i u hu;split at h1
       .rename_i us hus;split at hus
        .rename_i w hw';cases hus;cases h1;simp only[hu,hw',h2]
        .cases hus
       .cases h1
      .cases h1
     |[],h1=>simp[pW]at h1
     |[x],h1=>
      simp only[pW]at h1;split at h1
      .cases h1
      .cases h1
     |x::y::z::l,h1=>
      have:∀{l:iH} {ts:eY},pW gl (tr.view n) l=some ts->ts.length=l.length:=by
       intro l
       induction l with
       |nil=>intro ts h;cases h;rfl
       |cons x l ih=>
        intro ts h;simp only[pW]at h;split at h
        .split at h
         .rename_i us hus;cases h;simp[ih hus]
         .cases h
        .cases h
      have:=this h1;simp at this
    .cases h
   .cases h
end
end
end Go.Ps
namespace Go.Ps
noncomputable section
def Iu(M H:Hp):Prop:=M.next=H.next/\∀l o,M.any l=some o->H.any l=some o
theorem Iu.refl(H:Hp):Iu H H:=⟨rfl,fun _ _ h=>h⟩
theorem Iu.trans{A B C:Hp}(h:Iu A B)(k:Iu B C):Iu A C:=⟨h.1.trans k.1,fun l o q=>k.2 l o (h.2 l o q)⟩
theorem Iu.get{M H:Hp}(h:Iu M H){l:Nat}{o:Ob}(q:M.get l=some o):H.get l=some o:=by
 obtain⟨h1,h2⟩:=pJ q;exact yQ (h.2 l o h1) h2
theorem St.le{g:G}{M H:Hp}(hs:St g H)(h:Iu M H):St g M:=
 ⟨fun l o ho=>hs.own l o (h.get ho),fun l o m ho hm=>hs.ownM l o m (h.2 l o ho) hm,fun l l' o o' h1 h2 e=>hs.sep l l' o o' (h.2 l o h1) (h.2 l' o' h2) e,fun l hl=>hs.new l (by rw[<-h.1];exact hl)⟩
theorem oX.le{H0 H M:Hp}{g0 g:G}(hs:oX H0 g0 H g)(h:Iu M H):oX H0 g0 M g:=
 ⟨hs.os,hs.tape,hs.output,hs.size,hs.block,hs.sub,hs.fresh,hs.al,hs.loc,hs.cp,fun l o ho=>hs.live l o (h.2 l o ho)⟩
theorem Rg:∀p,Ht.gtp p .nl=none
 |[]=>rfl|b::p=>by cases b<;>exact Rg p
theorem MI:∀(p:fL) {a b:Ht} {o:Ob},Ht.gtp p (AZ a b)=some o->Ht.gtp p a=some o/\Ht.gtp p b=some o
 |p,.nl,b,o,h=>by
  rw[show AZ .nl b= .nl by cases b<;>rfl,Rg]at h;cases h
 |p,.nd ..,.nl,o,h=>by
  rw[show AZ (.nd ..) .nl= .nl from rfl,Rg]at h;cases h
 |[],.nd x l r,.nd x' l' r',o,h=>by
  have h2:(if aMy x x' then x else none)=some o:=h;clear h;split at h2
  .rename_i he;have:=aMz he;subst this;exact⟨h2,h2⟩
  .cases h2
 |true::p,.nd x l r,.nd x' l' r',o,h=>MI p (show Ht.gtp p (AZ r r')=some o from h)|false::p,.nd x l r,.nd x' l' r',o,h=>MI p (show Ht.gtp p (AZ l l')=some o from h)
theorem Mf:∀{l:iY} {a r:T×Hp},Wt l a=some r->(a.1=r.1/\Iu r.2 a.2)/\∀x∈l,x.1=r.1/\Iu r.2 x.2
 |[],a,r,h=>by
  cases(show some a=some r from h);exact⟨⟨rfl,Iu.refl _⟩,fun x hx=>by cases hx⟩
 |y::l,a,r,h=>by
  obtain⟨hc,h⟩:=vH (show NM (Kd a.1 y.1&&Nat.beq a.2.next y.2.next) (Wt l (a.1,⟨a.2.next,AZ a.2.objs y.2.objs⟩))=some r from h);simp only[aA]at hc;obtain⟨⟨h1,h2⟩,h3⟩:=Mf h;have e1:=wQ _ hc.1;have e2:=aB hc.2;have la:Iu ⟨a.2.next,AZ a.2.objs y.2.objs⟩ a.2:=⟨rfl,fun l o ho=>(MI (toP l) ho).1⟩;have lb:Iu ⟨a.2.next,AZ a.2.objs y.2.objs⟩ y.2:=⟨e2,fun l o ho=>(MI (toP l) ho).2⟩;refine⟨⟨h1,h2.trans la⟩,fun x hx=> ?_⟩;rcases aU.1 hx with rfl|hx
  .exact⟨e1.symm.trans h1,h2.trans lb⟩
  .exact h3 x hx
theorem Ym{l:iY}{r:T×Hp}(h:aDq l=some r):∀x∈l,x.1=r.1/\Iu r.2 x.2:=by
 cases l with
 |nil=>cases h
 |cons x l=>
  obtain⟨h1,h2⟩:=Mf (show Wt l x=some r from h);intro y hy;rcases aU.1 hy with rfl|hy
  .exact h1
  .exact h2 y hy
theorem IC{β γ:Type}{k:β->Option (List γ)}:∀{l:List β} {r:List γ},Lu k l=some r->∀x∈l,∃q,k x=some q/\∀y∈q,y∈r
 |[],_,_,x,hx=>by cases hx
 |[y],r,h,x,hx=>by
  have:x=y:=by simpa using hx
  subst this;exact⟨r,h,fun _ h=>h⟩
 |y::z::l,r,h,x,hx=>by
  obtain⟨a,ha,h⟩:=oY (show wW (k y) (fun a=>wW (Lu k (z::l)) fun b=>some (a++b))=some r from h);obtain⟨b,hb,h⟩:=oY h;cases h;rcases aU.1 hx with rfl|hx
  .exact⟨a,ha,fun w hw=>List.mem_append_left _ hw⟩
  .obtain⟨q,h1,h2⟩:=IC hb x hx;exact⟨q,h1,fun w hw=>List.mem_append_right _ (h2 w hw)⟩
theorem Dl{β γ:Type}{k:β->Option γ}{l:List β}{r:γ}(h:Xu k l=some r):∃x,l=[x]/\k x=some r:=by
 unfold Xu at h;split at h
 .exact⟨_,rfl,h⟩
 .cases h
theorem oX.dropO(H:Hp)(g:G)(l:Nat):oX H g (H.drop l) g:=by
 refine⟨rfl,rfl,rfl,aZ _,fun _ _ _ =>rfl,fun _ h=>h,fun _ h=> .inl h,fun _ h=>h,fun _ _ =>rfl,fun _ _ =>rfl,fun m o ho=> ?_⟩;rw[sJ]at ho;split at ho
 .cases ho
 .exact .inl ⟨m,o,ho,rfl⟩
theorem St.dropO{g:G}{H:Hp}(hs:St g H)(l:Nat):St g (H.drop l):=by
 have hany:∀m q,(H.drop l).any m=some q->H.any m=some q:=fun m q hq=>by
  rw[sJ]at hq;split at hq
  .cases hq
  .exact hq
 refine⟨fun m q hq=> ?_,fun m q mo hq hme=>hs.ownM m q mo (hany m q hq) hme,fun m m' q q' h1 h2 e=>hs.sep m m' q q' (hany m q h1) (hany m' q' h2) e,fun m hm=>hs.new m hm⟩;obtain⟨hqa,hqm⟩:=pJ hq;exact hs.own m q (yQ (hany m q hqa) hqm)
theorem DT{g:G}(h:qP g)(b:Nat)(o:Obj):qP (g.setOb b o):=fun k hk=>by
 have:=h k hk;simpa [G.setOb]using this
section
variable{P:fA}{gl:fD}{g:G}
abbrev hX:=Nat->Bool
theorem rH.filter(p:hX):∀{ms:gG} {es:fQ},rH g ms es->rH g (ms.filter fun e=>p e.born) (es.filter fun e=>p e.1)
 |[],[],_ =>⟨rfl,RdL.nil,RdL.nil⟩|[],_ ::_,h=>by have:=h.len;simp at this|_ ::_,[],h=>by have:=h.len;simp at this
 |m::ms,e::es,h=>by
  obtain⟨h1,h2,h3,h4⟩:=h.inv_cons;have:=rH.filter p h4;rw[List.filter_cons,List.filter_cons,h1];cases p e.1 with
  |true=>exact rH.cons h1 h2 h3 this|false=>exact this
theorem Hq{w:gI}{r bm since last c:Nat}{seen:fN}{ms:iM}(hr:w.heap[r]? =some (.mapIter (some bm) since seen.toArray last))(hb:w.heap[bm]? =some (.map ms c))(hold:∀x∈ms.toList,x.born<since)(hsc:since<=last)(ty:eX):
  ((leftOf ms seen.toArray).size=0/\(Instr.next (.pointer (some ⟨r,0,none⟩)) false ty).run P w= .ok (.tuple #[.bool false]) w)\/
  ∃e∈(leftOf ms seen.toArray).toList,∃w1:World,(w1=w\/w1=w.drew)/\(Instr.next (.pointer (some ⟨r,0,none⟩)) false ty).run P w= .ok (.tuple #[.bool true,e.key,e.val]) {w1 with heap:=w1.heap.setIfInBounds r (.mapIter (some bm) since (seen.toArray.push e.born) c)}:=by
 simp only[Instr.next,getObj,aO,Sem.run,hr,hb,Result.andThen,next_test_false seen.toArray ms since last hold hsc,bA,if_false];unfold leftOf;have hmem:∀x∈(Array.filter (fun e=> !seen.toArray.contains e.born) ms).toList,x.born<since:=fun x hx=>hold x (by simp at hx⊢;exact hx.1);generalize Array.filter (fun e=> !seen.toArray.contains e.born) ms=L at hmem⊢;have e1:L.filter (fun x=>decide (x.born<since))=L:=Array.filter_eq_self.2 (fun x hx=>by simpa using hmem x (by simpa using hx));have e2:L.filter (fun x=>decide (x.born>=since))= #[]:=by
  rw[Array.filter_eq_empty_iff];intro x hx;have:=hmem x (by simpa using hx);simp;omega
 simp only[e1,e2,Array.append_empty];by_cases h0:L.size=0
 .left;have:L= #[]:=Array.eq_empty_of_size_eq_zero h0;subst this;refine⟨rfl,?_⟩;simp[choose,Sem.run,Question.forced]
 .right;have hne:L.isEmpty=false:=by simp[Array.isEmpty,h0]
  simp only[hne,bA,if_false,Array.empty_append,Array.size_map];have hch:∃(j:Nat) (w1:gI),j<L.size/\(w1=w\/w1=w.drew)/\(choose (Question.mapNext L.size)).run P w= .ok j w1:=by
   by_cases hf:L.size<=1
   .exact⟨0,w,by omega,.inl rfl,by simp[choose,Sem.run,Question.forced,hf]⟩
   .exact⟨_,w.drew,Nat.mod_lt _ (by omega),.inr rfl,by
     simp only[choose,Sem.run,Question.forced,aI,hf,if_false,Question.cut]
     rfl⟩
  obtain⟨j,w1,hj,hal,hrun⟩:=hch;refine⟨L[j],by simp,w1,hal,?_⟩;have hr1:w1.heap[r]? =some (.mapIter (some bm) since seen.toArray last):=by rcases hal with rfl|rfl<;>exact hr
  have hset:∀o',(setObj r o').run P w1= .ok () {w1 with heap:=w1.heap.setIfInBounds r o'}:=fun o'=>by simp[setObj,Sem.run,hr1]
  simp only[hrun,Array.getElem?_map,Array.getElem?_eq_getElem hj,bW,aO,hset,Result.andThen];rfl
theorem aOv{H:Hp}(hs:St g H)(hg:qP g){isS:Bool}{x:T}{cs:iY}(h:aHt H isS x=some cs){v:fP}(hv:Rd g v x)(ty:eX):
  ∃t H1 u g',(t,H1)∈cs/\(Instr.next v isS ty).run P g.w= .ok u g'.w/\oX H g H1 g'/\qP g'/\St g' H1/\Rd g' u t:=by
 unfold aHt at h;split at h
 .rename_i l;have hv':v= .pointer (some ⟨g.loc l,0,none⟩):=by cases hv;rfl
  subst hv';split at h
  .rename_i o ho;split at h
   .rename_i m since seen last hm;split at h
    .cases h
    .rename_i hisS;have hisS:isS=false:=by simpa using hisS
     subst hisS;split at h
     .rename_i om hom;split at h
      .rename_i c es hme;split at h
       .rename_i hc;simp only[aA]at hc;obtain⟨hal,hSl,b,hb,hmo⟩:=hs.ownM l o _ ho hm;obtain⟨ham,e⟩:=hmo;subst e;obtain⟨_,_,b2,hb2,ms,e2,hmr⟩:=hs.ownM m om _ hom hme;subst e2;have hold:∀x∈ms.toList,x.born<since:=by
         intro x hx;obtain⟨i,hi,rfl⟩:=List.mem_iff_getElem.1 hx;have h1:=hmr.1;have hi':i<es.length:=by rw[<-hmr.len];exact hi
         have h2:ms.toList[i].born=(es[i]).1:=by
          have:=congrArg (fun l=>l[i]?) h1;simp only[aY,aC hi,aC hi',bW]at this;exact bQ this
         rw[h2];have h3:=hc.1;rw[aG]at h3;exact SA.1 (h3 _ (bV hi'))
        have hleft:rH g (leftOf ms seen.toArray).toList (MD seen es):=by
         have:=rH.filter (fun b=> !seen.contains b) hmr;have e:(leftOf ms seen.toArray).toList=ms.toList.filter fun e=> !seen.contains e.born:=by
          unfold leftOf;rw[Array.toList_filter];congr 1;funext e;simp
         rw[e];exact this
        rcases Hq (P:=P) hb hb2 hold (SA.1 hc.2) ty with⟨h0,hrun⟩|⟨e,he,w1,hw1,hrun⟩
        .have hnil:MD seen es=[]:=by
          have:=hleft.len;rw[cQ,h0]at this;exact cY.1 this.symm
         rw[hnil]at h;cases h;exact⟨_,_,_,g,bF.2 rfl,hrun,oX.dropO H g l,hg,hs.dropO l,Rd.mk_tup (vs:=[.bool false]) (RdL.cons (.bool false) RdL.nil)⟩
        .obtain⟨i,hi,rfl⟩:=List.mem_iff_getElem.1 he;have hi':i<(MD seen es).length:=by rw[<-hleft.len];exact hi
         obtain⟨e2,q1,q2,q3,q4⟩:=hleft.at_ (aC hi');rw[aC hi]at q1;cases bQ q1;split at h
         .rename_i hnil;rw[hnil]at hi';simp at hi'
         .cases h;obtain⟨gd,hgd⟩:∃gd:G,gd={g with w:=w1}:=⟨_,rfl⟩;have hp:PStep g gd:=by
           rw[hgd];rcases hw1 with rfl|rfl
           .exact PStep.refl g
           .exact⟨rfl,rfl,rfl,aZ _,fun _ _ =>rfl,fun _ h=>h,fun _ h=> .inl h,rfl,rfl,rfl⟩
          have hokd:qP gd:=fun b hb=>bP (hg b (by rw[hgd]at hb;exact hb)) hp.size;have hlocd:∀k,gd.loc k=g.loc k:=fun k=>by rw[hgd]
          have hmo':MoR gd (.mit m since (seen++[(MD seen es)[i].1]) c) (.mapIter (some (g.loc m)) since (seen.toArray.push (leftOf ms seen.toArray).toList[i].born) c):=by
           refine⟨by rw[hgd];exact ham,?_⟩;rw[hlocd,<-q2];simp
          refine⟨.tup [.bool true,(MD seen es)[i].2.1,(MD seen es)[i].2.2],H.put l (Zt (.mit m since (seen++[(MD seen es)[i].1]) c)),.tuple #[.bool true,(leftOf ms seen.toArray).toList[i].key,(leftOf ms seen.toArray).toList[i].val],gd.setOb (gd.loc l) (.mapIter (some (g.loc m)) since (seen.toArray.push (leftOf ms seen.toArray).toList[i].born) c),?_,?_,hp.toS.trans (vS ho _ _),DT hokd _ _,DU (hs.pstep hp) ho rfl hmo',?_⟩
          .exact bU.2 ⟨_,bV hi',rfl⟩
          .rw[hrun,hlocd,hgd];rfl
          .have hstp:=vS (g:=gd) (H:=H) ho (.mapIter (some (g.loc m)) since (seen.toArray.push (leftOf ms seen.toArray).toList[i].born) c) (Zt (.mit m since (seen++[(MD seen es)[i].1]) c));exact(Rd.mk_tup (vs:=[.bool true,_,_]) (RdL.cons (.bool true) (RdL.cons (q3.pstep hp) (RdL.cons (q4.pstep hp) RdL.nil)))).sstep (hs.pstep hp) hstp
       .cases h
      .cases h
     .cases h
   .rename_i s pos hm;split at h
    .rename_i hisS;subst hisS;obtain⟨hal,hSl,b,hb,u,hu,e⟩:=hs.ownM l o _ ho hm;subst e;have hsz:u.size=s.length:=by rw[<-hu];rfl
     split at h
     .rename_i c hc;split at h
      .rename_i hlt;cases h;have hpos:pos<u.size:=by rw[hsz];exact(aK.1 hc).1
       have hbyte:u[pos]'hpos=c:=by
        have h1:u.data.toList[pos]? =some c:=by rw[hu];exact hc
        rw[eL]at h1;obtain⟨h2,h3⟩:=aL.1 h1;exact h3
       have hasc:(u[pos]'hpos).toNat<128:=by rw[hbyte];exact SA.1 hlt
       refine⟨_,_,.tuple #[.bool true,.int .i64 pos,.int .i32 c.toNat],g.setOb (g.loc l) (.stringIter u (pos+1)),bF.2 rfl,?_,vS ho _ _,DT hg _ _,DU hs ho rfl ⟨u,hu,rfl⟩,Rd.mk_tup (vs:=[.bool true,_,_]) (RdL.cons (.bool true) (RdL.cons (.int _ _) (RdL.cons (.int _ _) RdL.nil)))⟩;have hset:∀o',(setObj (g.loc l) o').run P g.w= .ok () {g.w with heap:=g.w.heap.setIfInBounds (g.loc l) o'}:=fun o'=>by simp[setObj,Sem.run,hb]
       simp only[Instr.next,getObj,aO,Sem.run,hb,Result.andThen,hpos,if_true,decode_ascii u pos hpos hasc,hset];rw[hbyte];simp[goInt,G.setOb]
      .cases h
     .rename_i hc;cases h;have hpos:¬pos<u.size:=fun q=>by
       rw[hsz]at q;rw[aC q]at hc;cases hc
      refine⟨_,_,_,g,bF.2 rfl,?_,oX.dropO H g l,hg,hs.dropO l,Rd.mk_tup (vs:=[.bool false]) (RdL.cons (.bool false) RdL.nil)⟩;simp[Instr.next,getObj,Sem.run,hb,hpos]
    .cases h
   .cases h
  .cases h
 .cases h
theorem Kh{b:Nat}:∀{ms:gG} {es:fQ} {e:Nat×T×T},rH g ms es->es.find? (fun e=>Nat.beq e.1 b)=some e->∃m,ms.find? (fun m=>m.born==b)=some m/\Rd g m.key e.2.1/\Rd g m.val e.2.2
 |[],[],e,_,h=>by cases h|[],_ ::_,_,h,_ =>by have:=h.len;simp at this|_ ::_,[],_,h,_ =>by have:=h.len;simp at this
 |m::ms,x::es,e,h,hf=>by
  obtain⟨h1,h2,h3,h4⟩:=h.inv_cons;rw[List.find?_cons]at hf⊢;by_cases hb:x.1=b
  .rw[show Nat.beq x.1 b=true from aUy.2 hb]at hf;cases hf;exact⟨m,by rw[h1];simp[hb],h2,h3⟩
  .have hn:Nat.beq x.1 b=false:=by
    cases e:Nat.beq x.1 b with
    |false=>rfl|true=>exact absurd (aB e) hb
   rw[hn]at hf;obtain⟨m',q1,q2⟩:=Kh h4 hf;exact⟨m',by rw[h1,show(x.1==b)=false by simpa using hb];exact q1,q2⟩
theorem aPr{H:Hp}(hs:St g H)(hg:qP g){x:T}{cs:iY}(h:aJx H x=some cs){v:fP}(hv:Rd g v x):
  ∃t H1 u g',(t,H1)∈cs/\(Instr.entry v).run P g.w= .ok u g'.w/\oX H g H1 g'/\qP g'/\St g' H1/\Rd g' u t:=by
 unfold aJx at h;split at h
 .rename_i l;have hv':v= .pointer (some ⟨g.loc l,0,none⟩):=by cases hv;rfl
  subst hv';split at h
  .rename_i o ho;split at h
   .rename_i m since seen last hm;split at h
    .rename_i b om hlast hom;split at h
     .rename_i c es hme;split at h
      .rename_i hc;split at h
       .rename_i e he;cases h;obtain⟨hal,hSl,bo,hb,ham,e1⟩:=hs.ownM l o _ ho hm;subst e1;obtain⟨_,_,b2,hb2,ms,e2,hmr⟩:=hs.ownM m om _ hom hme;subst e2;obtain⟨mm,q1,q2,q3⟩:=Kh hmr he;refine⟨_,_,.tuple #[mm.key,mm.val],g,bF.2 rfl,?_,oX.refl H g,hg,hs,Rd.mk_tup (vs:=[mm.key,mm.val]) (RdL.cons q2 (RdL.cons q3 RdL.nil))⟩;have hback:seen.toArray.back? =some b:=by simpa using hlast
        have hfind:ms.find? (fun m=>m.born==b)=some mm:=by rw[<-q1,<-Array.find?_toList]
        simp only[Instr.entry,getObj,aO,Sem.run,hb,hb2,Result.andThen,hback,aB hc,hfind];simp
       .cases h
      .cases h
     .cases h
    .cases h
   .cases h
  .cases h
 .cases h
theorem aIo{H H1:Hp}(hs:St g H)(hg:qP g){ty:eX}{x t:T}(h:Sf P H ty x=some (t,H1)){v:fP}(hv:Rd g v x):
  ∃u g',(Instr.range ty v).run P g.w= .ok u g'.w/\oX H g H1 g'/\qP g'/\St g' H1/\Rd g' u t:=by
 unfold Sf at h;split at h
 .rename_i m;split at h
  .rename_i kt et o hty ho;split at h
   .rename_i c es hme;cases h;obtain⟨ham,_,b,hb,ms,e,hmr⟩:=hs.ownM m o _ ho hme;subst e;have hv':v= .map (some (g.loc m)):=by cases hv;rfl
    subst hv';have hst:=wM hs (.mapIter (some (g.loc m)) c #[] c) 0 (Zt (.mit m c [] c));have hn:m≠H.next:=fun e=>hs.new H.next (aZ _) (e▸ham);refine⟨_,g.own H.next (.mapIter (some (g.loc m)) c #[] c) 0,?_,hst,EV hg _ _ _,MQ hs hg fun _ keep=>⟨fun e=>(by cases e),fun mo e=> ?_⟩,Gu _ _ _⟩
    .rw[run_range_map g.w ty kt et _ ms c hty hb];rfl
    .cases e;exact⟨.inl ham,by simp[G.own,hn]⟩
   .cases h
  .cases h
 .rename_i s;split at h
  .rename_i hty;cases h;obtain⟨u,rfl,hu⟩:=hv.inv_str;refine⟨_,g.own H.next (.stringIter u 0) 0,?_,wM hs _ 0 (Zt (.sit s 0)),EV hg _ _ _,MQ hs hg fun _ keep=>⟨fun e=>(by cases e),fun mo e=> ?_⟩,Gu _ _ _⟩
   .rw[run_range_string g.w ty u hty];rfl
   .cases e;exact⟨u,hu,rfl⟩
  .cases h
 .cases h
theorem aJo{H:Hp}(hs:St g H)(hg:qP g){tr:FT}{n:Nat}(hw:tr.Wf n){o:Oper}{cs:iY}(h:Xq P gl tr H o.op=some cs){a:Act}(hop:∀x∈o.op.operands,∀t,pE gl (tr.view n) x=some t->Rd g (a.eval x) t):
  ∃t H1,(t,H1)∈cs/\EOk P o a g H t H1:=by
 obtain⟨dst,op,ty,pos,after,guard⟩:=o;cases op<;>simp only[Xq]at h<;>try(cases h;done)
 case range t x=>
  obtain⟨v,h1,h⟩:=pS hw h;obtain⟨⟨r,H1⟩,h2,h⟩:=oY h;cases h;have hv:=hop x (by simp[Op.operands]) v h1;obtain⟨u,g',e1,e2,e3,e4,e5⟩:=aIo (P:=P) hs hg h2 hv;refine⟨r,H1,bF.2 rfl,xO (g':=g') (v:=u) ?_ e2 e4 e3 e5⟩;simp only[execOp,aO,e1,aH];simp
 case next it s=>
  obtain⟨v,h1,h⟩:=pS hw h;have hv:=hop it (by simp[Op.operands]) v h1;obtain⟨t,H1,u,g',e0,e1,e2,e3,e4,e5⟩:=aOv (P:=P) hs hg h hv ty;refine⟨t,H1,e0,xO (g':=g') (v:=u) ?_ e2 e4 e3 e5⟩;simp only[execOp,aO,e1,aH];simp
 case entry it=>
  obtain⟨v,h1,h⟩:=pS hw h;have hv:=hop it (by simp[Op.operands]) v h1;obtain⟨t,H1,u,g',e0,e1,e2,e3,e4,e5⟩:=aPr (P:=P) hs hg h hv;refine⟨t,H1,e0,xO (g':=g') (v:=u) ?_ e2 e4 e3 e5⟩;simp only[execOp,aO,e1,aH];simp
end
end
end Go.Ps
namespace Go.Ps
noncomputable section
open Go.RowKit
structure CL(H:Hp)(g g':G):Prop where
 os:g'.w.os=g.w.os
 tape:g'.w.tape=g.w.tape
 output:g'.w.output=g.w.output
 size:g.w.heap.size<=g'.w.heap.size
 keepS:∀b,g.S b->g'.w.heap[b]? =g.w.heap[b]?
 keepO:∀l o,H.any l=some o->g'.w.heap[g.loc l]? =g.w.heap[g.loc l]?
 sub:∀b,g.S b->g'.S b
 fresh:∀b,g'.S b->g.S b\/g.w.heap.size<=b
 al:g'.al=g.al
 loc:g'.loc=g.loc
 cp:g'.cp=g.cp
theorem Rd.keepS{g g':G}(hS:∀b,g.S b->g'.S b)(hb:∀b,g.S b->g'.w.heap[b]? =g.w.heap[b]?)(hal:∀l,g.al l->g'.al l/\g'.loc l=g.loc l/\g'.cp l=g.cp l){v:fP}{t:T}(hr:Rd g v t):Rd g' v t:=by
 have hc:∀b o v,g.S b->g.w.cell? ⟨b,o,none⟩=some v->g'.w.cell? ⟨b,o,none⟩=some v:=fun b o v hs h=>(World.cell?_of_block (w:=g.w) (a:=⟨b,o,none⟩) (hb b hs)).trans h
 induction hr with
 |int k n=>exact .int k n|bool b=>exact .bool b|str s=>exact .str s|nilp=>exact .nilp|ptr l off hl=>rw[<-(hal l hl).2.1];exact .ptr l off (hal l hl).1|ref x off b o vs hs hlen hc' _ ih=>exact .ref x off b o vs (hS b hs) hlen (fun j v hv=>hc _ _ _ hs (hc' j v hv)) ih|nils=>exact .nils|slfn full f p=>exact .slfn full f p
 |sl full xs sz b o cap vs hs hsz h1 h2 h3 hlen hc' _ ih=>
  refine .sl full xs sz b o cap vs (fun hx=>hS b (hs hx)) hsz h1 h2 h3 hlen (fun j v hv=> ?_) ih;have hn:xs≠[]:=by
   rintro rfl;simp at hlen;subst hlen;simp at hv
  exact hc _ _ _ (hs hn) (hc' j v hv)
 |slf full n f sz b o cap vs h1 h2 h3 h4 h5 h6 h7 h8=>exact Rd.slf_keep hS hc h1 h2 h3 h4 h5 h6 h7 h8
 |osl l sz i len b o cap hl h1 h2 h3 h4=>
  obtain⟨q1,q2,q3⟩:=hal l hl;exact .osl l sz i len b o cap q1 h1 (q3▸h2) (fun q=>q2▸h3 q) (fun q=>q3▸h4 q)
 |nilf=>exact .nilf|fn f first captured vs us h1 _ h2 _ ih1 ih2=>exact .fn f first captured vs us h1 ih1 h2 ih2
 |nili=>exact .nili|iface t v x _ ih=>exact .iface t v x ih|nilm=>exact .nilm|mp l hl=>rw[<-(hal l hl).2.1];exact .mp l (hal l hl).1|yl l hl=>rw[<-(hal l hl).2.1];exact .yl l (hal l hl).1|agg cs vs h1 _ ih=>exact .agg cs vs h1 ih|tup cs vs h1 _ ih=>exact .tup cs vs h1 ih
theorem RdL.keepS{g g':G}(hS:∀b,g.S b->g'.S b)(hb:∀b,g.S b->g'.w.heap[b]? =g.w.heap[b]?)(hal:∀l,g.al l->g'.al l/\g'.loc l=g.loc l/\g'.cp l=g.cp l){vs:fM}{ts:eY}(hr:RdL g vs ts):RdL g' vs ts:=
 ⟨hr.1,fun j v c hv hc=>(hr.2 j v c hv hc).keepS hS hb hal⟩
theorem GlOk.keepS{gl:fD}{g g':G}(hS:∀b,g.S b->g'.S b)(hb:∀b,g.S b->g'.w.heap[b]? =g.w.heap[b]?)(hal:∀l,g.al l->g'.al l/\g'.loc l=g.loc l/\g'.cp l=g.cp l)(hg:GlOk gl g):GlOk gl g':=fun k t ht=>by
 obtain⟨h1,h2,cs,e,fz,h3,h4⟩:=hg k t ht;exact⟨h1.keepS hS hb hal,hS k h2,cs,e,fz,by rw[hb k h2];exact h3,h4⟩
section
variable{H:Hp}{g g':G}
theorem CL.ga(h:CL H g g'):∀l,g.al l->g'.al l/\g'.loc l=g.loc l/\g'.cp l=g.cp l:=fun l hl=>⟨h.al▸hl,by rw[h.loc],by rw[h.cp]⟩
theorem CL.rdl(h:CL H g g'){vs:fM}{ts:eY}(hr:RdL g vs ts):RdL g' vs ts:=hr.keepS h.sub h.keepS h.ga
theorem CL.gl(h:CL H g g'){gl:fD}(hr:GlOk gl g):GlOk gl g':=hr.keepS h.sub h.keepS h.ga
theorem CL.st(h:CL H g g')(hs:St g H):St g' H:=by
 refine⟨fun l o ho=> ?_,fun l o m ho hm=> ?_,fun l l' o o' h1 h2 e=>hs.sep l l' o o' h1 h2 (by rw[h.loc]at e;exact e),fun l hl=>by rw[h.al];exact hs.new l hl⟩
 .obtain⟨ha,hS,cs,hb,h1,h2,h3,h4⟩:=hs.own l o ho;have hlt:g.loc l<g.w.heap.size:=(aL.1 hb).1;refine⟨h.al▸ha,?_,cs,?_,h1,h2,?_,h.rdl h4⟩
  .rw[h.loc];exact fun q=>(h.fresh _ q).elim hS (fun q'=>by omega)
  .rw[h.loc,h.keepO l o (pJ ho).1];exact hb
  .rw[h.cp];exact h3
 .obtain⟨ha,hS,ms,hb,h1⟩:=hs.ownM l o m ho hm;have hlt:g.loc l<g.w.heap.size:=(aL.1 hb).1;refine⟨h.al▸ha,?_,ms,?_,h1.mono (fun _ _ q=>q.keepS h.sub h.keepS h.ga) (fun l hl=>⟨(h.ga l hl).1,(h.ga l hl).2.1⟩)⟩
  .rw[h.loc];exact fun q=>(h.fresh _ q).elim hS (fun q'=>by omega)
  .rw[h.loc,h.keepO l o ho];exact hb
theorem CL.sstep(h:CL H g g'){H0:Hp}{g0:G}(k:oX H0 g0 H g)(hb:∀b,b<g0.w.heap.size->g'.w.heap[b]? =g.w.heap[b]?):oX H0 g0 H g':=by
 have e:∀b,g0.w.heap.size<=b\/b<g0.w.heap.size:=fun b=>by omega
 refine⟨h.os.trans k.os,h.tape.trans k.tape,h.output.trans k.output,eF k.size h.size,fun b hlt hn=>(hb b hlt).trans (k.block b hlt hn),fun b q=>h.sub b (k.sub b q),fun b q=> ?_,
  fun l q=>h.al▸k.al l q,fun l q=>by rw[h.loc];exact k.loc l q,fun l q=>by rw[h.cp];exact k.cp l q,fun l o ho=>by rw[h.loc];exact k.live l o ho⟩
 rcases h.fresh b q with q|q
 .exact k.fresh b q
 .exact .inr (.inl (eF k.size q))
end
structure KU(H:Hp)(g:G)(b:Nat):Prop where
 s:¬g.S b
 o:∀l o,H.any l=some o->g.loc l≠b
theorem HB{H:Hp}{g:G}{l:Nat}(hf:KU H g l)(o:Obj):CL H g {g with w:=g.w.putObj l o}:=
 ⟨rfl,rfl,rfl,by simp,fun b hb=>World.putObj_heap_other (fun e=>hf.s (e▸hb)),fun m q hq=>World.putObj_heap_other (hf.o m q hq),fun _ h=>h,fun _ h=> .inl h,rfl,rfl,rfl⟩
abbrev gR:=List (List T)
structure YP(P:fA)(gl:fD)(l:Nat)(xs:gR)(J Jx:List (List T)->G->Prop):Prop where
 cj:∀pre g g',J pre g->PStep g g'->qP g'->J pre g'
 cx:∀pre g g',Jx pre g->PStep g g'->qP g'->Jx pre g'
 y :∀pre x (args:fM) g1,(pre++[x])<+:xs->qP g1->(∀l,¬g1.al l)->GlOk gl g1->RdL g1 args x->J pre g1->YieldAt (Fw none) 0 P l args.toArray g1.w fun e W'=>
   g1.w.heap.size<=W'.heap.size/\(∀b,g1.S b->W'.heap[b]? =g1.w.heap[b]?)/\((e= .returned (.bool true)/\J (pre++[x]) {g1 with w:=W'})\/(e= .returned (.bool false)/\Jx (pre++[x]) {g1 with w:=W'}))
def Pt(P:fA)(gl:fD)(gf:fT)(cap:eY)(xs:gR):Prop:=
 ∀(g:G) (lb:fM),qP g->(∀l,¬g.al l)->GlOk gl g->RdL g lb cap->∀(l:Nat) (J Jx:List (List T)->G->Prop),YP P gl l xs J Jx->J [] g->
  CallsIn (Fw none) 0 P gf (#[.func (.yield l) #[] #[]]++lb.toArray) g.w fun e W'=>(∃v,e= .returned v)/\((∃g',g'.w=W'/\J xs g')\/∃pre g',g'.w=W'/\Jx pre g')
def BZ(ps:gK)(x:eY)(fr:eY):List T:=(ps.zip x).foldl (fun f p=>f.set p.1 p.2) fr
section
variable(P:fA)(E:tW)(F:Fc)(n:Nat)(ps:gK)(a_s bd:Code)(fr:eY)
def Sn(x:eY)(H:Hp):Option (X×Hp):=
 match oP P E F n a_s (BZ ps x fr) H with
 |some (.normal,fr1,H1)=>match oP P E F n bd fr1 H1 with
  |some (q,_,H2)=>some (q,H2)|none=>none
 |_ =>none
def LX:List (List T)->Hp->Option (X×Hp)
 |[],H=>some (.normal,H)
 |x::r,H=>match Sn P E F n ps a_s bd fr x H with
  |some (.normal,H2)=>LX r H2|q=>q
end
theorem XU{g:G}:∀(ps:gK) (args:fM) (x:eY) (vs:fU) (fr:eY),RdL g args x->RdL g vs.toList fr->
  RdL g ((ps.zip args).foldl (fun t p=>t.setIfInBounds p.1 p.2) vs).toList (BZ ps x fr):=by
 intro ps
 induction ps with
 |nil=>intro args x vs fr _ h;simpa [BZ]using h
 |cons p ps ih=>
  intro args x vs fr ha h;cases args with
  |nil=>
   have:x=[]:=by have:=ha.1;simp at this;exact cY.1 this.symm
   subst this;simpa [BZ]using h
  |cons u args=>
   cases x with
   |nil=>have:=ha.1;simp at this
   |cons t x=>
    obtain⟨h1,h2⟩:=ha.inv_cons;have:=ih args x (vs.setIfInBounds p u) (fr.set p t) h2 (by simpa using h.set p h1);simpa [BZ]using this
theorem YO(ps:jD)(args:fM)(vs:fU):(ps.zip args.toArray).foldl (fun t (p,v)=>t.setIfInBounds p v) vs=(ps.toList.zip args).foldl (fun t p=>t.setIfInBounds p.1 p.2) vs:=by
 have:ps=ps.toList.toArray:=by simp
 rw[this,List.zip_toArray,List.foldl_toArray]
theorem wT(a:Act):DS [] a=a:=by cases a;simp[DS]
theorem PR{k N:Nat}:∀{ts ts':eY},mapO (pF k ⟨0,.nl⟩) ts=some ts'->mapO (pF k ⟨N,.nl⟩) ts=some ts'
 |[],_,h=>h
 |t::ts,rs,h=>by
  simp only[mapO]at h⊢;split at h
  .rename_i a ha;split at h
   .rename_i b hb;rw[FZ k 0 _ _ _ ha,PR hb];exact h
   .cases h
  .cases h
def X.jump:X->Option Code
 | .normal=>none| .exit id=>some (.exit id)| .ret=>some .ret
section
variable{P:fA}{E:tW}{F:Fc}
theorem pN.kstep{g0 g g':G}{H0 H:Hp}{a:Act}{fr:eY}(h:pN E g0 H0 g a fr H)(k:CL H g g')(ho:qP g')(hb:∀b,b<g0.w.heap.size->g'.w.heap[b]? =g.w.heap[b]?):pN E g0 H0 g' a fr H:=
 ⟨ho,k.st h.st,k.gl h.gl,h.df,k.rdl h.fr,k.sstep h.step hb⟩
theorem pN.pstep{g0 g g':G}{H0 H:Hp}{a:Act}{fr:eY}(h:pN E g0 H0 g a fr H)(k:PStep g g')(ho:qP g'):pN E g0 H0 g' a fr H:=
 ⟨ho,h.st.pstep k,h.gl.pstep k,h.df,h.fr.pstep k,h.step.trans k.toS⟩
structure RJ(E:tW)(g0:G)(H0:Hp)(a:Act)(fr:eY)(L D:Nat)(lp:Loop)(G1 gk:G)(Hk:Hp):Prop where
 w:gk.w=G1.w
 sub:∀b,G1.S b->gk.S b
 ci:pN E g0 H0 gk a fr Hk
 l:gk.w.heap[L]? =some (.loop lp)
 d:gk.w.heap[D]? =some (.deferred (some []))
 fl:KU Hk gk L
 fd:KU Hk gk D
theorem RJ.step{g0:G}{H0:Hp}{a:Act}{fr:eY}{L D:Nat}{lp:Loop}{G1 G2 gk:G}{Hk:Hp}(h:RJ E g0 H0 a fr L D lp G1 gk Hk)(k:PStep G1 G2)(ho:qP G2):
  RJ E g0 H0 a fr L D lp G2 {gk with w:=G2.w,S:=fun b=>gk.S b\/G2.S b} Hk:=by
 have hw:=h.w;have hp:PStep gk {gk with w:=G2.w,S:=fun b=>gk.S b\/G2.S b}:=by
  refine⟨by rw[hw];exact k.os,by rw[hw];exact k.tape,by rw[hw];exact k.output,by rw[hw];exact k.size,fun b hb=>by rw[hw]at hb⊢;exact k.block b hb,fun b hb=> .inl hb,fun b hb=> ?_,rfl,rfl,rfl⟩;rcases hb with hb|hb
  .exact .inl hb
  .rcases k.fresh b hb with q|q
   .exact .inl (h.sub b q)
   .exact .inr (by rw[hw];exact q)
 have hl:=(aL.1 h.l).1;have hd:=(aL.1 h.d).1;have sf:∀b,b<gk.w.heap.size->¬gk.S b->¬(gk.S b\/G2.S b):=fun b hb hs q=>by
  rcases hp.fresh b q with q|q
  .exact hs q
  .omega
 refine⟨rfl,fun b hb=> .inr hb,h.ci.pstep hp ?_,(hp.block L hl).trans h.l,(hp.block D hd).trans h.d,⟨sf L hl h.fl.s,h.fl.o⟩,⟨sf D hd h.fd.s,h.fd.o⟩⟩;intro b hb;rcases hb with hb|hb
 .have:=h.ci.ok b hb;exact bP this hp.size
 .exact ho b hb
theorem oX.free{H H':Hp}{g g':G}{b:Nat}(h:oX H g H' g')(hf:KU H g b)(hb:b<g.w.heap.size){o:Obj}(ho:g.w.heap[b]? =some o):KU H' g' b/\g'.w.heap[b]? =some o:=by
 have e:=(h.block b hb hf.o).trans ho;refine⟨⟨fun q=> ?_,fun l o hl e=> ?_⟩,e⟩
 .rcases h.fresh b q with q|q|⟨l,o,q1,q2⟩
  .exact hf.s q
  .omega
  .exact hf.o l o q1 q2
 .rcases h.live l o hl with⟨l0,o0,q1,q2⟩|q
  .exact hf.o l0 o0 q1 (q2.trans e)
  .omega
theorem Sg(hm:P.follows .mixedOrders=true)(hz:uD E.gl)(hE:tP P E.gl E.pe)(hF:rG P E.gl F.ee){n m k:Nat}{gv:gF}{ps:jD}{a_s bd:Code}(hoa:codeOk a_s=true)(hia:sD a_s=true)(hob:codeOk bd=true)(hib:sD bd=true)
  {gf:fT} {cap cap':eY} {xs:gR} (hof:tY P gf=true) (hit:Pt P E.gl gf cap' xs) (hxs:∀x∈xs,x.length=ps.size) {fr:eY} {H H':Hp} (hcap:mapO (pF k ⟨0,.nl⟩) cap=some cap')
  (hg:pE E.gl fr gv=some (.fn (.func gf) [] cap)) {x:X} (hfold:LX P E F m ps.toList a_s bd fr xs H=some (x,H')) {g0 g:G} {H0:Hp} {a:Act} (hc:pN E g0 H0 g a fr H) {ds:gE}
  (Q:fF) (hQ:∀D g',pN E g0 H0 g' a fr H'->g0.w.heap.size<=D->KU H' g' D->g'.w.heap[D]? =some (.deferred (some []))->Q x.exit_ (DS ({target:= .collected D,args:= #[]}::ds) a) g'.w):
  (Code.rangeFunc gv ps a_s bd).wpIn (Fw none) n P Q (DS ds a) g.w:=by
 have hv:=(CJ.of hc.fr none).eval hc.gl (fun _ _ =>by simp) hg;obtain⟨us,hev,hus⟩:∃us:List Value,a.eval gv= .func (.func gf) #[] us.toArray/\RdL g us cap:=by
  revert hv;generalize a.eval gv=u;intro hv;cases hv with
  |fn f first captured vs us h1 h2 h3 h4=>
   have:vs=[]:=by simpa using h1
   subst this;exact⟨us,rfl,h3,h4⟩
 refine wpIn_rangeFunc fun fn hfn=> ?_
 let D:=g.w.heap.size
 let L:=g.w.heap.size+1
 obtain⟨rec,hrec⟩:∃rec:LoopState->Option Code->Loop,rec=fun st pe=>{state:=st,pending:=pe,fn,tmps:=a.tmps,params:=ps,assign:=a_s,body:=bd,defers:=D}:=⟨_,rfl⟩;obtain⟨W1,hW1⟩:∃W1,(g.w.alloc (.deferred (some []))).alloc (.loop (rec .ready none))=W1:=⟨_,rfl⟩;have hL1:W1.heap[L]? =some (.loop (rec .ready none)):=by
  rw[<-hW1];have:=World.alloc_heap_new (g.w.alloc (.deferred (some []))) (.loop (rec .ready none));rwa [World.size_alloc]at this
 have hD1:W1.heap[D]? =some (.deferred (some [])):=by
  rw[<-hW1];exact(Below.heap_alloc _ _ _ (by simp[D])).trans (World.alloc_heap_new g.w _)
 have hb1:Below g.w.heap.size g.w W1:=by
  rw[<-hW1];exact(((Below.refl _ g.w).alloc (aZ _) _).alloc (by simp) _)
 have hp1:PStep g {g with w:=W1}:=⟨hb1.os,hb1.tape,hb1.output,hb1.size,hb1.block,fun _ h=>h,fun _ h=> .inl h,rfl,rfl,rfl⟩;have hok1:qP {g with w:=W1}:=fun b hb=>bP (hc.ok b hb) hb1.size;have hc1:pN E g0 H0 {g with w:=W1} a fr H:=hc.pstep hp1 hok1;have hg0:g0.w.heap.size<=g.w.heap.size:=hc.step.size;refine⟨L,[{target:= .collected D,args:= #[]}],W1,{target:= .fn (.func gf) us.toArray,args:= #[.func (.yield L) #[] #[]]},W1,gf, #[.func (.yield L) #[] #[]]++us.toArray,W1,?_,?_,?_,?_,fun h=>(by cases h),?_⟩
 .rw[<-hW1,hrec];exact run_enterLoop_outer _ _ _ _ _
 .have hev':(DS ds a).eval gv= .func (.func gf) #[] us.toArray:=hev;simp only[resolve,rangeCall,hev'];simp[go_sem]
 .intro _ _;trivial
 .have:=DH (g:={g with w:=W1}) hof (#[.func (.yield L) #[] #[]]++us.toArray);simp[invoke,go_sem]at this⊢;exact this
 .have hbare:St {g with w:=W1} ⟨H.next,.nl⟩:=hc1.st.bare
  let G0:G:={w:=W1,S:=g.S,al:=fun _ =>False,loc:=g.loc,cp:=g.cp}
  have hus':RdL G0 us cap':=by
   have:=MB (g0:=G0) hbare (PR hcap) (hus.pstep hp1);rw[zT]at this;exact this
  have hgl0:GlOk E.gl G0:=by
   have:=GlOk.frz (g0:=G0) hz hbare hc1.gl;rw[zT]at this;exact this
  have ea:{DS ds a with defers:=[{target:= .collected D,args:= #[]}]++(DS ds a).defers}=DS ({target:= .collected D,args:= #[]}::ds) a:=by simp[DS,hc.df]
  have hDL:D≠L:=by show g.w.heap.size≠g.w.heap.size+1;omega
  have hLg:g0.w.heap.size<=L:=by show g0.w.heap.size<=g.w.heap.size+1;omega
  have low:∀b,b<g0.w.heap.size->b≠L:=fun b hb e=>by omega
  refine sW.2 ((sW.1 (hit G0 us hok1 (fun _ q=>q) hgl0 hus' L
   (fun pre G1=>∃gk Hk rest,xs=pre++rest/\LX P E F m ps.toList a_s bd fr rest Hk=some (x,H')/\RJ E g0 H0 a fr L D (rec .ready none) G1 gk Hk)
   (fun _ G1=>∃gk c,x.jump=some c/\RJ E g0 H0 a fr L D (rec .done (some c)) G1 gk H')
   ⟨fun pre G1 G2 ⟨gk,Hk,rest,h1,h2,h3⟩ hp ho=>⟨_,Hk,rest,h1,h2,h3.step hp ho⟩,fun pre G1 G2 ⟨gk,c,h1,h3⟩ hp ho=>⟨_,c,h1,h3.step hp ho⟩,?_⟩ ?_)).mono ?_)
  .intro pre y args G1 hpre hok hno1 hgl hra ⟨gk,Hk,rest,hx,hf,hr⟩;obtain⟨t,ht⟩:=hpre;have hrest:rest=y::t:=by
    rw[hx,dB]at ht;exact(List.append_cancel_left ht).symm
   subst hrest;have hsz:args.toArray.size=(rec .ready none).params.size:=by
    rw[hrec];show args.toArray.size=ps.size;rw[<-hxs y (by rw[hx];simp)];simpa using hra.1
   have hl:G1.w.heap[L]? =some (.loop (rec .ready none)):=by rw[<-hr.w];exact hr.l
   have hy:=run_yield (P:=P) (args:=args.toArray) hl hsz;rw[hrec]at hy;refine⟨_,_,_,_,hy,roundIn_of_wpIn (F:=Fw none) hfn ?_⟩;clear hy;rw[YO];have hra':RdL gk args y:=hra.keepS hr.sub (fun b _ =>by rw[hr.w]) (fun l hl=>absurd hl (hno1 l));have hc2:pN E gk Hk gk {tmps:=(ps.toList.zip args).foldl (fun t p=>t.setIfInBounds p.1 p.2) a.tmps,defers:=[]} (BZ ps.toList y fr) Hk:=
    ⟨hr.ci.ok,hr.ci.st,hr.ci.gl,rfl,XU _ _ _ _ _ hra' hr.ci.fr,oX.refl Hk gk⟩
   unfold LX Sn at hf;have hwG:G1.w=gk.w:=hr.w.symm;rw[hwG];cases he1:oP P E F m a_s (BZ ps.toList y fr) Hk with
   |none=>rw[he1]at hf;cases hf
   |some r1=>
    obtain⟨x1,fr1,H1⟩:=r1;rw[he1]at hf;cases x1 with
    |exit _ =>cases hf|ret=>cases hf
    |normal=>
     simp only at hf;cases he2:oP P E F m bd fr1 H1 with
     |none=>rw[he2]at hf;cases hf
     |some r2=>
      obtain⟨q,fr2,H2⟩:=r2;rw[he2]at hf;simp only at hf;have key:=SM (ds:=[]) (ro:=some L) (n:=0) hm hE hF m a_s _ Hk .normal fr1 H1 hoa hia he1 gk gk Hk _ hc2 (fun e a' w'=>e= .normal/\∃g',g'.w=w'/\pN E gk Hk g' a' fr1 H1)
       (fun a w h=>by cases h.1) (fun a' g' hc'=>⟨rfl,g',rfl,by rw[wT];exact hc'⟩)
      rw[wT]at key;refine wpIn_mono key ?_;rintro e a' w' ⟨rfl,g1',rfl,hc3⟩;have hfree:KU Hk gk L:=hr.fl;have hfreeD:KU Hk gk D:=hr.fd;obtain⟨hf1,hl1⟩:=hc3.step.free hfree (aL.1 hr.l).1 hr.l;obtain⟨hfD1,hd1⟩:=hc3.step.free hfreeD (aL.1 hr.d).1 hr.d;refine⟨_,run_beginRound hl1 (by rw[hrec]),?_⟩;obtain⟨g2,hg2⟩:∃g2:G,g2={g1' with w:=g1'.w.putObj L (.loop {rec .ready none with state:= .busy})}:=⟨_,rfl⟩;have k2:CL H1 g1' g2:=by rw[hg2];exact HB hf1 _
      have hok2:qP g2:=fun b hb=>bP (hc3.ok b (by rw[hg2]at hb;exact hb)) k2.size;have hc4:pN E g2 H1 g2 a' fr1 H1:=⟨hok2,k2.st hc3.st,k2.gl hc3.gl,hc3.df,k2.rdl hc3.fr,oX.refl H1 g2⟩;have hs2:oX H0 g0 H1 g2:=k2.sstep (hr.ci.step.trans hc3.step) (fun b hb=>by rw[hg2];exact World.putObj_heap_other (low b hb));have hl2:g2.w.heap[L]? =some (.loop {rec .ready none with state:= .busy}):=by rw[hg2];exact World.putObj_heap_same (aL.1 hl1).1
      have hd2:g2.w.heap[D]? =some (.deferred (some [])):=by rw[hg2];exact(World.putObj_heap_other hDL).trans hd1
      have hf2:KU H1 g2 L:=by rw[hg2];exact⟨hf1.s,hf1.o⟩
      have hfD2:KU H1 g2 D:=by rw[hg2];exact⟨hfD1.s,hfD1.o⟩
      have hw2:g1'.w.putObj L (.loop {rec .ready none with state:= .busy})=g2.w:=by rw[hg2]
      rw[hw2];have key2:=SM (ds:=[]) (ro:=some L) (n:=0) hm hE hF m bd _ H1 q fr2 H2 hob hib he2 g2 g2 H1 _ hc4 (fun e a' w'=>e=q.exit_ /\∃g',g'.w=w'/\pN E g2 H1 g' a' fr2 H2)
       (fun a w h=>by cases q<;>cases h.1) (fun a' g' hc'=>⟨rfl,g',rfl,by rw[wT];exact hc'⟩)
      rw[wT]at key2;refine wpIn_mono key2 ?_;rintro e a3 w3 ⟨rfl,g3,rfl,hc5⟩;obtain⟨hf3,hl3⟩:=hc5.step.free hf2 (aL.1 hl2).1 hl2;obtain⟨hfD3,hd3⟩:=hc5.step.free hfD2 (aL.1 hd2).1 hd2;have hlt3:=(aL.1 hl3).1;have hkeep:∀b,gk.S b->g3.S b/\g3.w.heap[b]? =gk.w.heap[b]? :=fun b hb=>by
       have n0:∀l o,Hk.any l=some o->gk.loc l≠b:=fun l o ho e=>(hr.ci.st.at_ ho).2.1 (e▸hb);have b1:=hc3.step.sub b hb;have n1:∀l o,H1.any l=some o->g2.loc l≠b:=fun l o ho e=>(hc4.st.at_ ho).2.1 (e▸k2.sub b b1);have l0:=hr.ci.ok b hb;refine⟨hc5.step.sub b (k2.sub b b1),(hc5.step.block b (hok2 b (k2.sub b b1)) n1).trans ((k2.keepS b b1).trans (hc3.step.block b l0 n0))⟩
      have hal:∀l,gk.al l->g3.al l/\g3.loc l=gk.loc l/\g3.cp l=gk.cp l:=fun l hl=>by
       have a1:=hc3.step.al l hl;have a2:=(k2.ga l a1).1;exact⟨hc5.step.al l a2,(hc5.step.loc l a2).trans ((k2.ga l a1).2.1.trans (hc3.step.loc l hl)),(hc5.step.cp l a2).trans ((k2.ga l a1).2.2.trans (hc3.step.cp l hl))⟩
      have fin:∀(lp:Loop),RJ E g0 H0 a fr L D lp {G1 with w:=g3.w.putObj L (.loop lp)} {g3 with w:=g3.w.putObj L (.loop lp)} H2:=fun lp=>by
       have k3:=HB hf3 (.loop lp)
       refine⟨rfl,fun b hb=>(hkeep b (hr.sub b hb)).1,⟨fun b hb=>bP (hc5.ok b hb) k3.size,k3.st hc5.st,k3.gl hc5.gl,hc.df,?_,k3.sstep (hs2.trans hc5.step) (fun b hb=>World.putObj_heap_other (low b hb))⟩,
        World.putObj_heap_same hlt3,(World.putObj_heap_other hDL).trans hd3,⟨hf3.s,hf3.o⟩,⟨hfD3.s,hfD3.o⟩⟩
       exact k3.rdl (hr.ci.fr.keepS (fun b hb=>(hkeep b hb).1) (fun b hb=>(hkeep b hb).2) hal)
      have hsize:∀o,gk.w.heap.size<=(g3.w.putObj L o).heap.size:=fun o=>by
       have:=hc3.step.size;have:=k2.size;have:=hc5.step.size;simp[World.putObj];omega
      have hk3:∀o b,G1.S b->(g3.w.putObj L o).heap[b]? =gk.w.heap[b]? :=fun o b hb=>by
       have hbk:=hr.sub b hb;exact(World.putObj_heap_other (fun e=>hr.fl.s (by rw[<-e];exact hbk))).trans (hkeep b hbk).2
      cases q with
      |normal=>
       have hfin:=fin (rec .ready none);have hx2:xs=pre++[y]++t:=by rw[hx];simp
       refine⟨_,_,run_endRound none hl3,hsize _,hk3 _,.inl ⟨rfl,{g3 with w:=g3.w.putObj L (.loop (rec .ready none))},H2,t,hx2,hf,?_⟩⟩;rw[hrec]at hfin⊢;exact hfin
      |exit id=>
       simp only[aD,aQ]at hf;obtain⟨rfl,rfl⟩:=hf;have this:=fin (rec .done (some (.exit id)));refine⟨_,_,run_endRound (some (.exit id)) hl3,hsize _,hk3 _,.inr ⟨rfl,{g3 with w:=g3.w.putObj L (.loop (rec .done (some (.exit id))))},(.exit id),rfl,?_⟩⟩;rw[hrec]at this⊢;exact this
      |ret=>
       simp only[aD,aQ]at hf;obtain⟨rfl,rfl⟩:=hf;have this:=fin (rec .done (some .ret));refine⟨_,_,run_endRound (some .ret) hl3,hsize _,hk3 _,.inr ⟨rfl,{g3 with w:=g3.w.putObj L (.loop (rec .done (some .ret)))},.ret,rfl,?_⟩⟩;rw[hrec]at this⊢;exact this
  .exact⟨{g with w:=W1},H,xs,rfl,hfold,rfl,fun _ h=>h,hc1,hL1,hD1,⟨fun q=>(by have:=hc.ok _ q;omega),fun l o ho=>(by have:=hc.st.lt ho;show g.loc l≠_;omega)⟩,⟨fun q=>(by have:=hc.ok _ q;omega),fun l o ho=>(by have:=hc.st.lt ho;show g.loc l≠_;omega)⟩⟩
  .rintro e W2 ⟨⟨v,rfl⟩,(⟨g',rfl,gk,Hk,rest,hx,hf,hr⟩|⟨pre,g',rfl,gk,c,hj,hr⟩)⟩
   .have hrest:rest=[]:=by
     have:=congrArg List.length hx;simp at this;exact this
    subst hrest;simp only[LX,aD,aQ]at hf;obtain⟨rfl,rfl⟩:=hf;have hl:g'.w.heap[L]? =some (.loop (rec .ready none)):=by rw[<-hr.w];exact hr.l
    have hfree:KU Hk gk L:=hr.fl;have k3:=HB hfree (.loop {rec .ready none with state:= .exhausted});refine⟨none,_,by have:=run_endLoop (P:=P) hl (by rw[hrec];simp);rw[hrec]at this;exact this,?_⟩;show Q .normal _ _;rw[ea];have:=hQ D _ (hr.ci.kstep k3 (fun b hb=>bP (hr.ci.ok b hb) k3.size) (fun b hb=>World.putObj_heap_other (low b hb))) hg0 ⟨hr.fd.s,hr.fd.o⟩ ((World.putObj_heap_other hDL).trans hr.d);rw[hrec]at this;rw[<-hr.w];exact this
   .have hl:g'.w.heap[L]? =some (.loop (rec .done (some c))):=by rw[<-hr.w];exact hr.l
    have hfree:KU H' gk L:=hr.fl;have k3:=HB hfree (.loop {rec .done (some c)with state:= .exhausted});have hq:=hQ D _ (hr.ci.kstep k3 (fun b hb=>bP (hr.ci.ok b hb) k3.size) (fun b hb=>World.putObj_heap_other (low b hb))) hg0 ⟨hr.fd.s,hr.fd.o⟩ ((World.putObj_heap_other hDL).trans hr.d);refine⟨some c,_,by have:=run_endLoop (P:=P) hl (by rw[hrec];simp);rw[hrec]at this;exact this,?_⟩;show c.wpIn _ _ _ _ _ _;rw[ea,<-hr.w];rw[hrec]at hq;cases x with
    |normal=>cases hj|exit id=>cases hj;exact wpIn_exit hq|ret=>cases hj;exact wpIn_ret hq
end
end
end Go.Ps
namespace Go.Ps
noncomputable section
open Go.RowKit
abbrev gS:=FuncId->List T->Option (List (List T))
def yB(P:fA)(E:tW)(F:Fc)(It:gS)(n k:Nat):Code->List T->Hp->Option (X×List T×Hp)
 | .seq a b,fr,H=>match yB P E F It n k a fr H with
  |some (.normal,fr',H')=>yB P E F It n k b fr' H'|r=>r
 | .cond c a b,fr,H=>match pE E.gl fr c with
  |some (.bool t)=>if t then yB P E F It n k a fr H else yB P E F It n k b fr H
  |_ =>none
 | .block id c,fr,H=>match yB P E F It n k c fr H with
  |some (.exit id',fr',H')=>if id'=id then some (.normal,fr',H')else some (.exit id',fr',H')
  |r=>r
 | .rangeFunc gv ps a_s bd,fr,H=>match pE E.gl fr gv with
  |some (.fn (.func gf) [] cap)=>match mapO (pF k ⟨0,.nl⟩) cap with
   |some cap'=>match It gf cap' with
    | some xs=>if xs.all fun x=>Nat.beq x.length ps.size then match LX P E F n ps.toList a_s bd fr xs H with
      |some (x,H')=>some (x,fr,H')|none=>none
     else none
    |none=>none
   |none=>none
  |_ =>none
 |c,fr,H=>oP P E F n c fr H
def IZ:Code->Bool
 | .seq a b| .cond _ a b=>IZ a&&IZ b| .block _ c=>IZ c| .rangeFunc _ _ a_s bd=>(codeOk a_s&&sD a_s)&&(codeOk bd&&sD bd)|c=>codeOk c&&sD c
structure Mk(g0 g:G)(H:Hp)(ds:gE):Prop where
 at_ :∀d∈ds,∃D,d={target:= .collected D,args:= #[]}/\g0.w.heap.size<=D/\KU H g D/\g.w.heap[D]? =some (.deferred (some []))
 nd:ds.Nodup
def aRx(P:fA)(gl:fD)(It:gS):Prop:=∀f cap xs,It f cap=some xs->tY P f=true/\Pt P gl f cap xs
section
variable{P:fA}{E:tW}{F:Fc}{It:gS}
theorem Mk.sstep{g0 g g':G}{H H':Hp}{ds:gE}(h:Mk g0 g H ds)(hs:oX H g H' g'):Mk g0 g' H' ds:=by
 refine⟨fun d hd=> ?_,h.nd⟩;obtain⟨D,e,q1,q2,q3⟩:=h.at_ d hd;obtain⟨hf,q⟩:=hs.free q2 (aL.1 q3).1 q3;exact⟨D,e,q1,hf,q⟩
theorem pN.based{g0 g g':G}{H0 H H':Hp}{a a':Act}{fr fr':eY}(h:pN E g0 H0 g a fr H)(k:pN E g H g' a' fr' H'):pN E g0 H0 g' a' fr' H':=
 ⟨k.ok,k.st,k.gl,k.df,k.fr,h.step.trans k.step⟩
theorem pN.self{g0 g:G}{H0 H:Hp}{a:Act}{fr:eY}(h:pN E g0 H0 g a fr H):pN E g H g a fr H:=
 ⟨h.ok,h.st,h.gl,h.df,h.fr,oX.refl H g⟩
theorem Kg(hm:P.follows .mixedOrders=true)(hz:uD E.gl)(hE:tP P E.gl E.pe)(hF:rG P E.gl F.ee)(hI:aRx P E.gl It){n m k:Nat}:∀(c:Code) (fr:eY) (H:Hp) (x:X) (fr':eY) (H':Hp),IZ c=true->yB P E F It m k c fr H=some (x,fr',H')->
  ∀(g0 g:G) (H0:Hp) (a:Act) (ds:gE),pN E g0 H0 g a fr H->Mk g0 g H ds->∀(Q:fF),(∀a w,¬Q .outgrown a w)->
   (∀a' g' ds',pN E g0 H0 g' a' fr' H'->Mk g0 g' H' ds'->Q x.exit_ (DS ds' a') g'.w)->c.wpIn (Fw none) n P Q (DS ds a) g.w:=by
 intro c;have plain:∀(c:Code) (fr:eY) (H:Hp) (x:X) (fr':eY) (H':Hp),(codeOk c&&sD c)=true->oP P E F m c fr H=some (x,fr',H')->
  ∀(g0 g:G) (H0:Hp) (a:Act) (ds:gE),pN E g0 H0 g a fr H->Mk g0 g H ds->∀(Q:fF),(∀a w,¬Q .outgrown a w)->
   (∀a' g' ds',pN E g0 H0 g' a' fr' H'->Mk g0 g' H' ds'->Q x.exit_ (DS ds' a') g'.w)->c.wpIn (Fw none) n P Q (DS ds a) g.w:=by
  intro c fr H x fr' H' hok he g0 g H0 a ds hc hd Q hno hQ;simp only[aA]at hok;exact SM hm hE hF m c fr H x fr' H' hok.1 hok.2 he g g H a hc.self Q hno (fun a' g' hc'=>hQ a' g' ds (hc.based hc') (hd.sstep hc'.step))
 induction c with
 |seq c1 c2 ih1 ih2=>
  intro fr H x fr' H' hok he g0 g H0 a ds hc hd Q hno hQ;simp only[IZ,aA]at hok;simp only[yB]at he;refine wpIn_seq ?_;split at he
  .rename_i f1 h1 hr;exact ih1 _ _ _ _ _ hok.1 hr g0 g H0 a ds hc hd _ (tU hno) (fun a' g' ds' hc' hd'=>ih2 _ _ _ _ _ hok.2 he g0 g' H0 a' ds' hc' hd' Q hno hQ)
  .rename_i hr;refine ih1 _ _ _ _ _ hok.1 he g0 g H0 a ds hc hd _ (tU hno) (fun a' g' ds' hc' hd'=> ?_);cases x with
   |normal=>exact absurd he (hr _ _)|exit id=>exact hQ a' g' ds' hc' hd'|ret=>exact hQ a' g' ds' hc' hd'
 |cond o c1 c2 ih1 ih2=>
  intro fr H x fr' H' hok he g0 g H0 a ds hc hd Q hno hQ;simp only[IZ,aA]at hok;simp only[yB]at he;split at he
  .rename_i b hb;have hr:=(CJ.of hc.fr none).eval hc.gl (fun _ _ =>by simp) hb;refine wpIn_cond (t:=b) (show(DS ds a).eval o= .bool b from hr.inv_bool) ?_;cases b with
   |true=>exact ih1 _ _ _ _ _ hok.1 (by simpa using he) g0 g H0 a ds hc hd Q hno hQ|false=>exact ih2 _ _ _ _ _ hok.2 (by simpa using he) g0 g H0 a ds hc hd Q hno hQ
  .cases he
 |block id c ih=>
  intro fr H x fr' H' hok he g0 g H0 a ds hc hd Q hno hQ;simp only[IZ]at hok;simp only[yB]at he;refine wpIn_block ?_;have hnb:∀a w,¬Exit.inBlock id Q .outgrown a w:=fun a w h=>hno a w h;split at he
  .rename_i id' f1 h1 hr;refine ih _ _ _ _ _ hok hr g0 g H0 a ds hc hd _ hnb (fun a' g' ds' hc' hd'=> ?_);simp only[X.exit_,Exit.inBlock];split at he
   .rename_i e;cases he;rw[if_pos e];exact hQ a' g' ds' hc' hd'
   .rename_i e;cases he;rw[if_neg e];exact hQ a' g' ds' hc' hd'
  .rename_i hr;refine ih _ _ _ _ _ hok he g0 g H0 a ds hc hd _ hnb (fun a' g' ds' hc' hd'=> ?_);cases x with
   |normal=>exact hQ a' g' ds' hc' hd'|exit id'=>exact absurd he (hr _ _ _)|ret=>exact hQ a' g' ds' hc' hd'
 |rangeFunc gv ps a_s bd _ _ =>
  intro fr H x fr' H' hok he g0 g H0 a ds hc hd Q hno hQ;simp only[IZ,aA]at hok;simp only[yB]at he;split at he
  .rename_i gf cap hg;split at he
   .rename_i cap' hcap;split at he
    .rename_i xs hxs;split at he
     .rename_i hall;split at he
      .rename_i x1 H1 hfold;cases he;obtain⟨h1,h2⟩:=hI gf cap' xs hxs;refine Sg hm hz hE hF hok.1.1 hok.1.2 hok.2.1 hok.2.2 h1 h2 (fun y hy=> ?_) hcap hg hfold hc.self Q (fun D g' hc' q1 q2 q3=> ?_)
       .rw[aG]at hall;exact aB (hall y hy)
       .refine hQ a g' _ (hc.based hc') ⟨fun d hdm=> ?_,?_⟩
        .rcases aU.1 hdm with rfl|hdm
         .exact⟨D,rfl,eF hc.step.size q1,q2,q3⟩
         .exact(hd.sstep hc'.step).at_ d hdm
        .refine dS.2 ⟨fun hdm=> ?_,hd.nd⟩;obtain⟨D',e,_,_,q⟩:=hd.at_ _ hdm;cases e;have:=(aL.1 q).1;omega
      .cases he
     .cases he
    .cases he
   .cases he
  .cases he
 |_ =>
  intro fr H x fr' H' hok he;simp only[IZ]at hok;simp only[yB]at he;exact plain _ _ _ _ _ _ hok he
def SR(P:fA)(E:tW)(F:Fc)(It:gS)(n k:Nat)(f:fT)(args:eY)(H:Hp):Option (T×Hp):=
 match P.funcs[f]? with
 |some fn=>match fn.body with
  |some c=>match yB P E F It n k c (args++List.replicate (fn.ntmps-args.length) oL) H with
   |some (.normal,fr,H')|some (.ret,fr,H')=>match rL P fr H' fn.results.toList with
    |some [t]=>some (t,H')|some ts=>some (.tup ts,H')|none=>none
   |_ =>none
  |none=>none
 |none=>none
def Kk(P:fA)(f:fT):Bool:=
 match P.funcs[f]? with
 |some fn=>match fn.body with
  |some c=>IZ c|none=>false
 |none=>false
theorem zW{fn:Func}{n:Nat}{R:iX}{g0:G}{H0 H:Hp}{a:Act}{fr:eY}(hR:∀g',pN E g0 H0 g' a fr H->LeavesIn (Fw none) n P fn a.tmps R [] .returning g'.w):
  ∀(ds:gE) (g:G),pN E g0 H0 g a fr H->Mk g0 g H ds->LeavesInM (Fw none) n P fn a.tmps R ds .returning g.w
 |[],g,hc,_ =>hR g hc
 |d::ds,g,hc,hd=>by
  obtain⟨D,rfl,q1,q2,q3⟩:=hd.at_ d (by simp);have hfree:KU H g D:=q2;have k:=HB hfree (.deferred none);refine⟨by simp,.inl ⟨D,_,rfl,run_takeDeferred q3,?_⟩⟩;refine zW hR ds {g with w:=g.w.putObj D (.deferred none)} (hc.kstep k (fun b hb=>bP (hc.ok b hb) k.size) (fun b hb=>World.putObj_heap_other (by omega))) ⟨fun d' hd'=> ?_,(dS.1 hd.nd).2⟩;obtain⟨D',rfl,r1,r2,r3⟩:=hd.at_ d' (by simp[hd']);have hne:D'≠D:=fun e=>(dS.1 hd.nd).1 (by rw[e]at hd';exact hd');exact⟨D',rfl,r1,⟨r2.s,r2.o⟩,(World.putObj_heap_other hne).trans r3⟩
theorem aTq(hm:P.follows .mixedOrders=true)(hz:uD E.gl)(hE:tP P E.gl E.pe)(hF:rG P E.gl F.ee)(hI:aRx P E.gl It){n k:Nat}{f:fT}(hok:Kk P f=true){ts:eY}{H H':Hp}{r:T}(he:SR P E F It n k f ts H=some (r,H'))
  (g:G) (vs:fM) (hg:qP g) (hs:St g H) (hgl:GlOk E.gl g) (hv:RdL g vs ts):
  Calls P f vs.toArray g.w fun e w'=>∃v g',e= .returned v/\g'.w=w'/\oX H g H' g'/\qP g'/\St g' H'/\Rd g' v r:=by
 unfold SR at he;unfold Kk at hok;split at he
 .rename_i fn hfn;rw[hfn]at hok;simp only at hok;split at he
  .rename_i c hc;rw[hc]at hok;simp only at hok;have hframe:RdL g (vs.toArray++Array.replicate (fn.ntmps-vs.toArray.size) undef).toList (ts++List.replicate (fn.ntmps-ts.length) oL):=by
    have:(vs.toArray++Array.replicate (fn.ntmps-vs.toArray.size) undef).toList=vs++List.replicate (fn.ntmps-ts.length) undef:=by simp[hv.1]
    rw[this];exact hv.append (RdL.replicate _ Rd.undef)
   have hinv:pN E g H g {tmps:=vs.toArray++Array.replicate (fn.ntmps-vs.toArray.size) undef,defers:=[]} (ts++List.replicate (fn.ntmps-ts.length) oL) H:=⟨hg,hs,hgl,rfl,hframe,oX.refl H g⟩
   have fin:∀(fr:eY) (H1:Hp),(match rL P fr H1 fn.results.toList with
     |some [t]=>some (t,H1)|some ts=>some (.tup ts,H1)|none=>none)=some (r,H')->∀(a':Act) (g':G),pN E g H g' a' fr H1->LeavesIn (Fw none) 0 P fn a'.tmps (fun e w'=>∃v g',e= .returned v/\g'.w=w'/\oX H g H' g'/\qP g'/\St g' H'/\Rd g' v r) [] .returning g'.w:=by
    intro fr H1 hr a' g' hci;have hH:H1=H':=by
     split at hr
     .cases hr;rfl
     .cases hr;rfl
     .cases hr
    subst hH;show∃v,_;split at hr
    .rename_i t ht;cases hr;obtain⟨us,h1,h2⟩:=uR (P:=P) hci.st hci.fr ht
     match us,h2 with
     |[u],h2=>
      refine⟨u,?_,u,g',rfl,rfl,hci.step,hci.ok,hci.st,(h2.inv_cons).1⟩;have:fn.results=fn.results.toList.toArray:=by simp
      rw[tH,this,dA];simp only[aO,eH];rw[h1];simp
     |[],h2=>simp[RdL]at h2|_ ::_ ::_,h2=>simp[RdL]at h2
    .rename_i ts' hne ht;cases hr;obtain⟨us,h1,h2⟩:=uR (P:=P) hci.st hci.fr ht;refine⟨.tuple us.toArray,?_,_,g',rfl,rfl,hci.step,hci.ok,hci.st,Rd.mk_tup h2⟩;have:fn.results=fn.results.toList.toArray:=by simp
     rw[tH,this,dA];simp only[aO,eH];rw[h1];have hl:us.length≠1:=fun q=>by
      rw[h2.1]at q;obtain⟨t,rfl⟩:=eG.1 q;exact hne t rfl
     simp[hl]
    .cases hr
   have fin2:∀(fr:eY) (H1:Hp),(match rL P fr H1 fn.results.toList with
     |some [t]=>some (t,H1)|some ts=>some (.tup ts,H1)|none=>none)=some (r,H')->∀(a':Act) (g':G) (ds:gE),pN E g H g' a' fr H1->Mk g g' H1 ds->LeavesInM (Fw none) 0 P fn (DS ds a').tmps (fun e w'=>∃v g',e= .returned v/\g'.w=w'/\oX H g H' g'/\qP g'/\St g' H'/\Rd g' v r) (DS ds a').defers .returning g'.w:=by
    intro fr H1 hr a' g' ds hci hd;have e:(DS ds a').defers=ds:=by simp[DS,hci.df]
    rw[e];exact zW (fun g2 h2=>fin fr H1 hr a' g2 h2) ds g' hci hd
   refine sW.1 (callsIn_of_wp_marks (F:=Fw none) (n:=0) hfn hc trivial ?_ rfl);have e0:(DS [] {tmps:=vs.toArray++Array.replicate (fn.ntmps-vs.toArray.size) undef,defers:=[]})={tmps:=vs.toArray++Array.replicate (fn.ntmps-vs.toArray.size) undef,defers:=[]}:=wT _;have hmk:Mk g g H []:=⟨fun d hd=>by simp at hd,List.nodup_nil⟩;split at he
   .rename_i fr H1 hev;have:=Kg (n:=0) hm hz hE hF hI c _ _ _ _ _ hok hev g g H _ [] hinv hmk (fun e a w=>e≠ .outgrown/\bodyPostM (Fw none) 0 P fn (fun e w'=>∃(v:fP) (g':G),e= .returned v/\g'.w=w'/\oX H g H' g'/\qP g'/\St g' H'/\Rd g' v r) e a w)
     (fun a w h=>h.1 rfl) (fun a' g' ds hci hd=>⟨by simp[X.exit_],fin2 fr H1 he a' g' ds hci hd⟩)
    rw[e0]at this;exact wpIn_mono this (fun e a w h=>h.2)
   .rename_i fr H1 hev;have:=Kg (n:=0) hm hz hE hF hI c _ _ _ _ _ hok hev g g H _ [] hinv hmk (fun e a w=>e≠ .outgrown/\bodyPostM (Fw none) 0 P fn (fun e w'=>∃(v:fP) (g':G),e= .returned v/\g'.w=w'/\oX H g H' g'/\qP g'/\St g' H'/\Rd g' v r) e a w)
     (fun a w h=>h.1 rfl) (fun a' g' ds hci hd=>⟨by simp[X.exit_],fin2 fr H1 he a' g' ds hci hd⟩)
    rw[e0]at this;exact wpIn_mono this (fun e a w h=>h.2)
   .cases he
  .cases he
 .cases he
end
end
end Go.Ps
namespace Go.Ps
noncomputable section
def NQ(P:fA)(gl:fD)(yd:fG):Prop:=
 ∀l ts H b H',yd l ts H=some (b,H')->∀(g:G) (vs:fM),qP g->St g H->GlOk gl g->RdL g vs ts->
  YieldAt (Fw none) 0 P (g.loc l) vs.toArray g.w fun e w'=>∃g',e= .returned (.bool b)/\g'.w=w'/\oX H g H' g'/\qP g'/\St g' H'
theorem Sq{ro:gD}{n:Nat}{P:fA}{l:Nat}{f:fT}{tmps:fU}{a_s bd:Code}{w:gI}{R:iX}(h:RoundIn (Fw none) 0 P l f tmps a_s bd w R):RoundIn (Fw ro) n P l f tmps a_s bd w R:=
 ⟨h.1,fun c cs _ =>h.2 c cs (fun _ h=>by cases h)⟩
section
variable{P:fA}{gl:fD}{ee:fE}{yd:fG}{n:Nat}
theorem Zm{tr:FT}{ops:fC}{o:Oper}{g:Nat×Bool}(hg:o.guard=some g)(hw:tr.Wf n):Fo ops tr g=oW ops (tr.view n) o:=by
 obtain⟨j,want⟩:=g;unfold Fo oW xW;rw[hg];simp only;cases hd:(ops[j]?).bind (·.dst)with
 |none=>simp
 |some d=>
  simp only[dN];by_cases h:d<n
  .rw[NK h];generalize FT.gt (toP d) tr=t;cases t<;>simp
  .have h':n<=d:=bT h;rw[bH (by rw[zJ];exact h'),hw d h'];simp
theorem QV{o:Oper}:rS (RY ee) o=none:=by
 unfold rS;split
 .split
  .exact if_pos rfl
  .rfl
 .rfl
theorem NI{ops:fC}{o:Oper}{H H':Hp}{fr:eY}{v:T}(h:LO P (AD gl) (RY ee) H fr o=some (v,H'))(hw:oW ops fr o=true):
  qU P (AD gl) (RY ee) ops ⟨fr,H,none⟩ o=some ⟨pP fr o.dst v,H',none⟩:=by
 unfold LO at h;simp only[qU,rV,hw,if_true];split at h
 .rename_i v' hv;cases h;rw[hv]
 .rename_i hv;rw[hv];simp only[QV,h]
theorem JJ{ops:fC}{o:Oper}{H:Hp}{fr:eY}(hw:oW ops fr o=false):
  qU P (AD gl) (RY ee) ops ⟨fr,H,none⟩ o=some ⟨pP fr o.dst oL,H,none⟩:=by
 simp[qU,rV,hw]
theorem EU{o:Oper}{l:fS}(h:MP n (o::l)=true):(∀d,o.dst=some d->d<n)/\(o.dst=none->aNt o.op=false)/\MP n l=true:=by
 unfold MP at h;rw[List.all_cons,aA]at h;refine⟨fun d hd=> ?_,fun hd=> ?_,h.2⟩
 .have:=h.1;rw[hd]at this;exact SA.1 this
 .have:=h.1;rw[hd]at this;simpa using this
abbrev jC:=List (FT×Hp)
theorem Wz{sd:Bool}{o:Oper}{ih:FT->Hp->RS}{tr:FT}{H:Hp}{L:jC}(h:opG P gl ee yd sd o ih tr H=some L):
  opF P gl ee yd o.op tr H (fun v H'=>ih (MV tr o.dst v) H')=some L\/(sd=true/\∃cs,Xq P gl tr H o.op=some cs/\Lu (fun p=>ih (MV tr o.dst p.1) p.2) cs=some L):=by
 unfold opG at h;cases hb:aRl o.op with
 |false=>rw[hb]at h;exact .inl h
 |true=>
  rw[hb]at h;cases sd with
  |false=>cases h|true=>exact .inr ⟨rfl,oY h⟩
theorem Nv{sd:Bool}{ops:fC}{o:Oper}{ih:FT->Hp->RS}{tr:FT}{H:Hp}{L:jC}(hw:tr.Wf n)(h:aJi P gl ee yd sd ops o ih tr H=some L):
  (oW ops (tr.view n) o=false/\ih (MV tr o.dst oL) H=some L)\/(oW ops (tr.view n) o=true/\opG P gl ee yd sd o ih tr H=some L):=by
 unfold aJi at h;cases hg:o.guard with
 |none=>
  rw[hg]at h;exact .inr ⟨by simp[oW,hg],h⟩
 |some q=>
  rw[hg]at h;have h:Bool.rec (motive:=fun _ =>RS) (ih (MV tr o.dst oL) H) (opG P gl ee yd sd o ih tr H) (Fo ops tr q)=some L:=h;rw[Zm hg hw]at h;cases hq:oW ops (tr.view n) o with
  |false=>rw[hq]at h;exact .inl ⟨rfl,h⟩|true=>rw[hq]at h;exact .inr ⟨rfl,h⟩
theorem Nu{ops:fC}{o:Oper}{l:fS}{tr:FT}{H:Hp}{L:jC}(hwf:MP n (o::l)=true)(hw:tr.Wf n)(h:QH P gl ee (fun _ _ _ =>none) false ops (o::l) tr H=some L):
  ∃v H1,(MV tr o.dst v).Wf n/\QH P gl ee (fun _ _ _ =>none) false ops l (MV tr o.dst v) H1=some L/\
   ((oW ops (tr.view n) o=false/\v=oL/\H1=H)\/(oW ops (tr.view n) o=true/\LO P (AD gl) (RY ee) H (tr.view n) o=some (v,H1))):=by
 obtain⟨w1,w2,w3⟩:=EU hwf;rcases Nv hw (show aJi P gl ee (fun _ _ _ =>none) false ops o (QH P gl ee (fun _ _ _ =>none) false ops l) tr H=some L from h)with⟨hq,h⟩|⟨hq,h⟩
 .exact⟨oL,H,hw.put w1,h,.inl ⟨hq,rfl,rfl⟩⟩
 .rcases Wz h with h|⟨e,_⟩
  .rcases aIa hw w2 h with⟨v,H1,h1,h2⟩|⟨_,_,_,_,_,h1,_⟩
   .exact⟨v,H1,hw.put w1,h2,.inr ⟨hq,h1⟩⟩
   .cases h1
  .cases e
theorem QI{ops:fC}:∀{l:fS} {tr:FT} {H:Hp} {L:jC},MP n l=true->QH P gl ee (fun _ _ _ =>none) false ops l tr H=some L->tr.Wf n->
  ∃tr' H',L=[(tr',H')]/\pL P (AD gl) (RY ee) ops l ⟨tr.view n,H,none⟩=some ⟨tr'.view n,H',none⟩/\tr'.Wf n
 |[],tr,H,L,_,h,hw=>by
  cases(show some [(tr,H)]=some L from h);exact⟨tr,H,rfl,rfl,hw⟩
 |o::l,tr,H,L,hwf,h,hw=>by
  obtain⟨v,H1,hw1,hr,hcase⟩:=Nu hwf hw h;obtain⟨tr',H',e0,e1,e2⟩:=QI (EU hwf).2.2 hr hw1;refine⟨tr',H',e0,?_,e2⟩;rw[YK]at e1;rcases hcase with⟨hq,rfl,rfl⟩|⟨hq,hc⟩
  .simp only[pL,JJ hq,e1]
  .simp only[pL,NI hc hq,e1]
theorem Eo{A:fN}{m m' k:Nat}(h:qA A m k=true)(hm:m<=m'):qA A m' k=true:=by
 unfold qA at h⊢;rw[aG]at h⊢;intro i hi;apply h i;rw[List.mem_range'_1]at hi⊢;omega
theorem VH:∀(l:fS) (k:Nat),k<=yT l k
 |[],k=>aZ _
 |o::l,k=>by
  unfold yT;split
  .exact aZ _
  .have:=VH l (k+1);omega
theorem aNq{o:Oper}{H H':Hp}{fr:eY}{v:T}(h:rO P (AD gl) (RY ee) H fr o=some (v,H')):Zr o=true:=by
 unfold rO at h;unfold Zr;split at h<;>first|rfl|skip
 all_goals simp_all
 all_goals(try split at h)
 all_goals simp_all
theorem De{ops:fC}{K:Nat}(hK:qA (rF ops.toList []) K ops.size=true):∀{l:fS} {k:Nat} {tr:FT} {H:Hp} {tr':FT} {H':Hp},K<=yT l k->MP n l=true->QH P gl ee (fun _ _ _ =>none) false ops l tr H=some [(tr',H')]->tr.Wf n->
  pK P (AD gl) (RY ee) ops l k ⟨tr.view n,H,none⟩=some ⟨tr'.view n,H',none⟩
 |[],k,tr,H,tr',H',_,_,h,hw=>by
  cases(show some [(tr,H)]=some [(tr',H')]from h);rfl
 |o::l,k,tr,H,tr',H',hk,hwf,h,hw=>by
  have hev:pL P (AD gl) (RY ee) ops (o::l) ⟨tr.view n,H,none⟩=some ⟨tr'.view n,H',none⟩:=by
   obtain⟨t2,H2,e0,e1,_⟩:=QI hwf h hw;cases e0;exact e1
  obtain⟨v,H1,hw1,hr,hcase⟩:=Nu hwf hw h;obtain⟨w1,w2,w3⟩:=EU hwf;have hdst:uM ⟨tr.view n,H,none⟩ o=true:=by
   unfold uM;split
   .rename_i d hd;simp[zJ,w1 d hd]
   .rfl
  have hnext:∀{k'},K<=yT l k'->pK P (AD gl) (RY ee) ops l k' ⟨pP (tr.view n) o.dst v,H1,none⟩=some ⟨tr'.view n,H',none⟩:=fun{k'} hk'=>by
   have:=De hK hk' w3 hr hw1
   rwa [YK]at this
  have hkn:Zr o=false->K<=yT l (k+1):=fun he=>by
   unfold yT at hk
   rwa [he]at hk
  have hkk:Zr o=true->K<=k:=fun he=>by
   unfold yT at hk
   rwa [if_pos he]at hk
  have hks:K<=yT l (k+1):=by
   cases he:Zr o with
   |false=>exact hkn he|true=>have:=hkk he;have:=VH l (k+1);omega
  unfold pK;rw[if_neg (by simp[yU]),if_neg (by rw[hdst];simp)];rcases hcase with⟨hq,rfl,rfl⟩|⟨hq,hc⟩
  .simp only[hq];exact hnext hks
  .simp only[hq,if_true];unfold LO at hc;split at hc
   .rename_i v' hv;cases hc;rw[hv];exact hnext hks
   .rename_i hv;rw[hv];simp only[QV];rw[if_pos (Eo hK (hkk (aNq hc)))];exact hev
end
end
end Go.Ps
namespace Go.Ps
noncomputable section
open Go.RowKit
section
variable{P:fA}{gl:fD}{ee:fE}{yd:fG}{n:Nat}
theorem aXg:tP P gl (AD gl).pe:=fun _ _ _ _ h=>by cases h
theorem aRu(hF:rG P gl ee):rG P gl (RY ee).ee:=by rw[EG];exact hF
theorem Pj(hY:NQ P gl yd){ops:fC}(hp:sQ ops=true){i:Nat}{o:Oper}(hi:ops[i]? =some o){fr:eY}{H H':Hp}{l:Nat}{ars:eY}{b:Bool}(hq:vX gl fr o=some (l,ars))(hy:yd l ars H=some (b,H'))
  (hw:oW ops fr o=true) {g0 g:G} {H0:Hp} {a:Act} (hc:pN (AD gl) g0 H0 g a fr H) {ro:gD} {m:Nat} {ds:gE} {K:gH} {Q:fF}
  (hK:∀g',pN (AD gl) g0 H0 g' (a.put o.dst (.bool b)) (pP fr o.dst (.bool b)) H'->oX H g H' g'->K (DS ds (a.put o.dst (.bool b))) g'.w):wpOpIn (Fw ro) m P ops Q i K (DS ds a) g.w:=by
 have hx:=CJ.of hc.fr none;have hwd:Region.wanted o (yielded ops (DS ds a).tmps)=true:=by
  rw[Dx,IR hx (fun d _ =>by simp)];exact hw
 unfold wpOpIn;rw[hi];simp only[hwd,if_true];refine⟨fun _ _ =>trivial,?_⟩;have ep:o.semAt (Fw ro).round (DS ds a).eval=execOp a.eval o:=Oper.semAt_eq _ _ _ (GY hp hi);rw[ep];unfold vX at hq;split at hq
 .rename_i c hop;split at hq
  .rename_i f hcal;split at hq
   .rename_i l1 hev;split at hq
    .rename_i ars' hars;simp only[aD,aQ]at hq;obtain⟨rfl,rfl⟩:=hq;obtain⟨callee,args,tys⟩:=c;simp only at hcal hars;subst hcal;have hv:a.eval f= .func (.yield (g.loc l1)) #[] #[]:=by
      have:=hx.eval hc.gl (fun _ _ =>by simp) hev;revert this;generalize a.eval f=u;intro this;cases this;rfl
     have h3:=sY (g:=g) (a:=a) hars (fun x hx' t ht=>hx.eval hc.gl (fun _ _ =>by simp) ht);obtain⟨fn,tmps,a_s,bd,hy',hR⟩:=hY l1 ars' H b H' hy g (args.toList.map a.eval) hc.ok hc.st hc.gl h3;have hrun:(execOp a.eval o).run P g.w= .ok (.round (g.loc l1) fn tmps a_s bd) g.w:=by
      simp only[execOp,hop,resolve,hv,Deferred.ofValue,aO,aW,aH,invoke,qI];simpa using hy'
     rw[hrun];refine⟨fun h=>(by cases h),Sq (hR.mono ?_)⟩;rintro e W' ⟨g',rfl,rfl,hs,hok,hst⟩;have:=hK g' ⟨hok,hst,hc.gl.sstep hc.st hs,by rw[rQ];exact hc.df,((CJ.of (hc.fr.sstep hc.st hs) none).put (Rd.bool b)).all,hc.step.trans hs⟩ hs
     rwa [JQ]at this
    .cases hq
   .cases hq
  .cases hq
 .cases hq
theorem Mk.pre{g0 g:G}{H H':Hp}{g':G}{ds:gE}(h:Mk g0 g H ds)(hs:oX H g H' g'):Mk g0 g' H' ds:=h.sstep hs
theorem Xn(hF:rG P gl ee)(hY:NQ P gl yd){sd:Bool}{ops:fC}(hp:sQ ops=true){Q:fF}(hno:∀a w,¬Q .outgrown a w){ro:gD}{m:Nat}{g0:G}{H0:Hp}{ds:gE}:
  ∀(l:fS) (k:Nat) (tr:FT) (H:Hp) (L:jC),(∀j,l[j]? =ops[k+j]?)->MP n l=true->QH P gl ee yd sd ops l tr H=some L->tr.Wf n->∀(g:G) (a:Act),pN (AD gl) g0 H0 g a (tr.view n) H->Mk g0 g H ds->
   (∀p∈L,∀a' g',pN (AD gl) g0 H0 g' a' (p.1.view n) p.2->p.1.Wf n->Mk g0 g' p.2 ds->Q .normal (DS ds a') g'.w)->wpOpsIn (Fw ro) m P ops Q (List.range' k l.length) (DS ds a) g.w
 |[],k,tr,H,L,_,_,h,hw,g,a,hc,hd,hQ=>by
  cases(show some [(tr,H)]=some L from h);exact hQ (tr,H) (bF.2 rfl) a g hc hw hd
 |o::l,k,tr,H,L,hl,hwf,h,hw,g,a,hc,hd,hQ=>by
  have h0:ops[k]? =some o:=by simpa using(hl 0).symm
  have hl':∀j,l[j]? =ops[k+1+j]? :=fun j=>by have:=hl (j+1);simpa [dG,Nat.add_comm 1 j]using this
  obtain⟨w1,w2,w3⟩:=EU hwf;rw[bL,eJ,wpOpsIn_cons];have next:∀v H1 L1,(∀p∈L1,p∈L)->QH P gl ee yd sd ops l (MV tr o.dst v) H1=some L1->∀(g':G) (a':Act),pN (AD gl) g0 H0 g' a' (pP (tr.view n) o.dst v) H1->oX H g H1 g'->wpOpsIn (Fw ro) m P ops Q (List.range' (k+1) l.length) (DS ds a') g'.w:=by
   intro v H1 L1 hsub hr g' a' hc' hs;exact Xn hF hY hp hno l (k+1) (MV tr o.dst v) H1 L1 hl' w3 hr (hw.put w1) g' a' (by rw[YK];exact hc') (hd.sstep hs) (fun p hp=>hQ p (hsub p hp))
  have core:∀v H1,qU P (AD gl) (RY ee) ops ⟨tr.view n,H,none⟩ o=some ⟨pP (tr.view n) o.dst v,H1,none⟩->QH P gl ee yd sd ops l (MV tr o.dst v) H1=some L->wpOpIn (Fw ro) m P ops Q k (wpOpsIn (Fw ro) m P ops Q (List.range' (k+1) l.length)) (DS ds a) g.w:=by
   intro v H1 hs hr;have h1:=NH (P:=P) (E:=AD gl) (F:=RY ee) (g0:=g) (H0:=H) (Q:=fun e a w=>Q e (DS ds a) w) aXg (aRu hF) hc.toInv hs h0 (K:=fun a' w'=>∃g',g'.w=w'/\Inv P (AD gl) g H g' a' ⟨pP (tr.view n) o.dst v,H1,none⟩) (fun a' g' h'=>⟨g',rfl,h'⟩);refine IU hp hno (fun a' w' ⟨g',e,h'⟩=> ?_) h1;rw[<-e];exact next v H1 L (fun _ h=>h) hr g' a' (h'.toC hc.step rfl) h'.step
  rcases Nv hw (show aJi P gl ee yd sd ops o (QH P gl ee yd sd ops l) tr H=some L from h)with⟨hq,h⟩|⟨hq,h⟩
  .exact core oL H (JJ hq) h
  .rcases Wz h with h|⟨_,cs,h1,h2⟩
   .rcases aIa hw w2 h with⟨v,H1,h1,h2⟩|⟨l1,ars,b,H1,h1,h2,h3⟩
    .exact core v H1 (NI h1 hq) h2
    .exact Pj hY hp h0 h1 h2 hq hc (fun g' hc' hs=>next (.bool b) H1 L (fun _ h=>h) h3 g' _ hc' hs)
   .have hx:=CJ.of hc.fr none;have hop:∀x∈o.op.operands,∀t,pE gl (tr.view n) x=some t->Rd g (a.eval x) t:=fun x _ t ht=>hx.eval hc.gl (fun _ _ =>by simp) ht;obtain⟨t,H1,hmem,hE⟩:=aJo (P:=P) hc.st hc.ok hw h1 hop;obtain⟨L1,h3,h4⟩:=IC h2 _ hmem;have hwd:Region.wanted o (yielded ops a.tmps)=true:=by
     rw[IR hx (fun d _ =>by simp)];exact hq
    have h1:wpOp P ops (fun e a w=>Q e (DS ds a) w) k (fun a' w'=>∃g',g'.w=w'/\pN (AD gl) g0 H0 g' a' (pP (tr.view n) o.dst t) H1/\oX H g H1 g') a g.w:=by
     unfold wpOp;rw[h0];simp only[hwd,if_true];exact .inl (hE _ _ fun v g' hs hok hst hr=>⟨g',rfl,⟨hok,hst,hc.gl.sstep hc.st hs,by rw[rQ];exact hc.df,((CJ.of (hc.fr.sstep hc.st hs) none).put hr).all,hc.step.trans hs⟩,hs⟩)
    refine IU hp hno (fun a' w' ⟨g',e,hc',hs⟩=> ?_) h1;rw[<-e];exact next t H1 L1 h4 h3 g' a' hc' hs
theorem WQ{fr:eY}(h:fr.length=n):(FT.of fr 0 .nl).view n=fr/\(FT.of fr 0 .nl).Wf n:=by
 obtain⟨h1,h2⟩:=Wy (n:=n) (l:=fr) (by omega);refine⟨?_,h2⟩;rw[h1,h,Nat.sub_self];simp
theorem Zd{pc:fH}(hz:uD gl)(hP:PcOk P gl pc){ops:fC}{tr:FT}{H:Hp}{L:jC}(hwf:MP n ops.toList=true)(hw:tr.Wf n)(h:Uu P gl ee pc n ops tr H=some L):
  uU ops=true/\∃tr' H' pe,L=[(tr',H')]/\tP P gl pe/\tr'.Wf n/\(qK P ⟨gl,pe⟩ (RY ee) ops (tr.view n) H=some ⟨tr'.view n,H',none⟩\/HW P ⟨gl,pe⟩ (RY ee) ops (tr.view n) H=some (tr'.view n,H')):=by
 unfold Uu at h;cases hs:aEv ops with
 |true=>
  rw[hs]at h;have h:QH P gl ee (fun _ _ _ =>none) false ops ops.toList tr H=some L:=h;unfold aEv at hs;simp only[aA]at hs;obtain⟨h1,h2,h3⟩:=hs;obtain⟨tr',H',rfl,_,e2⟩:=QI hwf h hw;refine⟨h1,tr',H',fun _ _ _ =>none,rfl,aXg,e2,.inl ?_⟩;unfold qK;rw[if_neg (by simpa using h2)];exact De h3 (aZ _) hwf h hw
 |false=>
  rw[hs]at h;obtain⟨hd,h⟩:=vH (show NM (uU ops) _ =some L from h);unfold aQo at h;obtain⟨⟨fr1,H1⟩,he,h⟩:=oY h;obtain⟨hb,h⟩:=vH h;cases h;have hl:fr1.length=n:=by
   have:=aB hb
   rwa [MF]at this
  obtain⟨e1,e2⟩:=WQ hl;refine⟨hd,_,_,sB 30 pc,rfl,SW hz hP,e2,?_⟩;rw[e1];cases hlt:Rn ops with
  |false=>rw[hlt]at he;exact .inr he
  |true=>
   rw[hlt]at he;have he:aEw P ⟨gl,sB 30 pc⟩ (xY (fun _ =>true) ee) ops (tr.view n) H=some (fr1,H1):=he;unfold aEw at he;split at he
   .rename_i f2 H2 hx;cases he;exact .inl hx
   .cases he
theorem aTg(hm:P.follows .mixedOrders=true){pe:fK}(hE:tP P gl pe)(hF:rG P gl ee){id:Nat}{ops:fC}(hp:sQ ops=true)(hok:uU ops=true){fr fr':eY}{H H':Hp}(he:HW P ⟨gl,pe⟩ (RY ee) ops fr H=some (fr',H'))
  {g0 g:G} {H0:Hp} {a:Act} (hc:pN ⟨gl,pe⟩ g0 H0 g a fr H) {ro:gD} {m:Nat} {ds:gE} {Q:fF} (hno:∀a w,¬Q .outgrown a w) (hQ:∀a' g',pN ⟨gl,pe⟩ g0 H0 g' a' fr' H'->oX H g H' g'->Q .normal (DS ds a') g'.w):
  (Code.region id ops true).wpIn (Fw ro) m P Q (DS ds a) g.w:=
 wpIn_region_any hm (NL hp hno _ _ _ _ (aFa (Q:=fun e a w=>Q e (DS ds a) w) hE (aRu hF) hok he hc.toInv (fun a' g' hi=>hQ a' g' (hi.toC hc.step rfl) hi.step)))
theorem Bi{g:G}{H:Hp}{l:Nat}{o:Ob}(ho:H.any l=some o)(b':Obj):oX H g (H.drop l) (g.setOb (g.loc l) b'):=by
 refine⟨rfl,rfl,rfl,by simp[G.setOb],fun b _ hn=> ?_,fun _ h=>h,fun b h=> .inl h,fun _ h=>h,fun _ _ =>rfl,fun _ _ =>rfl,fun m q hq=> ?_⟩
 .simp only[G.setOb];rw[bJ (hn l o ho)]
 .rw[sJ]at hq;split at hq
  .cases hq
  .exact .inl ⟨m,q,hq,rfl⟩
theorem aMp{g:G}{H:Hp}(hs:St g H){l:Nat}{o:Ob}(ho:H.any l=some o)(b':Obj):St (g.setOb (g.loc l) b') (H.drop l):=by
 have hst:=Bi (g:=g) ho b';have hoth:∀m q,m≠l->H.any m=some q->(g.setOb (g.loc l) b').w.heap[g.loc m]? =g.w.heap[g.loc m]? :=fun m q hne hq=>by
  simp only[G.setOb];rw[bJ (fun e'=>hne (hs.sep m l q o hq ho e'.symm))]
 have hany:∀m q,(H.drop l).any m=some q->m≠l/\H.any m=some q:=fun m q hq=>by
  rw[sJ]at hq;split at hq
  .cases hq
  .rename_i e;exact⟨e,hq⟩
 refine⟨fun m q hq=> ?_,fun m q mo hq hme=> ?_,fun m m' q q' h1 h2 e=> ?_,fun m hm=>hs.new m hm⟩
 .obtain⟨hqa,hqm⟩:=pJ hq;obtain⟨e,hqa⟩:=hany m q hqa;obtain⟨ha,hS,c0,hb,q1,q2,q3,q4⟩:=hs.own m q (yQ hqa hqm);exact⟨ha,hS,c0,by rw[show(g.setOb (g.loc l) b').loc m=g.loc m from rfl,hoth m q e hqa];exact hb,q1,q2,q3,q4.sstep hs hst⟩
 .obtain⟨e,hqa⟩:=hany m q hq;obtain⟨ha,hS,ms',hb,q1⟩:=hs.ownM m q mo hqa hme;exact⟨ha,hS,ms',by rw[show(g.setOb (g.loc l) b').loc m=g.loc m from rfl,hoth m q e hqa];exact hb,q1.mono (fun _ _ z=>z.sstep hs hst) (fun l hl=>⟨hst.al l hl,hst.loc l hl⟩)⟩
 .exact hs.sep m m' q q' (hany m q h1).2 (hany m' q' h2).2 e
theorem uO{α:Type}{H:Hp}{l:Nat}{k:Lr->Option α}{r:α}(h:KB H l k=some r):∃o rc,H.any l=some o/\o.me=some (.loop rc)/\k rc=some r:=by
 unfold KB at h;obtain⟨o,h1,h⟩:=oY h;obtain⟨m,h2,h⟩:=oY h;split at h
 .exact⟨o,_,h1,h2,h⟩
 .cases h
theorem EP{g:G}{H:Hp}(hs:St g H){l:Nat}{o:Ob}{r:Lr}(ho:H.any l=some o)(hm:o.me=some (.loop r)):g.al l/\∃fn tmps D,g.w.heap[g.loc l]? =some (.loop {state:=r.st,pending:=r.pe,fn,tmps,params:=r.ps,assign:=r.asg,body:=r.bd,defers:=D})/\RdL g tmps.toList (r.fr.view r.n)/\r.fr.Wf r.n:=by
 obtain⟨h1,_,b,hb,fn,tmps,D,e,h2,h3⟩:=hs.ownM l o _ ho hm;exact⟨h1,fn,tmps,D,by rw[hb,e],h2,h3⟩
theorem aFd{ro:gD}{g0 g:G}{H0 H:Hp}{a:Act}{fr:eY}{ds:gE}(hc:pN (AD gl) g0 H0 g a fr H)(hd:Mk g0 g H ds)(hro:∀l,ro=some l->g0.al l)(hok:Hh H ro=true)(fn:fT)(tmps:fU)(ps:jD)(asg bd:Code):
  ∃(w':gI) (D:Nat) (mark:gE),(Instr.enterLoop fn tmps ps asg bd (ro.map g0.loc)).run P g.w= .ok (w'.heap.size,mark) (w'.alloc (.loop {state:= .ready,pending:=none,fn,tmps,params:=ps,assign:=asg,body:=bd,defers:=D}))/\
   PStep g {g with w:=w'}/\qP {g with w:=w'}/\Mk g0 {g with w:=w'} H (mark++ds):=by
 cases ro with
 |none=>
  have hb:Below g.w.heap.size g.w (g.w.alloc (.deferred (some []))):=(Below.refl _ g.w).alloc (aZ _) _;have hp:PStep g {g with w:=g.w.alloc (.deferred (some []))}:=⟨hb.os,hb.tape,hb.output,hb.size,hb.block,fun _ h=>h,fun _ h=> .inl h,rfl,rfl,rfl⟩;refine⟨g.w.alloc (.deferred (some [])),g.w.heap.size,[{target:= .collected g.w.heap.size,args:= #[]}],?_,hp,fun b hb'=>bP (hc.ok b hb') hp.size,fun d hdm=> ?_,?_⟩
  .rw[World.size_alloc];exact run_enterLoop_outer _ _ _ _ _
  .rcases aU.1 hdm with rfl|hdm
   .refine⟨g.w.heap.size,rfl,hc.step.size,⟨fun q=> ?_,fun l o ho e=> ?_⟩,World.alloc_heap_new g.w _⟩
    .have:=hc.ok _ q;omega
    .have:=hc.st.lt ho;have e':g.loc l=g.w.heap.size:=e;omega
   .exact(hd.sstep hp.toS).at_ d hdm
  .refine dS.2 ⟨fun hdm=> ?_,hd.nd⟩;obtain⟨D',e,_,_,q⟩:=hd.at_ _ hdm;cases e;have:=(aL.1 q).1;omega
 |some lo=>
  unfold Hh aNs at hok;simp only at hok;split at hok
  .rename_i o ho;split at hok
   .rename_i r hm;obtain⟨_,fn',tmps',D,hb,_,_⟩:=EP hc.st ho hm;have hl:g0.loc lo=g.loc lo:=(hc.step.loc lo (hro lo rfl)).symm;refine⟨g.w,D,[],?_,PStep.refl g,hc.ok,hd⟩;rw[bW,hl];have:=run_enterLoop_inner (P:=P) hb fn tmps ps asg bd;exact this
   .cases hok
  .cases hok
end
end
end Go.Ps
namespace Go.Ps
noncomputable section
open Go.RowKit
section
variable{P:fA}{gl:fD}{ee:fE}{yd:fG}{n:Nat}
abbrev iP:=List (X×FT×Hp)
theorem aFc{l:Nat}{tr:FT}{H:Hp}{L:iP}(h:aFb l tr H=some L):∃o rc x,H.any l=some o/\o.me=some (.loop rc)/\rc.st≠ .busy/\L=[(x,tr,H.drop l)]/\
  ((x= .normal/\rc.pe=none)\/(∃id,x= .exit id/\rc.pe=some (.exit id))\/(x= .ret/\rc.pe=some .ret)):=by
 obtain⟨o,rc,h1,h2,h3⟩:=uO h;split at h3
 .cases h3
 .rename_i hb;split at h3
  .rename_i hp;cases h3;exact⟨o,rc,.normal,h1,h2,hb,rfl,.inl ⟨rfl,hp⟩⟩
  .rename_i id hp;cases h3;exact⟨o,rc,.exit id,h1,h2,hb,rfl,.inr (.inl ⟨id,rfl,hp⟩)⟩
  .rename_i hp;cases h3;exact⟨o,rc,.ret,h1,h2,hb,rfl,.inr (.inr ⟨rfl,hp⟩)⟩
  .cases h3
theorem XD(hF:rG P gl ee){ro:gD}{m:Nat}{g0:G}{H0:Hp}(hro:∀l,ro=some l->g0.al l){gv:gF}{ps:jD}{asg bd:Code}{ow:fX}{tr:FT}{H H2:Hp}{L:iP}{gf:fT}{cap:eY}{v:T}(hw:tr.Wf n)(he:pE gl (tr.view n) gv=some (.fn (.func gf) [] cap))
  (hrok:Hh H ro=true) (hcall:ee gf (.yl H.next::cap) (H.new (yK ⟨.ready,none,tr,n,ps,asg,bd,ow⟩))=some (v,H2)) (h:aFb H.next tr H2=some L) {g:G} {a:Act} {ds:gE} (hc:pN (AD gl) g0 H0 g a (tr.view n) H) (hd:Mk g0 g H ds) {Q:fF}
  (hQ:∀p∈L,∀a' g' ds',pN (AD gl) g0 H0 g' a' (p.2.1.view n) p.2.2->p.2.1.Wf n->Mk g0 g' p.2.2 ds'->Q p.1.exit_ (DS ds' a') g'.w):(Code.rangeFunc gv ps asg bd).wpIn (Fw (ro.map g0.loc)) m P Q (DS ds a) g.w:=by
 obtain⟨o2,rc,x,ho2,hm2,hst2,rfl,hx⟩:=aFc h;have hv:=(CJ.of hc.fr none).eval hc.gl (fun _ _ =>by simp) he;obtain⟨us,hev,hus⟩:∃us:List Value,a.eval gv= .func (.func gf) #[] us.toArray/\RdL g us cap:=by
  revert hv;generalize a.eval gv=u;intro hv;cases hv with
  |fn f first captured vs us h1 h2 h3 h4=>
   have:vs=[]:=by simpa using h1
   subst this;exact⟨us,rfl,h3,h4⟩
 refine wpIn_rangeFunc fun fn hfn=> ?_;obtain⟨w',D,mark,hent,hp1,hok1,hmk1⟩:=aFd (P:=P) hc hd hro hrok fn a.tmps ps asg bd;obtain⟨g1,hg1⟩:∃g1:G,g1={g with w:=w'}:=⟨_,rfl⟩;rw[<-hg1]at hp1 hok1 hmk1;have hw1:w'=g1.w:=by rw[hg1]
 rw[hw1]at hent;have hc1:pN (AD gl) g0 H0 g1 a (tr.view n) H:=hc.pstep hp1 hok1;obtain⟨rec,hrec⟩:∃rec:Loop,rec={state:= .ready,pending:=none,fn,tmps:=a.tmps,params:=ps,assign:=asg,body:=bd,defers:=D}:=⟨_,rfl⟩;rw[<-hrec]at hent;obtain⟨r0,hr0⟩:∃r0:Lr,r0=⟨.ready,none,tr,n,ps,asg,bd,ow⟩:=⟨_,rfl⟩;rw[<-hr0]at hcall;obtain⟨hokf,hcon⟩:=hF _ _ _ _ _ hcall;obtain⟨g2,hg2⟩:∃g2:G,g2=g1.own H.next (.loop rec) 0:=⟨_,rfl⟩;have hs2:oX H g1 (H.new (yK r0)) g2:=by rw[hg2];exact wM hc1.st _ _ _
 have hok2:qP g2:=by rw[hg2];exact EV hc1.ok _ _ _
 have hst2':St g2 (H.new (yK r0)):=by
  rw[hg2];refine MQ hc1.st hc1.ok fun _ keep=>⟨fun e=>(by cases e),fun m e=> ?_⟩;cases e;refine⟨fn,a.tmps,D,?_,?_,?_⟩
  .rw[hr0,hrec]
  .rw[hr0];exact⟨hc1.fr.1,fun j v c hv hc=>keep v c (hc1.fr.2 j v c hv hc)⟩
  .rw[hr0];exact hw
 have hgl2:GlOk gl g2:=hc1.gl.sstep hc1.st hs2;have hloc:g2.loc H.next=g1.w.heap.size:=by rw[hg2];simp[G.own]
 have hW:g1.w.alloc (.loop rec)=g2.w:=by rw[hg2];rfl
 rw[hW]at hent;have hargs:RdL g2 (.func (.yield g1.w.heap.size) #[] #[]::us) (.yl H.next::cap):=by
  refine RdL.cons ?_ ((hus.pstep hp1).sstep hc1.st hs2);rw[<-hloc];exact .yl H.next (by rw[hg2];exact .inr rfl)
 refine⟨g1.w.heap.size,mark,g2.w,{target:= .fn (.func gf) us.toArray,args:= #[.func (.yield g1.w.heap.size) #[] #[]]},g2.w,gf, #[.func (.yield g1.w.heap.size) #[] #[]]++us.toArray,g2.w,hent,?_,?_,?_,fun h=>(by cases h),?_⟩
 .have hev':(DS ds a).eval gv= .func (.func gf) #[] us.toArray:=hev;simp only[resolve,hev'];simp[go_sem]
 .intro _ _;trivial
 .have:=DH (g:=g2) hokf (#[.func (.yield g1.w.heap.size) #[] #[]]++us.toArray);simp[invoke,go_sem]at this⊢;exact this
 .have ea:({DS ds a with defers:=mark++(DS ds a).defers}:Act)=DS (mark++ds) a:=by simp[DS,hc.df]
  have eargs:(#[.func (.yield g1.w.heap.size) #[] #[]]++us.toArray:Array Value)=(Value.func (.yield g1.w.heap.size) #[] #[]::us).toArray:=by simp
  rw[eargs];refine sW.2 ((hcon g2 _ hok2 hst2' hgl2 hargs).mono ?_);rintro e w3 ⟨v',g3,rfl,rfl,hs3,hok3,hst3,_⟩;obtain⟨hal3,fn3,tmps3,D3,hb3,_,_⟩:=EP hst3 ho2 hm2;have hl3:g3.loc H.next=g1.w.heap.size:=by rw[<-hloc];exact hs3.loc H.next (by rw[hg2];exact .inr rfl)
  rw[hl3]at hb3;have hend:=run_endLoop (P:=P) hb3 (by simpa using hst2);obtain⟨g4,hg4⟩:∃g4:G,g4=g3.setOb (g3.loc H.next) (.loop {state:= .exhausted,pending:=rc.pe,fn:=fn3,tmps:=tmps3,params:=rc.ps,assign:=rc.asg,body:=rc.bd,defers:=D3}):=⟨_,rfl⟩;have hs4:oX H2 g3 (H2.drop H.next) g4:=by rw[hg4];exact Bi ho2 _
  have hst4:St g4 (H2.drop H.next):=by rw[hg4];exact aMp hst3 ho2 _
  have hok4:qP g4:=by rw[hg4];exact DT hok3 _ _
  have hw4:(g3.w.putObj g1.w.heap.size (.loop {state:= .exhausted,pending:=rc.pe,fn:=fn3,tmps:=tmps3,params:=rc.ps,assign:=rc.asg,body:=rc.bd,defers:=D3}))=g4.w:=by rw[hg4,hl3];rfl
  rw[hw4]at hend;have hall:oX H g1 (H2.drop H.next) g4:=(hs2.trans hs3).trans hs4;have hc4:pN (AD gl) g0 H0 g4 a (tr.view n) (H2.drop H.next):=⟨hok4,hst4,hc1.gl.sstep hc1.st hall,hc.df,hc1.fr.sstep hc1.st hall,hc1.step.trans hall⟩;have hq:=hQ _ (bF.2 rfl) a g4 (mark++ds) hc4 hw (hmk1.sstep hall);refine⟨rc.pe,g4.w,hend,?_⟩;rw[ea];rcases hx with⟨rfl,hp⟩|⟨id,rfl,hp⟩|⟨rfl,hp⟩
  .rw[hp];exact hq
  .rw[hp];exact wpIn_exit hq
  .rw[hp];exact wpIn_ret hq
theorem aAv(hF:rG P gl ee){ro:gD}{m:Nat}{g0:G}{H0:Hp}(hro:∀l,ro=some l->g0.al l){gv:gF}{ps:jD}{asg bd:Code}{tr:FT}{H:Hp}{L:iP}{t:T}(hw:tr.Wf n)(he:pE gl (tr.view n) gv=some t)
  (h:Hb ee n ro ps asg bd tr H t=some L) {g:G} {a:Act} {ds:gE} (hc:pN (AD gl) g0 H0 g a (tr.view n) H) (hd:Mk g0 g H ds) {Q:fF}
  (hQ:∀p∈L,∀a' g' ds',pN (AD gl) g0 H0 g' a' (p.2.1.view n) p.2.2->p.2.1.Wf n->Mk g0 g' p.2.2 ds'->Q p.1.exit_ (DS ds' a') g'.w):(Code.rangeFunc gv ps asg bd).wpIn (Fw (ro.map g0.loc)) m P Q (DS ds a) g.w:=by
 unfold Hb at h;split at h
 .rename_i fk first cap
  split at h
  .rename_i gf;obtain⟨hrok,h⟩:=vH h;rw[vY]at h;obtain⟨⟨v,H2⟩,hcall,h⟩:=oY h;exact XD hF hro hw he hrok hcall h hc hd hQ
  .cases h
 .cases h
theorem Cd{f ih:FT->Hp->RX}{tr:FT}{H:Hp}{L:iP}(h:Cc f ih tr H=some L):
  ∃L1,f tr H=some L1/\∀p∈L1,(p.1= .normal/\∃L2,ih p.2.1 p.2.2=some L2/\∀q∈L2,q∈L)\/(p.1≠ .normal/\p∈L):=by
 unfold Cc at h;obtain⟨L1,h1,h⟩:=oY h;refine⟨L1,h1,fun p hp=> ?_⟩;obtain⟨L2,h2,h3⟩:=IC h p hp;obtain⟨x,tr1,H1⟩:=p;cases x with
 |normal=>exact .inl ⟨rfl,L2,h2,h3⟩|exit id=>cases h2;exact .inr ⟨by simp,h3 _ (bF.2 rfl)⟩|ret=>cases h2;exact .inr ⟨by simp,h3 _ (bF.2 rfl)⟩
theorem Yd{x:X}(h:x≠ .normal){K:gH}{Q:fF}{a:Act}{w:gI}(hq:Q x.exit_ a w):Exit.then K Q x.exit_ a w:=by
 cases x with
 |normal=>exact absurd rfl h|exit id=>exact hq|ret=>exact hq
theorem Yb{x:X}(h:x= .normal){K:gH}{Q:fF}{a:Act}{w:gI}(hk:K a w):Exit.then K Q x.exit_ a w:=by
 subst h;exact hk
theorem pN.cast{E E':tW}(e:E.gl=E'.gl){g0 g:G}{H0 H:Hp}{a:Act}{fr:eY}(h:pN E g0 H0 g a fr H):pN E' g0 H0 g a fr H:=⟨h.ok,h.st,e▸h.gl,h.df,h.fr,h.step⟩
theorem UL{pc:fH}(hm:P.follows .mixedOrders=true)(hz:uD gl)(hP:PcOk P gl pc)(hF:rG P gl ee)(hY:NQ P gl yd){N n:Nat}{ro:gD}{m:Nat}{g0:G}{H0:Hp}(hro:∀l,ro=some l->g0.al l):
  ∀(c:Code) (tr:FT) (H:Hp) (L:iP),wS n c=true->CQ P gl ee yd pc N n ro c tr H=some L->tr.Wf n->∀(g:G) (a:Act) (ds:gE),pN (AD gl) g0 H0 g a (tr.view n) H->Mk g0 g H ds->
   ∀(Q:fF),(∀a w,¬Q .outgrown a w)->(∀p∈L,∀a' g' ds',pN (AD gl) g0 H0 g' a' (p.2.1.view n) p.2.2->p.2.1.Wf n->Mk g0 g' p.2.2 ds'->Q p.1.exit_ (DS ds' a') g'.w)->c.wpIn (Fw (ro.map g0.loc)) m P Q (DS ds a) g.w:=by
 intro c
 induction c with
 |skip=>
  intro tr H L _ he hw g a ds hc hd Q hno hQ;cases(show some [(X.normal,tr,H)]=some L from he);exact wpIn_skip (hQ _ (bF.2 rfl) a g ds hc hw hd)
 |label l=>
  intro tr H L _ he hw g a ds hc hd Q hno hQ;cases(show some [(X.normal,tr,H)]=some L from he);exact wpIn_label (hQ _ (bF.2 rfl) a g ds hc hw hd)
 |exit id=>
  intro tr H L _ he hw g a ds hc hd Q hno hQ;cases(show some [(X.exit id,tr,H)]=some L from he);exact wpIn_exit (hQ _ (bF.2 rfl) a g ds hc hw hd)
 |ret=>
  intro tr H L _ he hw g a ds hc hd Q hno hQ;cases(show some [(X.ret,tr,H)]=some L from he);exact wpIn_ret (hQ _ (bF.2 rfl) a g ds hc hw hd)
 |region id ops draw=>
  intro tr H L hwf he hw g a ds hc hd Q hno hQ;simp only[wS,aA]at hwf;have he:bDz (Bool.rec (motive:=fun _ =>RS) (QH P gl ee yd true ops ops.toList tr H) (Uu P gl ee pc n ops tr H) draw)=some L:=he;obtain⟨L1,h1,h2⟩:=oY he;have hmem:∀p∈L1,(X.normal,p)∈L:=fun p hp=>by
   obtain⟨q,e,h3⟩:=IC h2 p hp;cases e;exact h3 _ (bF.2 rfl)
  cases draw with
  |false=>
   have:=Xn (ro:=ro.map g0.loc) (m:=m) hF hY hwf.1 hno ops.toList 0 tr H L1 (fun j=>by simp) hwf.2 h1 hw g a hc hd (fun p hp a' g' hc' hw' hd'=>hQ _ (hmem p hp) a' g' ds hc' hw' hd');rw[cQ,<-List.range_eq_range']at this;exact wpIn_region this
  |true=>
   obtain⟨d1,tr1,H1,pe,rfl,d0,d3,d2⟩:=Zd hz hP hwf.2 hw h1;have hc1:pN ⟨gl,pe⟩ g0 H0 g a (tr.view n) H:=pN.cast (E:=AD gl) (E':=⟨gl,pe⟩) rfl hc;have fin:∀a' g',pN ⟨gl,pe⟩ g0 H0 g' a' (tr1.view n) H1->oX H g H1 g'->Q .normal (DS ds a') g'.w:=fun a' g' hc' hs=>hQ _ (hmem _ (bF.2 rfl)) a' g' ds (pN.cast (E:=⟨gl,pe⟩) (E':=AD gl) rfl hc') d3 (hd.sstep hs);rcases d2 with d2|d2
   .exact QD (E:=⟨gl,pe⟩) (draw:=true) hm d0 (aRu hF) hwf.1 (fun _ =>d1) ((if_pos rfl).trans d2) hc1.self hno (fun a' g' hc'=>fin a' g' (hc1.based hc') hc'.step)
   .exact aTg hm d0 hF hwf.1 d1 d2 hc1 hno fin
 |seq c1 c2 ih1 ih2=>
  intro tr H L hwf he hw g a ds hc hd Q hno hQ;simp only[wS,aA]at hwf;refine wpIn_seq ?_;obtain⟨L1,h1,h2⟩:=Cd (show Cc (CQ P gl ee yd pc N n ro c1) (CQ P gl ee yd pc N n ro c2) tr H=some L from he);refine ih1 _ _ _ hwf.1 h1 hw g a ds hc hd _ (tU hno) (fun p hp a' g' ds' hc' hw' hd'=> ?_);rcases h2 p hp with⟨hx,L2,h3,h4⟩|⟨hx,h3⟩
  .exact Yb hx (ih2 _ _ _ hwf.2 h3 hw' g' a' ds' hc' hd' Q hno (fun q hq=>hQ q (h4 q hq)))
  .exact Yd hx (hQ p h3 a' g' ds' hc' hw' hd')
 |cond o c1 c2 ih1 ih2=>
  intro tr H L hwf he hw g a ds hc hd Q hno hQ;simp only[wS,aA]at hwf;obtain⟨t,ht,he⟩:=pS hw (show AI gl tr o (aEn (CQ P gl ee yd pc N n ro c1) (CQ P gl ee yd pc N n ro c2) tr H)=some L from he);unfold aEn at he;split at he
  .rename_i b;have hr:=(CJ.of hc.fr none).eval hc.gl (fun _ _ =>by simp) ht;refine wpIn_cond (t:=b) (show(DS ds a).eval o= .bool b from hr.inv_bool) ?_;cases b with
   |true=>exact ih1 _ _ _ hwf.1 he hw g a ds hc hd Q hno hQ|false=>exact ih2 _ _ _ hwf.2 he hw g a ds hc hd Q hno hQ
  .cases he
 |block id c ih=>
  intro tr H L hwf he hw g a ds hc hd Q hno hQ;simp only[wS]at hwf;have he:Qb id (CQ P gl ee yd pc N n ro c tr H)=some L:=he;unfold Qb at he;obtain⟨L1,h1,h2⟩:=oY he;refine wpIn_block (ih _ _ _ hwf h1 hw g a ds hc hd _ (fun a w h=>hno a w h) (fun p hp a' g' ds' hc' hw' hd'=> ?_));obtain⟨L2,h3,h4⟩:=IC h2 p hp;obtain⟨x1,tr1,H1⟩:=p;cases x1 with
  |normal=>cases h3;exact hQ _ (h4 _ (bF.2 rfl)) a' g' ds' hc' hw' hd'|ret=>cases h3;exact hQ _ (h4 _ (bF.2 rfl)) a' g' ds' hc' hw' hd'
  |exit id'=>
   have h3:Bool.rec (motive:=fun _ =>RX) (some [(X.exit id',tr1,H1)]) (some [(X.normal,tr1,H1)]) (Nat.beq id' id)=some L2:=h3;simp only[X.exit_,Exit.inBlock];cases hb:Nat.beq id' id with
   |true=>
    rw[hb]at h3;cases h3;rw[if_pos (aB hb)];exact hQ _ (h4 _ (bF.2 rfl)) a' g' ds' hc' hw' hd'
   |false=>
    rw[hb]at h3;cases h3;rw[if_neg (fun e=>by subst e;simp at hb)];exact hQ _ (h4 _ (bF.2 rfl)) a' g' ds' hc' hw' hd'
 |loop c ih=>
  intro tr H L hwf he hw g a ds hc hd Q hno hQ;simp only[wS]at hwf;have he:Wn (CQ P gl ee yd pc N n ro c) N tr H=some L:=he;refine wpIn_loop_rounds N ?_;have key:∀(k:Nat) (tr:FT) (H:Hp) (L':iP) (g:G) (a:Act) (ds:gE),Wn (CQ P gl ee yd pc N n ro c) k tr H=some L'->(∀p∈L',p∈L)->tr.Wf n->pN (AD gl) g0 H0 g a (tr.view n) H->Mk g0 g H ds->Code.roundsIn (Fw (ro.map g0.loc)) m P c Q k (DS ds a) g.w:=by
   intro k
   induction k with
   |zero=>intro tr H L' g a ds h;cases h
   |succ k ihk=>
    intro tr H L' g a ds h hsub hw hc hd;rw[roundsIn_succ];obtain⟨L1,h1,h2⟩:=Cd (show Cc (CQ P gl ee yd pc N n ro c) (Wn (CQ P gl ee yd pc N n ro c) k) tr H=some L' from h);refine ih _ _ _ hwf h1 hw g a ds hc hd _ (tU hno) (fun p hp a' g' ds' hc' hw' hd'=> ?_);rcases h2 p hp with⟨hx,L2,h3,h4⟩|⟨hx,h3⟩
    .exact Yb hx (ihk _ _ L2 g' a' ds' h3 (fun q hq=>hsub q (h4 q hq)) hw' hc' hd')
    .exact Yd hx (hQ p (hsub p h3) a' g' ds' hc' hw' hd')
  exact key N tr H L g a ds he (fun _ h=>h) hw hc hd
 |rangeFunc gv ps a_s bd _ _ =>
  intro tr H L hwf he hw g a ds hc hd Q hno hQ;obtain⟨t,ht,he⟩:=pS hw (show AI gl tr gv (Hb ee n ro ps a_s bd tr H)=some L from he);exact aAv hF hro hw ht he hc hd hQ
 |_ =>
  intro tr H L hwf;simp[wS]at hwf
end
end
end Go.Ps
namespace Go.Ps
noncomputable section
open Go.RowKit
section
variable{P:fA}{gl:fD}{ee:fE}{yd:fG}{pc:fH}{n:Nat}
theorem Nx:∀(ps:gK) (xs:eY) (tr:FT),(ps.all fun d=>Nat.ble (Nat.succ d) n)=true->tr.Wf n->(XS ps tr xs).view n=BZ ps xs (tr.view n)/\(XS ps tr xs).Wf n
 |[],_,tr,_,hw=>⟨rfl,hw⟩|p::ps,[],tr,_,hw=>⟨by simp[XS,BZ],hw⟩
 |p::ps,x::xs,tr,h,hw=>by
  simp only[List.all_cons,aA]at h;obtain⟨h1,h2⟩:=Nx ps xs (FT.st x (toP p) tr) h.2 (hw.st (SA.1 h.1));refine⟨?_,h2⟩;show(XS ps (FT.st x (toP p) tr) xs).view n=_;rw[h1,Yg];rfl
theorem Mk.none{g0 g:G}{H:Hp}:Mk g0 g H []:=⟨fun d hd=>by simp at hd,List.nodup_nil⟩
theorem Cw{l:Nat}{g0 g:G}{H0 H:Hp}{a:Act}{fr:eY}(hc:pN (AD gl) g0 H0 g a fr H)(h0:g0.al l){x:X}{b:Bool}{H':Hp}(h:HF l H x=some (b,H')):
  roundPost P (g0.loc l) (fun e w'=>∃g',e= .returned (.bool b)/\g'.w=w'/\oX H0 g0 H' g'/\qP g'/\St g' H') x.exit_ a g.w:=by
 obtain⟨o,rc,ho,hm,h⟩:=uO h;obtain⟨_,fn,tmps,D,hb,hr,hw⟩:=EP hc.st ho hm;have hl:g0.loc l=g.loc l:=(hc.step.loc l h0).symm;rw[hl];have fin:∀(st:LoopState) (pe:Option Code),∃g',g'.w=g.w.putObj (g.loc l) (.loop {state:=st,pending:=pe,fn,tmps,params:=rc.ps,assign:=rc.asg,body:=rc.bd,defers:=D})/\oX H0 g0 (H.put l (yK {rc with st:=st,pe:=pe})) g'/\qP g'/\St g' (H.put l (yK {rc with st:=st,pe:=pe})):=by
  intro st pe;refine⟨g.setOb (g.loc l) (.loop {state:=st,pending:=pe,fn,tmps,params:=rc.ps,assign:=rc.asg,body:=rc.bd,defers:=D}),rfl,hc.step.trans (vS ho _ _),DT hc.ok _ _,DU hc.st ho rfl ⟨fn,tmps,D,rfl,hr,hw⟩⟩
 cases x with
 |normal=>
  cases(show some (true,H.put l (yK {rc with st:= .ready,pe:=none}))=some (b,H')from h);obtain⟨g',e1,e2,e3,e4⟩:=fin .ready none;exact⟨_,_,run_endRound none hb,g',rfl,e1,e2,e3,e4⟩
 |exit id=>
  cases(show some (false,H.put l (yK {rc with st:= .done,pe:=some (.exit id)}))=some (b,H')from h);obtain⟨g',e1,e2,e3,e4⟩:=fin .done (some (.exit id));exact⟨_,_,run_endRound (some (.exit id)) hb,g',rfl,e1,e2,e3,e4⟩
 |ret=>
  cases(show some (false,H.put l (yK {rc with st:= .done,pe:=some .ret}))=some (b,H')from h);obtain⟨g',e1,e2,e3,e4⟩:=fin .done (some .ret);exact⟨_,_,run_endRound (some .ret) hb,g',rfl,e1,e2,e3,e4⟩
theorem aBa(hm:P.follows .mixedOrders=true)(hz:uD gl)(hP:PcOk P gl pc)(hF:rG P gl ee)(hY:NQ P gl yd){N:Nat}:NQ P gl (fun l ts H=>aJa P gl ee yd pc N l ts H):=by
 intro l ts H b H' h g vs hok hst hgl hv;obtain⟨o,rc,ho,hme,h⟩:=uO h;obtain⟨hc,h⟩:=vH h;simp only[aA]at hc;obtain⟨c1,c2,c3,c4⟩:=hc;obtain⟨L1,h1,h⟩:=oY h;obtain⟨⟨x1,tr1,H1⟩,rfl,h⟩:=Dl h;have hx1:x1= .normal:=by
  cases x1 with
  |normal=>rfl|exit id=>cases h|ret=>cases h
 subst hx1;have h:aIz P gl ee yd pc N l rc tr1 H1=some (b,H'):=h;obtain⟨hal,fn,tmps,D,hb,hr,hw⟩:=EP hst ho hme;have hsz:vs.toArray.size=rc.ps.size:=by
  have:=aB c1;rw[MF]at this;rw[List.size_toArray,hv.1,this]
 refine⟨fn,_,rc.asg,rc.bd,run_yield (P:=P) (args:=vs.toArray) hb hsz,roundIn_of_wpIn (F:=Fw none) trivial ?_⟩;show rc.asg.wpIn (Fw ((some l).map g.loc)) 0 P _ _ g.w;rw[YO];obtain⟨f1,f2⟩:=Nx rc.ps.toList ts rc.fr c4 hw;have hci:pN (AD gl) g H g {tmps:=(rc.ps.toList.zip vs).foldl (fun t p=>t.setIfInBounds p.1 p.2) tmps,defers:=[]} ((XS rc.ps.toList rc.fr ts).view rc.n) H:=
  ⟨hok,hst,hgl,rfl,by rw[f1];exact XU _ _ _ _ _ hv hr,oX.refl H g⟩
 have hro:∀l',some l=some l'->g.al l':=fun l' e=>by cases e;exact hal
 rw[<-wT {tmps:=(rc.ps.toList.zip vs).foldl (fun t p=>t.setIfInBounds p.1 p.2) tmps,defers:=[]}];refine UL hm hz hP hF hY hro rc.asg _ _ _ c2 h1 f2 g _ [] hci Mk.none _ (fun a w h=>h) (fun p hp a1 g1 ds1 hc1 hw1 hd1=> ?_);cases bF.1 hp;obtain⟨o1,r1,ho1,hm1,h⟩:=uO h;split at h
 .rename_i hrd;obtain⟨L2,h2,h⟩:=oY h;obtain⟨⟨x2,tr2,H2⟩,rfl,h⟩:=Dl h;obtain⟨_,fn1,tmps1,D1,hb1,hr1,hw1'⟩:=EP hc1.st ho1 hm1;have hl1:g1.loc l=g.loc l:=hc1.step.loc l hal;obtain⟨g2,hg2⟩:∃g2:G,g2=g1.setOb (g1.loc l) (.loop {state:= .busy,pending:=r1.pe,fn:=fn1,tmps:=tmps1,params:=r1.ps,assign:=r1.asg,body:=r1.bd,defers:=D1}):=⟨_,rfl⟩;have hs2:oX H1 g1 (H1.put l (yK {r1 with st:= .busy})) g2:=by rw[hg2];exact vS ho1 _ _
  have hst2:St g2 (H1.put l (yK {r1 with st:= .busy})):=by rw[hg2];exact DU hc1.st ho1 rfl ⟨fn1,tmps1,D1,rfl,hr1,hw1'⟩
  have hok2:qP g2:=by rw[hg2];exact DT hc1.ok _ _
  have hw2:g1.w.putObj (g1.loc l) (.loop {state:= .busy,pending:=r1.pe,fn:=fn1,tmps:=tmps1,params:=r1.ps,assign:=r1.asg,body:=r1.bd,defers:=D1})=g2.w:=by rw[hg2];rfl
  have hbr:=run_beginRound (P:=P) hb1 hrd;rw[hw2,hl1]at hbr;refine⟨g2.w,hbr,?_⟩;have hc2:pN (AD gl) g H g2 a1 (tr1.view rc.n) (H1.put l (yK {r1 with st:= .busy})):=⟨hok2,hst2,hc1.gl.sstep hc1.st hs2,hc1.df,hc1.fr.sstep hc1.st hs2,hc1.step.trans hs2⟩
  exact UL hm hz hP hF hY hro rc.bd _ _ _ c3 h2 hw1 g2 a1 ds1 hc2 (hd1.sstep hs2) _ (fun a w h=>h) (fun p hp a3 g3 ds3 hc3 hw3 hd3=>by
   cases bF.1 hp;have:=Cw (P:=P) hc3 hal h;cases x2 with
   |normal=>exact this|exit id=>exact this|ret=>exact this)
 .cases h
theorem Hd{tr:FT}{H:Hp}(hw:tr.Wf n):∀{rs:gU} {ts:eY},ZN P H tr rs=some ts->rL P (tr.view n) H rs=some ts
 |[],ts,h=>h
 | .tmp t::rs,ts,h=>by
  simp only[ZN]at h;split at h
  .rename_i us hus;cases h;simp only[rL,ZO,Hd hw hus,YJ hw]
  .cases h
 | .cell a t::rs,ts,h=>by
  simp only[ZN]at h;split at h
  .rename_i v hv;split at h
   .rename_i us hus;cases h;simp only[rL,ZO,YJ hw,hv,Hd hw hus]
   .cases h
  .cases h
theorem aTp(hm:P.follows .mixedOrders=true)(hz:uD gl)(hP:PcOk P gl pc)(hF:rG P gl ee)(hY:NQ P gl yd){N:Nat}{f:fT}(hwf:aNe P f=true){ts:eY}{H H':Hp}{r:T}(he:fnF P gl ee yd pc N f ts H=some (r,H'))
  (g:G) (vs:fM) (hg:qP g) (hs:St g H) (hgl:GlOk gl g) (hv:RdL g vs ts):
  Calls P f vs.toArray g.w fun e w'=>∃v g',e= .returned v/\g'.w=w'/\oX H g H' g'/\qP g'/\St g' H'/\Rd g' v r:=by
 obtain⟨fn,hfn,he⟩:=oY he;obtain⟨c,hc,he⟩:=oY he;obtain⟨hlen,he⟩:=vH he;obtain⟨Lr,he,hag⟩:=oY he;obtain⟨L,h1,h2⟩:=oY he;unfold aNe at hwf;rw[hfn]at hwf;simp only[hc]at hwf;have hlen:ts.length<=fn.ntmps:=by
  have:=SA.1 hlen
  rwa [MF]at this
 obtain⟨v1,v2⟩:=Wy (n:=fn.ntmps) (l:=ts) hlen;have hframe:RdL g (vs.toArray++Array.replicate (fn.ntmps-vs.toArray.size) undef).toList ((FT.of ts 0 .nl).view fn.ntmps):=by
  have:(vs.toArray++Array.replicate (fn.ntmps-vs.toArray.size) undef).toList=vs++List.replicate (fn.ntmps-ts.length) undef:=by simp[hv.1]
  rw[this,v1];exact hv.append (RdL.replicate _ Rd.undef)
 have hci:pN (AD gl) g H g {tmps:=vs.toArray++Array.replicate (fn.ntmps-vs.toArray.size) undef,defers:=[]} ((FT.of ts 0 .nl).view fn.ntmps) H:=⟨hg,hs,hgl,rfl,hframe,oX.refl H g⟩;have hres:∀p∈L,(p.1= .normal\/p.1= .ret)/\Iu H' p.2.2/\∃us,ZN P p.2.2 p.2.1 fn.results.toList=some us/\Sl p.2.2 us=some (r,p.2.2):=by
  intro p hp;obtain⟨q,e,h3⟩:=IC h2 p hp;obtain⟨q1,e1,e2⟩:=oY e;cases e2;obtain⟨hq1,hq2⟩:=Ym hag q1 (h3 _ (bF.2 rfl));obtain⟨q11,q12⟩:=q1;simp only at hq1 hq2;subst hq1;obtain⟨x,tr1,H1⟩:=p;have key:(x= .normal\/x= .ret)/\∃us,ZN P H1 tr1 fn.results.toList=some us/\Sl H1 us=some (q11,q12):=by
   unfold aZe at e1;cases x with
   |exit id=>cases e1|normal=>exact⟨.inl rfl,oY e1⟩|ret=>exact⟨.inr rfl,oY e1⟩
  obtain⟨hx,us,hus,hrg⟩:=key;have hH:H1=q12:=by
   unfold Sl at hrg;split at hrg<;>cases hrg<;>rfl
  subst hH;exact⟨hx,hq2,us,hus,hrg⟩
 have fin:∀(tr1:FT) (H1:Hp) (us:eY),Iu H' H1->ZN P H1 tr1 fn.results.toList=some us->Sl H1 us=some (r,H1)->∀(a':Act) (g':G),pN (AD gl) g H g' a' (tr1.view fn.ntmps) H1->tr1.Wf fn.ntmps->LeavesIn (Fw none) 0 P fn a'.tmps (fun e w'=>∃v g',e= .returned v/\g'.w=w'/\oX H g H' g'/\qP g'/\St g' H'/\Rd g' v r) [] .returning g'.w:=by
  intro tr1 H1 us hle hus hrg a' g' hci hw;obtain⟨ws,q1,q2⟩:=uR (P:=P) hci.st hci.fr (Hd hw hus);show∃v,_;have er:fn.results=fn.results.toList.toArray:=by simp
  unfold Sl at hrg;split at hrg
  .cases hrg
   match ws,q2 with
   |[u],q2=>
    refine⟨u,?_,u,g',rfl,rfl,hci.step.le hle,hci.ok,hci.st.le hle,(q2.inv_cons).1⟩;rw[tH,er,dA];simp only[aO,eH];rw[q1];simp
   |[],q2=>simp[RdL]at q2|_ ::_ ::_,q2=>simp[RdL]at q2
  .rename_i hne;cases hrg;refine⟨.tuple ws.toArray,?_,_,g',rfl,rfl,hci.step.le hle,hci.ok,hci.st.le hle,Rd.mk_tup q2⟩;rw[tH,er,dA];simp only[aO,eH];rw[q1];have hl:ws.length≠1:=fun q=>by
    rw[q2.1]at q;obtain⟨t,rfl⟩:=eG.1 q;exact hne t rfl
   simp[hl]
 refine sW.1 (callsIn_of_wp_marks (F:=Fw none) (n:=0) hfn hc trivial ?_ rfl);have key:=UL (ro:=none) (m:=0) (g0:=g) (H0:=H) hm hz hP hF hY (fun l e=>(by cases e)) c _ _ _ hwf h1 v2 g _ [] hci Mk.none (fun e a w=>e≠ .outgrown/\bodyPostM (Fw none) 0 P fn (fun e w'=>∃(v:fP) (g':G),e= .returned v/\g'.w=w'/\oX H g H' g'/\qP g'/\St g' H'/\Rd g' v r) e a w)
  (fun a w h=>h.1 rfl) (fun p hp a' g' ds hci' hw' hd'=>by
   obtain⟨hx,hle,us,hus,hrg⟩:=hres p hp;have hl:LeavesInM (Fw none) 0 P fn (DS ds a').tmps (fun e w'=>∃(v:fP) (g':G),e= .returned v/\g'.w=w'/\oX H g H' g'/\qP g'/\St g' H'/\Rd g' v r) (DS ds a').defers .returning g'.w:=by
    have e:(DS ds a').defers=ds:=by simp[DS,hci'.df]
    rw[e];exact zW (fun g2 h2=>fin p.2.1 p.2.2 us hle hus hrg a' g2 h2 hw') ds g' hci' hd'
   rcases hx with hx|hx<;>rw[hx]
   .exact⟨by simp[X.exit_],hl⟩
   .exact⟨by simp[X.exit_],hl⟩)
 rw[wT]at key;exact wpIn_mono key (fun e a w h=>h.2)
theorem Vm(hF:rG P gl ee){f:fT}{ts:eY}{r:T}(h:aGa (ee f ts ⟨0,.nl⟩)=some r):tY P f=true/\∀(g:G) (vs:fM),qP g->(∀l,¬g.al l)->GlOk gl g->RdL g vs ts->
  Calls P f vs.toArray g.w fun e w'=>∃v g',e= .returned v/\g'.w=w'/\PStep g g'/\qP g'/\Rd g' v r:=by
 obtain⟨⟨q,H'⟩,he,hf⟩:=oY h;obtain⟨h1,h2⟩:=hF _ _ _ _ _ he;refine⟨h1,fun g vs hg hal hgl hv=> ?_⟩;have hs:St g ⟨0,.nl⟩:=St.nl _ _ (fun l _ =>hal l);refine(h2 g vs hg hs hgl hv).mono fun e w' ⟨v,g',e1,e2,e3,e4,e5,e6⟩=> ?_;refine⟨v,g'.frz H' g,e1,e2,?_,?_,JU e5 30 q r v hf e6⟩
 .refine⟨e3.os,e3.tape,e3.output,e3.size,fun b hb=>e3.block b hb (fun l o ho=>(by rw[sV]at ho;cases ho)),fun b hb=> .inl (e3.sub b hb),fun b hb=> ?_,rfl,rfl,rfl⟩;rcases hb with hb|⟨l,o,ho,rfl⟩
  .rcases e3.fresh b hb with q|q|⟨l,o,ho,_⟩
   .exact .inl q
   .exact .inr q
   .rw[sV]at ho;cases ho
  .rcases e3.live l o (pJ ho).1 with⟨l0,o0,q,_⟩|q
   .rw[sV]at q;cases q
   .exact .inr q
 .intro b hb;rcases hb with hb|⟨l,o,ho,rfl⟩
  .exact e4 b hb
  .exact e5.lt (pJ ho).1
theorem Xk(hm:P.follows .mixedOrders=true)(hz:uD gl){xe:fE}(hx:rG P gl xe)(N:Nat):∀d,rG P gl (Hl P gl xe N d).ee/\NQ P gl (Hl P gl xe N d).yd/\PcOk P gl (Hl P gl xe N d).pc
 |0=>⟨hx,fun _ _ _ _ _ h=>(by cases h),fun _ _ _ h=>by cases h⟩
 |d+1=>by
  obtain⟨h1,h2,h3⟩:=Xk hm hz hx N d;refine⟨fun f ts H r H' h=> ?_,aBa hm hz h3 h1 h2,fun f ts r h=>Vm h1 h⟩;have h:Option.rec (motive:=fun _ =>Option (T×Hp)) (NM (and (tY P f) (aNe P f)) (fnF P gl (Hl P gl xe N d).ee (Hl P gl xe N d).yd (Hl P gl xe N d).pc N f ts H)) some (xe f ts H)=some (r,H'):=h;cases hq:xe f ts H with
  |some p=>
   rw[hq]at h;cases(show some p=some (r,H')from h);exact hx f ts H r H' hq
  |none=>
   rw[hq]at h;obtain⟨hc,h⟩:=vH h;simp only[aA]at hc;exact⟨hc.1,fun g vs hg hs hgl hv=>aTp hm hz h3 h1 h2 hc.2 h g vs hg hs hgl hv⟩
theorem Mw(hm:P.follows .mixedOrders=true)(hz:uD gl){xe:fE}(hx:rG P gl xe){N d:Nat}{f:fT}{r:T}(h:aGa ((Hl P gl xe N d).ee f [] ⟨0,.nl⟩)=some r):oK P gl f [] r:=by
 obtain⟨h1,h2⟩:=Vm (Xk hm hz hx N d).1 h;refine⟨h1,fun g vs hg hN hgl hv=> ?_⟩;have hvs:vs=[]:=by
  have:=hv.1;simpa using this
 subst hvs;obtain⟨M,hM⟩:=hN;have hg0:GlOk gl g.bare:=by
  have:=GlOk.frz (g0:=g.bare) hz (St.nl g M hM) hgl;rw[zT]at this;exact this
 refine(h2 g.bare [] hg (fun _ q=>q) hg0 RdL.nil).mono fun e w' ⟨v,g',e1,e2,e3,e4,e5⟩=> ?_;have hn:∀l,¬g'.al l:=fun l q=>by rw[e3.al]at q;exact q
 exact⟨v,{w:=g'.w,S:=g'.S,al:=g.al,loc:=g.loc,cp:=g.cp},e1,e2,⟨e3.os,e3.tape,e3.output,e3.size,e3.block,e3.sub,e3.fresh,rfl,rfl,rfl⟩,e4,Cu (g:=g') (g':={w:=g'.w,S:=g'.S,al:=g.al,loc:=g.loc,cp:=g.cp}) rfl (fun _ q=>q) hn e5⟩
end
end
end Go.Ps
namespace Go.Proofs.Tryz
open Go.Shelf
def Lk:Go.Shelf.Ren:=⟨fun|213=>66|265=>110|n=>n,fun|9=>9|3=>3|n=>n,fun|n=>n⟩
theorem aOf:Go.Proofs.Lays.n213 prog Lk:={
 mixed:=by kernel_rfl
 f213:=func66.trans (congrArg some (by kernel_rfl))
 f265:=func110.trans (congrArg some (by kernel_rfl))
 t3:=underlying3
 a3:=isAgg3
 z3:=sizeOf3
 v3:=zeroValue3
 t9:=underlying9
 a9:=isAgg9
 z9:=sizeOf9
 v9:=zeroValue9}
def EO:Go.Shelf.Ren:=⟨fun|171=>40|243=>74|246=>114|283=>169|284=>170|285=>171|286=>172|129=>109|317=>244|318=>245|319=>246|320=>247|337=>306|338=>307|n=>n,fun|3=>3|9=>9|2=>2|4=>4|171=>234|0=>0|53=>186|37=>128|5=>5|173=>236|212=>301|51=>184|20=>20|213=>302|46=>122|232=>351|233=>352|n=>n,fun|17=>4|18=>5|19=>6|n=>n⟩
theorem aGz:Go.Proofs.LaysM.n171 prog EO:={
 mixed:=by kernel_rfl
 f129:=func109.trans (congrArg some (by kernel_rfl))
 f171:=func40.trans (congrArg some (by kernel_rfl))
 f243:=func74.trans (congrArg some (by kernel_rfl))
 f246:=func114.trans (congrArg some (by kernel_rfl))
 f283:=func169.trans (congrArg some (by kernel_rfl))
 f284:=func170.trans (congrArg some (by kernel_rfl))
 f285:=func171.trans (congrArg some (by kernel_rfl))
 f286:=func172.trans (congrArg some (by kernel_rfl))
 f317:=func244.trans (congrArg some (by kernel_rfl))
 f318:=func245.trans (congrArg some (by kernel_rfl))
 f319:=func246.trans (congrArg some (by kernel_rfl))
 f320:=func247.trans (congrArg some (by kernel_rfl))
 f337:=func306.trans (congrArg some (by kernel_rfl))
 f338:=func307.trans (congrArg some (by kernel_rfl))
 t0:=underlying0
 a0:=isAgg0
 z0:=sizeOf0
 v0:=zeroValue0
 t2:=underlying2
 a2:=isAgg2
 z2:=sizeOf2
 v2:=zeroValue2
 t3:=underlying3
 a3:=isAgg3
 z3:=sizeOf3
 v3:=zeroValue3
 t4:=underlying4
 a4:=isAgg4
 z4:=sizeOf4
 v4:=zeroValue4
 t5:=underlying5
 a5:=isAgg5
 z5:=sizeOf5
 v5:=zeroValue5
 t9:=underlying9
 a9:=isAgg9
 z9:=sizeOf9
 v9:=zeroValue9
 t20:=underlying20
 a20:=isAgg20
 z20:=sizeOf20
 v20:=zeroValue20
 t37:=underlying128
 a37:=isAgg128
 z37:=sizeOf128
 v37:=zeroValue128
 t46:=underlying122
 a46:=isAgg122
 z46:=sizeOf122
 v46:=zeroValue122
 t51:=underlying184
 a51:=isAgg184
 z51:=sizeOf184
 v51:=zeroValue184
 t53:=underlying186
 a53:=isAgg186
 z53:=sizeOf186
 v53:=zeroValue186
 t171:=underlying234
 a171:=isAgg234
 z171:=sizeOf234
 v171:=zeroValue234
 t173:=underlying236
 a173:=isAgg236
 z173:=sizeOf236
 v173:=zeroValue236
 t212:=underlying301
 a212:=isAgg301
 z212:=sizeOf301
 v212:=zeroValue301
 t213:=underlying302
 a213:=isAgg302
 z213:=sizeOf302
 t232:=underlying351
 a232:=isAgg351
 z232:=sizeOf351
 v232:=zeroValue351
 t233:=underlying352
 a233:=isAgg352
 z233:=sizeOf352
 v233:=zeroValue352
 g17:=by kernel_rfl
 g18:=by kernel_rfl
 g19:=by kernel_rfl
 i0:=by kernel_rfl
 i2:=by kernel_rfl
 i3:=by kernel_rfl
 i4:=by kernel_rfl
 i5:=by kernel_rfl
 i9:=by kernel_rfl
 i20:=by kernel_rfl
 i37:=by kernel_rfl
 i46:=by kernel_rfl
 i51:=by kernel_rfl
 i53:=by kernel_rfl
 i171:=by kernel_rfl
 i173:=by kernel_rfl
 i212:=by kernel_rfl
 i232:=by kernel_rfl
 i233:=by kernel_rfl
 m17:=by kernel_rfl
 m18:=by kernel_rfl
 m19:=by kernel_rfl}
def Gf:Go.Shelf.Ren:=⟨fun|172=>208|244=>285|245=>286|247=>318|279=>319|280=>320|281=>321|282=>322|287=>339|316=>340|171=>40|205=>341|321=>350|322=>351|243=>74|246=>114|283=>169|284=>170|285=>171|286=>172|129=>109|317=>244|318=>245|319=>246|320=>247|337=>306|338=>307|n=>n,fun|9=>9|3=>3|75=>138|76=>139|4=>4|5=>5|167=>341|37=>128|0=>0|85=>342|2=>2|168=>344|53=>186|175=>358|46=>122|210=>361|127=>197|145=>374|143=>372|21=>21|171=>234|173=>236|212=>301|51=>184|20=>20|213=>302|232=>351|233=>352|80=>141|n=>n,fun|15=>7|16=>8|17=>4|18=>5|19=>6|n=>n⟩
theorem WA:Go.Proofs.LaysC.n172 prog Gf:={
 mixed:=by kernel_rfl
 f129:=func109.trans (congrArg some (by kernel_rfl))
 f171:=func40.trans (congrArg some (by kernel_rfl))
 f172:=func208.trans (congrArg some (by kernel_rfl))
 f205:=func341.trans (congrArg some (by kernel_rfl))
 f243:=func74.trans (congrArg some (by kernel_rfl))
 f244:=func285.trans (congrArg some (by kernel_rfl))
 f245:=func286.trans (congrArg some (by kernel_rfl))
 f246:=func114.trans (congrArg some (by kernel_rfl))
 f247:=func318.trans (congrArg some (by kernel_rfl))
 f279:=func319.trans (congrArg some (by kernel_rfl))
 f280:=func320.trans (congrArg some (by kernel_rfl))
 f281:=func321.trans (congrArg some (by kernel_rfl))
 f282:=func322.trans (congrArg some (by kernel_rfl))
 f283:=func169.trans (congrArg some (by kernel_rfl))
 f284:=func170.trans (congrArg some (by kernel_rfl))
 f285:=func171.trans (congrArg some (by kernel_rfl))
 f286:=func172.trans (congrArg some (by kernel_rfl))
 f287:=func339.trans (congrArg some (by kernel_rfl))
 f316:=func340.trans (congrArg some (by kernel_rfl))
 f317:=func244.trans (congrArg some (by kernel_rfl))
 f318:=func245.trans (congrArg some (by kernel_rfl))
 f319:=func246.trans (congrArg some (by kernel_rfl))
 f320:=func247.trans (congrArg some (by kernel_rfl))
 f321:=func350.trans (congrArg some (by kernel_rfl))
 f322:=func351.trans (congrArg some (by kernel_rfl))
 f337:=func306.trans (congrArg some (by kernel_rfl))
 f338:=func307.trans (congrArg some (by kernel_rfl))
 t0:=underlying0
 a0:=isAgg0
 z0:=sizeOf0
 v0:=zeroValue0
 t2:=underlying2
 a2:=isAgg2
 z2:=sizeOf2
 v2:=zeroValue2
 t3:=underlying3
 a3:=isAgg3
 z3:=sizeOf3
 v3:=zeroValue3
 t4:=underlying4
 a4:=isAgg4
 z4:=sizeOf4
 v4:=zeroValue4
 t5:=underlying5
 a5:=isAgg5
 z5:=sizeOf5
 v5:=zeroValue5
 t9:=underlying9
 a9:=isAgg9
 z9:=sizeOf9
 v9:=zeroValue9
 t20:=underlying20
 a20:=isAgg20
 z20:=sizeOf20
 v20:=zeroValue20
 t21:=underlying21
 a21:=isAgg21
 z21:=sizeOf21
 v21:=zeroValue21
 t37:=underlying128
 a37:=isAgg128
 z37:=sizeOf128
 v37:=zeroValue128
 t46:=underlying122
 a46:=isAgg122
 z46:=sizeOf122
 v46:=zeroValue122
 t51:=underlying184
 a51:=isAgg184
 z51:=sizeOf184
 v51:=zeroValue184
 t53:=underlying186
 a53:=isAgg186
 z53:=sizeOf186
 v53:=zeroValue186
 t75:=underlying138
 a75:=isAgg138
 z75:=sizeOf138
 v75:=zeroValue138
 t76:=underlying139
 a76:=isAgg139
 z76:=sizeOf139
 v76:=zeroValue139
 t85:=underlying342
 a85:=isAgg342
 z85:=sizeOf342
 v85:=zeroValue342
 t127:=underlying197
 a127:=isAgg197
 z127:=sizeOf197
 v127:=zeroValue197
 t143:=underlying372
 a143:=isAgg372
 z143:=sizeOf372
 v143:=zeroValue372
 t145:=underlying374
 a145:=isAgg374
 z145:=sizeOf374
 v145:=zeroValue374
 t167:=underlying341
 a167:=isAgg341
 z167:=sizeOf341
 v167:=zeroValue341
 t168:=underlying344
 a168:=isAgg344
 z168:=sizeOf344
 v168:=zeroValue344
 t171:=underlying234
 a171:=isAgg234
 z171:=sizeOf234
 v171:=zeroValue234
 t173:=underlying236
 a173:=isAgg236
 z173:=sizeOf236
 v173:=zeroValue236
 t175:=underlying358
 a175:=isAgg358
 z175:=sizeOf358
 v175:=zeroValue358
 t210:=underlying361
 a210:=isAgg361
 z210:=sizeOf361
 v210:=zeroValue361
 t212:=underlying301
 a212:=isAgg301
 z212:=sizeOf301
 v212:=zeroValue301
 t213:=underlying302
 a213:=isAgg302
 z213:=sizeOf302
 t232:=underlying351
 a232:=isAgg351
 z232:=sizeOf351
 v232:=zeroValue351
 t233:=underlying352
 a233:=isAgg352
 z233:=sizeOf352
 v233:=zeroValue352
 g15:=by kernel_rfl
 g16:=by kernel_rfl
 g17:=by kernel_rfl
 g18:=by kernel_rfl
 g19:=by kernel_rfl
 t80:=underlying141
 a80:=isAgg141
 z80:=sizeOf141
 v80:=zeroValue141
 i0:=by kernel_rfl
 i2:=by kernel_rfl
 i3:=by kernel_rfl
 i4:=by kernel_rfl
 i5:=by kernel_rfl
 i9:=by kernel_rfl
 i20:=by kernel_rfl
 i21:=by kernel_rfl
 i37:=by kernel_rfl
 i46:=by kernel_rfl
 i51:=by kernel_rfl
 i53:=by kernel_rfl
 i75:=by kernel_rfl
 i76:=by kernel_rfl
 i80:=by kernel_rfl
 i85:=by kernel_rfl
 i127:=by kernel_rfl
 i143:=by kernel_rfl
 i145:=by kernel_rfl
 i167:=by kernel_rfl
 i168:=by kernel_rfl
 i171:=by kernel_rfl
 i173:=by kernel_rfl
 i175:=by kernel_rfl
 i210:=by kernel_rfl
 i212:=by kernel_rfl
 i232:=by kernel_rfl
 i233:=by kernel_rfl
 m15:=by kernel_rfl
 m16:=by kernel_rfl
 m17:=by kernel_rfl
 m18:=by kernel_rfl
 m19:=by kernel_rfl
 c0:=by kernel_rfl
 c2:=by kernel_rfl
 c3:=by kernel_rfl
 c4:=by kernel_rfl
 c5:=by kernel_rfl
 c9:=by kernel_rfl
 c20:=by kernel_rfl
 c21:=by kernel_rfl
 c37:=by kernel_rfl
 c46:=by kernel_rfl
 c51:=by kernel_rfl
 c53:=by kernel_rfl
 c75:=by kernel_rfl
 c76:=by kernel_rfl
 c80:=by kernel_rfl
 c85:=by kernel_rfl
 c127:=by kernel_rfl
 c143:=by kernel_rfl
 c145:=by kernel_rfl
 c167:=by kernel_rfl
 c168:=by kernel_rfl
 c171:=by kernel_rfl
 c173:=by kernel_rfl
 c175:=by kernel_rfl
 c210:=by kernel_rfl
 c212:=by kernel_rfl
 c213:=by kernel_rfl
 c232:=by kernel_rfl
 c233:=by kernel_rfl}
def Ll:Go.Shelf.Ren:=⟨fun|217=>113|266=>168|n=>n,fun|9=>9|5=>5|3=>3|n=>n,fun|n=>n⟩
theorem aOg:Go.Proofs.Lays.n217 prog Ll:={
 mixed:=by kernel_rfl
 f217:=func113.trans (congrArg some (by kernel_rfl))
 f266:=func168.trans (congrArg some (by kernel_rfl))
 t3:=underlying3
 a3:=isAgg3
 z3:=sizeOf3
 v3:=zeroValue3
 t5:=underlying5
 a5:=isAgg5
 z5:=sizeOf5
 v5:=zeroValue5
 t9:=underlying9
 a9:=isAgg9
 z9:=sizeOf9
 v9:=zeroValue9}
def Lg:Go.Shelf.Ren:=⟨fun|145=>207|220=>284|219=>314|217=>113|225=>250|224=>249|267=>334|266=>168|314=>348|n=>n,fun|9=>9|4=>4|59=>274|3=>3|5=>5|46=>122|146=>366|51=>184|n=>n,fun|1=>2|n=>n⟩
theorem aOb:Go.Proofs.Lays.n145 prog Lg:={
 mixed:=by kernel_rfl
 f145:=func207.trans (congrArg some (by kernel_rfl))
 f217:=func113.trans (congrArg some (by kernel_rfl))
 f219:=func314.trans (congrArg some (by kernel_rfl))
 f220:=func284.trans (congrArg some (by kernel_rfl))
 f224:=func249.trans (congrArg some (by kernel_rfl))
 f225:=func250.trans (congrArg some (by kernel_rfl))
 f266:=func168.trans (congrArg some (by kernel_rfl))
 f267:=func334.trans (congrArg some (by kernel_rfl))
 f314:=func348.trans (congrArg some (by kernel_rfl))
 t3:=underlying3
 a3:=isAgg3
 z3:=sizeOf3
 v3:=zeroValue3
 t4:=underlying4
 a4:=isAgg4
 z4:=sizeOf4
 v4:=zeroValue4
 t5:=underlying5
 a5:=isAgg5
 z5:=sizeOf5
 v5:=zeroValue5
 t9:=underlying9
 a9:=isAgg9
 z9:=sizeOf9
 v9:=zeroValue9
 t46:=underlying122
 a46:=isAgg122
 z46:=sizeOf122
 v46:=zeroValue122
 t51:=underlying184
 a51:=isAgg184
 z51:=sizeOf184
 v51:=zeroValue184
 t59:=underlying274
 a59:=isAgg274
 z59:=sizeOf274
 v59:=zeroValue274
 t146:=underlying366
 a146:=isAgg366
 z146:=sizeOf366
 v146:=zeroValue366
 g1:=by kernel_rfl}
def RI:Go.Shelf.Ren:=⟨fun|153=>115|152=>173|226=>174|227=>175|228=>176|137=>72|119=>248|224=>249|225=>250|217=>113|266=>168|n=>n,fun|9=>9|3=>3|4=>4|5=>5|21=>21|117=>241|116=>240|0=>0|46=>122|124=>304|n=>n,fun|n=>n⟩
theorem aOc:Go.Proofs.Lays.n153 prog RI:={
 mixed:=by kernel_rfl
 f119:=func248.trans (congrArg some (by kernel_rfl))
 f137:=func72.trans (congrArg some (by kernel_rfl))
 f152:=func173.trans (congrArg some (by kernel_rfl))
 f153:=func115.trans (congrArg some (by kernel_rfl))
 f217:=func113.trans (congrArg some (by kernel_rfl))
 f224:=func249.trans (congrArg some (by kernel_rfl))
 f225:=func250.trans (congrArg some (by kernel_rfl))
 f226:=func174.trans (congrArg some (by kernel_rfl))
 f227:=func175.trans (congrArg some (by kernel_rfl))
 f228:=func176.trans (congrArg some (by kernel_rfl))
 f266:=func168.trans (congrArg some (by kernel_rfl))
 t0:=underlying0
 a0:=isAgg0
 z0:=sizeOf0
 v0:=zeroValue0
 t3:=underlying3
 a3:=isAgg3
 z3:=sizeOf3
 v3:=zeroValue3
 t4:=underlying4
 a4:=isAgg4
 z4:=sizeOf4
 v4:=zeroValue4
 t5:=underlying5
 a5:=isAgg5
 z5:=sizeOf5
 v5:=zeroValue5
 t9:=underlying9
 a9:=isAgg9
 z9:=sizeOf9
 v9:=zeroValue9
 t21:=underlying21
 a21:=isAgg21
 z21:=sizeOf21
 v21:=zeroValue21
 t46:=underlying122
 a46:=isAgg122
 z46:=sizeOf122
 v46:=zeroValue122
 t116:=underlying240
 a116:=isAgg240
 z116:=sizeOf240
 t117:=underlying241
 a117:=isAgg241
 z117:=sizeOf241
 v117:=zeroValue241
 t124:=underlying304
 a124:=isAgg304
 z124:=sizeOf304
 v124:=zeroValue304}
def Lh:Go.Shelf.Ren:=⟨fun|196=>56|259=>87|n=>n,fun|9=>9|4=>4|3=>3|5=>5|12=>12|119=>153|0=>0|46=>122|139=>156|138=>155|53=>186|n=>n,fun|3=>0|4=>1|n=>n⟩
theorem aOd:Go.Proofs.Lays.n196 prog Lh:={
 mixed:=by kernel_rfl
 f196:=func56.trans (congrArg some (by kernel_rfl))
 f259:=func87.trans (congrArg some (by kernel_rfl))
 t0:=underlying0
 a0:=isAgg0
 z0:=sizeOf0
 v0:=zeroValue0
 t3:=underlying3
 a3:=isAgg3
 z3:=sizeOf3
 v3:=zeroValue3
 t4:=underlying4
 a4:=isAgg4
 z4:=sizeOf4
 v4:=zeroValue4
 t5:=underlying5
 a5:=isAgg5
 z5:=sizeOf5
 v5:=zeroValue5
 t9:=underlying9
 a9:=isAgg9
 z9:=sizeOf9
 v9:=zeroValue9
 t12:=underlying12
 a12:=isAgg12
 z12:=sizeOf12
 v12:=zeroValue12
 t46:=underlying122
 a46:=isAgg122
 z46:=sizeOf122
 v46:=zeroValue122
 t53:=underlying186
 a53:=isAgg186
 z53:=sizeOf186
 v53:=zeroValue186
 t119:=underlying153
 a119:=isAgg153
 z119:=sizeOf153
 t138:=underlying155
 a138:=isAgg155
 z138:=sizeOf155
 v138:=zeroValue155
 t139:=underlying156
 a139:=isAgg156
 z139:=sizeOf156
 v139:=zeroValue156
 g3:=by kernel_rfl
 g4:=by kernel_rfl}
end Go.Proofs.Tryz
namespace Go.Proofs.Tryz
open Go.Ps
noncomputable section
theorem follows:prog.follows .mixedOrders=true:=by kernel_rfl
def Vp:Nat->Option T:=fun n=>if n=4 then some (.ref (.agg (Lib.pow10Tab.map (T.int .u64))) 0)else none
theorem aGe:uD Vp:=by
 intro k t h;unfold Vp at h;split at h
 .cases h;exact⟨5,by kernel_rfl⟩
 .cases h
theorem tab{g:G}(hg:GlOk Vp g)(n:Int)(h0:-9223372036854775808<=n)(h1:n<=9223372036854775807):Calls prog 40 #[.int .i64 n] g.w fun e w'=>e= .returned (.string ⟨(Lib.itoa n).toArray⟩)/\∃k os,w'=Sort.grow (g.w.drewN k) os:=by
 refine Any.strconv_Itoa aGz n h0 h1 g.w ?_;obtain⟨e,fz,h⟩:=aWh (hg 4 _ rfl);unfold Lib.TabIs World.var?;rw[show prog.globalNamed _ =some 4 by kernel_rfl];simp only[dN,h]
def aYv:List T->Option T
 |[.str a,.str b]=>some (.int .i64 (Lib.compareBytes a b))|_ =>none
def bAb:List T->Option T
 |[.str a,.int .u8 c]=>some (.int .i64 (Lib.indexByte a c.toNat.toUInt8))|_ =>none
def peT(f:fT)(ts:eY):Option T:=if f=40 then Wa ts else if f=66 then aYv ts else if f=113 then bAb ts else none
theorem Xm{f:fT}{ts:eY}{r:T}(h0:tY prog f=true)(h:∀(g:G) (vs:fM),RdL g vs ts->∃v,Rd g v r/\Calls prog f vs.toArray g.w fun e w'=>e= .returned v/\w'=g.w):oK prog Vp f ts r:=by
 refine⟨h0,fun g vs hg _ _ hv=> ?_⟩;obtain⟨v,h1,h2⟩:=h g vs hv;refine h2.mono ?_;rintro e w' ⟨rfl,rfl⟩;exact⟨v,g,rfl,rfl,PStep.refl g,hg,h1⟩
theorem Rv{f:fT}{ts:eY}{r:T}(h:peT f ts=some r):oK prog Vp f ts r:=by
 unfold peT at h;split at h
 .rename_i e;subst e;exact Wb (ρ:=EO) (by kernel_rfl) (fun g hg n h0 h1=>tab hg n h0 h1) ts r h
 .split at h
  .rename_i e;subst e;refine Xm (by kernel_rfl) fun g vs hv=> ?_;unfold aYv at h;split at h
   .cases h
    match vs,hv with
    |[u,v],hv=>
     obtain⟨h1,h2⟩:=hv.inv_cons;obtain⟨a,rfl,ha⟩:=h1.inv_str;obtain⟨b,rfl,hb⟩:=(h2.inv_cons).1.inv_str;refine⟨_,.int _ _,?_⟩;have:=Any.bytealg_CompareString aOf a b g.w;rw[ha,hb]at this;exact this
    |[],hv=>have:=hv.1;simp at this|[_],hv=>have:=hv.1;simp at this|_ ::_ ::_ ::_,hv=>have:=hv.1;simp at this
   .cases h
  .split at h
   .rename_i e;subst e;refine Xm (by kernel_rfl) fun g vs hv=> ?_;unfold bAb at h;split at h
    .rename_i a0 c0;cases h
     match vs,hv with
     |[u,v],hv=>
      obtain⟨h1,h2⟩:=hv.inv_cons;obtain⟨a,rfl,ha⟩:=h1.inv_str;have h3:=(h2.inv_cons).1.inv_int;subst h3;refine⟨_,.int _ _,?_⟩;have:=Any.stringslite_IndexByte aOg a c0 g.w;rw[ha]at this;exact this
     |[],hv=>have:=hv.1;simp at this|[_],hv=>have:=hv.1;simp at this|_ ::_ ::_ ::_,hv=>have:=hv.1;simp at this
    .cases h
   .cases h
def xeT(f:fT)(ts:eY)(H:Hp):Option (T×Hp):=match peT f ts with
 |some r=>some (r,H)|none=>none
theorem aWp:rG prog Vp xeT:=by
 intro f ts H r H' h;unfold xeT at h;split at h
 .rename_i r' hr;cases h;obtain⟨h1,h2⟩:=Rv hr;refine⟨h1,fun g vs hg hs hgl hv=>(h2 g vs hg ⟨H.next,hs.new⟩ hgl hv).mono ?_⟩;rintro e w' ⟨v,g',e1,e2,e3,e4,e5⟩;exact⟨v,g',e1,e2,e3.toS,e4,hs.pstep e3,e5⟩
 .cases h
theorem Zv:aGa ((Hl prog Vp xeT 100 30).ee 9 [] ⟨0,.nl⟩)=some (.bool true):=by kernel_rfl
theorem aGw:oK prog Vp 9 [] (.bool true):=Mw follows aGe aWp Zv
end
end Go.Proofs.Tryz
namespace Go.Proofs.Tryz
open Go.Shelf Go.RowKit Go.Lib
variable{P:Ps.fA}{ρ:Ren}
set_option maxHeartbeats 4000000 in
set_option maxRecDepth 1000000 in
theorem Kx(L:Lays.n152 P ρ)(s:Ps.gZ)(w:Ps.gI)(hs:∀(j:Nat) b,s.data.toList[j]? =some b->b.toNat<128):
  Calls P (ρ.f 152) #[.string s,.int .i32 65533] w fun e w'=>e= .returned (.int .i64 (-1))/\w'=w.iter s s.size:=by
 have HA:Aside (∀(j:Nat) b,s.data.toList[j]? =some b->b.toNat<128):=hs;clear hs;have t3:=L.t3;have a3:=L.a3;have z3:=L.z3;have v3:=L.v3;have t4:=L.t4;have a4:=L.a4;have z4:=L.z4;have v4:=L.v4;have t5:=L.t5;have a5:=L.a5;have z5:=L.z5;have v5:=L.v5;have t9:=L.t9;have a9:=L.a9;have z9:=L.z9;have v9:=L.v9;have t21:=L.t21;have a21:=L.a21;have z21:=L.z21;have v21:=L.v21
 go_enter L.f152,Body.n152_ntmps ρ
 go_wp2
 go_loopg [5,6] s.size (fun g _ _ wx=>∃i:Nat,i+g=s.size/\wx=w.iter s i)
 case atStart=>exact⟨0,by omega,rfl⟩
 case round=>
  obtain⟨i,hig,rfl⟩:=hrel;cases gk with
  |zero=>
   obtain rfl:i=s.size:=by omega
   have hnx:=run_next_end (P:=P) w s s.size
   go_wp2
   go_ret
   exact⟨rfl,rfl⟩
  |succ g=>
   have hi:i<s.size:=by omega
   obtain⟨x,hx⟩:∃x:UInt8,s[i]'hi=x:=⟨_,rfl⟩;have hxl:s.data.toList[i]? =some x:=by rw[<-hx];exact Lib.data_getElem? s i hi
   have hx128:x.toNat<128:=HA.out i x hxl;have hne:((x.toNat:Int)==65533)=false:=beq_eq_false_iff_ne.2 (by omega);have hnx:=fun ty=>run_next_ascii (P:=P) w s i ty hi (by rw[hx];exact hx128);rw[hx]at hnx;clear hxl hx
   go_wp2
   go_roundg g
   case measure=>omega
   case rel=>exact⟨i+1,by omega,rfl⟩
set_option maxHeartbeats 4000000 in
set_option maxRecDepth 1000000 in
theorem Gb(L:Lays.n152 P ρ)(s:Ps.gZ)(r:Int)(w:Ps.gI)(hs:∀(j:Nat) b,s.data.toList[j]? =some b->b.toNat<128)(h0:128<=r)(h1:r≠65533)(hsz:s.size<4294967281):
  Calls P (ρ.f 152) #[.string s,.int .i32 r] w fun e w'=>e= .returned (.int .i64 (-1))/\∃n,w'=w.drewN n:=by
 have HA:Aside (∀(j:Nat) b,s.data.toList[j]? =some b->b.toNat<128):=hs;clear hs;have t3:=L.t3;have a3:=L.a3;have z3:=L.z3;have v3:=L.v3;have t4:=L.t4;have a4:=L.a4;have z4:=L.z4;have v4:=L.v4;have t5:=L.t5;have a5:=L.a5;have z5:=L.z5;have v5:=L.v5;have t9:=L.t9;have a9:=L.a9;have z9:=L.z9;have v9:=L.v9;have t21:=L.t21;have a21:=L.a21;have z21:=L.z21;have v21:=L.v21;have e137:∀args w,(callFunc (ρ.f 137) args).run P w= .ok (.enter (ρ.f 137) args) w:=enters_of L.f137 (by kernel_rfl) rfl;have e119:∀args w,(callFunc (ρ.f 119) args).run P w= .ok (.enter (ρ.f 119) args) w:=enters_of L.f119 (by kernel_rfl) rfl;have mixed:=L.mixed;have hlt:decide (r<128)=false:=decide_eq_false (by omega);have hne:(r==65533)=false:=beq_eq_false_iff_ne.2 h1
 go_enter L.f152,Body.n152_ntmps ρ
 cases hv:Lib.validRune r
 .go_wp2_with (go_at_fn (ρ.f 119);refine(Any.utf8_ValidRune {L with} _ _).mono ?_;rintro e w' ⟨rfl,hw⟩;rw[hw,hv])
  go_ret
  exact⟨rfl,0,rfl⟩
 .have hval:Utf8.valid r=true:=by
   rw[validRune_eq];unfold Go.validRune;unfold Lib.validRune at hv;have:=of_decide_eq_true hv;exact decide_eq_true (by omega)
  obtain⟨q1,q2,q3⟩:=encode_facts r hval h0;have hcv:∀w,(convert (ρ.t 21) (ρ.t 9) (.int .i32 r)).run P w= .ok (.string (Utf8.encode r)) w:=fun w=>run_convert_int_string w _ _ _ _ (by rw[L.t21];rfl) L.t9;generalize Utf8.encode r=rs at q1 q2 q3 hcv;obtain⟨m,hm⟩:∃m,rs.size=m+1:=⟨rs.size-1,by omega⟩;have hmi:(rs.size:Int)-1=(m:Int):=by omega
  go_wp2_with (go_at_fn (ρ.f 119);refine(Any.utf8_ValidRune {L with} _ _).mono ?_;rintro e w' ⟨rfl,hw⟩;rw[hw,hv])
  go_step3
  go_wp2
  go_loopg [9] 1 (fun g s9 wx=>g=1/\s9= .int .i64 (m:Int)/\wx=w)
  case atStart=>exact⟨rfl,rfl,rfl⟩
  case round=>
   obtain⟨rfl,rfl,rfl⟩:=hrel;by_cases hls:m<s.size
   .have hlz:(m:Int)<(s.size:Int):=by omega
    have hlr:(m:Int)<(rs.size:Int):=by omega
    have hlr':m<rs.size:=by omega
    have hlr2:(m:Int)<(m:Int)+1:=by omega
    have hb:∃x:UInt8,s[m]'hls=x/\x.toNat<128:=⟨_,rfl,HA.out m _ (Lib.data_getElem? s _ hls)⟩;obtain⟨x,hx,hx128⟩:=hb;have hy:∃y:UInt8,rs[m]'hlr'=y/\128<=y.toNat:=⟨_,rfl,by have:=q3 (by omega);simpa [show rs.size-1=m by omega]using this⟩;obtain⟨y,hyy,hy128⟩:=hy;have hxy:((x.toNat:Int)==(y.toNat:Int))=false:=beq_eq_false_iff_ne.2 (by omega)
    go_wp2
    go_step3
    go_wp2
    have hm1:(m:Int)+1<=(s.size:Int):=by omega
    have hm0:(0:Int)<=(m:Int)+1:=by omega
    have hwr:IntKind.i64.wrap ((m:Int)+1)=(m:Int)+1:=wrap_small _ (by omega) (by omega);have hmn:((m:Int)+1).toNat=m+1:=by omega
    have hcall:∀a e w,Calls P (ρ.f 137) #[.string (s.extract a e),.int .u8 y.toNat] w fun e w'=>e= .returned (.int .i64 (-1))/\w'=w:=fun a e w=>by
     refine(Any.strings_IndexByte {L with} _ _ _).mono ?_;rintro e w' ⟨rfl,hw⟩;refine⟨?_,hw⟩;have e1:((y.toNat:Int)).toNat.toUInt8=y:=by simp
     rw[e1,<-Lib.firstIdx_eq,firstIdx_ascii s _ _ y (fun b hb=>by obtain⟨j,hj,rfl⟩:=bX hb;exact HA.out j _ (aC hj)) hy128]
    go_quiet_o (fail)
    go_wp2
    go_quiet_o (first|(go_at_fn (ρ.f 137);refine(hcall _ _ _).mono ?_;rintro e w' ⟨rfl,rfl⟩;exact⟨rfl,_,rfl⟩))
    go_wp2
    rw[Exit.noGoto_ret];show Exit.noGoto _ Exit.ret _ _;rw[Exit.noGoto_ret];change bodyPost P (Body.n152 ρ) (fun e w'=>e=Ending.returned (Value.int IntKind.i64 (-1))/\∃n,w'=wr.drewN n) Exit.ret _ _
    go_ret
    exact⟨rfl,_,rfl⟩
   .have hlz:¬(m:Int)<(s.size:Int):=by omega
    go_wp2
    go_ret
    exact⟨rfl,0,rfl⟩
theorem GQ{B:Nat}{a w:Ps.gI}(h:Below B a w):∀q,Below B a (w.drewN q)
 |0=>h|q+1=>(GQ h q).drew
theorem aNw(L:Lays.n152 P ρ)(s:Ps.gZ)(r:Int)(w:Ps.gI)(hs:∀(j:Nat) b,s.data.toList[j]? =some b->b.toNat<128)(h0:128<=r)(hsz:s.size<4294967281):
  Calls P (ρ.f 152) #[.string s,.int .i32 r] w fun e w'=>e= .returned (.int .i64 (-1))/\Below w.heap.size w w':=by
 by_cases h1:r=65533
 .subst h1;refine(Kx L s w hs).mono ?_;rintro e w' ⟨rfl,rfl⟩;exact⟨rfl,(Below.refl _ w).alloc (aZ _) _⟩
 .refine(Gb L s r w hs h0 h1 hsz).mono ?_;rintro e w' ⟨rfl,n,rfl⟩;exact⟨rfl,GQ (Below.refl _ w) n⟩
theorem VW(s:Ps.gZ)(i k:Nat)(hk:1<=k)(h:k<(Utf8.decode s i).2):128<=(s.get! (i+k)).toNat:=by
 have key:∀j,(decide (i+j<s.size)&&(s.get! (i+j)).toNat/64==2)=true->128<=(s.get! (i+j)).toNat:=fun j hj=>by
  simp only[aA,beq_iff_eq]at hj;omega
 simp only[Utf8.decode]at h;split at h
 .simp only at h;omega
 .split at h
  .rename_i hc;simp only[aA]at hc;split at h<;>simp only at h
   .obtain rfl:k=1:=by omega
    exact key 1 (by simpa using hc.2)
   .omega
  .split at h
   .rename_i hc;simp only[aA]at hc;split at h<;>simp only at h
    .rcases(by omega:k=1\/k=2)with rfl|rfl
     .exact key 1 (by simpa using hc.1.2)
     .exact key 2 (by simpa using hc.2)
    .omega
   .split at h
    .rename_i hc;simp only[aA]at hc;split at h<;>simp only at h
     .rcases(by omega:k=1\/k=2\/k=3)with rfl|rfl|rfl
      .exact key 1 (by simpa using hc.1.1.2)
      .exact key 2 (by simpa using hc.1.2)
      .exact key 3 (by simpa using hc.2)
     .omega
    .simp only at h;omega
theorem ZG{s chars:Ps.gZ}{i wd:Nat}(hac:∀(j:Nat) b,chars.data.toList[j]? =some b->b.toNat<128)(h:Lib.NoAny s.data.toList chars.data.toList i)(hi:i<s.size)(hx:128<=(s[i]'hi).toNat)(hwd:(Utf8.decode s i).2=wd):
  Lib.NoAny s.data.toList chars.data.toList (i+wd):=by
 have hno:∀b:UInt8,128<=b.toNat->chars.data.toList.contains b=false:=fun b hb=>by
  cases hc:chars.data.toList.contains b with
  |false=>rfl
  |true=>
   obtain⟨j,hj,rfl⟩:=bX (List.contains_iff_mem.1 hc);have:=hac j _ (aC hj);omega
 intro j b hj hb;by_cases h1:j<i
 .exact h j b h1 hb
 .have hjs:j<s.size:=by have:=(aK.1 hb).1;rw[Lib.size_eq];exact this
  have hbj:s[j]'hjs=b:=by have:=Lib.data_getElem? s j hjs;rw[this]at hb;exact bQ hb
  by_cases h2:j=i
  .subst h2;exact hno b (by rw[<-hbj];exact hx)
  .refine hno b ?_;have:=VW s i (j-i) (by omega) (by omega);rw[show i+(j-i)=j by omega]at this;have hg:s.get! j=s[j]'hjs:=by simp[ByteArray.get!,getElem!_pos,hjs];rfl
   rw[hg,hbj]at this;exact this
theorem Kv(w2:Ps.gI)(k:Nat)(s:Ps.gZ)(pos:Nat)(ty:Ps.eX)(hk:w2.heap[k]? =some (.stringIter s pos))(h:pos<s.size):
  (Instr.next (.pointer (some ⟨k,0,none⟩)) true ty).run P w2= .ok (.tuple #[.bool true,.int .i64 pos,.int .i32 (Utf8.decode s pos).1]) {w2 with heap:=w2.heap.setIfInBounds k (.stringIter s (pos+(Utf8.decode s pos).2))}:=by
 simp only[Instr.next,getObj,setObj,aO,Sem.run,hk,Result.andThen,h,if_true];simp[goInt]
theorem Kw(w2:Ps.gI)(k:Nat)(s:Ps.gZ)(pos:Nat)(ty:Ps.eX)(hk:w2.heap[k]? =some (.stringIter s pos))(h:¬pos<s.size):
  (Instr.next (.pointer (some ⟨k,0,none⟩)) true ty).run P w2= .ok (.tuple #[.bool false]) w2:=by
 simp[Instr.next,getObj,Sem.run,hk,h]
set_option maxHeartbeats 8000000 in
set_option maxRecDepth 1000000 in
theorem aGs(L:Lays.n153 P ρ)(s chars:Ps.gZ)(w:Ps.gI)(h2:2<=chars.size)(h8:s.size<=8)(hcs:chars.size<4294967281)(hac:∀(j:Nat) b,chars.data.toList[j]? =some b->b.toNat<128):
  Calls P (ρ.f 153) #[.string s,.string chars] w fun e w'=>e= .returned (.int .i64 (Lib.indexAny s.data.toList chars.data.toList))/\Below w.heap.size w w':=by
 have HA:Aside (∀(j:Nat) b,chars.data.toList[j]? =some b->b.toNat<128):=hac;clear hac;have hemp:chars.toList.isEmpty=false:=by
  rw[Lib.toList_data];cases h:chars.data.toList with
  |nil=>have:=Lib.size_eq chars;rw[h,List.length_nil]at this;omega|cons _ _ =>rfl
 have hn1:((chars.size:Int)==1)=false:=beq_eq_false_iff_ne.2 (by omega);have h8z:decide ((8:Int)<(s.size:Int))=false:=decide_eq_false (by omega);have t3:=L.t3;have a3:=L.a3;have z3:=L.z3;have v3:=L.v3;have t4:=L.t4;have a4:=L.a4;have z4:=L.z4;have v4:=L.v4;have t5:=L.t5;have a5:=L.a5;have z5:=L.z5;have v5:=L.v5;have t9:=L.t9;have a9:=L.a9;have z9:=L.z9;have v9:=L.v9;have t21:=L.t21;have a21:=L.a21;have z21:=L.z21;have v21:=L.v21;have e152:∀args w,(callFunc (ρ.f 152) args).run P w= .ok (.enter (ρ.f 152) args) w:=enters_of L.f152 (by kernel_rfl) rfl;have e226:∀args w,(callFunc (ρ.f 226) args).run P w= .ok (.enter (ρ.f 226) args) w:=enters_of L.f226 (by kernel_rfl) rfl
 go_enter L.f153,Body.n153_ntmps ρ
 go_wp2_with (go_at_fn (ρ.f 226);refine(Any.strings_shouldUseASCIISet {L with} _ _).mono ?_;rintro e w' ⟨rfl,hw⟩;rw[hw,h8z])
 go_loopg [9,10] s.size (fun g _ _ wx=>∃i:Nat,s.size<=i+g/\wx.heap[w.heap.size]? =some (.stringIter s i)/\Below w.heap.size w wx/\Lib.NoAny s.data.toList chars.data.toList i)
 case atStart=>exact⟨0,by omega,World.iter_heap w s 0,(Below.refl _ w).alloc (aZ _) _,Lib.NoAny.zero _ _⟩
 case round=>
  obtain⟨i,hig,hit,hbw,hno⟩:=hrel;have HN:Aside (Lib.NoAny s.data.toList chars.data.toList i):=hno;clear hno;have hk:w.heap.size<wr.heap.size:=(aL.1 hit).1;by_cases hi:i<s.size
  .obtain⟨g,rfl⟩:∃g,gk=g+1:=⟨gk-1,by omega⟩;obtain⟨x,hx⟩:∃x:UInt8,s[i]'hi=x:=⟨_,rfl⟩;have hxl:s.data.toList[i]? =some x:=by rw[<-hx];exact Lib.data_getElem? s i hi
   have hnx:=fun ty=>Kv (P:=P) wr w.heap.size s i ty hit hi;obtain⟨w1,hw1⟩:∃w1:World,{wr with heap:=wr.heap.setIfInBounds w.heap.size (.stringIter s (i+(Utf8.decode s i).2))}=w1:=⟨_,rfl⟩;have hb1:Below w.heap.size w w1:=by
    rw[<-hw1];refine⟨hbw.os,hbw.tape,hbw.output,by simpa using hbw.size,fun k hk'=> ?_⟩;show(wr.heap.setIfInBounds w.heap.size _)[k]? =_;rw[bJ (by omega)];exact hbw.block k hk'
   have hit1:w1.heap[w.heap.size]? =some (.stringIter s (i+(Utf8.decode s i).2)):=by
    rw[<-hw1];show(wr.heap.setIfInBounds w.heap.size _)[w.heap.size]? =_;rw[Array.getElem?_setIfInBounds_self_of_lt hk]
   rw[hw1]at hnx;by_cases hx128:x.toNat<128
   .have hd:Utf8.decode s i=(x.toNat,1):=by rw[<-hx]at hx128⊢;exact decode_ascii s i hi hx128
    rw[hd]at hnx hit1;simp only at hnx hit1;have Hx:Aside (s.data.toList[i]? =some x):=hxl;have H1:Aside (Below w.heap.size w w1/\w1.heap[w.heap.size]? =some (.stringIter s (i+1))):=⟨hb1,hit1⟩;clear hxl hx hw1 hb1 hit1 hit hbw hd;have hcon:=Lib.contains_iff_indexByte chars.data.toList x;have hback:((x.toNat:Int)).toNat.toUInt8=x:=by simp
    cases hin:chars.data.toList.contains x
    .rw[hin]at hcon;have hlt:¬((0:Int)<=Lib.indexByte chars.data.toList x):=of_decide_eq_false hcon.symm;clear hcon
     go_wp2_with (go_at_fn (ρ.f 152);refine(Any.strings_IndexRune_ascii {L with} _ _ _ (by omega) (by omega)).mono ?_;rintro e w' ⟨rfl,hw⟩;rw[hw,hback])
     go_roundg g
     case measure=>omega
     case rel=>exact⟨i+1,by omega,H1.out.2,H1.out.1,HN.out.succ Hx.out hin⟩
    .rw[hin]at hcon;have hge:(0:Int)<=Lib.indexByte chars.data.toList x:=of_decide_eq_true hcon.symm;clear hcon
     go_wp2_with (go_at_fn (ρ.f 152);refine(Any.strings_IndexRune_ascii {L with} _ _ _ (by omega) (by omega)).mono ?_;rintro e w' ⟨rfl,hw⟩;rw[hw,hback])
     go_ret
     exact⟨by rw[Lib.indexAny_hit HN.out Hx.out hin];rfl,H1.out.1⟩
   .obtain⟨q1,q2⟩:=decode_high s i hi (by rw[hx];omega);have q3:=decode_le s i;obtain⟨rn,hrn⟩:∃rn:Nat,(Utf8.decode s i).1=rn:=⟨_,rfl⟩;obtain⟨wd,hwd⟩:∃wd:Nat,(Utf8.decode s i).2=wd:=⟨_,rfl⟩;rw[hrn]at hnx;rw[hrn]at q1 q3;rw[hwd]at q2 hit1;have H1:Aside (Below w.heap.size w w1/\w1.heap[w.heap.size]? =some (.stringIter s (i+wd))/\Lib.NoAny s.data.toList chars.data.toList (i+wd)/\w.heap.size<w1.heap.size):=⟨hb1,hit1,ZG HA.out HN.out hi (by rw[hx];omega) hwd,(aL.1 hit1).1⟩;clear hxl hx hw1 hb1 hit1 hit hbw hk
    go_wp2_with (go_at_fn (ρ.f 152);refine(aNw {L with} _ _ _ HA.out (by omega) hcs).mono ?_;rintro e w' ⟨rfl,hw⟩)
    go_roundg g
    case measure=>omega
    case rel=>
     obtain⟨b1,b2,b3,b4⟩:=H1.out;have hlt:w.heap.size<w1.heap.size:=b4;refine⟨i+wd,by omega,by rw[hw.block _ hlt];exact b2,⟨hw.os.trans b1.os,hw.tape.trans b1.tape,hw.output.trans b1.output,eF b1.size hw.size,fun k hk=>(hw.block k (by omega)).trans (b1.block k hk)⟩,b3⟩
  .have hnx:=fun ty=>Kw (P:=P) wr w.heap.size s i ty hit hi
   go_wp2
   go_ret
   exact⟨by rw[Lib.indexAny_none (fun j b hj hb=>HN.out j b (by have:=Lib.size_eq s;omega) hb)];rfl,hbw⟩
theorem aUh(L:Lays.n153 P ρ)(hv116:∀w,(zeroValue (ρ.t 116)).run P w= .ok (.agg (Array.replicate 256 (.bool false))) w)(hi116:(P.info? (ρ.t 116)).map (·.size)=some 256)(s chars:Ps.gZ)(w:Ps.gI)(h2:2<=chars.size)(hs:s.size<4294967281)(hcs:chars.size<4294967281)
  (hac:∀(j:Nat) b,chars.data.toList[j]? =some b->b.toNat<128):
  Calls P (ρ.f 153) #[.string s,.string chars] w fun e w'=>e= .returned (.int .i64 (Lib.indexAny s.data.toList chars.data.toList))/\Below w.heap.size w w':=by
 by_cases h8:s.size<=8
 .exact aGs L s chars w h2 h8 hcs hac
 .refine(Any.strings_IndexAny_long L hv116 hi116 s chars w h2 (by omega) hs hcs hac).mono ?_;rintro e w' ⟨rfl,rfl⟩;exact⟨rfl,((Below.refl _ w).alloc (aZ _) _).alloc (by simp) _⟩
end Go.Proofs.Tryz
namespace Go.Proofs.Tryz
open Go.Ps Go.RowKit
set_option maxRecDepth 100000
def errT(te:eX):T:= .iface te (.ref (.agg []) 0)
def firstA:T:= .agg ((List.range 256).map fun c=>T.int .u8 (Lib.firstT c))
def accA:T:= .agg ((List.range 16).flatMap fun i=>[T.int .u8 (Lib.accLo i),T.int .u8 (Lib.accHi i)])
def glZ(m:Int)(te:eX):Nat->Option T:=fun n=>
 if n=4 then some (.ref (.agg (Lib.pow10Tab.map (T.int .u64))) 0)else if n=2 then some (.ref (.int .i64 m) 0)else if n=7 then some (.ref (errT te) 0)else if n=8 then some (.ref (errT te) 0)
 else if n=0 then some (.ref firstA 0)else if n=1 then some (.ref accA 0)else none
theorem aNg{m:Int}{te:eX}(k:Nat)(t:T)(h:Vp k=some t):glZ m te k=some t:=by
 unfold Vp at h;split at h
 .rename_i e;subst e;exact h
 .cases h
theorem qL(m:Int)(te:eX):uD (glZ m te):=by
 intro k t h;unfold glZ at h;split at h
 .cases h;exact⟨5,by kernel_rfl⟩
 .split at h
  .cases h;exact⟨5,rfl⟩
  .split at h
   .cases h;exact⟨5,rfl⟩
   .split at h
    .cases h;exact⟨5,rfl⟩
    .split at h
     .cases h;exact⟨5,by kernel_rfl⟩
     .split at h
      .cases h;exact⟨5,by kernel_rfl⟩
      .cases h
theorem aGd{m:Int}{te:eX}{g:G}(h:GlOk (glZ m te) g):GlOk Vp g:=fun k t ht=>h k t (aNg k t ht)
theorem Mv{m:Int}{te:eX}{f:fT}{ts:eY}{r:T}(h:oK prog Vp f ts r):oK prog (glZ m te) f ts r:=
 ⟨h.1,fun g vs hg hN hgl hv=>h.2 g vs hg hN (aGd hgl) hv⟩
theorem VL{g:G}{k:Nat}{x:T}(h:NP g k (.ref x 0))(j:Nat){c:T}(hc:x.cells[j]? =some c):∃v,g.w.cell? ⟨k,j,none⟩=some v/\Rd g v c:=by
 obtain⟨h1,_,_⟩:=h;generalize ha:(Value.pointer (some ⟨k,0,none⟩))=v at h1;generalize ht:(T.ref x 0)=t at h1;cases h1<;>cases ht;rename_i b o vs hS hcell hl hr;simp only[Value.pointer.injEq,aD,Addr.mk.injEq]at ha;obtain⟨rfl,ho,_⟩:=ha;have ho0:o=0:=by omega
 subst ho0;have hj:j<vs.length:=by rw[hl];exact(aK.1 hc).1
 have hv:vs[j]? =some (vs[j]'hj):=aC hj;exact⟨_,by have:=hcell j _ hv;simpa using this,hr j _ c hv hc⟩
theorem aKa{m:Int}{te:eX}{g:G}(h:GlOk (glZ m te) g):Lib.Utf8Tabs 0 1 g.w:=by
 refine⟨fun c hc=> ?_,fun i hi=> ?_⟩
 .obtain⟨v,h1,h2⟩:=VL (h 0 (.ref firstA 0) rfl) c (c:=T.int .u8 (Lib.firstT c)) (by simp[firstA,T.cells,hc]);cases h2;exact h1
 .have hh:∀(n:Nat) (f:Nat->T×T) (i:Nat),i<n->((List.range n).flatMap fun i=>[(f i).1,(f i).2])[2*i]? =some (f i).1/\((List.range n).flatMap fun i=>[(f i).1,(f i).2])[2*i+1]? =some (f i).2:=by
   intro n
   induction n with
   |zero=>intro f i h;omega
   |succ n ih=>
    intro f i h;have hl:∀n,((List.range n).flatMap fun i=>[(f i).1,(f i).2]).length=2*n:=by
     intro n
     induction n with
     |zero=>rfl|succ n ih=>rw[eV,dQ,bK,ih];simp;omega
    rw[eV,dQ,dC,dC,hl n];by_cases hin:i<n
    .rw[if_pos (by omega),if_pos (by omega)];exact ih f i hin
    .obtain rfl:i=n:=by omega
     rw[if_neg (by omega),if_neg (by omega)];simp
  have h2:=hh 16 (fun i=>(T.int .u8 (Lib.accLo i),T.int .u8 (Lib.accHi i))) i hi;obtain⟨v,e1,e2⟩:=VL (h 1 (.ref accA 0) rfl) (2*i) h2.1;obtain⟨u,e3,e4⟩:=VL (h 1 (.ref accA 0) rfl) (2*i+1) h2.2;cases e2;cases e4;exact⟨e1,e3⟩
theorem Vq{g:G}{k:Nat}{x:T}(hx:x.cells=[x])(h:NP g k (.ref x 0)):∃v,g.w.cell? ⟨k,0,none⟩=some v/\Rd g v x:=by
 obtain⟨h1,_,_⟩:=h;generalize ha:(Value.pointer (some ⟨k,0,none⟩))=v at h1;generalize ht:(T.ref x 0)=t at h1;cases h1<;>cases ht;rename_i b o vs hS hc hl hr;simp only[Value.pointer.injEq,aD,Addr.mk.injEq]at ha;obtain⟨rfl,ho,_⟩:=ha;have ho0:o=0:=by omega
 subst ho0;rw[hx]at hl hr;have hv:vs[0]? =some (vs[0]'(by simp at hl;omega)):=aC _;exact⟨_,by have:=hc 0 _ hv;simpa using this,hr 0 _ x hv rfl⟩
theorem aAh{m:Int}{te:eX}{g:G}(h:GlOk (glZ m te) g):g.w.cell? ⟨2,0,none⟩=some (.int .i64 m):=by
 obtain⟨v,h1,h2⟩:=Vq rfl (h 2 (.ref (.int .i64 m) 0) rfl);cases h2;exact h1
theorem aFl{m:Int}{te:eX}{g:G}(h:GlOk (glZ m te) g){k:Nat}(hk:k=7\/k=8):∃ev,g.w.cell? ⟨k,0,none⟩=some ev/\∃t p,ev= .iface t p:=by
 have hg:glZ m te k=some (.ref (errT te) 0):=by rcases hk with rfl|rfl<;>rfl
 obtain⟨v,h1,h2⟩:=Vq rfl (h k _ hg);cases h2;exact⟨_,h1,_,_,rfl⟩
theorem aTb{m:Int}{te:eX}(s sep:fV)(hs:s.length<4294967281):oK prog (glZ m te) 207 [.str s,.str sep] (.tup [.str (Lib.cut s sep).1,.str (Lib.cut s sep).2.1,.bool (Lib.cut s sep).2.2]):=by
 refine⟨by kernel_rfl,fun g vs hg hN hgl hv=> ?_⟩
 match vs,hv with
 |[v,u],hv=>
  have e1:=AC (hv.inv_cons).1;have e2:=AC ((hv.inv_cons).2.inv_cons).1;subst e1;subst e2;have hsz:(⟨s.toArray⟩:ByteArray).size<4294967281:=by show s.toArray.size<_;simpa using hs
  refine(Any.strings_Cut aOb ⟨s.toArray⟩ ⟨sep.toArray⟩ m g.w hsz (aAh hgl)).mono fun e w' ⟨he,n,hw⟩=> ?_;subst hw;have hB:Below g.w.heap.size g.w (g.w.drewN n):=⟨by simp[World.drewN],by simp[World.drewN],by simp[World.drewN],by simp[World.drewN],fun k _ =>by simp[World.drewN]⟩;refine⟨_,{g with w:=g.w.drewN n},he,rfl,xC hB,CX hg hB.size,?_⟩;refine .tup _ [_,_,_] rfl (fun j v c hv hc=> ?_)
  match j with
  |0=>simp at hv hc;subst hv;subst hc;have:=Rd.str (g:={g with w:=g.w.drewN n}) ⟨(Lib.cut s sep).1.toArray⟩;simpa using this
  |1=>simp at hv hc;subst hv;subst hc;have:=Rd.str (g:={g with w:=g.w.drewN n}) ⟨(Lib.cut s sep).2.1.toArray⟩;simpa using this
  |2=>simp at hv hc;subst hv;subst hc;exact .bool _|k+3=>simp at hv
 |[],hv=>simp[RdL]at hv|[_],hv=>simp[RdL]at hv|_ ::_ ::_ ::_,hv=>simp[RdL]at hv
noncomputable def aV(s:fV):Int:=match Lib.atoiAll s with
 | .ok v=>v| .range=>Lib.atoiSat s|_ =>0
noncomputable def aE(s:fV):T:=match Lib.atoiAll s with
 | .ok _ => .nili|_ =>errT 344
theorem aLk{m:Int}{te:eX}(s:fV)(hs:s.length<=281474976710656):oK prog (glZ m te) 208 [.str s] (.tup [.int .i64 (aV s),aE s]):=by
 refine⟨by kernel_rfl,fun g vs hg hN hgl hv=> ?_⟩
 match vs,hv with
 |[v],hv=>
  have e1:=AC (hv.inv_cons).1;subst e1;have hsz:(⟨s.toArray⟩:ByteArray).size<=281474976710656:=by show s.toArray.size<=_;simpa using hs
  have bad:∀(x:Int) (e:Ending) (w':gI) (N:Nat) (cs:fU),e= .returned (.tuple #[.int .i64 x,.iface 344 (.pointer (some ⟨N,0,none⟩))])->g.w.heap.size<=N->w'.heap[N]? =some (.cells cs 361 (0,0))->Below g.w.heap.size g.w w'->
    ∃v g',e= .returned v/\g'.w=w'/\PStep g g'/\qP g'/\Rd g' v (.tup [.int .i64 x,errT 344]):=by
   intro x e w' N cs he hN hc hB;have hlt:N<w'.heap.size:=(aL.1 hc).1;refine⟨_,{g with w:=w',S:=fun b=>g.S b\/b=N},he,rfl,⟨hB.os,hB.tape,hB.output,hB.size,hB.block,fun b q=> .inl q,fun b q=>q.elim .inl (fun e=> .inr (by omega)),rfl,rfl,rfl⟩,fun b hb=> ?_,?_⟩
   .rcases hb with hb|hb
    .have:=hg b hb;have:=hB.size;show b<w'.heap.size;omega
    .show b<w'.heap.size;omega
   .refine .tup _ [_,_] rfl (fun j v c hv hc=> ?_)
    match j with
    |0=>simp at hv hc;subst hv;subst hc;exact .int _ _
    |1=>
     simp at hv hc;subst hv;subst hc;refine .iface _ _ _ ?_;exact Rd.ref (.agg []) 0 N 0 [] (.inr rfl) rfl (fun j v h=>by simp at h) (fun j v c h=>by simp at h)
    |k+2=>simp at hv
  cases hA:Lib.atoiAll s
  case ok v=>
   have e1:aV s=v:=by unfold aV;rw[hA]
   have e2:aE s= .nili:=by unfold aE;rw[hA]
   rw[e1,e2];refine(Any.strconv_Atoi_ok WA ⟨s.toArray⟩ (by omega) v (by simpa using hA) g.w).mono fun e w' ⟨he,hw⟩=> ?_;have hB:Below g.w.heap.size g.w w':=by
    rcases hw with rfl|⟨t,rfl⟩
    .exact Below.refl _ _
    .exact Lib.bytesWorld_below _ _ _
   refine⟨_,{g with w:=w'},he,rfl,xC hB,CX hg hB.size,?_⟩;refine .tup _ [_,_] rfl (fun j v c hv hc=> ?_)
   match j with
   |0=>simp at hv hc;subst hv;subst hc;exact .int _ _|1=>simp at hv hc;subst hv;subst hc;exact .nili|k+2=>simp at hv
  case range=>
   have e1:aV s=Lib.atoiSat s:=by unfold aV;rw[hA]
   have e2:aE s=errT 344:=by unfold aE;rw[hA]
   rw[e1,e2];obtain⟨ev,h1,h2⟩:=aFl hgl (.inr rfl);refine(Any.strconv_Atoi_range WA ⟨s.toArray⟩ hsz (by simpa using hA) ev g.w h1 (.inr h2)).mono fun e w' ⟨N,he,hN,hc,hB⟩=> ?_;exact bad _ e w' N _ he hN hc hB
  case _ =>
   have e1:aV s=0:=by unfold aV;rw[hA]
   have e2:aE s=errT 344:=by unfold aE;rw[hA]
   rw[e1,e2];obtain⟨ev,h1,h2⟩:=aFl hgl (.inl rfl);refine(Any.strconv_Atoi_syntax WA ⟨s.toArray⟩ hsz (by simpa using hA) ev g.w h1 (.inr h2)).mono fun e w' ⟨N,he,hN,hc,hB⟩=> ?_;exact bad 0 e w' N _ he hN hc hB
 |[],hv=>simp[RdL]at hv|_ ::_ ::_,hv=>simp[RdL]at hv
def YY:List UInt8:=[46,91,63]
theorem AQ{f:fT}{gl:fD}{ts:eY}{r:T}(h0:tY prog f=true)(h:∀(g:G) (vs:fM),GlOk gl g->RdL g vs ts->∃v,(∀g',Rd g' v r)/\Calls prog f vs.toArray g.w fun e w'=>e= .returned v/\Below g.w.heap.size g.w w'):oK prog gl f ts r:=by
 refine⟨h0,fun g vs hg _ hgl hv=> ?_⟩;obtain⟨v,h1,h2⟩:=h g vs hgl hv;refine h2.mono ?_;rintro e w' ⟨rfl,hB⟩;exact⟨v,{g with w:=w'},rfl,rfl,xC hB,CX hg hB.size,h1 _⟩
theorem bAf{m:Int}{te:eX}(s:fV)(hs:s.length<4294967281):oK prog (glZ m te) 115 [.str s,.str YY] (.int .i64 (Lib.indexAny s YY)):=by
 refine AQ (by kernel_rfl) fun g vs hgl hv=> ?_
 match vs,hv with
 |[v,u],hv=>
  have e1:=AC (hv.inv_cons).1;have e2:=AC ((hv.inv_cons).2.inv_cons).1;subst e1;subst e2;refine⟨_,fun g'=> .int _ _,?_⟩;have hz:(prog.info? (RI.t 116)).map (fun i=>(i.zero,i.size))=some (some (.agg (Array.replicate 256 (.bool false))),256):=by kernel_rfl
  refine aUh aOc (zero_of_info hz).1 (zero_of_info hz).2 ⟨s.toArray⟩ ⟨YY.toArray⟩ g.w (by decide) (by show s.toArray.size<_;simpa using hs) (by decide) (fun j b hb=> ?_);have hb:YY[j]? =some b:=by simpa using hb
  match j,hb with
  |0,hb=>cases hb;decide|1,hb=>cases hb;decide|2,hb=>cases hb;decide|j+3,hb=>simp[YY]at hb
 |[],hv=>have:=hv.1;simp at this|[_],hv=>have:=hv.1;simp at this|_ ::_ ::_ ::_,hv=>have:=hv.1;simp at this
theorem aKh{m:Int}{te:eX}(s:fV)(hs:s.length<=9223372036854775807):oK prog (glZ m te) 56 [.str s] (.bool (Lib.validD s)):=by
 refine AQ (by kernel_rfl) fun g vs hgl hv=> ?_
 match vs,hv with
 |[v],hv=>
  have e1:=AC (hv.inv_cons).1;subst e1;refine⟨_,fun g'=> .bool _,?_⟩;exact Any.utf8_ValidString aOd ⟨s.toArray⟩ g.w (by show s.toArray.size<=_;simpa using hs) (aKa hgl)
 |[],hv=>have:=hv.1;simp at this|_ ::_ ::_,hv=>have:=hv.1;simp at this
open Classical in
noncomputable def peZ:FuncId->List T->Option T:=fun f ts=>
 if f=115 then(match ts with
  |[.str a,.str b]=>if a.length<4294967281/\b=YY then some (.int .i64 (Lib.indexAny a b))else none
  |_ =>none)
 else if f=207 then(match ts with
  |[.str a,.str b]=>if a.length<4294967281 then some (.tup [.str (Lib.cut a b).1,.str (Lib.cut a b).2.1,.bool (Lib.cut a b).2.2])else none
  |_ =>none)
 else if f=208 then(match ts with
  |[.str a]=>if a.length<=281474976710656 then some (.tup [.int .i64 (aV a),aE a])else none
  |_ =>none)
 else if f=56 then(match ts with
  |[.str a]=>if a.length<=9223372036854775807 then some (.bool (Lib.validD a))else none
  |_ =>none)
 else if f=40 then Wa ts
 else none
theorem Mt{m:Int}{te:eX}{f:fT}{ts:eY}{r:T}(h:peZ f ts=some r):oK prog (glZ m te) f ts r:=by
 unfold peZ at h;split at h
 .rename_i e;subst e;split at h
  .split at h
   .rename_i hc;obtain⟨h1,rfl⟩:=hc;cases h;exact bAf _ h1
   .cases h
  .cases h
 .split at h
  .rename_i e;subst e;split at h
   .split at h
    .rename_i hc;cases h;exact aTb _ _ hc
    .cases h
   .cases h
  .split at h
   .rename_i e;subst e;split at h
    .split at h
     .rename_i hc;cases h;exact aLk _ hc
     .cases h
    .cases h
   .split at h
    .rename_i e;subst e;split at h
     .split at h
      .rename_i hc;cases h;exact aKh _ hc
      .cases h
     .cases h
    .split at h
     .rename_i e;subst e;exact Mv (Wb (ρ:=EO) (by kernel_rfl) (fun g hg n h0 h1=>tab hg n h0 h1) ts r h)
     .cases h
theorem PcOk.of{P:fA}{gl:fD}{pe:fH}(h:∀f ts r,pe f ts=some r->oK P gl f ts r):PcOk P gl pe:=fun f ts r hr=>
 ⟨(h f ts r hr).1,fun g vs hg hal hgl hv=>(h f ts r hr).2 g vs hg ⟨0,fun l _ =>hal l⟩ hgl hv⟩
theorem aVf(m:Int)(te:eX):PcOk prog (glZ m te) peZ:=PcOk.of fun f ts r h=>Mt h
end Go.Proofs.Tryz
namespace Go.Ps
noncomputable section
open Go.RowKit
abbrev E0:Hp:=⟨0,.nl⟩
def YT:Hp->Bool
 |⟨n,l⟩=>Nat.beq n 0&&(match l with
  | .nl=>true|_ =>false)
theorem VV{H:Hp}(h:YT H=true):H=E0:=by
 obtain⟨n,l⟩:=H;unfold YT at h;simp only[aA]at h;have:=aB h.1;subst this;cases l with
 |nl=>rfl|nd o a b=>simp at h
def HK(gl:fD)(fr:eY)(o:Oper):Option (Nat×List T):=
 match o.op with
 | .call c=>match c.callee with
  | .value f=>match pE gl fr f with
   |some (.fn (.yield l) [] [])=>match pW gl fr c.args.toList with
    |some ars=>some (l,ars)|none=>none
   |_ =>none
  |_ =>none
 |_ =>none
abbrev YU:=List (Nat×List T)
inductive Tq where
 |y (q:Nat×List T)
 |ask (f:fT) (ts:eY) (outs:YU) (rt rs:T)
abbrev KX:=List Tq
def Tq.vals:Tq->YU
 | .y q=>[q]| .ask _ _ outs _ _ =>outs
def vals:KX->YU
 |[]=>[]|i::r=>i.vals++vals r
theorem BD:∀(a b:KX),vals (a++b)=vals a++vals b
 |[],_ =>rfl|i::a,b=>by simp[vals,BD a b]
abbrev gP:=FuncId->List T->Option (YU×T×T)
def Jn(Yc:gP)(gl:fD)(fr:eY)(o:Oper):Option (Tq×T×T):=
 match o.op with
 | .call c=>match c.callee with
  | .value f=>match pE gl fr f with
   |some (.fn (.func g) first cap)=>match pW gl fr c.args.toList with
    |some ars=>match Yc g (first++ars++cap)with
     |some (outs,rt,rs)=>some (.ask g (first++ars++cap) outs rt rs,rt,rs)
     |none=>none
    |none=>none
   |_ =>none
  |_ =>none
 |_ =>none
def aEz(Yc:gP)(gl:fD)(fr:eY)(o:Oper):Option (Tq×T×T):=
 match HK gl fr o with
 |some q=>some (.y q,.bool true,.bool false)|none=>Jn Yc gl fr o
def X.isN:X->Bool
 | .normal=>true|_ =>false
def exB(id:Nat):X->X
 | .exit id'=>if id'=id then .normal else .exit id'
 |x=>x
section
variable(P:fA)(E:tW)(F:Fc)(Yc:gP)(n:Nat)
def NC(ops:fC):List Oper->Fx->Option ((List T×KX)×List (List T))
 |[],s=>match s.pend with
  |none=>if YT s.H then some ((s.fr,[]),[])else none
  |some _ =>none
 |o::rest,s=>
  match(if oW ops s.fr o&&(s.pend.isNone&&YT s.H)then aEz Yc E.gl s.fr o else none)with
  |some (it,rt,rs)=>match NC ops rest ⟨pP s.fr o.dst rt,E0,none⟩with
   |some ((fr',o'),st)=>match pL P E F ops rest ⟨pP s.fr o.dst rs,E0,none⟩with
    |some ⟨f2,H2,none⟩=>if YT H2 then some ((fr',it::o'),f2::st)else none
    |_ =>none
   |none=>none
  |none=>match qU P E F ops s o with
   |some s'=>if YT s'.H then NC ops rest s' else none
   |none=>none
def YD(b:Code):List (X×List T)->Option (List (X×List T))
 |[]=>some []
 |(x,f)::r=>match YD b r with
  |some r'=>match x with
   | .normal=>match oP P E F n b f E0 with
    |some (x',f',H')=>if YT H' then some ((x',f')::r')else none
    |none=>none
   |x=>some ((x,f)::r')
  |none=>none
abbrev YR:=(X×List T×KX)×List (X×List T)
def MG(f:List T->Option YR):Nat->List T->Option YR
 |0,_ =>none
 |k+1,fr=>match f fr with
  | some ((x,fr',o),st)=>if st.all fun q=> !q.1.isN then match x with
    | .normal=>match MG f k fr' with
     |some ((x2,f2,o2),s2)=>some ((x2,f2,o++o2),st++s2)|none=>none
    |x=>some ((x,fr',o),st)
   else none
  |none=>none
def uZ:Code->List T->Option YR
 | .region id ops draw,fr=>if draw then match oP P E F n (.region id ops draw) fr E0 with
   |some (x,fr',H')=>if YT H' then some ((x,fr',[]),[])else none
   |none=>none
  else match NC P E F Yc ops ops.toList ⟨fr,E0,none⟩with
   |some ((fr',o),st)=>some ((.normal,fr',o),st.map fun f=>(.normal,f))|none=>none
 | .seq a b,fr=>match uZ a fr with
  |some ((x1,fr1,o1),s1)=>match YD P E F n b s1 with
   |some s1'=>match x1 with
    | .normal=>match uZ b fr1 with
     |some ((x2,fr2,o2),s2)=>some ((x2,fr2,o1++o2),s1'++s2)|none=>none
    |x=>some ((x,fr1,o1),s1')
   |none=>none
  |none=>none
 | .cond c a b,fr=>match pE E.gl fr c with
  |some (.bool t)=>if t then uZ a fr else uZ b fr
  |_ =>none
 | .block id c,fr=>match uZ c fr with
  |some ((x,fr',o),st)=>some ((exB id x,fr',o),st.map fun q=>(exB id q.1,q.2))|none=>none
 | .loop c,fr=>MG (uZ c) n fr
 |c,fr=>match oP P E F n c fr E0 with
  |some (x,fr',H')=>if YT H' then some ((x,fr',[]),[])else none
  |none=>none
end
structure KS(g g':G):Prop where
 sub:∀b,g.S b->g'.S b
 keep:∀b,g.S b->g'.w.heap[b]? =g.w.heap[b]?
theorem KS.trans{a b c:G}(h:KS a b)(k:KS b c):KS a c:=⟨fun x q=>k.sub x (h.sub x q),fun x q=>(k.keep x (h.sub x q)).trans (h.keep x q)⟩
theorem PStep.ks{g g':G}(hok:qP g)(h:PStep g g'):KS g g':=⟨h.sub,fun b hb=>h.block b (hok b hb)⟩
def YF(P:fA)(gl:fD)(L:Nat)(f:fT)(ts:eY)(outs:YU)(rt rs:T):Prop:=
 tY P f=true/\∀xs J Jx,YP P gl L xs J Jx->∀(p:gR) (g:G) (vs:fM),(p++outs.map Prod.snd)<+:xs->(∀q∈outs,q.1=L)->qP g->(∀l,¬g.al l)->GlOk gl g->RdL g vs ts->J p g->
  Calls P f vs.toArray g.w fun e W'=>∃v g',e= .returned v/\g'.w=W'/\KS g g'/\qP g'/\(∀l,¬g'.al l)/\((J (p++outs.map Prod.snd) g'/\Rd g' v rt)\/(∃pre,Jx pre g'/\Rd g' v rs))
def Tq.Ok(P:fA)(gl:fD)(L:Nat):Tq->Prop
 | .y q=>q.1=L| .ask f ts outs rt rs=>YF P gl L f ts outs rt rs/\∀q∈outs,q.1=L
abbrev CI(E:tW)(g:G)(a:Act)(fr:eY):Prop:=pN E g E0 g a fr E0
theorem CI.no{E:tW}{g:G}{a:Act}{fr:eY}(h:CI E g a fr):∀l,¬g.al l:=fun l=>h.st.new l (Nat.zero_le _)
section
variable{P:fA}{E:tW}{F:Fc}{Yc:gP}{L:Nat}
theorem bEn{g:G}(h:∀l,¬g.al l):St g E0:=St.empty g h
theorem CI.mk'{g:G}{a:Act}{fr:eY}(h1:qP g)(h2:∀l,¬g.al l)(h3:GlOk E.gl g)(h4:a.defers=[])(h5:RdL g a.tmps.toList fr):CI E g a fr:=⟨h1,bEn h2,h3,h4,h5,oX.refl _ _⟩
theorem pN.toP{g0 g:G}{a:Act}{fr:eY}(h:pN E g0 E0 g a fr E0)(h0:∀l,¬g0.al l):∃g':G,g'.w=g.w/\PStep g0 g'/\CI E g' a fr:=by
 have hn:∀l,¬g.al l:=fun l=>h.st.new l (Nat.zero_le _);have hk:∀l,g.al l->g0.al l/\g0.loc l=g.loc l/\g0.cp l=g.cp l:=fun l q=>absurd q (hn l)
 refine⟨{w:=g.w,S:=g.S,al:=g0.al,loc:=g0.loc,cp:=g0.cp},rfl,⟨h.step.os,h.step.tape,h.step.output,h.step.size,fun b hb=>h.step.block b hb (fun l o ho=>(by rw[sV]at ho;cases ho)),h.step.sub,fun b hb=> ?_,rfl,rfl,rfl⟩,
  CI.mk' h.ok h0 (GlOk.keepS (g:=g) (g':={w:=g.w,S:=g.S,al:=g0.al,loc:=g0.loc,cp:=g0.cp}) (fun _ q=>q) (fun _ _ =>rfl) hk h.gl) h.df (RdL.keepS (g:=g) (g':={w:=g.w,S:=g.S,al:=g0.al,loc:=g0.loc,cp:=g0.cp}) (fun _ q=>q) (fun _ _ =>rfl) hk h.fr)⟩
 rcases h.step.fresh b hb with q|q|⟨l,o,ho,_⟩
 .exact .inl q
 .exact .inr q
 .rw[sV]at ho;cases ho
theorem CI.next{g g':G}{a:Act}{fr:eY}(h:CI E g a fr)(hk:KS g g')(h1:qP g')(h2:∀l,¬g'.al l){d:gQ}{v:fP}{t:T}(hv:Rd g' v t):CI E g' (a.put d v) (pP fr d t):=by
 have hal:∀l,g.al l->g'.al l/\g'.loc l=g.loc l/\g'.cp l=g.cp l:=fun l q=>absurd q (h.no l);have hf:RdL g' a.tmps.toList fr:=h.fr.keepS hk.sub hk.keep hal;exact CI.mk' h1 h2 (h.gl.keepS hk.sub hk.keep hal) (by rw[rQ];exact h.df) ((CJ.of hf none).put hv).all
theorem aJl(hE:tP P E.gl E.pe)(hF:rG P E.gl F.ee){xs:gR}{J Jx:List (List T)->G->Prop}(hJ:YP P E.gl L xs J Jx){ops:fC}(hp:sQ ops=true){Q:fF}(hno:∀a w,¬Q .outgrown a w):
  ∀(l:fS) (k:Nat) (s:Fx) (fr':eY) (o:KX) (st:gR),(∀j,l[j]? =ops[k+j]?)->NC P E F Yc ops l s=some ((fr',o),st)->
  ∀(p:gR) (g0 g:G) (a:Act),Inv P E g0 E0 g a s->qP g0->(∀l,¬g0.al l)->J p g0->(p++(vals o).map Prod.snd)<+:xs->(∀q∈o,q.Ok P E.gl L)->
   (∀a' g',CI E g' a' fr'->J (p++(vals o).map Prod.snd) g'->KS g0 g'->Q .normal a' g'.w)->(∀f∈st,∀a' g' pre,CI E g' a' f->Jx pre g'->KS g0 g'->Q .normal a' g'.w)->
   wpOpsIn (Fw none) 0 P ops Q (List.range' k l.length) a g.w:=by
 intro l
 induction l with
 |nil=>
  intro k s fr' o st _ he p g0 g a hi hok0 hn0 hJp hpre hL hQ _;simp only[NC]at he;split at he
  .rename_i hpn;split at he
   .rename_i hH;simp only[aD,aQ]at he;obtain⟨⟨rfl,rfl⟩,rfl⟩:=he;have hH':=VV hH;have hci:=hi.toC (oX.refl E0 g0) hpn;rw[hH']at hci;obtain⟨g',e,hps,hci'⟩:=hci.toP hn0;show Q .normal a g.w;rw[<-e];have:=hJ.cj _ _ _ hJp hps hci'.ok;exact hQ a g' hci' (by simpa [vals]using this) (hps.ks hok0)
   .cases he
  .cases he
 |cons o l ih=>
  intro k s fr' os st hl he p g0 g a hi hok0 hn0 hJp hpre hL hQ hQx;have h0:ops[k]? =some o:=by simpa using(hl 0).symm
  have hl':∀j,l[j]? =ops[k+1+j]? :=fun j=>by have:=hl (j+1);simpa [dG,Nat.add_comm 1 j]using this
  rw[bL,eJ,wpOpsIn_cons];simp only[NC]at he;split at he
  .rename_i it rt rs heff;split at heff
   .rename_i hcond;simp only[aA]at hcond;obtain⟨hw,hpn,hH⟩:=hcond;have hpn:s.pend=none:=by simpa using hpn
    have hH':=VV hH;have hci:=hi.toC (oX.refl E0 g0) hpn;rw[hH']at hci;obtain⟨g1,e1,hps,hc1⟩:=hci.toP hn0;have hJ1:=hJ.cj _ _ _ hJp hps hc1.ok;have hk1:=hps.ks hok0;rw[<-e1];split at he
    .rename_i f1 o1 st1 hrest;split at he
     .rename_i f2 H2 hstop;split at he
      .rename_i hH2;simp only[aD,aQ]at he;obtain⟨⟨rfl,rfl⟩,rfl⟩:=he;have hH2':=VV hH2;subst hH2';have hwd:Region.wanted o (yielded ops a.tmps)=true:=by
        have hx:=CJ.of hc1.fr none;rw[IR hx (fun d _ =>by simp)];exact hw
       have goT:∀v W' (g':G),g'.w=W'->KS g1 g'->qP g'->(∀l,¬g'.al l)->J (p++it.vals.map Prod.snd) g'->Rd g' v rt->wpOpsIn (Fw none) 0 P ops Q (List.range' (k+1) l.length) (a.put o.dst v) W':=by
        intro v W' g' eW hk hok hn hJ' hv;subst eW;have hc2:=hc1.next hk hok hn (d:=o.dst) hv;refine ih (k+1) ⟨pP s.fr o.dst rt,E0,none⟩ f1 o1 st1 hl' hrest (p++it.vals.map Prod.snd) g' g' (a.put o.dst v) hc2.toInv hok hn hJ' (by simpa [vals,dB]using hpre) (fun q hq=>hL q (by simp[hq])) ?_ ?_
        .intro a' g2 hc hj hks;exact hQ a' g2 hc (by simpa [vals,dB]using hj) (hk1.trans (hk.trans hks))
        .intro f hf a' g2 pre hc hj hks;exact hQx f (by simp[hf]) a' g2 pre hc hj (hk1.trans (hk.trans hks))
       have goS:∀v W' (g':G) pre,g'.w=W'->KS g1 g'->qP g'->(∀l,¬g'.al l)->Jx pre g'->Rd g' v rs->wpOpsIn (Fw none) 0 P ops Q (List.range' (k+1) l.length) (a.put o.dst v) W':=by
        intro v W' g' pre eW hk hok hn hJ' hv;subst eW;have hc2:=hc1.next hk hok hn (d:=o.dst) hv
        have:=XQ (P:=P) (E:=E) (F:=F) (g0:=g') (H0:=E0) (Q:=fun e a w=>Q e (DS [] a) w) hE hF l (k+1) _ _ (a.put o.dst v) g' hl' hc2.toInv hstop (fun a' g2 hi'=>by
         have hci:=hi'.toC (oX.refl E0 g') rfl;obtain⟨g3,e3,hps3,hc3⟩:=hci.toP hn;rw[wT,<-e3]
         exact hQx f2 (by simp) a' g3 pre hc3 (hJ.cx _ _ _ hJ' hps3 hc3.ok) (hk1.trans (hk.trans (hps3.ks hok))))
        have:=YN (ro:=none) (n:=0) hp hno _ _ _ this
        rwa [wT]at this
       unfold wpOpIn;rw[h0];simp only[hwd,if_true];refine⟨fun _ _ =>trivial,?_⟩;have ep:o.semAt (Fw none).round a.eval=execOp a.eval o:=Oper.semAt_eq _ _ _ (GY hp h0);rw[ep];unfold aEz at heff;split at heff
       .
        rename_i q hq;simp only[aD,aQ]at heff;obtain⟨rfl,rfl,rfl⟩:=heff;unfold HK at hq;split at hq
        .rename_i c hop;split at hq
         .rename_i f hcal;split at hq
          .rename_i l1 hev;split at hq
           .rename_i ars hars;simp only[aD]at hq;subst hq;have hL1:l1=L:=hL (.y (l1,ars)) (by simp);subst hL1;obtain⟨callee,args,tys⟩:=c;simp only at hcal hars;subst hcal;have hx:=CJ.of hc1.fr none;obtain⟨vs,us,hv,hr1,hr2⟩:=(hx.eval hc1.gl (fun _ _ =>by simp) hev).inv_fn;have h3:=sY (g:=g1) (a:=a) hars (fun x hx' t ht=>hx.eval hc1.gl (fun _ _ =>by simp) ht);have ev1:vs=[]:=cY.1 (by simpa using hr1.1);have ev2:us=[]:=cY.1 (by simpa using hr2.1);subst ev1;subst ev2
            obtain⟨fn,tmps,a_s,bd,hy,hR⟩:=hJ.y p ars (args.toList.map a.eval) g1 (by
             refine List.IsPrefix.trans ?_ hpre
             simp[vals,Tq.vals,dB]) hc1.ok hc1.no hc1.gl h3 hJ1
            have hrun:(execOp a.eval o).run P g1.w= .ok (.round l1 fn tmps a_s bd) g1.w:=by
             simp only[execOp,hop,resolve,hv,Deferred.ofValue,aO,aW,aH,invoke,qI];simpa using hy
            rw[hrun];refine⟨fun h=>(by cases h),hR.mono ?_⟩;rintro e W' ⟨hsz,hkp,(⟨rfl,hj⟩|⟨rfl,hj⟩)⟩
            .exact goT (.bool true) W' {g1 with w:=W'} rfl ⟨fun _ h=>h,hkp⟩ (fun b hb=>bP (hc1.ok b hb) hsz) hc1.no (by simpa [Tq.vals]using hj) (.bool true)
            .exact goS (.bool false) W' {g1 with w:=W'} _ rfl ⟨fun _ h=>h,hkp⟩ (fun b hb=>bP (hc1.ok b hb) hsz) hc1.no hj (.bool false)
           .cases hq
          .cases hq
         .cases hq
        .cases hq
       .
        unfold Jn at heff;split at heff
        .rename_i c hop;split at heff
         .rename_i f hcal;split at heff
          .rename_i k1 first cap hev
           split at heff
           .rename_i ars hars;obtain⟨callee,args,tys⟩:=c;simp only at hcal hars;subst hcal;have hx:=CJ.of hc1.fr none;obtain⟨vs,us,hv,hr1,hr2⟩:=(hx.eval hc1.gl (fun _ _ =>by simp) hev).inv_fn;have h3:=sY (g:=g1) (a:=a) hars (fun x hx' t ht=>hx.eval hc1.gl (fun _ _ =>by simp) ht);split at heff
            .rename_i outs rt0 rs0 hyc;simp only[aD,aQ]at heff;obtain⟨rfl,rfl,rfl⟩:=heff;obtain⟨⟨hk,hc⟩,hLo⟩:=hL _ aR;have hcall:=hc xs J Jx hJ p g1 _ (List.IsPrefix.trans (by simp[vals,Tq.vals,dB]) hpre) hLo hc1.ok hc1.no hc1.gl ((hr1.append h3).append hr2) hJ1;have hrun:(execOp a.eval o).run P g1.w= .ok (.enter k1 (vs++args.toList.map a.eval++us).toArray) g1.w:=by
              simp only[execOp,hop,resolve,hv,Deferred.ofValue,aO,aW,aH,invoke,qI];rw[DH hk];simp
             rw[hrun];refine⟨fun h=>(by cases h),sW.2 (hcall.mono ?_)⟩;rintro e W' ⟨v,g',rfl,eW,hks,hok',hn',(⟨hj,hv'⟩|⟨pre,hj,hv'⟩)⟩
             .exact goT v W' g' eW hks hok' hn' hj hv'
             .exact goS v W' g' pre eW hks hok' hn' hj hv'
            .cases heff
           .cases heff
          .cases heff
         .cases heff
        .cases heff
      .cases he
     .cases he
    .cases he
   .cases heff
  .split at he
   .rename_i s' hs';split at he
    .rename_i hH;have h1:=NH (P:=P) (E:=E) (F:=F) (g0:=g0) (H0:=E0) (Q:=fun e a w=>Q e (DS [] a) w) hE hF hi hs' h0 (K:=fun a' w'=>∃g',g'.w=w'/\Inv P E g0 E0 g' a' s') (fun a' g' h'=>⟨g',rfl,h'⟩)
     have:=IU (ro:=none) (n:=0) (ds:=[]) (K':=wpOpsIn (Fw none) 0 P ops Q (List.range' (k+1) l.length)) hp hno (fun a' w' ⟨g',e,h'⟩=>by
      rw[wT,<-e]
      exact ih (k+1) s' fr' os st hl' he p g0 g' a' h' hok0 hn0 hJp hpre hL hQ hQx) h1
     rwa [wT]at this
    .cases he
   .cases he
theorem Co(hm:P.follows .mixedOrders=true)(hE:tP P E.gl E.pe)(hF:rG P E.gl F.ee){xs:gR}{J Jx:List (List T)->G->Prop}(hJ:YP P E.gl L xs J Jx){n:Nat}{c:Code}(hok:codeOk c=true)(hin:sD c=true){fr fr':eY}{x:X}{H':Hp}(he:oP P E F n c fr E0=some (x,fr',H'))(hH:YT H'=true)
  {Q:fF} (hno:∀a w,¬Q .outgrown a w) {g:G} {a:Act} (hc:CI E g a fr) (hQ:∀a' g',CI E g' a' fr'->PStep g g'->Q x.exit_ a' g'.w):c.wpIn (Fw none) 0 P Q a g.w:=by
 have hH':=VV hH;subst hH'
 have:=SM (ds:=[]) (ro:=none) (n:=0) hm hE hF n c fr E0 x fr' E0 hok hin he g g E0 a hc Q hno (fun a' g' hc'=>by
  obtain⟨g2,e,hp,hc2⟩:=hc'.toP hc.no;rw[wT,<-e]
  exact hQ a' g2 hc2 hp)
 rwa [wT]at this
abbrev iQ:=List (X×List T)
theorem aEm(hm:P.follows .mixedOrders=true)(hE:tP P E.gl E.pe)(hF:rG P E.gl F.ee){xs:gR}{J Jx:List (List T)->G->Prop}(hJ:YP P E.gl L xs J Jx){n:Nat}:
  ∀(c:Code) (fr:eY) (x:X) (fr':eY) (o:KX) (st:iQ),codeOk c=true->sD c=true->uZ P E F Yc n c fr=some ((x,fr',o),st)->
  ∀(Q:fF),(∀a w,¬Q .outgrown a w)->∀(p:gR) (g:G) (a:Act),CI E g a fr->J p g->(p++(vals o).map Prod.snd)<+:xs->(∀q∈o,q.Ok P E.gl L)->
   (∀a' g',CI E g' a' fr'->J (p++(vals o).map Prod.snd) g'->KS g g'->Q x.exit_ a' g'.w)->(∀q∈st,∀a' g' pre,CI E g' a' q.2->Jx pre g'->KS g g'->Q q.1.exit_ a' g'.w)->
   c.wpIn (Fw none) 0 P Q a g.w:=by
 have plain:∀(c:Code) (fr:eY) (x:X) (fr':eY) (o:KX) (st:iQ),codeOk c=true->sD c=true->(match oP P E F n c fr E0 with
   |some (x,fr',H')=>if YT H' then some ((x,fr',[]),[])else none
   |none=>none)=some ((x,fr',o),st)->
  ∀(Q:fF),(∀a w,¬Q .outgrown a w)->∀(p:gR) (g:G) (a:Act),CI E g a fr->J p g->(p++(vals o).map Prod.snd)<+:xs->(∀q∈o,q.Ok P E.gl L)->
   (∀a' g',CI E g' a' fr'->J (p++(vals o).map Prod.snd) g'->KS g g'->Q x.exit_ a' g'.w)->(∀q∈st,∀a' g' pre,CI E g' a' q.2->Jx pre g'->KS g g'->Q q.1.exit_ a' g'.w)->
   c.wpIn (Fw none) 0 P Q a g.w:=by
  intro c fr x fr' o st hok hin he Q hno p g a hc hj _ _ hQ _;split at he
  .rename_i x1 fr1 H1 hev;split at he
   .rename_i hH;simp only[aD,aQ]at he;obtain⟨⟨rfl,rfl,rfl⟩,rfl⟩:=he;exact Co hm hE hF hJ hok hin hev hH hno hc (fun a' g' hc' hp=>hQ a' g' hc' (by simpa [vals]using hJ.cj _ _ _ hj hp hc'.ok) (hp.ks hc.ok))
   .cases he
  .cases he
 intro c
 induction c with
 |region id ops draw=>
  intro fr x fr' o st hok hin he Q hno p g a hc hj hpre hL hQ hQx;simp only[uZ]at he;split at he
  .exact plain _ _ _ _ _ _ hok hin he Q hno p g a hc hj hpre hL hQ hQx
  .rename_i hd;have hd:draw=false:=by simpa using hd
   subst hd;split at he
   .rename_i f1 o1 s1 hs;simp only[aD,aQ]at he;obtain⟨⟨rfl,rfl,rfl⟩,rfl⟩:=he;refine wpIn_region ?_;have:=aJl hE hF hJ (Q:=Q) (ops:=ops) hin hno ops.toList 0 _ _ _ _ (fun j=>by simp) hs p g g a hc.toInv hc.ok hc.no hj hpre hL hQ (fun f hf a' g' pre h1 h2 h3=>hQx (.normal,f) (bU.2 ⟨f,hf,rfl⟩) a' g' pre h1 h2 h3)
    rwa [cQ,<-List.range_eq_range']at this
   .cases he
 |seq c1 c2 ih1 ih2=>
  intro fr x fr' o st hok hin he Q hno p g a hc hj hpre hL hQ hQx;simp only[codeOk,aA]at hok;simp only[sD,aA]at hin;simp only[uZ]at he;refine wpIn_seq ?_;split at he
  .rename_i x1 fr1 o1 s1 h1;split at he
   .rename_i s1' hthru;have stops:∀(s1 s1':iQ),YD P E F n c2 s1=some s1'->(∀q∈s1',∀a' g' pre,CI E g' a' q.2->Jx pre g'->KS g g'->Q q.1.exit_ a' g'.w)->
      ∀q∈s1,∀a' g' pre,CI E g' a' q.2->Jx pre g'->KS g g'->Exit.then (c2.wpIn (Fw none) 0 P Q) Q q.1.exit_ a' g'.w:=by
     intro s1
     induction s1 with
     |nil=>intro s1' _ _ q hq;simp at hq
     |cons y s1 ihs=>
      intro s1' ht hall q hq a' g' pre hc' hj' hks;obtain⟨xa,fa⟩:=y;simp only[YD]at ht;split at ht
      .rename_i r' hr';rcases aU.1 hq with rfl|hq
       .split at ht
        .split at ht
         .rename_i x' f' H' hev;split at ht
          .rename_i hH;cases ht;show c2.wpIn (Fw none) 0 P Q a' g'.w;exact Co hm hE hF hJ hok.2 hin.2 hev hH hno hc' (fun a2 g2 hc2 hp=>hall (x',f') (by simp) a2 g2 pre hc2 (hJ.cx _ _ _ hj' hp hc2.ok) (hks.trans (hp.ks hc'.ok)))
          .cases ht
         .cases ht
        .rename_i hxn;cases ht;have:=hall (xa,fa) (by simp) a' g' pre hc' hj' hks;cases xa with
         |normal=>exact absurd rfl hxn|exit id=>exact this|ret=>exact this
       .refine ihs r' hr' (fun y hy=>hall y ?_) q hq a' g' pre hc' hj' hks;split at ht
        .split at ht
         .split at ht
          .cases ht;exact aJ _ hy
          .cases ht
         .cases ht
        .cases ht;exact aJ _ hy
      .cases ht
    split at he
    .rename_i hx1;split at he
     .rename_i x2 fr2 o2 s2 h2;simp only[aD,aQ]at he;obtain⟨⟨rfl,rfl,rfl⟩,rfl⟩:=he;refine ih1 _ _ _ _ _ hok.1 hin.1 h1 _ (tU hno) p g a hc hj (List.IsPrefix.trans (by simp[BD]) hpre) (fun q hq=>hL q (by simp[hq])) ?_ (stops s1 s1' hthru (fun q hq=>hQx q (by simp[hq])));intro a' g' hc' hj' hks;show c2.wpIn (Fw none) 0 P Q a' g'.w;exact ih2 _ _ _ _ _ hok.2 hin.2 h2 Q hno (p++(vals o1).map Prod.snd) g' a' hc' hj' (by simpa [BD,dB]using hpre) (fun q hq=>hL q (by simp[hq])) (fun a2 g2 q1 q2 q3=>hQ a2 g2 q1 (by simpa [BD,dB]using q2) (hks.trans q3))
       (fun q hq a2 g2 pre q1 q2 q3=>hQx q (by simp[hq]) a2 g2 pre q1 q2 (hks.trans q3))
     .cases he
    .rename_i hx1;simp only[aD,aQ]at he;obtain⟨⟨rfl,rfl,rfl⟩,rfl⟩:=he;refine ih1 _ _ _ _ _ hok.1 hin.1 h1 _ (tU hno) p g a hc hj hpre hL ?_ (stops s1 s1' hthru (fun q hq=>hQx q hq));intro a' g' hc' hj' hks;have:=hQ a' g' hc' hj' hks;cases x1 with
     |normal=>exact absurd rfl hx1|exit id=>exact this|ret=>exact this
   .cases he
  .cases he
 |cond oc c1 c2 ih1 ih2=>
  intro fr x fr' o st hok hin he Q hno p g a hc hj hpre hL hQ hQx;simp only[codeOk,aA]at hok;simp only[sD,aA]at hin;simp only[uZ]at he;split at he
  .rename_i b hb;have hr:=(CJ.of hc.fr none).eval hc.gl (fun _ _ =>by simp) hb;refine wpIn_cond (t:=b) hr.inv_bool ?_;cases b with
   |true=>exact ih1 _ _ _ _ _ hok.1 hin.1 (by simpa using he) Q hno p g a hc hj hpre hL hQ hQx|false=>exact ih2 _ _ _ _ _ hok.2 hin.2 (by simpa using he) Q hno p g a hc hj hpre hL hQ hQx
  .cases he
 |block id c ih=>
  intro fr x fr' o st hok hin he Q hno p g a hc hj hpre hL hQ hQx;simp only[codeOk]at hok;simp only[sD]at hin;simp only[uZ]at he;split at he
  .rename_i x1 f1 o1 s1 h1;simp only[aD,aQ]at he;obtain⟨⟨rfl,rfl,rfl⟩,rfl⟩:=he;have hb:∀(x:X) a w,Q (exB id x).exit_ a w->Exit.inBlock id Q x.exit_ a w:=fun x a w h=>by
    cases x with
    |normal=>exact h|ret=>exact h
    |exit id'=>
     simp only[X.exit_,Exit.inBlock];by_cases e:id'=id
     .rw[if_pos e];simpa [exB,e,X.exit_]using h
     .rw[if_neg e];simpa [exB,e,X.exit_]using h
   refine wpIn_block (ih _ _ _ _ _ hok hin h1 (Exit.inBlock id Q) (fun a w h=>hno a w h) p g a hc hj hpre hL (fun a' g' q1 q2 q3=>hb _ _ _ (hQ a' g' q1 q2 q3)) (fun q hq a' g' pre q1 q2 q3=>hb _ _ _ (hQx (exB id q.1,q.2) (bU.2 ⟨q,hq,rfl⟩) a' g' pre q1 q2 q3)))
  .cases he
 |loop c ih=>
  intro fr x fr' o st hok hin he Q hno p g a hc hj hpre hL hQ hQx;simp only[codeOk]at hok;simp only[sD]at hin;simp only[uZ]at he;refine wpIn_loop_rounds n ?_;have key:∀(k:Nat) (fr:eY) (x:X) (fr':eY) (o:KX) (st:iQ) (p:gR) (g:G) (a:Act),MG (uZ P E F Yc n c) k fr=some ((x,fr',o),st)->CI E g a fr->J p g->(p++(vals o).map Prod.snd)<+:xs->(∀q∈o,q.Ok P E.gl L)->
    (∀a' g',CI E g' a' fr'->J (p++(vals o).map Prod.snd) g'->KS g g'->Q x.exit_ a' g'.w)->(∀q∈st,∀a' g' pre,CI E g' a' q.2->Jx pre g'->KS g g'->Q q.1.exit_ a' g'.w)->Code.roundsIn (Fw none) 0 P c Q k a g.w:=by
   intro k
   induction k with
   |zero=>intro fr x fr' o st p g a h;simp[MG]at h
   |succ k ihk=>
    intro fr x fr' o st p g a h hc hj hpre hL hQ hQx;simp only[MG]at h;rw[roundsIn_succ];split at h
    .rename_i x1 f1 o1 s1 h1;split at h
     .rename_i hall;rw[aG]at hall;have notn:∀(K:gH) (q:X×List T),(!q.1.isN)=true->∀a w,Q q.1.exit_ a w->Exit.then K Q q.1.exit_ a w:=fun K q hq a w hh=>by
       obtain⟨xq,fq⟩:=q;cases xq with
       |normal=>cases hq|exit id=>exact hh|ret=>exact hh
      split at h
      .split at h
       .rename_i x2 f2 o2 s2 h2;simp only[aD,aQ]at h;obtain⟨⟨rfl,rfl,rfl⟩,rfl⟩:=h;refine ih _ _ _ _ _ hok hin h1 _ (tU hno) p g a hc hj (List.IsPrefix.trans (by simp[BD]) hpre) (fun q hq=>hL q (by simp[hq])) ?_ (fun q hq a' g' pre q1 q2 q3=>notn _ q (hall q hq) _ _ (hQx q (by simp[hq]) a' g' pre q1 q2 q3));intro a' g' hc' hj' hks;exact ihk _ _ _ _ _ (p++(vals o1).map Prod.snd) g' a' h2 hc' hj' (by simpa [BD,dB]using hpre) (fun q hq=>hL q (by simp[hq])) (fun a2 g2 q1 q2 q3=>hQ a2 g2 q1 (by simpa [BD,dB]using q2) (hks.trans q3))
         (fun q hq a2 g2 pre q1 q2 q3=>hQx q (by simp[hq]) a2 g2 pre q1 q2 (hks.trans q3))
       .cases h
      .rename_i hxn;simp only[aD,aQ]at h;obtain⟨⟨rfl,rfl,rfl⟩,rfl⟩:=h;refine ih _ _ _ _ _ hok hin h1 _ (tU hno) p g a hc hj hpre hL ?_ (fun q hq a' g' pre q1 q2 q3=>notn _ q (hall q hq) _ _ (hQx q hq a' g' pre q1 q2 q3));intro a' g' hc' hj' hks;have:=hQ a' g' hc' hj' hks;cases x1 with
       |normal=>exact absurd rfl hxn|exit id=>exact this|ret=>exact this
     .cases h
    .cases h
  exact key n fr x fr' o st p g a he hc hj hpre hL hQ hQx
 |_ =>
  intro fr x fr' o st hok hin he;simp only[uZ]at he;exact plain _ _ _ _ _ _ hok hin he
def vZ(P:fA)(E:tW)(F:Fc)(Yc:gP)(n:Nat)(f:fT)(args:eY):Option ((T×KX)×List T):=
 match P.funcs[f]? with
 |some fn=>match fn.body with
  |some c=>match uZ P E F Yc n c (args++List.replicate (fn.ntmps-args.length) oL)with
   |some ((x,fr,o),st)=>match endY fn.results.toList (x,fr)with
    |some t=>match mapO (endY fn.results.toList) st with
     |some ts=>some ((t,o),ts)|none=>none
    |none=>none
   |none=>none
  |none=>none
 |none=>none
 where
 endY (rs:gU):X×List T->Option T
  |(.exit _,_)=>none
  |(_,fr)=>match rL P fr E0 rs with
   |some [t]=>some t|some ts=>some (.tup ts)|none=>none
 mapO (f:X×List T->Option T):List (X×List T)->Option (List T)
  |[]=>some []
  |q::r=>match f q with
   |some t=>match mapO f r with
    |some ts=>some (t::ts)|none=>none
   |none=>none
theorem Ce{f:X×List T->Option T}:∀{st:iQ} {ts:eY},vZ.mapO f st=some ts->∀q∈st,∃t∈ts,f q=some t
 |[],_,_,q,hq=>by simp at hq
 |y::r,ts,h,q,hq=>by
  simp only[vZ.mapO]at h;split at h
  .rename_i t ht;split at h
   .rename_i ts' hts;cases h;rcases aU.1 hq with rfl|hq
    .exact⟨t,by simp,ht⟩
    .obtain⟨t',h1,h2⟩:=Ce hts q hq;exact⟨t',by simp[h1],h2⟩
   .cases h
  .cases h
theorem Sm{fn:Func}{g:G}{a:Act}{fr:eY}{t:T}{x:X}(hc:CI E g a fr)(h:vZ.endY P fn.results.toList (x,fr)=some t):
  (x= .normal\/x= .ret)/\∃v,(results fn a.tmps).run P g.w= .ok v g.w/\Rd g v t:=by
 have hx:(x= .normal\/x= .ret)/\(match rL P fr E0 fn.results.toList with
   |some [t]=>some t|some ts=>some (.tup ts)|none=>none)=some t:=by
  cases x with
  |exit id=>simp[vZ.endY]at h|normal=>exact⟨.inl rfl,h⟩|ret=>exact⟨.inr rfl,h⟩
 refine⟨hx.1,?_⟩;have hr:=hx.2;split at hr
 .rename_i t' ht;cases hr;obtain⟨us,h1,h2⟩:=uR (P:=P) hc.st hc.fr ht
  match us,h2 with
  |[u],h2=>
   refine⟨u,?_,(h2.inv_cons).1⟩;have:fn.results=fn.results.toList.toArray:=by simp
   rw[tH,this,dA];simp only[aO,eH];rw[h1];simp
  |[],h2=>simp[RdL]at h2|_ ::_ ::_,h2=>simp[RdL]at h2
 .rename_i ts' hne ht;cases hr;obtain⟨us,h1,h2⟩:=uR (P:=P) hc.st hc.fr ht;refine⟨.tuple us.toArray,?_,Rd.mk_tup h2⟩;have:fn.results=fn.results.toList.toArray:=by simp
  rw[tH,this,dA];simp only[aO,eH];rw[h1];have hl:us.length≠1:=fun q=>by
   rw[h2.1]at q;obtain⟨t,rfl⟩:=eG.1 q;exact hne t rfl
  simp[hl]
 .cases hr
def aQu(P:fA)(f:fT):Bool:=
 match P.funcs[f]? with
 |some fn=>match fn.body with
  |some c=>codeOk c&&sD c|none=>false
 |none=>false
theorem aTr(hm:P.follows .mixedOrders=true)(hE:tP P E.gl E.pe)(hF:rG P E.gl F.ee){n:Nat}{f:fT}(hf:tY P f=true)(hok:aQu P f=true){ts:eY}{rt rs:T}{o:KX}{sts:eY}(he:vZ P E F Yc n f ts=some ((rt,o),sts))(hs:∀t∈sts,t=rs)(hIt:∀q∈o,q.Ok P E.gl L):
  YF P E.gl L f ts (vals o) rt rs:=by
 refine⟨hf,fun xs J Jx hJ p g vs hpre hL hg hn hgl hv hj=> ?_⟩;unfold vZ at he;unfold aQu at hok;split at he
 .rename_i fn hfn;rw[hfn]at hok;simp only at hok;split at he
  .rename_i c hc;rw[hc]at hok;simp only[aA]at hok;have hframe:RdL g (vs.toArray++Array.replicate (fn.ntmps-vs.toArray.size) undef).toList (ts++List.replicate (fn.ntmps-ts.length) oL):=by
    have:(vs.toArray++Array.replicate (fn.ntmps-vs.toArray.size) undef).toList=vs++List.replicate (fn.ntmps-ts.length) undef:=by simp[hv.1]
    rw[this];exact hv.append (RdL.replicate _ Rd.undef)
   have hci:CI E g {tmps:=vs.toArray++Array.replicate (fn.ntmps-vs.toArray.size) undef,defers:=[]} (ts++List.replicate (fn.ntmps-ts.length) oL):=CI.mk' hg hn hgl rfl hframe;split at he
   .rename_i x fr o st hev;split at he
    .rename_i t ht;split at he
     .rename_i us hus;simp only[aD,aQ]at he;obtain⟨⟨rfl,rfl⟩,rfl⟩:=he;refine sW.1 (callsIn_of_wp_marks (F:=Fw none) (n:=0) hfn hc trivial ?_ rfl);have fin:∀(R:iX) (x:X) (fr:eY) (t:T),vZ.endY P fn.results.toList (x,fr)=some t->∀a' g',CI E g' a' fr->(∀v,Rd g' v t->R (.returned v) g'.w)->x.exit_ ≠ .outgrown/\bodyPostM (Fw none) 0 P fn R x.exit_ a' g'.w:=by
       intro R x fr t ht a' g' hc' hR;obtain⟨hx,v,h1,h2⟩:=Sm hc' ht;have hlv:LeavesInM (Fw none) 0 P fn a'.tmps R a'.defers .returning g'.w:=by
        rw[hc'.df];exact⟨v,h1,hR v h2⟩
       rcases hx with rfl|rfl
       .exact⟨by simp[X.exit_],hlv⟩
       .exact⟨by simp[X.exit_],hlv⟩
      have:=aEm hm hE hF hJ c _ _ _ _ _ hok.1 hok.2 hev (fun e a w=>e≠ .outgrown/\bodyPostM (Fw none) 0 P fn (fun e W'=>∃(v:fP) (g':G),e= .returned v/\g'.w=W'/\KS g g'/\qP g'/\(∀l,¬g'.al l)/\((J (p++(vals o).map Prod.snd) g'/\Rd g' v t)\/(∃pre,Jx pre g'/\Rd g' v rs))) e a w)
       (fun a w h=>h.1 rfl) p g _ hci hj hpre hIt (fun a' g' h1 h2 h3=>fin _ x fr t ht a' g' h1 (fun v hv=>⟨v,g',rfl,rfl,h3,h1.ok,h1.no,.inl ⟨h2,hv⟩⟩))
       (fun q hq a' g' pre h1 h2 h3=>by
        obtain⟨t',ht',hq'⟩:=Ce hus q hq;have:=hs t' ht';subst this
        exact fin _ q.1 q.2 t' hq' a' g' h1 (fun v hv=>⟨v,g',rfl,rfl,h3,h1.ok,h1.no,.inr ⟨pre,h2,hv⟩⟩))
      exact wpIn_mono this (fun e a w h=>h.2)
     .cases he
    .cases he
   .cases he
  .cases he
 .cases he
theorem aPn{gl:fD}{gf:fT}{cap:eY}{xs:gR}(h:∀l,∃outs rt rs,YF P gl l gf ([.fn (.yield l) [] []]++cap) outs rt rs/\outs.map Prod.snd=xs/\∀q∈outs,q.1=l):Pt P gl gf cap xs:=by
 intro g lb hg hn hgl hlb l J Jx hJ hj;obtain⟨outs,rt,rs,hY,e,hL⟩:=h l;have hv:RdL g ([Value.func (.yield l) #[] #[]]++lb) ([.fn (.yield l) [] []]++cap):=(RdL.cons (.fn _ [] [] [] [] rfl (by simp) rfl (by simp)) RdL.nil).append hlb;have:=hY.2 xs J Jx hJ [] g _ (by rw[e];simp) hL hg hn hgl hv hj;refine sW.2 ?_;have ea:(#[Value.func (.yield l) #[] #[]]++lb.toArray:Array Value)=([Value.func (.yield l) #[] #[]]++lb).toArray:=by simp
 rw[ea];refine this.mono ?_;rintro e' W' ⟨v,g',rfl,rfl,_,_,_,(⟨h1,_⟩|⟨pre,h1,_⟩)⟩
 .exact⟨⟨v,rfl⟩,.inl ⟨g',rfl,by rw[e]at h1;simpa using h1⟩⟩
 .exact⟨⟨v,rfl⟩,.inr ⟨pre,g',rfl,h1⟩⟩
end
end
end Go.Ps
namespace Go.Ps
noncomputable section
end
end Go.Ps
namespace Go.Ps
noncomputable section
def Lq(f:List T->Hp->List Bool->List Bool->RD (X×List T×Hp)):Nat->List T->Hp->List Bool->List Bool->RD (X×List T×Hp)
 |0,_,_,_,_ => .fail 50
 |k+1,fr,H,ds,log=>match f fr H ds log with
  | .ok (.normal,fr',H') ds' log'=>Lq f k fr' H' ds' log'|r=>r
def qJ(P:fA)(E:Ed)(F:Fc)(n:Nat):Code->List T->Hp->List Bool->List Bool->RD (X×List T×Hp)
 | .seq a b,fr,H,ds,log=>match qJ P E F n a fr H ds log with
  | .ok (.normal,fr',H') ds' log'=>qJ P E F n b fr' H' ds' log'|r=>r
 | .cond c a b,fr,H,ds,log=>match pE E.gl fr c with
  |some (.bool t)=>match ds with
   |[]=> .need t log|d::ds'=>if d then qJ P E F n a fr H ds' (t::log)else qJ P E F n b fr H ds' ((!t)::log)
  |_ => .fail 21
 | .block id c,fr,H,ds,log=>match qJ P E F n c fr H ds log with
  | .ok (.exit id',fr',H') ds' log'=>if id'=id then .ok (.normal,fr',H') ds' log' else .ok (.exit id',fr',H') ds' log'
  |r=>r
 | .scope c,fr,H,ds,log=>qJ P E F n c fr H ds log| .loop c,fr,H,ds,log=>Lq (fun fr H ds log=>qJ P E F n c fr H ds log) n fr H ds log|c,fr,H,ds,log=>pR P E F c fr H ds log
section
variable{P:fA}{D:Ed}{F:Fc}
theorem aHi{n:Nat}{c:Code}(ih:∀{fr fr':eY} {H H':Hp} {x:X} {ds log ds' log':fL},qJ P D F n c fr H ds log= .ok (x,fr',H') ds' log'->oQ log'=true->oP P D.env F n c fr H=some (x,fr',H')/\oQ log=true):
  ∀(k:Nat) {fr fr':eY} {H H':Hp} {x:X} {ds log ds' log':fL},Lq (fun fr H ds log=>qJ P D F n c fr H ds log) k fr H ds log= .ok (x,fr',H') ds' log'->oQ log'=true->
   oP.loopN (fun fr H=>oP P D.env F n c fr H) k fr H=some (x,fr',H')/\oQ log=true:=by
 intro k
 induction k with
 |zero=>intro fr fr' H H' x ds log ds' log' h;simp[Lq]at h
 |succ k ihk=>
  intro fr fr' H H' x ds log ds' log' h hl;simp only[Lq]at h;simp only[oP.loopN];split at h
  .rename_i f1 h1 ds1 log1 hr;obtain⟨a,b⟩:=ihk h hl;obtain⟨a1,b1⟩:=ih hr b;rw[a1];exact⟨a,b1⟩
  .rename_i hr;obtain⟨a1,b1⟩:=ih h hl;rw[a1];cases x with
   |normal=>exact absurd h (hr _ _ _ _)|exit id=>exact⟨rfl,b1⟩|ret=>exact⟨rfl,b1⟩
theorem F0S(n:Nat):∀{c:Code} {fr fr':eY} {H H':Hp} {x:X} {ds log ds' log':fL},qJ P D F n c fr H ds log= .ok (x,fr',H') ds' log'->oQ log'=true->oP P D.env F n c fr H=some (x,fr',H')/\oQ log=true:=by
 intro c
 induction c with
 |seq c1 c2 ih1 ih2=>
  intro fr fr' H H' x ds log ds' log' h hl;simp only[qJ]at h;simp only[oP];split at h
  .rename_i f1 h1 ds1 log1 hr;obtain⟨a,b⟩:=ih2 h hl;obtain⟨a1,b1⟩:=ih1 hr b;rw[a1];exact⟨a,b1⟩
  .rename_i hr;obtain⟨a1,b1⟩:=ih1 h hl;rw[a1];cases x with
   |normal=>exact absurd h (hr _ _ _ _)|exit id=>exact⟨rfl,b1⟩|ret=>exact⟨rfl,b1⟩
 |cond o c1 c2 ih1 ih2=>
  intro fr fr' H H' x ds log ds' log' h hl;simp only[qJ]at h;simp only[oP,Ed.env];split at h
  .rename_i t ht;rw[ht];simp only;split at h
   .cases h
   .rename_i d ds1;split at h
    .obtain⟨a,b⟩:=ih1 h hl;simp only[oQ,aA]at b;rw[if_pos b.1];exact⟨a,b.2⟩
    .obtain⟨a,b⟩:=ih2 h hl;simp only[oQ,aA,bM]at b;rw[if_neg (by simp[b.1])];exact⟨a,b.2⟩
  .cases h
 |block id c ih=>
  intro fr fr' H H' x ds log ds' log' h hl;simp only[qJ]at h;simp only[oP];split at h
  .rename_i id' f1 h1 ds1 log1 hr;split at h
   .rename_i e;cases h;obtain⟨a,b⟩:=ih hr hl;rw[a];simp only;rw[if_pos e];exact⟨rfl,b⟩
   .rename_i e;cases h;obtain⟨a,b⟩:=ih hr hl;rw[a];simp only;rw[if_neg e];exact⟨rfl,b⟩
  .rename_i hr;obtain⟨a,b⟩:=ih h hl;rw[a];cases x with
   |normal=>exact⟨rfl,b⟩|exit id'=>exact absurd h (hr _ _ _ _ _)|ret=>exact⟨rfl,b⟩
 |scope c ih=>
  intro fr fr' H H' x ds log ds' log' h hl;simp only[qJ]at h;simp only[oP];exact ih h hl
 |loop c ih=>
  intro fr fr' H H' x ds log ds' log' h hl;simp only[qJ]at h;simp only[oP];exact aHi ih n h hl
 |_ =>intro fr fr' H H' x ds log ds' log' h hl;simp only[qJ]at h;exact CP n h hl
end
end
end Go.Ps
namespace Go.Ps
noncomputable section
abbrev noY:FuncId->List T->Option (YU×T×T):=fun _ _ =>none
section
variable(P:fA)(E:Ed)(F:Fc)
def XP(ops:fC):List Oper->Fx->List Bool->List Bool->RD ((List T×KX)×List (List T))
 |[],s,ds,log=>match s.pend with
  |none=>if YT s.H then .ok ((s.fr,[]),[]) ds log else .fail 40
  |some _ => .fail 41
 |o::rest,s,ds,log=>
  if(HK E.gl s.fr o).isSome&&(s.pend.isNone&&YT s.H)then
   match JW ops s.fr o ds log with
   | .ok true ds log=>match HK E.gl s.fr o with
    |some q=>match XP ops rest ⟨ZL s.fr o.dst (.bool true),E0,none⟩ ds log with
     | .ok ((fr',o'),st) ds log=>match zB P E F ops rest ⟨ZL s.fr o.dst (.bool false),E0,none⟩ ds log with
      | .ok ⟨f2,H2,none⟩ ds log=>if YT H2 then .ok ((fr',.y q::o'),f2::st) ds log else .fail 42
      | .ok _ _ _ => .fail 43| .need c l=> .need c l| .fail n=> .fail n
     | .need c l=> .need c l| .fail n=> .fail n
    |none=> .fail 44
   | .ok false ds log=>XP ops rest ⟨ZL s.fr o.dst oL,E0,none⟩ ds log| .need c l=> .need c l| .fail n=> .fail n
  else match Xx P E F ops s o ds log with
   | .ok s' ds log=>if YT s'.H then XP ops rest s' ds log else .fail 45
   | .need c l=> .need c l| .fail n=> .fail n
def YE(b:Code):List (X×List T)->List Bool->List Bool->RD (List (X×List T))
 |[],ds,log=> .ok [] ds log
 |(x,f)::r,ds,log=>match YE b r ds log with
  | .ok r' ds log=>match x with
   | .normal=>match pR P E F b f E0 ds log with
    | .ok (x',f',H') ds log=>if YT H' then .ok ((x',f')::r') ds log else .fail 46
    | .need c l=> .need c l| .fail n=> .fail n
   |x=> .ok ((x,f)::r') ds log
  | .need c l=> .need c l| .fail n=> .fail n
def xI:Code->List T->List Bool->List Bool->RD YR
 | .region id ops draw,fr,ds,log=>if draw then match pR P E F (.region id ops draw) fr E0 ds log with
   | .ok (x,fr',H') ds log=>if YT H' then .ok ((x,fr',[]),[]) ds log else .fail 47
   | .need c l=> .need c l| .fail n=> .fail n
  else match XP P E F ops ops.toList ⟨fr,E0,none⟩ ds log with
   | .ok ((fr',o),st) ds log=> .ok ((.normal,fr',o),st.map fun f=>(.normal,f)) ds log| .need c l=> .need c l| .fail n=> .fail n
 | .seq a b,fr,ds,log=>match xI a fr ds log with
  | .ok ((x1,fr1,o1),s1) ds log=>match YE P E F b s1 ds log with
   | .ok s1' ds log=>match x1 with
    | .normal=>match xI b fr1 ds log with
     | .ok ((x2,fr2,o2),s2) ds log=> .ok ((x2,fr2,o1++o2),s1'++s2) ds log| .need c l=> .need c l| .fail n=> .fail n
    |x=> .ok ((x,fr1,o1),s1') ds log
   | .need c l=> .need c l| .fail n=> .fail n
  | .need c l=> .need c l| .fail n=> .fail n
 | .cond c a b,fr,ds,log=>match pE E.gl fr c with
  |some (.bool t)=>match ds with
   |[]=> .need t log|d::ds=>if d then xI a fr ds (t::log)else xI b fr ds ((!t)::log)
  |_ => .fail 48
 | .block id c,fr,ds,log=>match xI c fr ds log with
  | .ok ((x,fr',o),st) ds log=> .ok ((exB id x,fr',o),st.map fun q=>(exB id q.1,q.2)) ds log| .need c l=> .need c l| .fail n=> .fail n
 | .loop _,_,_,_ => .fail 49
 |c,fr,ds,log=>match pR P E F c fr E0 ds log with
  | .ok (x,fr',H') ds log=>if YT H' then .ok ((x,fr',[]),[]) ds log else .fail 50
  | .need c l=> .need c l| .fail n=> .fail n
end
section
variable{P:fA}{D:Ed}{F:Fc}{n:Nat}
theorem aEd{gl:fD}{fr:eY}{o:Oper}:Jn noY gl fr o=none:=by
 unfold Jn
 repeat' split
 all_goals first
  |rfl
  |(rename_i h;cases h)
theorem NB{ops:fC}:∀{l:fS} {s:Fx} {r:(List T×KX)×List (List T)} {ds log ds' log':fL},XP P D F ops l s ds log= .ok r ds' log'->oQ log'=true->NC P D.env F noY ops l s=some r/\oQ log=true
 |[],s,r,ds,log,ds',log',h,hl=>by
  unfold XP at h;unfold NC
  repeat' split at h
  all_goals first
   |(cases h;done)
   |skip
  rename_i h1 h2;cases h;exact⟨by(try rw[h1]);(try simp only);rw[if_pos h2],hl⟩
 |o::l,s,r,ds,log,ds',log',h,hl=>by
  have hpf:∀(v:T),ZL s.fr o.dst v=pP s.fr o.dst v:=fun v=>Gz _ _ _;have hy:aEz noY D.env.gl s.fr o=(HK D.gl s.fr o).map fun q=>(.y q,.bool true,.bool false):=by
   unfold aEz;show(match HK D.gl s.fr o with|some q=>_ |none=>Jn noY D.gl s.fr o)=_;cases HK D.gl s.fr o with
   |some q=>rfl|none=>exact aEd
  unfold XP at h;unfold NC;split at h
  .rename_i hc;simp only[aA]at hc;split at h
   .rename_i ds1 log1 hg;split at h
    .rename_i q hq;split at h
     .rename_i fr' o' st ds2 log2 h2;split at h
      .rename_i f2 H2 ds3 log3 h3;split at h
       .rename_i h4;cases h;obtain⟨a3,b3⟩:=NA h3 hl;obtain⟨a2,b2⟩:=NB h2 b3;obtain⟨a1,b1⟩:=wC hg b2;rw[hpf]at a2 a3;refine⟨?_,b1⟩;rw[a1,hy,hq];simp only[Bool.true_and,hc.2.1,hc.2.2,if_true,Bool.and_self,bW,a2,a3,h4]
       .cases h
      all_goals cases h
     all_goals cases h
    .cases h
   .rename_i ds1 log1 hg;obtain⟨a2,b2⟩:=NB h hl;obtain⟨a1,b1⟩:=wC hg b2;refine⟨?_,b1⟩;have hs:qU P D.env F ops s o=some ⟨pP s.fr o.dst oL,E0,none⟩:=by
     have e1:s.pend=none:=by simpa using hc.2.1
     have e2:=VV hc.2.2;unfold qU rV;rw[e1];simp only;rw[a1];obtain⟨f,H,p⟩:=s;simp only at e1 e2;subst e1 e2;rfl
    rw[a1];simp only[Bool.false_and,bA,if_false,hs];rw[if_pos (show YT E0=true from rfl),<-hpf];exact a2
   all_goals cases h
  .rename_i hc;split at h
   .rename_i s' ds1 log1 h1;split at h
    .rename_i h2;obtain⟨a2,b2⟩:=NB h hl;obtain⟨a1,b1⟩:=Oh h1 b2;refine⟨?_,b1⟩;have e:(if(oW ops s.fr o&&(s.pend.isNone&&YT s.H))=true then aEz noY D.env.gl s.fr o else none)=none:=by
      split
      .rename_i hw;simp only[aA]at hw hc;rw[hy];cases hq:HK D.gl s.fr o with
       |none=>rfl|some q=>exact absurd ⟨by rw[hq];rfl,hw.2⟩ hc
      .rfl
     rw[e];simp only[a1];rw[if_pos h2];exact a2
    .cases h
   all_goals cases h
theorem DW{b:Code}:∀{l r:iQ} {ds log ds' log':fL},YE P D F b l ds log= .ok r ds' log'->oQ log'=true->YD P D.env F n b l=some r/\oQ log=true
 |[],r,ds,log,ds',log',h,hl=>by
  unfold YE at h;cases h;exact⟨rfl,hl⟩
 |(x,f)::l,r,ds,log,ds',log',h,hl=>by
  unfold YE at h;unfold YD;split at h
  .rename_i r' ds1 log1 h1;cases x with
   |normal=>
    simp only at h;split at h
    .rename_i x' f' H' ds2 log2 h2;split at h
     .rename_i h3;cases h;obtain⟨a2,b2⟩:=CP n h2 hl;obtain⟨a1,b1⟩:=DW h1 b2;refine⟨?_,b1⟩;simp only[a1,a2];rw[if_pos h3]
     .cases h
    all_goals cases h
   |exit id=>
    cases h;obtain⟨a1,b1⟩:=DW h1 hl;exact⟨by simp only[a1],b1⟩
   |ret=>
    cases h;obtain⟨a1,b1⟩:=DW h1 hl;exact⟨by simp only[a1],b1⟩
  all_goals cases h
theorem HQ:∀{c:Code} {fr:eY} {r:YR} {ds log ds' log':fL},xI P D F c fr ds log= .ok r ds' log'->oQ log'=true->uZ P D.env F noY n c fr=some r/\oQ log=true:=by
 have plain:∀{c:Code} {fr:eY} {r:YR} {ds log ds' log':fL},(match pR P D F c fr E0 ds log with
   | .ok (x,fr',H') ds log=>if YT H' then(.ok ((x,fr',[]),[]) ds log:RD YR)else .fail 50
   | .need c l=> .need c l| .fail n=> .fail n)= .ok r ds' log'->oQ log'=true->(match oP P D.env F n c fr E0 with
   |some (x,fr',H')=>if YT H' then some (((x,fr',[]),[]):YR)else none
   |none=>none)=some r/\oQ log=true:=by
  intro c fr r ds log ds' log' h hl;split at h
  .rename_i x fr' H' ds1 log1 h1;split at h
   .rename_i h2;cases h;obtain⟨a1,b1⟩:=CP n h1 hl;rw[a1];exact⟨by simp only;rw[if_pos h2],b1⟩
   .cases h
  all_goals cases h
 intro c
 induction c with
 |region id ops draw=>
  intro fr r ds log ds' log' h hl;simp only[xI]at h;simp only[uZ];split at h
  .rename_i hd;rw[if_pos hd];split at h
   .rename_i x fr' H' ds1 log1 h1;split at h
    .rename_i h2;cases h;obtain⟨a1,b1⟩:=CP n h1 hl;rw[a1];exact⟨by simp only;rw[if_pos h2],b1⟩
    .cases h
   all_goals cases h
  .rename_i hd;rw[if_neg hd];split at h
   .rename_i fr' o st ds1 log1 h1;cases h;obtain⟨a1,b1⟩:=NB h1 hl;rw[a1];exact⟨rfl,b1⟩
   all_goals cases h
 |seq a b iha ihb=>
  intro fr r ds log ds' log' h hl;simp only[xI]at h;simp only[uZ];split at h
  .rename_i x1 fr1 o1 s1 ds1 log1 h1;split at h
   .rename_i s1' ds2 log2 h2;split at h
    .split at h
     .rename_i x2 fr2 o2 s2 ds3 log3 h3;cases h;obtain⟨a3,b3⟩:=ihb h3 hl;obtain⟨a2,b2⟩:=DW (n:=n) h2 b3;obtain⟨a1,b1⟩:=iha h1 b2;exact⟨by simp only[a1,a2,a3],b1⟩
     all_goals cases h
    .rename_i x hx;cases h;obtain⟨a2,b2⟩:=DW (n:=n) h2 hl;obtain⟨a1,b1⟩:=iha h1 b2;refine⟨?_,b1⟩;cases x1 with
     |normal=>exact absurd rfl hx|exit id=>simp only[a1,a2]|ret=>simp only[a1,a2]
   all_goals cases h
  all_goals cases h
 |cond o a b iha ihb=>
  intro fr r ds log ds' log' h hl;simp only[xI]at h;simp only[uZ,Ed.env];split at h
  .rename_i t ht
   try rw[ht]
   try simp only
   split at h
   .cases h
   .rename_i d ds1;split at h
    .obtain⟨a,b⟩:=iha h hl;simp only[oQ,aA]at b;rw[if_pos b.1];exact⟨a,b.2⟩
    .obtain⟨a,b⟩:=ihb h hl;simp only[oQ,aA,bM]at b;rw[if_neg (by simp[b.1])];exact⟨a,b.2⟩
  .cases h
 |block id c ih=>
  intro fr r ds log ds' log' h hl;simp only[xI]at h;simp only[uZ];split at h
  .rename_i x fr' o st ds1 log1 h1;cases h;obtain⟨a1,b1⟩:=ih h1 hl;rw[a1];exact⟨rfl,b1⟩
  all_goals cases h
 |loop c ih=>intro fr r ds log ds' log' h hl;simp only[xI]at h;cases h
 |_ =>
  intro fr r ds log ds' log' h hl;simp only[xI]at h;simp only[uZ]
  first
   |exact plain (c:= .skip) h hl
   |exact plain (c:= .ret) h hl
   |exact plain (c:= .exit _) h hl
   |exact plain (c:= .label _) h hl
   |exact plain (c:= .scope _) h hl
   |(simp only[pR]at h;cases h)
end
end
end Go.Ps
namespace Go.Ps
noncomputable section
section
variable(P:fA)(E:Ed)(F:Fc)
def Kl(n:Nat)(ps:gK)(sg bd:Code)(fr:eY):List (List T)->Hp->List Bool->List Bool->RD (X×Hp)
 |[],H,ds,log=> .ok (.normal,H) ds log
 |x::r,H,ds,log=>match qJ P E F n sg (BZ ps x fr) H ds log with
  | .ok (.normal,fr1,H1) ds log=>match qJ P E F n bd fr1 H1 ds log with
   | .ok (.normal,_,H2) ds log=>Kl n ps sg bd fr r H2 ds log| .ok (q,_,H2) ds log=> .ok (q,H2) ds log| .need c l=> .need c l| .fail k=> .fail k
  | .ok _ _ _ => .fail 51| .need c l=> .need c l| .fail k=> .fail k
abbrev gT:=FuncId->List T->Option (List (List T)×List Bool)
def xQ(It:gT)(n k:Nat):Code->List T->Hp->List Bool->List Bool->RD (X×List T×Hp)
 | .seq a b,fr,H,ds,log=>match xQ It n k a fr H ds log with
  | .ok (.normal,fr',H') ds log=>xQ It n k b fr' H' ds log|r=>r
 | .cond c a b,fr,H,ds,log=>match pE E.gl fr c with
  |some (.bool t)=>match ds with
   |[]=> .need t log|d::ds=>if d then xQ It n k a fr H ds (t::log)else xQ It n k b fr H ds ((!t)::log)
  |_ => .fail 56
 | .block id c,fr,H,ds,log=>match xQ It n k c fr H ds log with
  | .ok (.exit id',fr',H') ds log=>if id'=id then .ok (.normal,fr',H') ds log else .ok (.exit id',fr',H') ds log
  |r=>r
 | .rangeFunc gv ps sg bd,fr,H,ds,log=>match pE E.gl fr gv with
  |some (.fn (.func gf) [] cap)=>match mapO (pF k ⟨0,.nl⟩) cap with
   |some cap'=>match It gf cap' with
    | some (xs,cs)=>if xs.all fun x=>Nat.beq x.length ps.size then match Kl P E F n ps.toList sg bd fr xs H ds (cs++log)with
      | .ok (x,H') ds log=> .ok (x,fr,H') ds log| .need c l=> .need c l| .fail q=> .fail q
     else .fail 52
    |none=> .fail 53
   |none=> .fail 54
  |_ => .fail 55
 |c,fr,H,ds,log=>qJ P E F n c fr H ds log
end
def itE(It:gT):FuncId->List T->Option (List (List T)):=fun f cap=>match It f cap with
 |some (xs,cs)=>if oQ cs then some xs else none
 |none=>none
section
variable{P:fA}{D:Ed}{F:Fc}{It:gT}{n k:Nat}
theorem Km{ps:gK}{sg bd:Code}{fr:eY}:∀{xs:gR} {H H':Hp} {x:X} {ds log ds' log':fL},Kl P D F n ps sg bd fr xs H ds log= .ok (x,H') ds' log'->oQ log'=true->LX P D.env F n ps sg bd fr xs H=some (x,H')/\oQ log=true
 |[],H,H',x,ds,log,ds',log',h,hl=>by
  unfold Kl at h;cases h;exact⟨rfl,hl⟩
 |y::r,H,H',x,ds,log,ds',log',h,hl=>by
  unfold Kl at h;unfold LX Sn;split at h
  .rename_i fr1 H1 ds1 log1 h1;split at h
   .rename_i f2 H2 ds2 log2 h2;obtain⟨a3,b3⟩:=Km h hl;obtain⟨a2,b2⟩:=F0S n h2 b3;obtain⟨a1,b1⟩:=F0S n h1 b2;exact⟨by simp only[a1,a2,a3],b1⟩
   .rename_i q f2 H2 ds2 log2 hq h2;cases h;obtain⟨a2,b2⟩:=F0S n h2 hl;obtain⟨a1,b1⟩:=F0S n h1 b2;refine⟨?_,b1⟩;simp only[a1,a2];cases x with
    |normal=>exact(hq rfl).elim|exit id=>rfl|ret=>rfl
   all_goals cases h
  all_goals cases h
theorem Zg:∀{c:Code} {fr fr':eY} {H H':Hp} {x:X} {ds log ds' log':fL},xQ P D F It n k c fr H ds log= .ok (x,fr',H') ds' log'->oQ log'=true->yB P D.env F (itE It) n k c fr H=some (x,fr',H')/\oQ log=true:=by
 intro c
 induction c with
 |seq a b iha ihb=>
  intro fr fr' H H' x ds log ds' log' h hl;simp only[xQ]at h;simp only[yB];split at h
  .rename_i f1 H1 ds1 log1 h1;obtain⟨a2,b2⟩:=ihb h hl;obtain⟨a1,b1⟩:=iha h1 b2;rw[a1];exact⟨a2,b1⟩
  .rename_i hr;obtain⟨a1,b1⟩:=iha h hl;rw[a1];cases x with
   |normal=>exact absurd h (hr _ _ _ _)|exit id=>exact⟨rfl,b1⟩|ret=>exact⟨rfl,b1⟩
 |cond o a b iha ihb=>
  intro fr fr' H H' x ds log ds' log' h hl;simp only[xQ]at h;simp only[yB];split at h
  .rename_i t ht;have ht':pE D.env.gl fr o=some (.bool t):=ht
   try rw[ht']
   try simp only
   split at h
   .cases h
   .split at h
    .obtain⟨a,b⟩:=iha h hl;simp only[oQ,aA]at b;rw[if_pos b.1];exact⟨a,b.2⟩
    .obtain⟨a,b⟩:=ihb h hl;simp only[oQ,aA,bM]at b;rw[if_neg (by simp[b.1])];exact⟨a,b.2⟩
  .cases h
 |block id c ih=>
  intro fr fr' H H' x ds log ds' log' h hl;simp only[xQ]at h;simp only[yB];split at h
  .rename_i id' f1 H1 ds1 log1 h1;split at h
   .rename_i e;cases h;obtain⟨a,b⟩:=ih h1 hl;rw[a];simp only;rw[if_pos e];exact⟨rfl,b⟩
   .rename_i e;cases h;obtain⟨a,b⟩:=ih h1 hl;rw[a];simp only;rw[if_neg e];exact⟨rfl,b⟩
  .rename_i hr;obtain⟨a,b⟩:=ih h hl;rw[a];cases x with
   |normal=>exact⟨rfl,b⟩|exit id'=>exact absurd h (hr _ _ _ _ _)|ret=>exact⟨rfl,b⟩
 |rangeFunc gv ps sg bd _ _ =>
  intro fr fr' H H' x ds log ds' log' h hl;simp only[xQ]at h;simp only[yB,Ed.env];split at h
  .rename_i gf cap hg
   try rw[hg]
   try simp only
   split at h
   .rename_i cap' hc
    try rw[hc]
    try simp only
    split at h
    .rename_i xs cs hi;split at h
     .rename_i hx;split at h
      .rename_i y H1 ds1 log1 hf;cases h;obtain⟨a,b⟩:=Km hf hl;rw[sH]at b;simp only[aA]at b;have hi':itE It gf cap'=some xs:=by
        unfold itE;rw[hi];simp only;rw[if_pos b.1]
       rw[hi'];simp only;rw[if_pos hx];have a':LX P ⟨D.gl,D.env.pe⟩ F n ps.toList sg bd fr xs H=some (x,H'):=a;exact⟨by simp only[Ed.env]at a';rw[a'],b.2⟩
      all_goals cases h
     .cases h
    .cases h
   .cases h
  .cases h
 |_ =>
  intro fr fr' H H' x ds log ds' log' h hl;simp only[xQ]at h;simp only[yB];exact F0S n h hl
def Xb(P:fA)(fn:Func)(k:Nat):RD (X×List T×Hp)->Option (T×List Bool)
 | .ok (.normal,fr,H) _ log=>match BW P fn fr H with
  |some q=>(pF k H q).map fun r=>(r,log)|none=>none
 | .ok (.ret,fr,H) _ log=>match BW P fn fr H with
  |some q=>(pF k H q).map fun r=>(r,log)|none=>none
 |_ =>none
theorem pure_ru(x:Cx P D F)(hz:uD D.gl)(hI:aRx P D.gl (itE It)){f:fT}{fn:Func}{c:Code}(h1:tY P f=true)(h2:Kk P f=true)(hfn:P.funcs[f]? =some fn)(hb:fn.body=some c){ts:eY}{L:Nat}(hL:fn.ntmps-ts.length=L)(hts:mapO (pF k ⟨0,.nl⟩) ts=some ts)
  {ds log:fL} {r:T} (h:Xb P fn k (xQ P D F It n k c (ts++List.replicate L oL) ⟨0,.nl⟩ ds [])=some (r,log)) (hl:oQ log=true):oK P D.gl f ts r:=by
 subst hL;obtain⟨q,H',he,hq⟩:∃q H',SR P D.env F (itE It) n k f ts ⟨0,.nl⟩=some (q,H')/\pF k H' q=some r:=by
  unfold SR;rw[hfn];simp only;rw[hb];simp only;unfold Xb at h;split at h
  all_goals first
   |(cases h;done)
   |skip
  all_goals
   rename_i fr1 H1 ds1 log1 hr;split at h
   .rename_i q hq;simp only[aF]at h;obtain⟨r',hr',e⟩:=h;cases e;refine⟨q,H1,?_,hr'⟩;rw[(Zg hr hl).1];simp only;unfold BW at hq;split at hq<;>simp_all
   .cases h
 refine⟨h1,fun g vs hg ⟨N,hN⟩ hgl hv=> ?_⟩;have hsN:St g ⟨N,.nl⟩:=St.nl _ _ hN;have hv':RdL g.bare vs ts:=by
  have:=MB (g0:=g.bare) hsN (PR hts) hv;rw[zT]at this;exact this
 have hgl':GlOk D.gl g.bare:=by
  have:=GlOk.frz (g0:=g.bare) hz hsN hgl;rw[zT]at this;exact this
 refine(aTq (E:=D.env) x.hm hz x.hE x.hF hI h2 he g.bare vs hg (St.nl _ _ (fun l _ q=>q)) hgl' hv').mono fun e w' ⟨v,g',e1,e2,e3,e4,e5,e6⟩=> ?_;refine⟨v,g'.frz H' g,e1,e2,?_,?_,JU e5 k q r v hq e6⟩
 .refine⟨e3.os,e3.tape,e3.output,e3.size,fun b hb=>e3.block b hb (fun l o ho=>(by rw[sV]at ho;cases ho)),fun b hb=> .inl (e3.sub b hb),fun b hb=> ?_,rfl,rfl,rfl⟩;rcases hb with hb|⟨l,o,ho,rfl⟩
  .rcases e3.fresh b hb with q|q|⟨l,o,ho,_⟩
   .exact .inl q
   .exact .inr q
   .rw[sV]at ho;cases ho
  .rcases e3.live l o (pJ ho).1 with⟨l0,o0,q,_⟩|q
   .rw[sV]at q;cases q
   .exact .inr q
 .intro b hb;rcases hb with hb|⟨l,o,ho,rfl⟩
  .exact e4 b hb
  .exact e5.lt (pJ ho).1
end
end
end Go.Ps
