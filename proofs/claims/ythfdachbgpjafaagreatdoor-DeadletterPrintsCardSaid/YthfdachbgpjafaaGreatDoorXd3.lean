/- Lemmas for the card; no conditions. -/
import Derived.Test.YthfdachbgpjafaaGreatDoorXd2
set_option linter.all false
namespace Go.Ps
noncomputable section
structure Kw where
 res:A
 oc:List (Nat×Nat×TA):=[]
structure AX where
 gl:Nat->Option A
 pe:FuncId->List A->Nat->List pR->Option AV
 inl:FuncId->Bool
 top:FuncId->Bool
 own:FuncId->Tmp->Bool
 jr:FuncId->Nat->Bool
 an:FuncId->An
 post:FuncId->Option Kw
 lk:Bool:=false
 fl:Bool:=false
structure AR where
 a:A
 hp:List (Nat×AO)
 nx:Nat
 nl:Nat
 cs:List pR
def GU:pR->pR->Bool
 | .le x y c,.le b a d=>Nat.beq x b&&(Nat.beq y a&&c==d)| .ne x y c,.ne b a d=>Nat.beq x b&&(Nat.beq y a&&c==d)| .ev x y c,.ev b a d=>Nat.beq x b&&(Nat.beq y a&&c==d)| .sm x y z c,.sm b a e d=>Nat.beq x b&&(Nat.beq y a&&(Nat.beq z e&&c==d))|_,_ =>false
def VN:List pR->List pR->Bool
 |[],[]=>true|a::c,b::d=>GU a b&&VN c d|_,_ =>false
def aAy:Bo->Bo->Bool
 | .lit a,.lit b=>a==b| .imp p n,.imp d c=>VN p d&&VN n c|_,_ =>false
def yW(f:A->A->Bool):List A->List A->Bool
 |[],[]=>true|a::c,b::d=>f a b&&yW f c d|_,_ =>false
def CM:Nat->A->A->Bool
 |0,_,_ =>false
 |n+1,a,b=>match a,b with
  | .top,.top| .any,.any| .fS,.fS| .fp,.fp| .gg,.gg| .gb,.gb| .fw,.fw| .i7,.i7=>true| .int k s c,.int C g d=>k==C&&(Nat.beq s g&&c==d)| .ft k s c,.ft C g d=>k==C&&(s==g&&c==d)| .bool x,.bool y=>aAy x y| .gh x,.gh y=>ND x y| .str s c,.str g d=>Nat.beq s g&&c==d| .fy s c,.fy g d=>s==g&&c==d| .yl l,.yl i=>Nat.beq l i| .ptr l o,.ptr i u=>Nat.beq l i&&Nat.beq o u| .iv l z s c o,.iv i v g d u=>Nat.beq l i&&(Nat.beq z v&&(Nat.beq s g&&(c==d&&Nat.beq o u)))| .ref x o,.ref y u=>CM n x y&&Nat.beq o u| .sl e s c,.sl j g d=>CM n e j&&(Nat.beq s g&&c==d)| .sx s c,.sx g d=>Nat.beq s g&&c==d| .ig s c,.ig g d=>s==g&&c==d| .gp e s c,.gp j g d=>CM n e j&&(s==g&&c==d)| .ge l z D J s c,.ge i v B w g d=>Nat.beq l i&&(Nat.beq z v&&(Nat.beq D B&&(J==w&&(Nat.beq s g&&c==d))))| .fn f a c,.fn I K d=>Nat.beq f I&&(yW (CM n) a K&&yW (CM n) c d)| .iface t x,.iface E y=>Nat.beq t E&&CM n x y| .or h,.or m| .agg h,.agg m| .fm h,.fm m| .ie h,.ie m=>yW (CM n) h m| .ia q h,.ia p m=>Nat.beq q p&&yW (CM n) h m| .mp l,.mp i=>Nat.beq l i| .g7 q e s c,.g7 p j g d=>Nat.beq q p&&(CM n e j&&(Nat.beq s g&&c==d))| .gr q e s c,.gr p j g d=>Nat.beq q p&&(CM n e j&&(s==g&&c==d))|_,_ =>false
def HD(f:A->Bool):List A->Bool
 |[]=>true|a::b=>f a&&HD f b
def mQ(f:A->Bool):List A->Bool
 |[]=>false|a::b=>f a||mQ f b
def vJ(n:Nat):List pR->Bool
 |[]=>true| .le x y _ ::r=>Nat.blt x n&&(Nat.blt y n&&vJ n r)| .ne x y _ ::r=>Nat.blt x n&&(Nat.blt y n&&vJ n r)| .ev x y _ ::r=>Nat.blt x n&&(Nat.blt y n&&vJ n r)| .sm x y z _ ::r=>Nat.blt x n&&(Nat.blt y n&&(Nat.blt z n&&vJ n r))
def uR(n l:Nat):Nat->A->Bool
 |0,_ =>false
 |k+1,a=>match a with
  | .int _ s _ | .str s _ | .sx s _ =>Nat.blt s n| .bool (.lit _)=>true| .bool (.imp p q)=>vJ n p&&vJ n q| .yl m=>Nat.blt m l| .ptr m _ =>Nat.blt m l| .mp m=>Nat.blt m l| .iv m _ s _ _ =>Nat.blt m l&&Nat.blt s n| .ref x _ =>uR n l k x| .sl e s _ | .g7 _ e s _ =>uR n l k e&&Nat.blt s n| .gp e _ _ | .gr _ e _ _ =>uR n l k e| .ge m _ c _ s _ =>Nat.blt m l&&(Nat.blt c n&&Nat.blt s n)| .fn _ b d=>HD (uR n l k) b&&HD (uR n l k) d| .iface _ x=>uR n l k x| .or b| .agg b| .fm b| .ie b| .ia _ b=>HD (uR n l k) b|_ =>true
def qZ:Nat:=30
def aVx:A->Option (Nat×List A)
 | .ia q a=>some (q,a)|_ =>none
def Qf:A->Option (Nat×A×Nat×Int)
 | .g7 q e s c=>some (q,e,s,c)|_ =>none
def GM(b:List pR)(n l:Nat):Nat->A->A->Bool
 |0,_,_ =>false
 |k+1,a,t=>match aVx a with
  |some (q,f)=>(match t with
   | .ia j o=>Nat.beq q j&&yW (GM b n l k) f o|t=>GM b n l k (.agg f) t)
  |none=>match Qf a with
  |some (q,e,s,c)=>(match t with
   | .gr j m d h=>Nat.beq q j&&((leq b s c 0 0||GM b n l k e m)&&(leq b 0 d s c&&leq b s c 0 h))| .g7 j m v u=>CM qZ a (.g7 j m v u)&&uR n l qZ (.g7 j m v u)|t=>GM b n l k (.sl e s c) t)
  |none=>match t with
  | .top=>true| .any=>a.one
  | .ft q d h=>match a with
   | .int j s c=>q==j&&(leq b 0 d s c&&leq b s c 0 h)| .ft j i g=>q==j&&(sQ d i&&sQ g h)| .or f=>HD (λx=>GM b n l k x t) f|_ =>false
  | .fy d h=>match a with
   | .gh s=>sQ d s.length&&sQ s.length h| .str s c=>(sQ d 0||leq b 0 d s c)&&leq b s c 0 h| .fy i g=>sQ d i&&sQ g h|_ =>false
  | .gp e d h=>match a with
   | .fp=>sQ d 0&&sQ 0 h| .ie p=>sQ d p.length&&(sQ p.length h&&HD (λx=>GM b n l k x e) p)| .sl m s c=>(leq b s c 0 0||GM b n l k m e)&&(leq b 0 d s c&&leq b s c 0 h)| .gp m i g=>(sQ g 0||GM b n l k m e)&&(sQ d i&&sQ g h)|_ =>false
  | .gr q e d h=>match a with
   | .fp=>(Nat.ble 30 q&&Nat.ble q 32)&&(sQ d 0&&sQ 0 h)|a=>CM qZ a (.gr q e d h)&&uR n l qZ (.gr q e d h)
  | .ig d h=>match a with
   | .sx s c=>leq b 0 d s c&&leq b s c 0 h| .ig i g=>sQ d i&&sQ g h|_ =>false
  | .bool (.imp [] [])=>match a with
   | .bool _ =>true|_ =>false
  | .or o=>match a with
   | .or f=>HD (λx=>mQ (λy=>GM b n l k x y) o) f|a=>mQ (λy=>GM b n l k a y) o
  | .agg o=>match a with
   | .agg f=>yW (GM b n l k) f o|_ =>false
  | .fm o=>match a with
   | .fm f=>yW (GM b n l k) f o|_ =>false
  |t=>CM qZ a t&&uR n l qZ t
def aQm(a:List pR)(s:Nat)(c:Int):Option Int:=
 if leq a s c 0 100 then some 100 else if leq a s c 0 1000000 then some 1000000 else if leq a s c 0 1000000000000000000 then some 1000000000000000000 else if leq a s c 0 pK then some pK else none
def aEb(b:List pR)(a:A):Option A:=
 match a with
 | .int k _ _ | .ft k _ _ =>some (.ft k k.min k.max)| .bool _ =>some (.bool tA)| .gh s=>if sQ s.length 1000000 then some (.fy 0 1000000)else none
 | .str s c=>match aQm b s c with
  |some h=>some (.fy 0 h)|none=>none
 | .fy _ h=>some (.fy 0 h)|_ =>none
def CO(a b:Int):Int:=if sQ a b then b else a
def nI(a:List pR):A->Option (Option A×Int)
 | .fp=>some (none,0)
 | .sl e s c=>match aQm a s c with
  |some h=>some (some e,h)|none=>none
 | .gp e _ h=>some (some e,h)|_ =>none
def jn(cs:List pR):Nat->A->A->Option A
 |0,_,_ =>none
 |k+1,a,b=>if CM qZ a b then some a else match a,b with
  | .agg a_s,.agg bs=>(lE (jn cs k) a_s bs).map .agg| .fm a_s,.fm bs=>(lE (jn cs k) a_s bs).map .fm
  |a,b=>match nI cs a,nI cs b with
   |some (some e,h),some (some e',h')=>match jn cs k e e' with
    |some x=>some (.gp x 0 (CO (CO h h') 0))|none=>none
   |some (some e,h),some (none,_)=>some (.gp e 0 (CO h 0))|some (none,_),some (some e,h)=>some (.gp e 0 (CO h 0))|_,_ =>match aEb cs a,aEb cs b with
   |some (.ft k1 lo hi),some (.ft k2 _ _)=>if k1==k2 then some (.ft k1 lo hi)else none
   |some (.bool x),some (.bool _)=>some (.bool x)|some (.fy _ h),some (.fy _ h')=>some (.fy 0 (CO h h'))
   |none,none=>match a with
    | .or a_s=>if b.flat&&NA a_s then some (.or (b::a_s))else none
    |a=>if a.flat&&b.flat then some (.or [a,b])else none
   |_,_ =>none
 where
 lE (f:A->A->Option A):List A->List A->Option (List A)
  |[],[]=>some []
  |a::a_s,b::bs=>match f a b with
   |some x=>match lE f a_s bs with
    |some xs=>some (x::xs)|none=>none
   |none=>none
  |_,_ =>none
def lX(c:List pR)(a b:A):Option A:=if GM c 0 0 qZ b a then some a else jn c qZ a b
def XI(c:List pR):A->List A->Option A
 |a,[]=>some a
 |a,b::r=>match lX c a b with
  |some x=>XI c x r|none=>none
def UK(s:Nat)(a:Bool)(len:Nat):List (Nat×A)->Bool
 |[]=>true|(i,v)::r=>v.known&&(Nat.beq v.cells.length s&&(v.isAgg==a&&(Nat.blt i len&&(uB v.cells&&UK s a len r))))
def CS:Nat->List (Nat×A)->Bool
 |_,[]=>true|j,(i,_)::r=>Nat.beq i j&&CS (j+1) r
def WD(P:gD)(c:List pR)(t:gB)(len:Nat)(parts:List (Nat×A)):Option (TypeId×Nat×A):=
 match P.underlying t with
 |some (.slice e)=>match uI P e,KM P e,EW P e with
  | some s,some b,some z=>if Nat.blt 0 s&&decide (len*s<=65536)&&Nat.beq z.cells.length s&&z.isAgg==b&&z.known&&uB z.cells&&UK s b len parts then
    match(match parts with
     |(_,v)::r=>if CS 0 parts&&Nat.beq parts.length len then XI c v (r.map Prod.snd)else XI c z (parts.map Prod.snd)
     |[]=>some z)with
    |some a=>if a.known&&(Nat.beq a.cells.length s&&(uB a.cells&&a.isAgg==b))then some (e,s,a)else none
    |none=>none
   else none
  |_,_,_ =>none
 |_ =>none
def aWv(P:gD)(X:AX)(d:List A)(n:Nat)(e:List pR)(c:Call):Option AV:=
 match c.callee with
 | .value f=>match LK X.gl d f with
  |some (.fn g first i)=>match EC X.gl d c.args.toList with
   |some h=>X.pe g (first++h++i) n e
   |none=>none
  |_ =>none
 | .invoke _ _ =>none
 | .builtin b=>match b with
  | .len=>match c.args.toList,c.argTypes.toList with
   |[x],t::_ =>match LK X.gl d x with
    |some a=>(bGh P e t a).map λy=>⟨y,n,e⟩|none=>none
   |_,_ =>none
  | .min=>match EC X.gl d c.args.toList with
   |some (x::r)=>Cv aZj n e x r|_ =>none
  | .max=>match EC X.gl d c.args.toList with
   |some (x::r)=>Cv aZi n e x r|_ =>none
  |_ =>none
def aJx(ev:Operand->Option A):Option Operand->Option (Option A)
 |none=>some none
 |some x=>match ev x with
  |some t=>some (some t)|none=>none
def Po(n:Nat)(c:List pR):Option A->Option AV
 |some a=>some ⟨a,n,c⟩|none=>none
def qT:Nat->A->Bool
 |0,_ =>false
 |n+1,a=>match a with
  | .ia .. =>Nat.ble 20 (n+1)| .ie c=>HD (qT n) c| .sx .. | .ig .. | .int .. | .ft .. | .bool _ | .gh _ | .str .. | .fy .. | .fS| .fp| .gg| .gb| .fw=>true| .gp e _ h=>sQ h 0||qT n e| .sl e _ _ =>qT n e| .g7 q e _ _ | .gr q e _ _ =>qT n e||(Nat.beq q 31||Nat.beq q 32)| .agg b| .fm b| .or b=>HD (qT n) b| .ref x _ =>qT n x| .fn _ b d=>HD (qT n) b&&HD (qT n) d| .iface _ x=>qT n x|_ =>false
def kw(f:A->Option A):List A->Option (List A)
 |[]=>some []
 |a::c=>match f a with
  |some b=>match kw f c with
   |some d=>some (b::d)|none=>none
  |none=>none
def CT:A->Bool
 | .int .i64 _ _ | .ft .i64 _ _ =>true|_ =>false
def aAj:A->Bool
 | .str .. | .gh _ | .fy .. =>true|_ =>false
def Sg:A->Bool
 | .bool _ =>true|_ =>false
def aMj:List A->Bool
 |[a,b,c,s,v,i,j,d]=>CT a&&(CT b&&(CT c&&(aAj s&&(aAj v&&(CT i&&(CT j&&Sg d))))))|_ =>false
def kk(i:gP):Nat->A->Option A
 |0,_ =>none
 |n+1,a=>if qT (n+1) a then some a else match a with
  | .ge l g o p s c=>match oV i l with
   | some (.row _ f e m k)=>if Nat.beq g f&&(Nat.beq o 0&&(p==0&&(Nat.beq s m&&c==k)))then match e with
     | .agg h=>if Nat.blt 1 g&&Nat.beq h.length g then match kw (kk i n) h with
       |some j=>some (.sl (.agg j) s c)|none=>none
      else none
     | e=>if Nat.beq g 1&&e.one then match kk i n e with
       |some b=>if b.one then some (.sl b s c)else none
       |none=>none
      else none
    else none
   |some (.ax _ f (.agg h) m k)=>if Nat.beq g f&&(Nat.beq o 0&&(p==0&&(Nat.beq s m&&(c==k&&(Nat.beq g 8&&(Nat.blt 0 n&&aMj h))))))then some (.g7 30 (.agg h) s c)else none
   |_ =>none
  | .agg d=>match kw (kk i n) d with
   |some j=>some (.agg j)|none=>none
  | .fm d=>match kw (kk i n) d with
   |some j=>some (.fm j)|none=>none
  |_ =>none
def LZ:A->Bool
 | .ge .. =>true|_ =>false
def GC:A->Bool
 | .int .. | .ft .. | .bool _ | .gh _ | .str .. | .fy .. | .fS| .fp| .gg| .gb| .fw=>true|_ =>false
def Vf:A->Bool
 | .agg b=>b.all GC|a=>GC a
def aLe:A->Bool
 | .fm b| .agg b=>b.all Vf|a=>GC a
def aWw(X:AX)(j:gP)(e:List A)(n:Nat)(i:List pR)(c:Call):Option AV:=
 match c.callee with
 | .value f=>match LK X.gl e f with
  |some (.fn g first d)=>match EC X.gl e c.args.toList with
   | some b=>if(first++b++d).any LZ then(match kw (kk j qZ) (first++b++d)with
     |some h=>if HD (qT qZ) h then(match X.pe g h n i with
      |some v=>if aLe v.a then some v else none
      |none=>none)else none
     |none=>none)else none
   |none=>none
  |_ =>none
 |_ =>none
def Vk(P:gD)(n:Nat)(b:List pR)(t:gB)(q:Nat)(e:A)(s:Nat)(c:Int)(k m:Option A):Option AV:=
 match P.underlying t,k,m with
 | some (.slice _),some (.int .i64 a d),none=>if Nat.beq q 30&&(leq b 0 0 a d&&leq b a (d+1) s c)then match Jx P n b t (.sl e s c) (some (.int .i64 a d)) none with
   |some ⟨.sl i j g,h,f⟩=>some ⟨.g7 30 i j g,h,f⟩|_ =>none
  else none
 |_,_,_ =>none
def Ib(P:gD)(h:gP)(n:Nat)(c:List pR)(t:gB)(x k:A)(ok:Bool):Option AV:=
 match x with
 | .mp l=>match oV h l with
  |some (.map e)=>match P.underlying t with
   |some (.map b d)=>match aQx k with
    | some q=>if yV P b q&&e.all (λq=>yV P b q.1)then match WQ q e with
      |some a=>some ⟨if ok then .fm [a,.bool (.lit true)]else a,n,c⟩
      |none=>match EW P d with
       |some z=>some ⟨if ok then .fm [z,.bool (.lit false)]else z,n,c⟩
       |none=>none
     else none
    |none=>match GY k,EW P d with
     | some _,some z=>if yV P b (.s [])&&e.all (λq=>yV P b q.1)then(match XI c z (e.map Prod.snd)with
       |some a=>some (uO (if ok then .fm [a,.bool tA]else a) n c)
       |none=>none)else none
     |_,_ =>none
   |_ =>none
  |_ =>none
 |_ =>none
def aLz(P:gD)(k:gP)(n:Nat)(b:List pR)(src d:gB)(a:A):Option AV:=
 match a with
 | .ge l i h g s c=>if Nat.beq i 1&&(Nat.beq h 0&&(g==0&&(leq b 0 1 s c)))then match P.underlying src,P.underlying d,oV k l with
   |some (.slice e),some .string,some (.row _ f (.ft .u8 _ _) m j)=>match P.underlying e with
    |some (.int .u8)=>if Nat.beq f 1&&leq b s c m j then some ⟨.str s c,n,b⟩else none
    |_ =>none
   |_,_,_ =>none
  else none
 |_ =>none
def aOb(P:gD)(X:AX)(own:Bool)(u:gP)(m:List A)(n:Nat)(j:List pR)(o:Oper):Option AV:=
 let ev:=LK X.gl m
 match o.op with
 | .move x| .assign x=>Po n j (ev x)
 | .pick c a b=>match ev c with
  |some (.bool (.lit E))=>Po n j (if E then ev a else ev b)
  |_ =>none
 | .box _ x=>if own then none else match ev x with
  |some y=>if y.known then some ⟨.ref y 0,n,j⟩else none
  |none=>none
 | .build t parts=>match MG X.gl m parts.toList with
  |some l=>Po n j (Sl P t l)|none=>none
 | .buildSlice t len parts=>if own then none else match MG X.gl m parts.toList with
  |some l=>match WD P j t len l with
   |some (_,_,C)=>some ⟨if X.fl then .g7 33 C 0 len else if X.lk&&(CS 0 l&&Nat.beq l.length len)then .ie (l.map Prod.snd)else .sl C 0 len,n,j⟩
   |none=>none
  |none=>none
 | .load t a=>match ev a with
  |some p=>Yw P u n j t p|none=>none
 | .nilCheck x=>match ev x with
  |some p=>Po n j (EG p)|none=>none
 | .binOp w t x y _ =>match ev x,ev y with
  |some a,some b=>if Ik x y a b then aXf P n j w t a b else none
  |_,_ =>none
 | .unOp w _ x=>match ev x with
  |some a=>oF n j w a|none=>none
 | .convert s d x=>match ev x with
  |some a=>match aGo P n j s d a with
   |some v=>some v|none=>aLz P u n j s d a
  |none=>none
 | .makeFunc f first k=>match f with
  | .func g=>match EC X.gl m first.toList,EC X.gl m k.toList with
   |some a,some c=>some ⟨.fn g a c,n,j⟩|_,_ =>none
  |_ =>none
 | .fieldAddr s x f=>match ev x with
  |some a=>Po n j (LP P s a f)|none=>none
 | .field t x f=>match ev x with
  |some (.agg z)=>match PT P t f with
   |some B=>Po n j (SV P B.type z B.offset)|none=>none
  |_ =>none
 | .indexAddr t x i=>match ev x,ev i with
  |some a,some b=>XE P n j t a b|_,_ =>none
 | .index t x i=>match ev x,ev i with
  |some a,some b=>Tw P n j t a b|_,_ =>none
 | .slice t x J D mx=>match mx with
  |some _ =>none
  |none=>match ev x with
   |some a=>match aJx ev J,aJx ev D with
    |some l,some h=>(match Qf a with
     |some (q,e,s,c)=>Vk P n j t q e s c l h|none=>Jx P n j t a l h)
    |_,_ =>none
   |none=>none
 | .extract x i=>match ev x with
  |some (.fm I)=>Po n j I[i]?|_ =>none
 | .call c=>match aWv P X m n j c with
  |some v=>some v|none=>aWw X u m n j c
 | .lookup t x i ok=>match ev x,ev i with
  |some a,some b=>Ib P u n j t a b ok|_,_ =>none
 |_ =>none
def Kc(P:gD)(S:AS)(t:gB)(p x:A):Option AR:=
 match uI P t with
 | some n=>if x.known&&(Nat.beq x.cells.length n&&uB x.cells)then match p with
   | .ptr l o=>match oV S.hp l with
    |some (.fix e j)=>if o+n<=j.length then some ⟨.fm [],zZ S.hp l (.fix e (PE j o x.cells)),S.nx,S.nl,S.cs⟩else none
    |_ =>none
   | .iv l d s c o=>match oV S.hp l with
    | some (.row e i a h g)=>if Nat.beq d i&&a.known&&Nat.beq a.cells.length d&&leq S.cs s (c+1) h g&&decide (o+n<=d)then
      match a with
      | .agg f=>match lX S.cs (.agg f) (.agg (PE f o x.cells))with
       |some b=>if uB b.cells&&b.known&&Nat.beq b.cells.length d&&b.isAgg then some ⟨.fm [],zZ S.hp l (.row e d b h g),S.nx,S.nl,S.cs⟩else none
       |none=>none
      | .ia .. =>none
      |a=>match x.cells with
       |[y]=>match lX S.cs a y with
        |some b=>if b.one then some ⟨.fm [],zZ S.hp l (.row e d b h g),S.nx,S.nl,S.cs⟩else none
        |none=>none
       |_ =>none
     else none
    |_ =>none
   |_ =>none
  else none
 |none=>none
def bAs(P:gD)(o:gP)(f:List pR)(k:gB)(a:Nat)(x:A):Option (A×Nat×Int):=
 match P.underlying k,x with
 |some (.slice _),.ge l j i h s c=>match oV o l with
  | some (.row _ g e p m)=>if Nat.beq j g&&Nat.beq j a&&leq f 0 0 i h&&leq f 0 0 s c then match aDx i h s c with
    |some (q,d)=>if leq f q d p m then some (e,s,c)else none
    |none=>none
   else none
  |_ =>none
 |some (.slice _),.sl e s c=>some (e,s,c)|some (.slice _),.g7 q _ s c=>if Nat.beq q 31&&Nat.beq a 5 then some (aPt,s,c)else none
 |some (.slice e),.fp=>match EW P e with
  |some z=>some (z,0,0)|none=>none
 |some .string,.gh b=>if Nat.beq a 1 then some (.ft .u8 0 255,0,b.length)else none
 |some .string,.str s c=>if Nat.beq a 1 then some (.ft .u8 0 255,s,c)else none
 |_,_ =>none
def bBd(a:List pR)(s:Nat)(c:Int):Option Int:=
 if leq a s c 0 0 then some 0 else if leq a s c 0 1 then some 1 else if leq a s c 0 6 then some 6 else if leq a s c 0 100 then some 100 else none
def oG(c:List pR)(s:Nat)(b:Int)(sm:Nat)(a:Int)(n:Nat)(r:List pR):List pR:=
 match bBd c sm a with
 |some u=> .le n s (b+u)::r|none=>r
def NC(P:gD)(S:AS)(t v:gB)(s x:A):Option AR:=
 match P.underlying t with
 |some (.slice e)=>match P.info? e with
  |some i=>match bAs P S.hp S.cs v i.size x with
   |some (g,sm,c)=>
    if(i.size==0)|| !((i.zero.map λz=>z.cells.size)==some i.size)|| !g.known|| !(Nat.beq g.cells.length i.size)|| !(uB g.cells)then none else
    match s with
    | .fp=>if leq S.cs 0 0 sm c&&leq S.cs sm c 0 (70368744177664/(i.bytes+1))then
      some ⟨.ge S.nl i.size 0 0 sm c,(S.nl,.row e i.size g sm c)::S.hp,S.nx,S.nl+1,S.cs⟩
     else none
    | .g7 q a h f=>if Nat.beq q 33&&Nat.beq h 0 then
      if leq S.cs sm c 0 0 then some ⟨s,S.hp,S.nx,S.nl,S.cs⟩
      else if leq S.cs 0 1 sm c&&(sQ 0 f&&(Nat.beq a.cells.length i.size&&(a.known&&(uB a.cells&&(a.isAgg==g.isAgg&&leq S.cs sm (c+f) 0 (70368744177664/(i.bytes+1)))))))then
       match(if GM S.cs 0 0 qZ a g then some g else lX S.cs a g)with
       |some b=>if b.known&&Nat.beq b.cells.length i.size&&uB b.cells then some ⟨.ge S.nl i.size 0 0 sm (c+f),(S.nl,.row e i.size b sm (c+f))::S.hp,S.nx,S.nl+1,S.cs⟩else none
       |none=>none
      else none
     else none
    | .ge l w k u h f=>match oV S.hp l with
     | some (.row m j a p o)=>if Nat.beq w i.size&&Nat.beq j i.size&&Nat.beq m e&&Nat.beq k 0&&(u==0)&&Nat.beq h p&&(f==o)&&a.isAgg==g.isAgg then
       match lX S.cs a g with
       | some b=>if b.known&&Nat.beq b.cells.length i.size&&uB b.cells&&leq S.cs 0 0 sm c&&leq S.cs 0 0 h f then
         match aDx h f sm c with
         | some (q,d)=>if leq S.cs q d 0 (70368744177664/(i.bytes+1))then
           some ⟨.ge S.nl i.size 0 0 q d,(S.nl,.row e i.size b q d)::vB S.hp l,S.nx,S.nl+1,S.cs⟩
          else none
         | none=>if leq S.cs h f 0 (35184372088832/(i.bytes+1))&&leq S.cs sm c 0 (35184372088832/(i.bytes+1))then
           some ⟨.ge S.nl i.size 0 0 S.nx 0,(S.nl,.row e i.size b S.nx 0)::vB S.hp l,S.nx+1,S.nl+1,oG S.cs h f sm c S.nx (.le h S.nx (-f):: .le sm S.nx (-c):: .le 0 S.nx 0:: .le S.nx 0 70368744177664::S.cs)⟩
          else none
        else none
       |none=>none
      else none
     |_ =>none
    |_ =>none
   |none=>none
  |none=>none
 |_ =>none
def MA(P:gD)(S:AS)(t:gB)(l c:A):Option AR:=
 match P.underlying t,l,c with
 |some (.slice e),.int .i64 s c,.int .i64 d b=>match uI P e,(P.info? e).map (·.bytes),EW P e with
  | some a,some bytes,some z=>if(!(Nat.beq e 5)||leq S.cs 0 1 s c)&&Nat.blt 0 a&&Nat.beq z.cells.length a&&z.known&&uB z.cells&&Nat.beq s d&&c==b&&leq S.cs 0 0 s c&&leq S.cs s c 0 (70368744177664/(bytes+1))then
    some ⟨.ge S.nl a 0 0 s c,(S.nl,.row e a z s c)::S.hp,S.nx,S.nl+1,S.cs⟩
   else none
  |_,_,_ =>none
 |_,_,_ =>none
def HK(P:gD)(S:AS)(t:gB)(len:Nat)(parts:List (Nat×A)):Option AR:=
 match WD P S.cs t len parts with
 |some (e,s,a)=>if !(Nat.beq e 5)||(Nat.blt 0 len&&Nat.blt 0 s)then some ⟨.ge S.nl s 0 0 0 len,(S.nl,.row e s a 0 len)::S.hp,S.nx,S.nl+1,S.cs⟩else none
 |none=>none
def aAi(m:Int)(a:List pR):A->Bool
 | .gh s=>sQ s.length m| .str s c=>leq a s c 0 m| .fy _ h=>sQ h m|_ =>false
def nJ(q:Nat):A->Bool
 | .fp=>true| .g7 a .. | .gr a .. =>Nat.beq a q|_ =>false
def Yi:A->Bool
 | .fp=>true|_ =>false
def aPu(c:List pR):A->Bool
 | .agg [a,b,s,v,x]=>CT a&&(CT b&&(aAi 1000000000000 c s&&(nJ 32 v&&nJ 31 x)))|_ =>false
def aTz(d:List pR):A->Bool
 | .agg [a,b,c,s,l,f]=>CT a&&(CT b&&(CT c&&(aAi 1000000 d s&&(Yi l&&Yi f))))|_ =>false
def nK(a:List pR)(e:A)(s:Nat)(c:Int)(z:A):A:=
 if leq a s c 0 1000000000000 then(if aPu a e then .g7 31 .top s c else if aTz a e then .g7 32 .top s c else z)else z
def aMi(b:List pR):A->A
 | .sl e s c=>nK b e s c (.sl e s c)| .g7 q e s c=>if Nat.ble 30 q&&Nat.ble q 32 then .g7 q e s c else nK b e s c (.sl e s c)
 | .ie d=> .ie d| .gp e f h=> .gp e f h|a=>if GC a then a else .top
def aHp(c:List pR):A->A
 | .agg b=> .agg (b.map (aMi c))|a=>aMi c a
def Vj(P:gD)(S:AS)(t:gB)(len:Nat)(parts:List (Nat×A)):Option AR:=
 match WD P S.cs t len parts with
 | some (_,_,e)=>if CS 0 parts&&Nat.beq parts.length len then
   (if sQ len 1000000000000&&HD (aPu S.cs) (parts.map Prod.snd)then some ⟨.g7 31 .top 0 len,S.hp,S.nx,S.nl,S.cs⟩
   else if sQ len 1000000000000&&HD (aTz S.cs) (parts.map Prod.snd)then some ⟨.g7 32 .top 0 len,S.hp,S.nx,S.nl,S.cs⟩else some ⟨.sl e 0 len,S.hp,S.nx,S.nl,S.cs⟩)
  else none
 |none=>none
def Hq(P:gD)(S:AS)(t:gB)(m k x:A):Option AR:=
 match m with
 | .mp l=>match aQx k with
  |some q=>match oV S.hp l with
   |some (.map e)=>match P.underlying t with
    | some (.map a _)=>if yV P a q&&e.all (λq=>yV P a q.1)then match WQ q e with
      |none=>some ⟨.fm [],zZ S.hp l (.map (e++[(q,x)])),S.nx,S.nl,S.cs⟩|some _ =>none
     else none
    |_ =>none
   |_ =>none
  |none=>none
 |_ =>none
def A.db:A->A
 | .ie [a]=> .sl a 0 1|a=>a
def aJi(x:A)(R:AR):AR:=
 match x,R.a with
 | .sl (.agg (.int .i64 0 0::_)) 0 1,.ge l _ _ _ _ _ =>(match oV R.hp l with
  |some (.row e b a s c)=>{R with hp:=zZ R.hp l (.ax e b a s c)}
  |_ =>R)
 |_,_ =>R
def VL(P:gD)(S:AS)(t b:gB)(s x:A):Option AR:=
 match P.underlying t,s,x with
 |some (.slice e),.fp,.sl (.agg a) 0 c=>match P.underlying b,P.info? e with
  | some (.slice _),some i=>if Nat.blt 1 i.size&&(Nat.beq a.length i.size&&(uB a&&((i.zero.map λz=>z.cells.size)==some i.size&&(sQ 1 c&&(decide (c*i.bytes<=70368744177664)&&sQ c 70368744177664)))))then
    some ⟨.sl (.agg a) 0 c,S.hp,S.nx,S.nl,S.cs⟩else none
  |_,_ =>none
 |_,_,_ =>none
def KP:A->Option (Nat×Int)
 | .int _ s c| .str s c| .sl _ s c| .sx s c| .ge _ _ _ _ s c=>some (s,c)| .g7 _ _ s c=>some (s,c)| .gh b=>some (0,b.length)| .fp=>some (0,0)|_ =>none
def bNz:A->Bool
 | .g7 q .. =>Nat.beq q 33|_ =>false
def Fp(P:gD)(S:AS)(t a:gB)(s x:A):List (Bool×List pR)->Option (List AR)
 |[]=>some []
 |q::r=>match NC P {S with cs:=q.2} t a s x with
  |some R=>match Fp P S t a s x r with
   |some l=>some (R::l)|none=>none
  |none=>none
def aFu(P:gD)(S:AS)(t a:gB)(s x:A):Option (List AR):=
 match KP x with
 |some (n,c)=>Fp P S t a s x (AZ S.cs (.imp [.le n 0 (-c)] [.le 0 n (c-1)]))|none=>none
def aFp(P:gD)(X:AX)(h:Bool)(d:FuncId->List A->AS->Option (List AR))(S:AS)(o:Oper):Option (List AR):=
 let ev:=LK X.gl S.fr
 match o.op with
 | .alloc t=>match EW P t with
  |some z=>if z.known then some [⟨.ptr S.nl 0,(S.nl,.fix t z.cells)::S.hp,S.nx,S.nl+1,S.cs⟩]else none
  |none=>none
 | .box t x=>match ev x with
  |some y=>if y.known then some [⟨.ptr S.nl 0,(S.nl,.fix t y.cells)::S.hp,S.nx,S.nl+1,S.cs⟩]else none
  |none=>none
 | .buildSlice t len parts=>match MG X.gl S.fr parts.toList with
  |some l=>(if h then Vj P S t len l else HK P S t len l).map ([·])
  |none=>none
 | .store t p x=>match ev p,ev x with
  |some q,some y=>(Kc P S t q y).map ([·])|_,_ =>none
 | .makeSlice t l c=>match ev l,ev c with
  |some n,some m=>(MA P S t n m).map ([·])|_,_ =>none
 | .makeMap _ r=>match r with
  |none=>some [⟨.mp S.nl,(S.nl,.map [])::S.hp,S.nx,S.nl+1,S.cs⟩]|some _ =>none
 | .mapUpdate t m k x| .insert t m k x=>match ev m,ev k,ev x with
  |some a,some b,some v=>(Hq P S t a b v).map ([·])|_,_,_ =>none
 | .call c=>match c.callee with
  | .value f=>match ev f with
   | some (.fn g first j)=>if X.inl g then match EC X.gl S.fr c.args.toList with
     |some i=>d g (first++i++j) S
     |none=>none
    else none
   |_ =>none
  | .builtin .append=>match c.args.toList,c.argTypes.toList with
   |[s,x],[t,e]=>match ev s,ev x with
    |some a,some b=>if bNz a then(if h then none else aFu P S t e a b.db)else(if h then VL P S t e a b.db else(NC P S t e a b.db).map (aJi b.db)).map ([·])
    |_,_ =>none
   |_,_ =>none
  |_ =>none
 |_ =>none
structure Af where
 S:AS
 fq:Option (Tmp×TypeId)
 av:List Oper
def Pc(f:Operand->Operand->Bool):Op->Op->Bool
 | .load t a,.load d e=>Nat.beq t d&&f a e| .fieldAddr s x i,.fieldAddr g b c=>Nat.beq s g&&(Nat.beq i c&&f x b)| .indexAddr t x i,.indexAddr d b c=>Nat.beq t d&&(f x b&&f i c)| .move x,.move y=>f x y|_,_ =>false
def UH:Operand->Operand->Bool
 | .tmp a,.tmp b=>Nat.beq a b|_,_ =>false
def Cl(o:Oper)(d:Tmp):Bool:=
 match o.dst with
 |some e=>Nat.beq e d|none=>false
def mR(c:hU):Nat->Operand->Operand->Bool
 |0,x,y=>UH x y
 |n+1,x,y=>UH x y||(match x,y with
  | .tmp a,.tmp b=>c.any λo=>Cl o a&&c.any λd=>Cl d b&&Pc (mR c n) o.op d.op|_,_ =>false)
def cse(b:hU)(o:Oper):Option Tmp:=
 match b.find? λa=>Pc (mR b 6) a.op o.op with
 |some a=>a.dst|none=>none
def Uw(o:Oper):List Tmp:=o.op.operands.toList.filterMap λx=>match x with| .tmp t=>some t|_ =>none
def Yh(o:Oper):Bool:=
 match o.op with
 | .load .. | .fieldAddr .. | .indexAddr .. | .move _ =>true|_ =>false
def aIh(d:Tmp):List Tmp->Bool
 |[]=>false|x::a=>Nat.beq x d||aIh d a
def QY(d:Tmp):List Oper->List Oper
 |[]=>[]|o::r=>if Cl o d||aIh d (Uw o)then QY d r else o::QY d r
def Jc(f:List A)(o:Oper)(a:hU):List Oper:=
 match o.dst with
 |some d=>if Yh o&&(Nat.blt d f.length&& !(aIh d (Uw o)))then o::QY d a else QY d a
 |none=>a
def MJ(f:List A)(a:jC)(v:A):List A:=
 match a with
 |some d=>hT v f d|none=>f
def AS.dy(S:AS)(d:jC)(r:AR):AS:={fr:=MJ S.fr d r.a,hp:=r.hp,nx:=r.nx,nl:=r.nl,cs:=r.cs}
def II(X:AX)(own:Bool)(a:List A)(o:Oper):Bool:=
 match o.op with
 | .alloc _ | .store .. | .makeSlice .. | .makeMap .. | .mapUpdate .. | .insert .. =>true| .box .. | .buildSlice .. =>own
 | .call c=>match c.callee with
  | .builtin .append=>true
  | .value f=>match LK X.gl a f with
   |some (.fn g _ _)=>X.inl g|_ =>false
  |_ =>false
 |_ =>false
def VP(own:Bool)(o:Oper):Bool:=
 match o.op with
 | .buildSlice .. =>own|_ =>true
def ZF(S:AS)(i:Tmp)(k:iC)(s:Nat)(c:Int):Nat->List AS
 |0=>[]
 |v+1=>if leq S.cs s c 0 ((v:Int)-1)||leq S.cs 0 ((v:Int)+1) s c then ZF S i k s c v
  else{S with fr:=hT (.int k 0 v) S.fr i,cs:= .le s 0 ((v:Int)-c):: .le 0 s (c-(v:Int))::S.cs}::ZF S i k s c v
def GD(X:AX)(S:AS)(o:Oper):Option (List AS):=
 match o.op with
 | .pick (.tmp c) _ _ =>match zI S.fr c with
  | .bool (.imp p n)=>some ((AZ S.cs (.imp p n)).map λq=>{S with fr:=hT (.bool (.lit q.1)) S.fr c,cs:=q.2})
  |_ =>none
 | .call c=>match c.callee with
  | .value (.tmp f)=>match zI S.fr f with
   | .or b=>some (b.map λa=>{S with fr:=hT a S.fr f})
   |_ =>none
  |_ =>none
 | .indexAddr _ (.tmp a) (.tmp i)=>match zI S.fr a with
  | .ptr .. =>match zI S.fr i with
   | .int k s c=>if Nat.beq s 0 then none else if leq S.cs 0 0 s c&&leq S.cs s c 0 15 then some (ZF S i k s c 16)else none
   |_ =>none
  |_ =>none
 | .extract (.tmp x) _ =>match zI S.fr x with
  | .fm [a,.bool (.imp p n)]=>some ((AZ S.cs (.imp p n)).map λq=>{S with fr:=hT (.fm [a,.bool (.lit q.1)]) S.fr x,cs:=q.2})
  |_ =>none
 | .indexAddr _ (.tmp a) (.const _)=>match zI S.fr a with
  | .g7 q (.agg (k::e)) s c=>if Nat.beq q 30 then some ((AZ S.cs (.imp [.le s 0 (1-c)] [.le 0 s (c-2)])).map λq=>if q.1 then{S with fr:=hT (.sl (.agg (.int .i64 0 0::e)) s c) S.fr a,cs:=q.2}else{S with cs:=q.2})else none
  |_ =>none
 |_ =>none
def AP{Z K:Type}(f:Z->Option (List K)):List Z->Option (List K)
 |[]=>some []
 |a::b=>match f a with
  |some l=>match AP f b with
   |some r=>some (l++r)|none=>none
  |none=>none
def Hg(S:AS)(d:Tmp)(w:Bool):A->Option (List (Bool×AS))
 | .bool b=>some ((AZ S.cs b).map λq=>(q.1==w,{S with cs:=q.2,fr:=hT (.bool (.lit q.1)) S.fr d}))
 | .fm []=>some [(false,{S with fr:=hT (.fm []) S.fr d})]
 |_ =>none
def LV(c:gF)(S:AS)(o:Oper):Option (List (Bool×AS)):=
 match o.guard with
 |none=>some [(true,S)]
 |some (j,w)=>match(c[j]?).bind (·.dst)with
  |some d=>match zI S.fr d with
   | .or b=>AP (Hg S d w) b|a=>Hg S d w a
  |none=>none
section
variable(P:gD)(X:AX)(call:FuncId->List A->AS->Option (List AR))(F:hJ)
def AG(o:Oper):Bool:=
 match o.dst with
 |some d=>F d|none=>false
def GP(o:Oper):Option (Tmp×TypeId):=
 match o.op with
 | .alloc t=>match o.dst with
  |some d=>if F d then none else some (d,t)
  |none=>none
 |_ =>none
def DU(s:Af)(o:Oper):Option (List Af):=
 match GP F o with
 |some (d,t)=>if s.fq.isSome then none else match uI P t,EW P t with
  |some n,some z=>if Nat.beq z.cells.length n&&z.known&&Nat.blt d s.S.fr.length then some [{S:={s.S with fr:=hT (.fm []) s.S.fr d},fq:=some (d,t),av:=[]}]else none
  |_,_ =>none
 | none=>if II X (AG F o) s.S.fr o then
   if VP (AG F o) o then match aFp P X (GB F o.dst) call s.S o with
    |some l=>some (l.map λr=>{S:=s.S.dy o.dst r,fq:=s.fq,av:=[]})|none=>none
   else none
  else match cse s.av o with
   |some d1=>some [{S:={s.S with fr:=MJ s.S.fr o.dst (zI s.S.fr d1)},fq:=s.fq,av:=Jc s.S.fr o s.av}]
   |none=>match aOb P X (AG F o) s.S.hp s.S.fr s.S.nx s.S.cs o with
    |some v=>some [{S:={s.S with fr:=MJ s.S.fr o.dst v.a,nx:=v.nx,cs:=v.cs},fq:=s.fq,av:=Jc s.S.fr o s.av}]
    |none=>none
def YK(a:gF)(s:Af)(o:Oper):Option (List Af):=
 match LV a s.S o with
 |some l=>AP (λq=>if q.1 then(match GD X q.2 o with
    |some b=>AP (λc=>DU P X call F {s with S:=c} o) b
    |none=>DU P X call F {s with S:=q.2} o)
   else some [{S:={q.2 with fr:=MJ q.2.fr o.dst (.fm [])},fq:=s.fq,av:=[]}]) l
 |none=>none
def Un(s:Af)(d:Tmp)(t:gB)(y:A):Af:=
 if F (d+1000)then{S:={s.S with fr:=hT (.ptr s.S.nl 0) s.S.fr d,hp:=(s.S.nl,.fix t y.cells)::s.S.hp,nl:=s.S.nl+1},fq:=none,av:=[]}
 else{S:={s.S with fr:=hT (.ref y 0) s.S.fr d},fq:=none,av:=[]}
def aAg(a:gF)(s:Af)(o:Oper):Option (List Af):=
 match s.fq with
 |none=>YK P X call F a s o
 |some (d,t)=>
  match o.op,o.dst,o.guard with
  | .store c (.tmp b) x,none,none=>
   if Nat.beq b d then
    if c=t/\zE x d=true then
     match LK X.gl s.S.fr x,uI P t with
     |some y,some n=>if y.known&&(Nat.beq y.cells.length n&&uB y.cells)then some [Un F s d t y]else none
     |_,_ =>none
    else none
   else if rQ a o d then none else YK P X call F a s o
  |_,_,_ =>if rQ a o d then none else YK P X call F a s o
def Aj(b:gF):List Oper->Af->Option (List Af)
 |[],s=>some [s]
 |o::a,s=>match aAg P X call F b s o with
  |some l=>AP (Aj b a) l|none=>none
def Pj(a:gF)(s:Af)(o:Oper):Bool:=
 match s.fq with
 |some (d,_)=>rQ a o d|none=>false
def PP(s:Af)(o:Oper):Bool:=
 match o.dst with
 |some d=>Nat.blt d s.S.fr.length|none=>true
def NQ(a:gF):List Oper->Nat->Af->Option (List Af)
 |[],_,s=>match s.fq with
  |none=>some [s]|some _ =>none
 |o::b,m,s=>
  if Pj a s o then
   if rG (tU a.toList []) m a.size then Aj P X call F a (o::b) s else none
  else if PP s o=false then none
  else match LV a s.S o with
   |some l=>AP (λq=>if q.1 then(match GP F o with
      |some _ =>match DU P X call F {s with S:=q.2} o with
       |some c=>AP (NQ a b (m+1)) c|none=>none
      |none=>match GD X q.2 o with
       |some c=>AP (λd=>if II X (AG F o) d.fr o then
          (if VP (AG F o) o&&rG (tU a.toList []) m a.size then Aj P X call F a (o::b) {s with S:=d}else none)
         else match DU P X call F {s with S:=d} o with
          |some c=>AP (NQ a b (m+1)) c|none=>none) c
       |none=>if II X (AG F o) q.2.fr o then
          (if VP (AG F o) o&&rG (tU a.toList []) m a.size then Aj P X call F a (o::b) {s with S:=q.2}else none)
         else match DU P X call F {s with S:=q.2} o with
          |some c=>AP (NQ a b (m+1)) c|none=>none)
     else NQ a b (m+1) {S:={q.2 with fr:=MJ q.2.fr o.dst (.fm [])},fq:=s.fq,av:=[]}) l
   |none=>none
def aQh(l:Nat)(S:AS)(o:Oper):Bool:=
 match o.op with
 | .load _ a=>match LK X.gl S.fr a with
  |some (.ref ..)=>true|some (.ptr b _)=> !(Nat.beq b l)&&((oV S.hp l).isSome&&(oV S.hp b).isSome)|some (.iv b _ _ _ _)=> !(Nat.beq b l)&&((oV S.hp l).isSome&&(oV S.hp b).isSome)|_ =>false
 | .convert _ _ x=>match LK X.gl S.fr x with
  |some (.int ..)|some (.str ..)|some (.gh _)=>true|_ =>false
 | .call c=>match c.callee with
  | .builtin .len=>c.args.toList.all λx=>match LK X.gl S.fr x with
   |some (.str ..)|some (.gh _)|some (.sl ..)|some (.ge ..)|some .fp|some (.sx ..)|some .fw=>true|_ =>false
  | .builtin _ =>true|_ =>false
 | .lookup .. =>false|_ =>true
def LH(b:gF)(A:gU)(p l:Nat):List Oper->Nat->Bool->Af->Option (List Af)
 |[],_,c,s=>if c then some [s]else none
 |o::a,m,c,s=>
  if(c&&rG A m b.size)=true then Aj P X call F b (o::a) s
  else if PP s o=false then none
  else if OD o then(if c then none else match o.op with
   | .store t x y=>match LK X.gl s.S.fr x,LK X.gl s.S.fr y with
    | some (.ptr e d),some v=>if Nat.beq e l then match Kc P s.S t (.ptr e d) v with
      |some R=>LH b A p l a (m+1) true {S:={s.S with hp:=R.hp,nx:=R.nx,nl:=R.nl,cs:=R.cs},fq:=none,av:=[]}
      |none=>none
     else none
    |_,_ =>none
   |_ =>none)
  else match LV b s.S o with
   |some g=>AP (λq=>if q.1 then
      (if((if c then uU A m p else uU A p m)||aQh X l q.2 o)&&((GP F o).isNone&& !(II X (AG F o) q.2.fr o))then match DU P X call F {s with S:=q.2} o with
       |some f=>AP (LH b A p l a (m+1) c) f|none=>none
      else none)
     else LH b A p l a (m+1) c {S:={q.2 with fr:=MJ q.2.fr o.dst (.fm [])},fq:=s.fq,av:=[]}) g
   |none=>none
def Ye(S:AS)(o:Oper):Bool:=
 match o.op with
 | .load _ a=>match LK X.gl S.fr a with
  |some (.ref ..)=>true|_ =>false
 | .convert _ _ x=>match LK X.gl S.fr x with
  |some (.int ..)|some (.str ..)|some (.gh _)=>true|_ =>false
 | .call c=>match c.callee with
  | .builtin .len=>c.args.toList.all λx=>match LK X.gl S.fr x with
   |some (.str ..)|some (.gh _)|some (.sl ..)|some (.ge ..)|some .fp|some (.sx ..)|some .fw|some (.ie _)|some (.g7 ..)=>true|_ =>false
  | .builtin _ =>true|_ =>false
 | .lookup .. =>false|_ =>true
def NL(m:Nat):Option Bool->List (Nat×Bool)->List (Nat×Bool)
 |some b,l=>(m,b)::l|none,l=>l
abbrev jK:=Option (List (AS×List (Nat×Bool)×List (Nat×Bool)))
def Wx(m:Nat)(e d:Option Bool)(l:jK):Option (List (AS×List (Nat×Bool)×List (Nat×Bool))):=
 match l with
 |some l=>some (l.map λq=>(q.1,NL m e q.2.1,NL m d q.2.2))|none=>none
def mS(b:gW)(S:AS)(o:Oper):Bool:=
 match b,o.op with
 |some l,.load _ a=>(match LK X.gl S.fr a with
  |some (.ptr c _)=>Nat.beq c l|_ =>false)
 |_,_ =>false
def aWx(a:gW)(S:AS)(o:Oper):Option (List AR):=
 match(if BJ o then a else none)with
 |none=>aFp P X (GB F o.dst) call S o
 |some l=>match oV S.hp l with
  |some (.fix e x)=>match aFp P X (GB F o.dst) call {S with hp:=vB S.hp l} o with
   |some b=>some (b.map λR=>{R with hp:=(l,.fix e x)::R.hp})
   |none=>none
  |_ =>none
def oH(p:Option (Nat×Nat×Tmp×TypeId))(a:gF)(m:Nat)(S:AS)(o:Oper):Option (Option AS):=
 match p with
 |none=>some none
 |some (i,i1,d,t)=>if Nat.beq m i then(if aIl d t o then match uI P t,EW P t with
    |some n,some z=>if Nat.beq z.cells.length n&&(z.known&&Nat.blt d S.fr.length)then some (some {S with fr:=hT (.fm []) S.fr d})else none
    |_,_ =>none
   else none)
  else if Nat.beq m i1 then match aQs d t o with
   |some x=>match LK X.gl S.fr x,uI P t with
    |some y,some n=>if y.known&&(Nat.beq y.cells.length n&&uB y.cells)then some (some {S with fr:=hT (.ref y 0) S.fr d})else none
    |_,_ =>none
   |none=>none
  else if rQ a o d then none else some none
def SH(e:gW)(p:Option (Nat×Nat×Tmp×TypeId))(c:gF):List Oper->Nat->AS->Option (List (AS×List (Nat×Bool)×List (Nat×Bool)))
 |[],_,S=>some [(S,[],[])]
 |o::b,m,S=>
  if PP ⟨S,none,[]⟩ o=false then none
  else match oH P X p c m S o with
  |none=>none|some (some f)=>SH e p c b (m+1) f
  |some none=>match LV c S o with
   |some g=>AP (λq=>if q.1 then AP (λd=>
      if II X (AG F o) d.fr o then
       (if VP (AG F o) o then match aWx P X call F e d o with
        |some h=>AP (λR=>Wx m (some (BJ o&&e.isSome)) none (SH e p c b (m+1) (d.dy o.dst R))) h|none=>none
       else none)
      else match aOb P X (AG F o) d.hp d.fr d.nx d.cs o with
       |some v=>Wx m none (if Ye X d o then none else some (mS X e d o)) (SH e p c b (m+1) {d with fr:=MJ d.fr o.dst v.a,nx:=v.nx,cs:=v.cs})
       |none=>none) (match GD X q.2 o with
        |some s=>s|none=>[q.2])
     else SH e p c b (m+1) {q.2 with fr:=MJ q.2.fr o.dst (.fm [])}) g
   |none=>none
def Gs(a:gW)(o:gF)(S:AS):Option (List Af):=
 match SH P X call F a (aKg F o) o o.toList 0 S with
 |some l=>if aZv (aKg F o) o&&l.all λq=>Dm (tU o.toList []) q.2.1 q.2.2 then some (l.map λq=>⟨q.1,none,[]⟩)else none
 |none=>none
def rx(o:gF)(S:AS):Option Nat:=
 match KG o with
 |some b=>match zI S.fr b with
  | .ptr l _ =>some l|_ =>none
 |none=>none
def Ss(a f:Bool)(o:gF)(S:AS):Option (List Af):=
 if !f then match rx o S with
  |some l=>Gs P X call F (some l) o S|none=>none
 else if rv o|| !a then Gs P X call F none o S else
 if aZc o then match KG o,uM o.toList 0 with
  |some b,some p=>match zI S.fr b with
   | .ptr l _ =>LH P X call F o (tU o.toList []) p l o.toList 0 false ⟨S,none,[]⟩|_ =>none
  |_,_ =>none
 else NQ P X call F o o.toList 0 ⟨S,none,[]⟩
end
def Dh:Nat->List (Nat×AO)->List A->Nat->Option Nat
 |0,_,_,_ =>none
 | k+1,h,f,d=>if Nat.blt d 900 then match zI f d with
   | .ptr l _ =>some l|_ =>none
  else if Nat.blt d 1000 then match zI f (d-900)with
   | .ptr l _ =>match oV h l with
    |some (.fix _ (.ptr b _ ::_))=>some b|_ =>none
   |_ =>none
  else match zI f (Nat.mod d 1000)with
   | .yl l=>match oV h l with
    |some (.loop _ _ a ..)=>Dh k h a (Nat.div d 1000-1)|_ =>none
   |_ =>none
def HB(S:AS)(c:Nat)(g:Int)(b:Nat):ZT->Option (Nat×Int)
 | .slot d=>KP (zI S.fr d)
 | .cell d j=>match Dh 5 S.hp S.fr d with
  |some l=>match oV S.hp l with
   |some (.fix _ x)=>match x[j]? with
    |some a=>KP a|none=>none
   |_ =>none
  |none=>none
 | .ghost=>some (c,g)| .zero=>some (0,0)| .sym s=>if Nat.blt s b then some (s,0)else none
def Xg:List Oper->List Tmp
 |[]=>[]
 |o::a=>match o.dst with
  |some d=>d::Xg a|none=>Xg a
def sA(d:Nat):List Nat->Bool
 |[]=>false|x::a=>Nat.beq x d||sA d a
def aTu(n l:Nat)(w:iR):Nat->List A->List A
 |_,[]=>[]|j,a::b=>(if sA j w|| !uR n l qZ a then .top else a)::aTu n l w (j+1) b
abbrev gY:=List (Nat×Nat×TA)
def DM(o:gY)(l:Nat):Nat->List A->List A
 |_,[]=>[]|j,a::b=>(if o.any λq=>Nat.beq q.1 l&&Nat.beq q.2.1 j then .any else a)::DM o l (j+1) b
def KS(a:gY):List (Nat×AO)->List (Nat×AO)
 |[]=>[]|(l,.fix e x)::r=>(l,.fix e (DM a l 0 x))::KS a r|(l,o)::r=>(l,o)::KS a r
def BV(f:List A):List (Tmp×TA)->List (Nat×AO)->List (Nat×AO)
 |[],h=>h
 |(d,.row ..)::r,h=>match zI f d with
  | .ge l .. =>BV f r (vB h l)|_ =>BV f r h
 |_ ::r,h=>BV f r h
def bDt(h:gP)(l j:Nat):A:=
 match oV h l with
 |some (.fix _ x)=>match x[j]? with
  |some a=>a|none=> .top
 |_ => .top
def zR(h:gP):List (Nat×Nat×TA)->List (Nat×AO)->List (Nat×AO)
 |[],a=>a
 |(l,j,.row ..)::r,a=>match bDt h l j with
  | .ge m .. =>zR h r (vB a m)|_ =>zR h r a
 |_ ::r,a=>zR h r a
def yP:List (Nat×AO)->List (Nat×AO)->List (Nat×AO)
 |[],h=>h|(l,.map _)::r,h=>yP r (vB h l)|_ ::r,h=>yP r h
abbrev jA:=List (Tmp×TA)
def HH(S:AS)(s:jA)(o:gY):List (Nat×AO):=zR S.hp o (BV S.fr s (yP S.hp S.hp))
def Ww(S:AS)(w:iR)(s:jA)(o:gY)(m:Int):AS:=
 {fr:=aTu S.nx S.nl w 0 S.fr,hp:=KS o (HH S s o),nx:=S.nx+1,nl:=S.nl,cs:= .le 0 S.nx 0:: .le S.nx 0 m::S.cs}
def VG:List (Tmp×TA)->AS->AS
 |[],S=>S
 |(d,.a a)::r,S=>match uO a S.nx S.cs with
  |⟨b,n,cs⟩=>VG r {S with fr:=hT b S.fr d,nx:=n,cs:=cs}
 |(d,.row e s a c h)::r,S=>VG r {fr:=hT (.ge S.nl s 0 0 S.nx 0) S.fr d,hp:=(S.nl,.row e s a S.nx 0)::S.hp,nx:=S.nx+1,nl:=S.nl+1,cs:= .le 0 S.nx (-c):: .le S.nx 0 h::S.cs}
def setCell(l j:Nat)(a:A):List (Nat×AO)->List (Nat×AO)
 |[]=>[]|(m,.fix e x)::r=>if Nat.beq m l then(m,.fix e (x.set j a))::setCell l j a r else(m,.fix e x)::setCell l j a r
 |q::r=>q::setCell l j a r
def Kz:List (Nat×Nat×TA)->AS->AS
 |[],S=>S
 |(l,j,.a a)::r,S=>match uO a S.nx S.cs with
  |⟨b,n,cs⟩=>Kz r {S with hp:=setCell l j b S.hp,nx:=n,cs:=cs}
 |(l,j,.row e s a c h)::r,S=>Kz r {S with hp:=setCell l j (.ge S.nl s 0 0 S.nx 0) ((S.nl,.row e s a S.nx 0)::S.hp),nx:=S.nx+1,nl:=S.nl+1,cs:= .le 0 S.nx (-c):: .le S.nx 0 h::S.cs}
def MZ(g:Nat):List (ZT×ZT×Int)->AS->Option (List pR)
 |[],S=>some S.cs
 |(p,q,c)::r,S=>match HB S g 0 g p,HB S g 0 g q with
  |some (x,a),some (y,b)=>match MZ g r S with
   |some d=>some (.le x y (c+b-a)::d)|none=>none
  |_,_ =>none
abbrev jR:=List (ZT×ZT×Int)
def Hr(S:AS)(w:iR)(s:jA)(o:gY)(cons:jR)(m:Int):Option AS:=
 let a:=Kz o (VG s (Ww S w s o m))
 match MZ S.nx cons a with
 |some cs=>some {a with cs:=cs}
 |none=>none
def YZ(n l:Nat)(w:iR):Nat->List A->List A->Bool
 |_,[],[]=>true|j,a::c,b::d=>((sA j w|| !uR n l qZ a)||CM qZ a b)&&YZ n l w (j+1) c d|_,_,_ =>false
def YY(n l:Nat)(o:gY)(m:Nat):Nat->List A->List A->Bool
 |_,[],[]=>true|j,a::c,b::d=>(if o.any λq=>Nat.beq q.1 m&&Nat.beq q.2.1 j then b.one else CM qZ a b&&uR n l qZ a)&&YY n l o m (j+1) c d
 |_,_,_ =>false
def Jn:LoopState->LoopState->Bool
 | .ready,.ready| .busy,.busy| .done,.done| .exhausted,.exhausted=>true|_,_ =>false
def Ve:Option (Option Nat)->Option (Option Nat)->Bool
 |none,none|some none,some none=>true|some (some a),some (some b)=>Nat.beq a b|_,_ =>false
def LB(n l:Nat)(o:gY)(h:gP):List (Nat×AO)->Bool
 |[]=>true
 |(m,.fix e x)::r=>Nat.blt m l&&((match oV h m with
  |some (.fix d y)=>Nat.beq e d&&YY n l o m 0 x y|_ =>false)&&LB n l o h r)
 |(m,.row e q a s c)::r=>Nat.blt m l&&((match oV h m with
  |some (.row d g b k i)=>Nat.beq e d&&(Nat.beq q g&&(CM qZ a b&&(uR n l qZ a&&(Nat.beq s k&&(c==i&&Nat.blt s n)))))|_ =>false)&&LB n l o h r)
 |(_,.map _)::_ |(_,.ax ..)::_ =>false
 |(m,.loop st j ..)::r=>Nat.blt m l&&((match oV h m with
  |some (.loop f p ..)=>Jn st f&&Ve j p|_ =>false)&&LB n l o h r)
def PV(h:gP)(m:Nat):Bool:=(oV h m).isSome
def Pa(n l:Nat)(b:gP)(S:AS):List (Tmp×TA)->List Nat->Bool
 |[],_ =>true|(d,.a t)::r,u=>GM S.cs n l qZ (zI S.fr d) t&&Pa n l b S r u
 |(d,.row e i t j h)::r,u=>match zI S.fr d with
  | .fp=>sQ j 0&&(sQ 0 h&&Pa n l b S r u)
  | .ge m g k v s c=>match oV S.hp m with
   | some (.row o f a q p)=>Nat.beq i g&&(Nat.beq f i&&(Nat.beq e o&&(Nat.beq k 0&&(v==0&&(Nat.beq s q&&(c==p&&(GM S.cs n l qZ a t&&(leq S.cs 0 j s c&&(leq S.cs s c 0 h&&
     (!(sA m u)&&(!(PV b m)&&Pa n l b S r (m::u))))))))))))
   |_ =>false
  |_ =>false
def BB(S:AS):List (Tmp×TA)->List Nat->List Nat
 |[],u=>u|(_,.a _)::r,u=>BB S r u
 |(d,.row ..)::r,u=>match zI S.fr d with
  | .ge m .. =>BB S r (m::u)|_ =>BB S r u
def Oz(n l:Nat)(b:gP)(S:AS):List (Nat×Nat×TA)->List Nat->Bool
 |[],_ =>true
 |(m,j,.a t)::r,u=>(match oV S.hp m with
  |some (.fix _ x)=>match x[j]? with
   |some a=>GM S.cs n l qZ a t|none=>false
  |_ =>false)&&Oz n l b S r u
 |(m,j,.row e g t i h)::r,u=>match oV S.hp m with
  |some (.fix _ x)=>match x[j]? with
   |some .fp=>sQ i 0&&(sQ 0 h&&Oz n l b S r u)
   |some (.ge q f k w s c)=>match oV S.hp q with
    | some (.row o d a v p)=>Nat.beq g f&&(Nat.beq d g&&(Nat.beq e o&&(Nat.beq k 0&&(w==0&&(Nat.beq s v&&(c==p&&(GM S.cs n l qZ a t&&(leq S.cs 0 i s c&&(leq S.cs s c 0 h&&
      (!(sA q u)&&(!(PV b q)&&Oz n l b S r (q::u))))))))))))
    |_ =>false
   |_ =>false
  |_ =>false
def Iu(d:Nat)(g:Int)(s:Nat)(S:AS):List (ZT×ZT×Int)->Bool
 |[]=>true
 |(p,q,c)::r=>(match HB S d g s p,HB S d g s q with
  |some (x,a),some (y,b)=>Ks S.cs 5 x y (b+c-a)|_,_ =>false)&&Iu d g s S r
def FE:List (Nat×Nat×TA)->Bool
 |[]=>true|(m,j,_)::r=> !(r.any λq=>Nat.beq q.1 m&&Nat.beq q.2.1 j)&&FE r
def WA:List (Tmp×TA)->Bool
 |[]=>true|(d,_)::r=> !(r.any λq=>Nat.beq q.1 d)&&WA r
def ry(w:iR):List (Tmp×TA)->Bool
 |[]=>true|(d,_)::r=>sA d w&&ry w r
def Uj(S:AS)(w:iR)(s:jA)(o:gY)(cons:jR)(a:AS)(b:Nat)(g:Int):Bool:=
 YZ S.nx S.nl w 0 S.fr a.fr&&(LB S.nx S.nl o a.hp (HH S s o)&&(Pa S.nx S.nl (HH S s o) a s []&&(Oz S.nx S.nl (HH S s o) a o (BB a s [])&&Iu b g S.nx a cons)))
def CE(d e S:AS)(m:Int):aFm->Bool
 | .down p c=>(match HB d 0 0 0 p with
   |some (x,a)=>leq d.cs x (a+c) 0 m|none=>false)&&(match HB e 0 0 0 p,HB S 0 0 0 p with
   |some (x,a),some (y,b)=>leq S.cs y (b+1) x a&&leq S.cs 0 0 y (b+c)|_,_ =>false)
 | .up p q c=>(match HB d 0 0 0 p,HB d 0 0 0 q with
   |some (x,a),some (y,b)=>leq d.cs y (b+c-m) x a|_,_ =>false)&&(match HB e 0 0 0 p,HB e 0 0 0 q,HB S 0 0 0 p,HB S 0 0 0 q with
   |some (x,a),some (y,b),some (g,f),some (h,i)=>Nat.beq y h&&(b==i&&(leq S.cs x (a+1) g f&&leq S.cs g f y (b+c)))|_,_,_,_ =>false)
def KV:Code->List Tmp
 | .region _ o _ =>Xg o.toList| .seq a b=>KV a++KV b| .cond _ a b=>KV a++KV b| .block _ c| .loop c| .scope c=>KV c|_ =>[]
abbrev iZ:=List Af
def Yv(l:iZ):Option (List (X×AS)):=
 match l with
 |[]=>some []
 |s::r=>match s.fq with
  |none=>match Yv r with
   |some q=>some ((.normal,s.S)::q)|none=>none
  |some _ =>none
def WJ(id:Nat):List (X×AS)->List (X×AS)
 |[]=>[]|(.exit i,S)::r=>(if Nat.beq i id then(.normal,S)else(.exit i,S))::WJ id r
 |q::r=>q::WJ id r
def DA:List (X×AS)->Bool
 |[]=>true|(.normal,_)::_ =>false|_ ::r=>DA r
def yX(run:AS->Option (List (X×AS)))(S:AS)(w:iR)(a:LA)(o:gY)(b:AS):List (X×AS)->Option (List (X×AS))
 |[]=>some []
 |(.normal,c)::r=>if Uj S w a.sp o a.cons c S.nx (Int.ofNat a.gk)&&CE S b c a.m0 a.ms then yX run S w a o b r else match run c with
  | some l=>if DA l then match yX run S w a o b r with
    |some q=>some (l++q)|none=>none
   else none
  |none=>none
 |q::r=>match yX run S w a o b r with
  |some l=>some (q::l)|none=>none
def bJa(n l:Nat)(a:A):A:=
 if uR n l qZ a then a else match a with
 | .bool _ => .bool tA| .or [.bool _,.fm []]=> .or [.bool tA,.fm []]| .int k _ _ | .ft k _ _ => .ft k k.min k.max| .str .. | .gh _ | .fy .. => .fy 0 1000000000000000000|_ => .top
def bQz(n l:Nat)(a b:A):A:=
 if CM qZ a b then a else match a,b with
 | .bool _,.bool _ => .bool tA| .bool _,.fm []| .fm [],.bool _ | .or [.bool _,.fm []],.bool _ | .or [.bool _,.fm []],.fm []=> .or [.bool tA,.fm []]| .int k _ _,.int _ _ _ | .ft k _ _,.int _ _ _ => .ft k k.min k.max| .fy ..,_ => .fy 0 1000000000000000000| .gh _,.gh _ | .str ..,.gh _ | .gh _,.str .. | .str ..,.str .. => .fy 0 1000000000000000000|_,_ => .top
def aWe(n l:Nat)(d:Tmp):A->List Af->A
 |a,[]=>a|a,s::r=>aWe n l d (bQz n l a (bJa n l (zI s.S.fr d))) r
def aDp(n l:Nat)(s:Af)(r:iZ):List Tmp->List (Tmp×TA)
 |[]=>[]|d::ds=>if sA d ds then aDp n l s r ds else(d,.a (aWe n l d (bJa n l (zI s.S.fr d)) r))::aDp n l s r ds
def Lg(S:AS)(w:iR)(a:jA):List Af->Bool
 |[]=>true|s::r=>s.fq.isNone&&(Uj S w a [] [] s.S 0 0&&Lg S w a r)
def XK(S:AS)(w:iR):List Af->Option (List Af)
 |[]=>some []|[s]=>some [s]
 | s::r=>if Lg S w (aDp S.nx S.nl s r w) (s::r)then match Hr S w (aDp S.nx S.nl s r w) [] [] 0 with
   |some a=>some [⟨a,none,[]⟩]|none=>none
  else none
def aMo:A->Bool
 | .fm []=>true|_ =>false
def aAa(s t:Af):List Tmp->Bool
 |[]=>true|d::ds=>aMo (zI s.S.fr d)==aMo (zI t.S.fr d)&&aAa s t ds
def Da(S:AS)(w:iR):Nat->List Af->Option (List Af)
 |0,l=>some l|_ +1,[]=>some []
 |n+1,s::r=>match XK S w (s::r.filter λt=>aAa s t w)with
  |some a=>match Da S w n (r.filter λt=> !aAa s t w)with
   |some b=>some (a++b)|none=>none
  |none=>none
def aYr(o:Oper):Bool:=
 match o.op with
 | .pick .. =>true|_ =>false
def nL(gl:Nat->Option A)(a:List A)(o:Oper):Option (Nat×List Operand):=
 match o.op with
 | .call c=>match c.callee with
  | .value f=>match LK gl a f with
   |some (.yl l)=>some (l,c.args.toList)|_ =>none
  |_ =>none
 |_ =>none
def Iq(S:AS):List (Tmp×Nat×TA)->Option (List (Nat×Nat×TA))
 |[]=>some []
 |(d,j,a)::r=>match Dh 5 S.hp S.fr d with
  |some l=>match Iq S r with
   |some q=>some ((l,j,a)::q)|none=>none
  |none=>none
def aYt:Option (Option Nat)->X
 |none=> .normal|some (some id)=> .exit id|some none=> .ret
def aPr(S:AS)(l:Nat):List AR->Option (List (X×AS))
 |[]=>some []
 |R::a=>match oV R.hp l with
  |some (.loop st p ..)=>if Jn st .busy then none else match aPr S l a with
   |some q=>some ((aYt p,{fr:=S.fr,hp:=vB R.hp l,nx:=R.nx,nl:=R.nl,cs:=R.cs})::q)|none=>none
  |_ =>none
def oI(S:AS):Option Nat->Bool
 |none=>true
 |some l=>match oV S.hp l with
  |some (.loop ..)=>true|_ =>false
section
variable(P:gD)(Y:AX)(call:FuncId->List A->AS->Option (List AR))(yld:Nat->List A->AS->Option (List AR))(F:hJ)
def bGq(S:AS)(o:Oper):Option (List Af):=
 match nL Y.gl S.fr o with
 |some (l,x)=>match EC Y.gl S.fr x with
  |some a=>match yld l a S with
   |some b=>some (b.map λR=>{S:=S.dy o.dst R,fq:=none,av:=[]})|none=>none
  |none=>none
 |none=>none
def aAh(a:gF)(s:Af)(o:Oper):Option (List Af):=
 match nL Y.gl s.S.fr o with
 |some _ =>if s.fq.isSome then none else match LV a s.S o with
  |some g=>AP (λq=>if q.1 then bGq Y yld q.2 o else some [{S:={q.2 with fr:=MJ q.2.fr o.dst (.fm [])},fq:=none,av:=[]}]) g
  |none=>none
 |none=>aAg P Y call F a s o
def aLg(b:gF):List Oper->Af->Option (List Af)
 |[],s=>some [s]
 |o::a,s=>match aAh P Y call yld F b s o with
  |some l=>AP (aLg b a) l|none=>none
def aLf(S:AS)(b:gF):List Tmp->List Oper->List Af->Option (List Af)
 |_,[],l=>some l
 |w,o::a,l=>match AP (λs=>aAh P Y call yld F b s o) l with
  |some c=>match(if aYr o then Da S (o.dst.toList++w) 40 c else some c)with
   |some d=>aLf S b (o.dst.toList++w) a d|none=>none
  |none=>none
def Ke:Nat->Nat->A->Nat
 |0,m,_ =>m
 |k+1,m,a=>match a with
  | .int _ s _ | .str s _ | .sx s _ =>Nat.lor m (Nat.shiftLeft 1 s)| .iv _ _ s _ _ =>Nat.lor m (Nat.shiftLeft 1 s)| .bool (.imp p q)=>jy (jy m p) q| .ref x _ | .iface _ x=>Ke k m x| .sl e s _ | .g7 _ e s _ =>Ke k (Nat.lor m (Nat.shiftLeft 1 s)) e| .ge _ _ si _ s _ =>Nat.lor (Nat.lor m (Nat.shiftLeft 1 si)) (Nat.shiftLeft 1 s)| .fn _ a_s bs=>(a_s++bs).foldl (Ke k) m| .or a_s| .agg a_s| .fm a_s| .ie a_s| .ia _ a_s=>a_s.foldl (Ke k) m|_ =>m
 where
 jy:Nat->List pR->Nat
  |m,[]=>m|m,.le x y _ ::r=>jy (Nat.lor (Nat.lor m (Nat.shiftLeft 1 x)) (Nat.shiftLeft 1 y)) r|m,.ne x y _ ::r=>jy (Nat.lor (Nat.lor m (Nat.shiftLeft 1 x)) (Nat.shiftLeft 1 y)) r|m,.ev x y _ ::r=>jy (Nat.lor (Nat.lor m (Nat.shiftLeft 1 x)) (Nat.shiftLeft 1 y)) r|m,.sm x y _ _ ::r=>jy (Nat.lor (Nat.lor m (Nat.shiftLeft 1 x)) (Nat.shiftLeft 1 y)) r
def bQx(m:Nat):AO->Nat
 | .fix _ x=>x.foldl (Ke 8) m| .row _ _ e s _ | .ax _ _ e s _ =>Ke 8 (Nat.lor m (Nat.shiftLeft 1 s)) e| .map a=>a.foldl (λm q=>Ke 8 m q.2) m| .loop _ _ f .. =>f.foldl (Ke 8) m
def CU(m a:Nat):List pR->List pR
 |[]=>[]| .le x y c::r=>if(Nat.blt x a||Nat.testBit m x)&&(Nat.blt y a||Nat.testBit m y)then .le x y c::CU m a r else CU m a r
 | .ne x y c::r=>if(Nat.blt x a||Nat.testBit m x)&&(Nat.blt y a||Nat.testBit m y)then .ne x y c::CU m a r else CU m a r
 | .ev x y c::r=>if(Nat.blt x a||Nat.testBit m x)&&(Nat.blt y a||Nat.testBit m y)then .ev x y c::CU m a r else CU m a r
 | .sm x y z c::r=>if(Nat.blt x a||Nat.testBit m x)&&((Nat.blt y a||Nat.testBit m y)&&(Nat.blt z a||Nat.testBit m z))then .sm x y z c::CU m a r else CU m a r
def mi(a:Nat)(S:AS):AS:={S with cs:=CU (S.hp.foldl (λm q=>bQx m q.2) (S.fr.foldl (Ke 8) 1)) a S.cs}
def nM(g n:Nat)(S:AS):AS:=if Nat.beq g 2 then{S with cs:= .ev n 0 0::S.cs}else S
def aMp(f:An->AS->Option (List (X×AS)))(a:Nat):List An->AS->Option (List (X×AS))
 |[],_ =>none
 |b::k,S=>match f b S with
  |some l=>AP (λq=>match q with
   |(.normal,c)=>aMp f a k (mi a c)|q=>some [(q.1,mi a q.2)]) l
  |none=>none
def An.body:An->An
 | .loop _ b=>b|a=>a
def Ry(S:AS)(w:iR)(a:LA)(o:gY):List (X×AS)->Bool
 |[]=>true|(.normal,b)::r=>Uj S w a.sp o a.cons b 0 0&&Ry S w a o r|_ ::r=>Ry S w a o r
def aJy(S:AS):List (X×AS)->List (X×AS)
 |[]=>[(.normal,S)]|(.normal,_)::r=>aJy S r|q::r=>q::aJy S r
def aMx(S:AS)(w:iR)(c:An)(l:List (X×AS)):Option (List (X×AS)):=
 match c with
 | .loop a _ =>match Iq S a.oc with
  |some o=>match Hr S w a.sp o a.cons 0 with
   |some b=>if Ry S w a o l then some (aJy b l)else none
   |none=>none
  |none=>none
 |_ =>some l
def vG(J:jD)(f:gW):Code->An->AS->Option (List (X×AS))
 | .skip,_,S| .label _,_,S=>some [(.normal,S)]
 | .region id o h,_,S=>match(if h then Ss P Y call F (F (9000000+id)) (F (9200000+id)) o S else if J id then(match aLf P Y call yld F S o [] o.toList [⟨S,none,[]⟩]with
    |some l=>XK S (Xg o.toList) l|none=>none)else aLg P Y call yld F o o.toList ⟨S,none,[]⟩)with
  |some l=>Yv l|none=>none
 | .seq a b,d,S=>match vG J f a d.l S with
  |some l=>AP (λq=>match q with
   |(.normal,s)=>vG J f b d.r s|q=>some [q]) l
  |none=>none
 | .cond c a b,d,S=>match LK Y.gl S.fr c with
  |some (.bool t)=>match AP (λq=>if q.1 then vG J f a d.body.l {S with cs:=q.2}else vG J f b d.body.r {S with cs:=q.2}) (AZ S.cs t)with
   |some l=>aMx S (KV (.cond c a b)) d l|none=>none
  |_ =>none
 | .block id c,d,S=>match vG J f c d S with
  |some l=>some (WJ id l)|none=>none
 | .loop c,d,S=>match d with
  | .da x=>aMp (λb S=>vG J f c b S) S.nx x S
  | .loop e b=>match Iq S e.oc with
   | some i=>if sQ 0 e.m0&&FE i&&WA e.sp&&ry (KV c) e.sp&&Uj S (KV c) e.sp i e.cons S 0 0 then match Hr S (KV c) e.sp i e.cons (Int.ofNat e.gk*e.m0)with
     |some m=>match vG J f c b (nM e.gk S.nx m)with
      |some l=>yX (λS=>vG J f c b S) S (KV c) e i m l|none=>none
     |none=>none
    else match vG J f c b S with
     |some l=>if DA l then some l else none
     |none=>none
   |none=>none
  |_ =>none
 | .rangeFunc g u j w,d,S=>match LK Y.gl S.fr g with
  | some (.fn p [] k)=>if oI S f then match call p (.yl S.nl::k) {S with hp:=(S.nl,.loop .ready none S.fr u j w F d.l d.r)::S.hp,nl:=S.nl+1}with
    |some v=>aPr S S.nl v|none=>none
   else none
  |_ =>none
 | .exit id,_,S=>some [(.exit id,S)]| .ret,_,S=>some [(.ret,S)]|_,_,_ =>none
end
def aMr(S:AS)(l:Nat)(st:LoopState)(c:jL):Option AS:=
 match oV S.hp l with
 |some (.loop s e f p a g o b d)=>some {S with hp:=zZ S.hp l (.loop st c f p a g o b d)}
 |_ =>none
def oJ:X->Option (Option Nat)
 | .normal=>none| .exit id=>some (some id)| .ret=>some none
def XW:X->Bool
 | .normal=>true|_ =>false
def UF(l:Nat):List (X×AS)->Option (List AR)
 |[]=>some []
 |(x,S)::r=>match aMr S l (if XW x then .ready else .done) (oJ x)with
  |some a=>match UF l r with
   |some q=>some (⟨.bool (.lit (XW x)),a.hp,a.nx,a.nl,a.cs⟩::q)|none=>none
  |none=>none
def Vg(b:iR)(x:List A)(a:List A):List A:=(b.zip x).foldl (λf p=>f.set p.1 p.2) a
def Yj(S:AS)(l:Nat):Bool:=
 match oV S.hp l with
 |some (.loop st ..)=>Jn st .ready|_ =>false
def aZw(S:AS)(l:Nat):Option (Option Nat):=
 match oV S.hp l with
 |some (.loop _ p ..)=>p|_ =>none
def aWc:X->X->Bool
 | .normal,.normal| .ret,.ret=>true| .exit a,.exit b=>Nat.beq a b|_,_ =>false
def aRt(x:X):List (X×AS)->Bool
 |[]=>false|(y,_)::r=>aWc y x||aRt x r
def Iv(S:AS)(o:gY):List (X×AS)->Bool
 |[]=>true|(_,a)::r=>Uj {S with fr:=[.top]} [0] [] o [] {a with fr:=[.top]} 0 0&&Iv S o r
def NH(S:AS):List (X×AS)->List (X×AS)
 |[]=>[]|(x,_)::r=>if aRt x r then NH S r else(x,S)::NH S r
def Gc(S:AS)(a:An)(r:List (X×AS)):Option (List (X×AS)):=
 match a with
 | .loop c _ =>match Iq S c.oc with
  | some o=>if FE o&&Iv S o r then match Hr {S with fr:=[.top]} [0] [] o [] 0 with
    |some b=>some (NH b r)|none=>none
   else none
  |none=>none
 |_ =>some r
section
variable(P:gD)(Y:AX)(call:FuncId->List A->AS->Option (List AR))(yld:Nat->List A->AS->Option (List AR))
def aVz(l:Nat)(c:Code)(o:hJ)(a:An)(q:X×AS):Option (List AR):=
 if XW q.1&&Yj q.2 l then match aMr q.2 l .busy (aZw q.2 l)with
  |some S=>match vG P Y call yld o (Y.jr 100000) (some l) c a.body S with
   |some r=>match Gc S a r with
    |some b=>UF l b|none=>none
   |none=>none
  |none=>none
 else none
def aSr(l:Nat)(a:List A)(S:AS):Option (List AR):=
 match oV S.hp l with
 | some (.loop _ _ fr p b c o d e)=>if Nat.beq a.length p.size&&(tT b&&tT c)then match vG P Y call yld o (Y.jr 100000) (some l) b d {S with fr:=Vg p.toList a fr}with
   |some r=>AP (aVz P Y call yld l c o e) r|none=>none
  else none
 |_ =>none
end
def bHp(P:gD)(f:List A)(S:AS):ResultVar->Option AV
 | .tmp t=>some ⟨zI f t,S.nx,S.cs⟩| .cell a t=>Yw P S.hp S.nx S.cs t (zI f a)
def OW(P:gD)(f:List A):List ResultVar->AS->Option (List A×AS)
 |[],S=>some ([],S)
 |r::c,S=>match bHp P f S r with
  |some v=>match OW P f c {S with nx:=v.nx,cs:=v.cs}with
   |some (l,b)=>some (v.a::l,b)|none=>none
  |none=>none
def bJb:List A->A
 |[a]=>a|l=> .fm l
def Xm(P:gD)(b:jP):List (X×AS)->Option (List AR)
 |[]=>some []
 |(x,S)::r=>match x with
  | .exit _ =>none
  |_ =>match OW P S.fr b S with
   |some (l,a)=>match Xm P b r with
    |some q=>some (⟨bJb l,a.hp,a.nx,a.nl,a.cs⟩::q)|none=>none
   |none=>none
def aKh(b:List A):List (Nat×Nat×TA)->Option (List (Nat×Nat×TA))
 |[]=>some []
 |(d,j,a)::r=>match b[d]? with
  |some (.ptr l _)=>match aKh b r with
   |some q=>some ((l,j,a)::q)|none=>none
  |_ =>none
def Zk(S:AS)(o:gY)(b:A):List AR->Bool
 |[]=>true|r::c=>Uj {S with fr:=[.top]} [0] [(0,.a b)] o [] {fr:=[r.a],hp:=r.hp,nx:=r.nx,nl:=r.nl,cs:=r.cs} 0 0&&Zk S o b c
abbrev jS:=List AR
def Sj(S:AS)(b:List A)(p:Kw)(l:jS):Option (List AR):=
 match aKh b p.oc with
 | some o=>if FE o&&Zk S o p.res l then match Hr {S with fr:=[.top]} [0] [(0,.a p.res)] o [] 0 with
   |some c=>some [⟨zI c.fr 0,c.hp,c.nx,c.nl,c.cs⟩]|none=>none
  else none
 |none=>none
structure bCv where
 fn:FuncId->List A->AS->Option (List AR)
 yd:Nat->List A->AS->Option (List AR)
def QQ:AO->Bool
 | .row .. | .ax .. =>true|_ =>false
def aDb:A->Option Nat
 | .ge l .. =>some l|_ =>none
def KZ:A->List Nat
 | .agg b=>b.filterMap aDb|a=>(aDb a).toList
def OO(h:gP):List Nat->List (Nat×AO)
 |[]=>[]
 |l::a=>match oV h l with
  |some o=>if QQ o then(l,o)::OO h a else OO h a
  |none=>OO h a
def WB(h:gP):List Nat->List (Nat×AO)
 |[]=>h|l::a=>vB (WB h a) l
def aJu:A->Bool
 | .ge .. =>true| .agg b=>b.all λa=>LZ a||qT 20 a|a=>qT 20 a
def aPz(R:AR):Option AR:=
 if aJu R.a&&(KZ R.a).all (λl=>match oV R.hp l with
  |some o=>QQ o|none=>false)then match kk (OO R.hp (KZ R.a)) 22 R.a with
  |some b=>some {R with a:=aHp R.cs b,hp:=WB R.hp (KZ R.a)}
  |none=>none
 else none
def Gy:List AR->Option (List AR)
 |[]=>some []
 |R::b=>match aPz R with
  |some a=>match Gy b with
   |some l=>some (a::l)|none=>none
  |none=>none
def bEl(f one:Bool)(a:jS):Option (List AR):=if f then some a else if one then Gy a else none
def Mz(P:gD)(Y:AX)(b:FuncId->List A->AS->Option (List AR))(y:Nat->List A->AS->Option (List AR))(f:gX)(a:List A)(S:AS):Option (List AR):=
 if !(Y.top f)then none else match P.funcs[f]? with
  |some d=>match d.body with
   |some c=>match vG P Y b y (Y.own f) (Y.jr f) none c (Y.an f) {S with fr:=a++List.replicate (d.ntmps-a.length) (.fm [])}with
    |some l=>match Xm P d.results.toList l with
     |some e=>match bEl (Y.own f 6000000) (Nat.beq d.results.toList.length 1) e with
      |some e=>match Y.post f with
       |some p=>Sj S a p e|none=>some e
      |none=>none
     |none=>none
    |none=>none
   |none=>none
  |none=>none
end
def CL(k:iC)(n:Int):Prop:=k.min<=n/\n<=k.max
def UT(V:gN):pR->Prop
 | .le x y c=>∃a v,V[x]? =some a/\V[y]? =some v/\a<=v+c| .ne x y c=>∃a v,V[x]? =some a/\V[y]? =some v/\a≠v+c| .ev x y c=>∃a v,V[x]? =some a/\V[y]? =some v/\(a-v-c)%2=0| .sm x y z c=>∃a v,V[x]? =some a/\V[y]? =some v/\∃b,V[z]? =some b/\a+v<=b+c
def oZ(V:gN)(c:List pR):Prop:=∀q∈c,UT V q
def tX(V:gN):Bo->Bool->Prop
 | .lit b,x=>x=b| .imp p n,x=>(x=true->oZ V p)/\(x=false->oZ V n)
def wP(t:T)(x:gC):Prop:=(t= .fp/\x=[])\/(∃f,t= .sl f x)\/(∃a n f,t= .ac a n f/\x=(List.range n).map f)
def aNx(x:T):Prop:=∃a b c s v i j d,x=T.agg [.int .i64 a,.int .i64 b,.int .i64 c,.str s,.str v,.int .i64 i,.int .i64 j,.bool d]
def bCw(t:T):Prop:=∃a,wP t a/\(∀x∈a,aNx x)/\∀x,a.getLast? =some x->∃r,x= .agg (.int .i64 0::r)
theorem BR{t:T}{x y:gC}(h:wP t x)(d:wP t y):x=y:=by
 rcases h with⟨rfl,rfl⟩|⟨f,rfl⟩|⟨c,n,f,rfl,rfl⟩<;>rcases d with⟨a,rfl⟩|⟨e,a⟩|⟨b,g,e,a,rfl⟩<;>cases a<;>rfl
def nN(x:T):Prop:=∃a b c s,x=T.agg [.int .i64 a,.int .i64 b,.int .i64 c,.str s,.fp,.fp]/\CL .i64 a/\CL .i64 b/\CL .i64 c/\(s.length:Int)<=1000000
def lY(t:T):Prop:=t= .fp\/∃a n f,t=T.ac a n f/\((n:Nat):Int)<=1000000000000/\∀i,i<n->nN (f i)
inductive Wi:T->Prop
 |fp:Wi .fp
 | ac (full:Bool) (n:Nat) (f:iK) (a b:Nat->Int) (s:Nat->List UInt8) (v x:iK):(n:Int)<=1000000000000->(∀i,i<n->f i= .agg [.int .i64 (a i),.int .i64 (b i),.str (s i),v i,x i])->
   (∀i,i<n->CL .i64 (a i)/\CL .i64 (b i)/\((s i).length:Int)<=1000000000000/\lY (v i))->(∀i,i<n->Wi (x i))->Wi (.ac full n f)
def mj(x:T):Prop:=∃a b s v w,x=T.agg [.int .i64 a,.int .i64 b,.str s,v,w]/\CL .i64 a/\CL .i64 b/\(s.length:Int)<=1000000000000/\lY v/\Wi w
theorem Wi.of{d:Bool}{n:Nat}{f:iK}(g:(n:Int)<=1000000000000)(h:∀i,i<n->mj (f i)):Wi (.ac d n f):=by
 have j:∀i,∃p:Int×Int×List UInt8×T×T,i<n->f i=T.agg [.int .i64 p.1,.int .i64 p.2.1,.str p.2.2.1,p.2.2.2.1,p.2.2.2.2]/\CL .i64 p.1/\CL .i64 p.2.1/\(p.2.2.1.length:Int)<=1000000000000/\lY p.2.2.2.1/\Wi p.2.2.2.2:=λi=>by
  by_cases c:i<n;obtain⟨a,b,s,v,w,h⟩:=h i c;exact⟨(a,b,s,v,w),λ_ =>h⟩;exact⟨(0,0,[],.fp,.fp),λq=>absurd q c⟩
 obtain⟨p,e⟩:=Classical.axiomOfChoice j;exact .ac d n f (λi=>(p i).1) (λi=>(p i).2.1) (λi=>(p i).2.2.1) (λi=>(p i).2.2.2.1) (λi=>(p i).2.2.2.2) g (λi c=>(e i c).1) (λi c=>⟨(e i c).2.1,(e i c).2.2.1,(e i c).2.2.2.1,(e i c).2.2.2.2.1⟩) (λi c=>(e i c).2.2.2.2.2)
theorem Wi.inv{t:T}(h:Wi t):t= .fp\/∃c n f,t=T.ac c n f/\((n:Nat):Int)<=1000000000000/\∀i,i<n->mj (f i):=by
 cases h with
 |fp=>exact .inl rfl|ac c n f a b s v x j g e k=>exact .inr ⟨c,n,f,rfl,j,λi d=>⟨_,_,_,_,_,g i d,(e i d).1,(e i d).2.1,(e i d).2.2.1,(e i d).2.2.2,k i d⟩⟩
theorem PA{p:T->Prop}{t:T}(h:t= .fp\/∃a n f,t=T.ac a n f/\((n:Nat):Int)<=1000000000000/\∀i,i<n->p (f i)):∃b,wP t b/\(b.length:Int)<=1000000000000/\∀x∈b,p x:=by
 rcases h with rfl|⟨a,n,f,rfl,d,e⟩;exact⟨[],.inl ⟨rfl,rfl⟩,by simp,λx c=>by simp at c⟩;refine⟨_,.inr (.inr ⟨a,n,f,rfl,rfl⟩),by simpa using d,λx c=> ?_⟩;obtain⟨i,g,rfl⟩:=bS.1 c;exact e i (eT.1 g)
theorem aAb{p:T->Prop}{t:T}(h:t= .fp\/∃a n f,t=T.ac a n f/\((n:Nat):Int)<=1000000000000/\∀i,i<n->p (f i))(k:Nat)(H:Hp):pM (k+1) H t=some t:=by
 rcases h with rfl|⟨a,n,f,rfl,_⟩<;>rfl
structure gy where
 q:Nat->T->Prop
 pure:∀(j:Nat) (ts:gC),q j (.agg ts)->∀(k:Nat) (H:Hp),20<=k->pM k H (.agg ts)=some (.agg ts)
 fin:∀t,q 30 t↔bCw t
 ex:∀t,q 31 t↔Wi t
 vs:∀t,q 32 t↔lY t
 fu:∀t,q 33 t↔∃xs,t= .sl true xs
def gy.of(q:Nat->T->Prop)(pure:∀(j:Nat) (ts:gC),q j (.agg ts)->∀(k:Nat) (H:Hp),20<=k->pM k H (.agg ts)=some (.agg ts)):gy where
 q j t:=if j=30 then bCw t else if j=31 then Wi t else if j=32 then lY t else if j=33 then(∃xs,t= .sl true xs)else q j t
 pure j ts h k H hk:=by
  split at h;obtain⟨xs,h1,_⟩:=h;rcases h1 with⟨h,_⟩|⟨f,h⟩|⟨_,_,_,h,_⟩<;>cases h
  split at h;cases h;split at h;rcases h with h|⟨_,_,_,h,_⟩<;>cases h;split at h;obtain⟨_,h⟩:=h;cases h;exact pure j ts h k H hk
 fin t:=by simp
 ex t:=by simp
 vs t:=by simp
 fu t:=by simp
variable[Inhabited gy]
abbrev gE:=List (Option Nat)
inductive Gm(V:gN)(U:gE):A->T->Prop
 |top (t):Gm V U .top t
 |any (t):t.one=true->Gm V U .any t
 |int (k s c v):V[s]? =some v->CL k (v+c)->Gm V U (.int k s c) (.int k (v+c))
 |ft (k:iC) (lo hi n:Int):lo<=n->n<=hi->CL k n->Gm V U (.ft k lo hi) (.int k n)
 |bool (B b):tX V B b->Gm V U (.bool B) (.bool b)
 |gh (s):Gm V U (.gh s) (.str s)
 |str (s c v l):V[s]? =some v->(l.length:Int)=v+c->Gm V U (.str s c) (.str l)
 |fy (lo hi:Int) (l:gH):lo<=(l.length:Int)->(l.length:Int)<=hi->Gm V U (.fy lo hi) (.str l)
 |fS:Gm V U .fS .fS
 |fp:Gm V U .fp .fp
 |gg:Gm V U .gg .gg
 |gb:Gm V U .gb .gb
 |fw:Gm V U .fw .fw
 |mp (l l'):U[l]? =some (some l')->Gm V U (.mp l) (.mp l')
 |yl (l l'):U[l]? =some (some l')->Gm V U (.yl l) (.yl l')
 |ptr (l off l'):U[l]? =some (some l')->Gm V U (.ptr l off) (.ptr l' off)
 |iv (l sz s c off l' v):U[l]? =some (some l')->V[s]? =some v->0<=v+c->Gm V U (.iv l sz s c off) (.ptr l' ((v+c).toNat*sz+off))
 |ref (x t off):x.known=true->Gm V U x t->Gm V U (.ref x off) (.ref t off)
 |sl (e s c t xs v):wP t xs->V[s]? =some v->(xs.length:Int)=v+c->(∀x∈xs,Gm V U e x)->Gm V U (.sl e s c) t
 |gp (e:A) (lo hi:Int) (t:T) (xs:gC):wP t xs->lo<=(xs.length:Int)->(xs.length:Int)<=hi->(∀x∈xs,Gm V U e x)->Gm V U (.gp e lo hi) t
 |ie (es t xs):wP t xs->es.length=xs.length->(∀(j:Nat) (a:A) (t:T),es[j]? =some a->xs[j]? =some t->Gm V U a t)->Gm V U (.ie es) t
 |g7 (q e s c t xs v):(default:gy).q q t->wP t xs->V[s]? =some v->(xs.length:Int)=v+c->(∀x∈xs,Gm V U e x)->Gm V U (.g7 q e s c) t
 |gr (q:Nat) (e:A) (lo hi:Int) (t:T) (xs:gC):(default:gy).q q t->wP t xs->lo<=(xs.length:Int)->(xs.length:Int)<=hi->(∀x∈xs,Gm V U e x)->Gm V U (.gr q e lo hi) t
 |sx (s c full n f v):V[s]? =some v->((n:Nat):Int)=v+c->Gm V U (.sx s c) (.ac full n f)
 |ig (lo hi:Int) (full:Bool) (n:Nat) (f:iK):lo<=(n:Int)->(n:Int)<=hi->Gm V U (.ig lo hi) (.ac full n f)
 |ge (l sz si ci s c l' vi v):U[l]? =some (some l')->V[si]? =some vi->0<=vi+ci->V[s]? =some v->0<=v+c->Gm V U (.ge l sz si ci s c) (.ge l' sz (vi+ci).toNat (v+c).toNat)
 |ar (l sz si ci s c vi v):U[l]? =some none->V[si]? =some vi->vi+ci=0->V[s]? =some v->v+c=0->Gm V U (.ge l sz si ci s c) .fp
 | fn (f a_s bs as' bs'):a_s.length=as'.length->(∀(j:Nat) (a:A) (t:T),a_s[j]? =some a->as'[j]? =some t->Gm V U a t)->
   bs.length=bs'.length->(∀(j:Nat) (a:A) (t:T),bs[j]? =some a->bs'[j]? =some t->Gm V U a t)->Gm V U (.fn f a_s bs) (.fn (.func f) as' bs')
 |iface (t x y):Gm V U x y->Gm V U (.iface t x) (.iface t y)
 |i7 (t x):Gm V U .i7 (.iface t x)
 |or (a_s a t):a∈a_s->Gm V U a t->Gm V U (.or a_s) t
 |agg (a_s ts):a_s.length=ts.length->(∀(j:Nat) (a:A) (t:T),a_s[j]? =some a->ts[j]? =some t->Gm V U a t)->Gm V U (.agg a_s) (.agg ts)
 |ia (q a_s ts):(default:gy).q q (.agg ts)->a_s.length=ts.length->(∀(j:Nat) (a:A) (t:T),a_s[j]? =some a->ts[j]? =some t->Gm V U a t)->Gm V U (.ia q a_s) (.agg ts)
 |fm (a_s ts):a_s.length=ts.length->(∀(j:Nat) (a:A) (t:T),a_s[j]? =some a->ts[j]? =some t->Gm V U a t)->Gm V U (.fm a_s) (.fm ts)
def pT(V:gN)(U:gE)(b:List A)(c:gC):Prop:=b.length=c.length/\∀(j:Nat) (a:A) (t:T),b[j]? =some a->c[j]? =some t->Gm V U a t
def rX{Z:Type}(r a:List Z):Prop:=∀(j:Nat) (v:Z),r[j]? =some v->a[j]? =some v
theorem rX.refl{Z:Type}(r:List Z):rX r r:=λ_ _ h=>h
theorem rX.trans{Z:Type}{a b c:List Z}(h:rX a b)(d:rX b c):rX a c:=λj v q=>d j v (h j v q)
theorem rX.app{Z:Type}(r s:List Z):rX r (r++s):=λj v h=>by
 have:=(aQ.1 h).1;rw[dI this];exact h
section
variable{V V':gN}{U μ':gE}
theorem UT.ext(h:rX V V'){q:pR}(g:UT V q):UT V' q:=by
 cases q with
 |sm=>obtain⟨a,b,f,e,c,d,i⟩:=g;exact⟨a,b,h _ _ f,h _ _ e,c,h _ _ d,i⟩
 |_ =>obtain⟨a,b,f,e,d⟩:=g;exact⟨a,b,h _ _ f,h _ _ e,d⟩
theorem oZ.ext(h:rX V V'){c:List pR}(a:oZ V c):oZ V' c:=λq m=>(a q m).ext h
theorem tX.ext(h:rX V V'){B:Bo}{b:Bool}(a:tX V B b):tX V' B b:=by
 cases B with
 |lit x=>exact a|imp p n=>exact⟨λe=>(a.1 e).ext h,λe=>(a.2 e).ext h⟩
theorem Gm.ext(h:rX V V')(D:rX U μ'){a:A}{t:T}(hg:Gm V U a t):Gm V' μ' a t:=by
 induction hg with
 |top t=>exact .top t|any t h=>exact .any t h|int k s c v d g=>exact .int k s c v (h _ _ d) g|ft k C u n d g m=>exact .ft k C u n d g m|bool B b hb=>exact .bool B b (hb.ext h)|gh s=>exact .gh s|str s c v l d g=>exact .str s c v l (h _ _ d) g|fy C u l d g=>exact .fy C u l d g|fS=>exact .fS|fp=>exact .fp|gg=>exact .gg|gb=>exact .gb|fw=>exact .fw|mp l w d=>exact .mp l w (D _ _ d)|yl l w d=>exact .yl l w (D _ _ d)|ptr l p w d=>exact .ptr l p w (D _ _ d)|iv l J s c p w v d g m=>exact .iv l J s c p w v (D _ _ d) (h _ _ g) m|ref x t p d _ i=>exact .ref x t p d i|sl e s c t z v d g m _ i=>exact .sl e s c t z v d (h _ _ g) m i|gp e C u t z d g m _ i=>exact .gp e C u t z d g m i|ie es t z d g _ i=>exact .ie es t z d g i|g7 q e s c t z v E d g m _ i=>exact .g7 q e s c t z v E d (h _ _ g) m i|gr q e C u t z E d g m _ i=>exact .gr q e C u t z E d g m i|sx s c o n f v d g=>exact .sx s c o n f v (h _ _ d) g|ig C u o n f d g=>exact .ig C u o n f d g|ge l J N W s c w R v d g m O S=>exact .ge l J N W s c w R v (D _ _ d) (h _ _ g) m (h _ _ O) S|ar l J N W s c R v d g m O S=>exact .ar l J N W s c R v (D _ _ d) (h _ _ g) m (h _ _ O) S|fn f j bs M K d _ m _ Q L=>exact .fn f j bs M K d Q m L|iface t x y _ i=>exact .iface t x y i|i7 t x=>exact .i7 t x|or j a t Z _ i=>exact .or j a t Z i|agg j I d _ i=>exact .agg j I d i|ia q j I E d _ i=>exact .ia q j I E d i|fm j I d _ i=>exact .fm j I d i
theorem aId{q:Nat}{t:T}(e:(default:gy).q q t){p:T->Prop}(h:t= .fp\/∃a n f,t=T.ac a n f/\((n:Nat):Int)<=1000000000000/\∀i,i<n->p (f i)):Gm V U (.gr q .top 0 1000000000000) t:=by
 obtain⟨d,c,b,_⟩:=PA h;exact .gr q .top 0 _ t d e c (by omega) b (λx _ => .top x)
theorem OA{n:Int}(h:CL .i64 n):Gm V U Cw (.int .i64 n):= .ft .i64 _ _ n (show IntKind.i64.min<=n from h.1) (show n<=IntKind.i64.max from h.2) h
theorem bEq{x:T}(h:mj x):Gm V U aPt x:=by
 obtain⟨a,b,s,v,w,rfl,k,m,i,f,g⟩:=h;refine .agg _ _ rfl (λj c t d e=> ?_)
 match j with
 |0=>cases d;cases e;exact OA k|1=>cases d;cases e;exact OA m|2=>cases d;cases e;exact .fy 0 _ s (by omega) i|3=>cases d;cases e;exact aId (((default:gy).vs v).2 f) f|4=>cases d;cases e;exact aId (((default:gy).ex w).2 g) g.inv|j+5=>simp[aPt]at d
theorem bEr{x:T}(h:nN x):Gm V U bBf x:=by
 obtain⟨a,b,c,s,rfl,g,i,f,k⟩:=h;refine .agg _ _ rfl (λj c t d e=> ?_)
 match j with
 |0=>cases d;cases e;exact OA g|1=>cases d;cases e;exact OA i|2=>cases d;cases e;exact OA f|3=>cases d;cases e;exact .fy 0 _ s (by omega) k|4=>cases d;cases e;exact .fp|5=>cases d;cases e;exact .fp|j+6=>simp[bBf]at d
theorem Gm.cq{a:A}{t:T}(j:Gm V U a t):Gm V U a.cq t:=by
 cases j with
 |g7 q e s c t k v d b i g f=>
  refine .sl _ s c t k v b i g (λx h=> ?_);split;rename_i e;have:=aD e;subst this;obtain⟨y,k1,_,k2⟩:=PA (((default:gy).ex t).1 d).inv;rw[BR b k1]at h;exact bEq (k2 x h);split;rename_i e;have:=aD e;subst this;obtain⟨y,k1,_,k2⟩:=PA (((default:gy).vs t).1 d);rw[BR b k1]at h;exact bEr (k2 x h);exact f x h
 |_ =>simp only[A.cq];constructor<;>assumption
theorem pT.ext(h:rX V V')(g:rX U μ'){b:List A}{d:gC}(c:pT V U b d):pT V' μ' b d:=⟨c.1,λj a t f e=>(c.2 j a t f e).ext h g⟩
theorem pT.nil:pT V U [] []:=⟨rfl,λj a t h=>by simp at h⟩
theorem pT.cons{a:A}{t:T}{c:List A}{f:gC}(h:Gm V U a t)(g:pT V U c f):pT V U (a::c) (t::f):=by
 refine⟨by simp[g.1],λj b u d e=> ?_⟩;cases j with
 |zero=>simp at d e;subst d e;exact h|succ j=>exact g.2 j b u (by simpa using d) (by simpa using e)
theorem pT.head{a:A}{t:T}{b:List A}{c:gC}(h:pT V U (a::b) (t::c)):Gm V U a t:=h.2 0 a t rfl rfl
theorem pT.tail{a:A}{t:T}{c:List A}{d:gC}(h:pT V U (a::c) (t::d)):pT V U c d:=⟨by simpa using h.1,λj b u e f=>h.2 (j+1) b u (by simpa using e) (by simpa using f)⟩
theorem pT.ae{a:gC}(h:pT V U [] a):a=[]:=by have:=h.1;simp at this;cases a<;>simp_all
theorem pT.I{a:A}{b:List A}{c:gC}(h:pT V U (a::b) c):∃t r,c=t::r/\Gm V U a t/\pT V U b r:=by
 cases c with
 |nil=>have:=h.1;simp at this|cons t r=>exact⟨t,r,rfl,h.head,h.tail⟩
theorem pT.app{b d:List A}{c u:gC}(h:pT V U b c)(g:pT V U d u):pT V U (b++d) (c++u):=by
 induction b generalizing c with
 |nil=>rw[h.ae];exact g|cons a b i=>obtain⟨t,r,rfl,f,e⟩:=h.I;exact(i e).cons f
theorem pT.at{c:List A}{d:gC}(h:pT V U c d){j:Nat}{a:A}(e:c[j]? =some a):∃t,d[j]? =some t/\Gm V U a t:=by
 have f:=(aQ.1 e).1;have b:j<d.length:=by rw[<-h.1];exact f
 exact⟨d[j],aB b,h.2 j a _ e (aB b)⟩
theorem pT.at'{b:List A}{e:gC}(h:pT V U b e){j:Nat}{t:T}(d:e[j]? =some t):∃a,b[j]? =some a/\Gm V U a t:=by
 have f:=(aQ.1 d).1;have c:j<b.length:=by rw[h.1];exact f
 exact⟨b[j],aB c,h.2 j _ t (aB c) d⟩
theorem pT.drop{b:List A}{e:gC}(h:pT V U b e)(n:Nat):pT V U (b.drop n) (e.drop n):=
 ⟨by simp[h.1],λj a t d c=>h.2 (n+j) a t (by rw[cD]at d;exact d) (by rw[cD]at c;exact c)⟩
theorem pT.take{b:List A}{e:gC}(h:pT V U b e)(n:Nat):pT V U (b.take n) (e.take n):=by
 refine⟨by simp[h.1],λj a t c d=> ?_⟩;rw[bJ]at c d;split at c;rw[aJ ‹_›]at d;exact h.2 j a t c d;cases c
theorem pT.set{f:List A}{i:gC}(h:pT V U f i){a:A}{t:T}(k:Gm V U a t)(d:Nat):pT V U (f.set d a) (i.set d t):=by
 refine⟨by simp[h.1],λj b u e c=> ?_⟩;rw[dM]at e c;split at e;rename_i g;rw[aJ g]at c;split at e;cases e;split at c;cases c;exact k;cases c;cases e;rename_i g;rw[aH g]at c;exact h.2 j b u e c
theorem pT.replicate{a:A}{t:T}(h:Gm V U a t)(n:Nat):pT V U (List.replicate n a) (List.replicate n t):=by
 refine⟨by simp,λj b u c d=> ?_⟩;rw[List.getElem?_replicate]at c d;split at c;rename_i e;rw[aJ e]at d;cases c;cases d;exact h;cases c
theorem Yb:∀(f:List A) (t:Tmp),zI f t=f.getD t (.fm [])
 |[],_ =>rfl|_ ::_,0=>rfl|_ ::x,n+1=>(Yb x n).trans rfl
theorem UJ(v:A):∀(f:List A) (t:Nat),hT v f t=f.set t v
 |[],_ =>rfl|_ ::_,0=>rfl|x::a,n+1=>bG (x:: ·) (UJ v a n)
theorem tN:Gm V U (.fm []) oS:= .fm [] [] rfl (λj a t h=>by simp at h)
theorem pT.get{b:List A}{c:gC}(h:pT V U b c)(d:Tmp):Gm V U (zI b d) (rW c d):=by
 rw[Yb,uG];simp only[bC];cases ha:b[d]? with
 |none=>
  have:c[d]? =none:=by rw[List.getElem?_eq_none_iff]at ha⊢;rw[<-h.1];exact ha
  rw[this];exact tN
 |some a=>obtain⟨t,e,f⟩:=h.at ha;rw[e];exact f
theorem Ya{u:List pR}(h:oZ V u):∀(n x y:Nat) (c:Int),aHz u n x y c=true->∀m v,V[x]? =some m->V[y]? =some v->m<=v+c
 |0,x,y,c,f,m,v,j,g=>by
  simp only[aHz,aA,sQ,aF]at f;have:x=y:=aD f.1;subst this;rw[j]at g;cases g;omega
 |n+1,x,y,c,f,m,v,j,g=>by
  simp only[aHz]at f;split at f;rename_i e;have:x=y:=aD e;subst this;simp only[sQ,aF]at f;rw[j]at g;cases g;omega;split at f;rename_i e;have:x=0:=aD e;subst this;rw[eP]at f;obtain⟨q,p,f⟩:=f;cases q with
  |ne a b d=>simp at f|ev a b d=>simp at f|sm a b e d=>simp at f
  |le a b d=>
   simp only[aA,sQ,aF]at f;have B:a=0:=aD f.1;have z:b=y:=aD f.2.1;subst B z;obtain⟨w,s,i,k,o⟩:=h _ p;rw[j]at i;cases i;rw[g]at k;cases k;omega
  rw[eP]at f;obtain⟨q,p,f⟩:=f;cases q with
  |ne a b d=>simp at f|ev a b d=>simp at f|sm a b e d=>simp at f
  |le a b d=>
   simp only[aA]at f;have:a=x:=aD f.1;subst this;obtain⟨w,s,i,k,o⟩:=h _ p;rw[j]at i;cases i;have:=Ya h n b y (c-d) f.2 s v k g;omega
theorem Xa{m:List pR}(h:oZ V m):∀(n y:Nat) (c:Int),aGf m n y c=true->∀v i,V[0]? =some v->V[y]? =some i->v<=i+c
 |0,y,c,f,v,i,j,g=>by
  simp only[aGf,aA,sQ,aF]at f;have:0=y:=aD f.1;subst this;rw[j]at g;cases g;omega
 |n+1,y,c,f,v,i,j,g=>by
  simp only[aGf]at f;split at f;rename_i e;have:0=y:=aD e;subst this;simp only[sQ,aF]at f;rw[j]at g;cases g;omega;rw[eP]at f;obtain⟨q,u,f⟩:=f;cases q with
  |ne a b d=>simp at f|ev a b d=>simp at f|sm a b e d=>simp at f
  |le a b d=>
   simp only[aA]at f;have:b=y:=aD f.1;subst this;obtain⟨p,w,o,k,s⟩:=h _ u;rw[g]at k;cases k;have:=Xa h n a (c-d) f.2 v p j o;omega
theorem xR{d:List pR}(h:oZ V d)(n x y:Nat)(c:Int)(a:Ks d n x y c=true)(v b:Int)(g:V[x]? =some v)(f:V[y]? =some b):v<=b+c:=by
 unfold Ks at a;split at a;rename_i e;have:x=0:=aD e;subst this;exact Xa h n y c a v b g f;exact Ya h n x y c a v b g f
theorem oX{d:List pR}(h:oZ V d){x y:Nat}{a b:Int}(e:leq d x a y b=true){v c:Int}(f:V[x]? =some v)(g:V[y]? =some c):v+a<=c+b:=by
 have:=xR h pf x y (b-a) e v c f g;omega
theorem XD{b:List pR}(h:oZ V b)(e:V[0]? =some 0){k:iC}{s:Nat}{c v:Int}(a:lW b k s c=true)(d:V[s]? =some v):CL k (v+c):=by
 simp only[lW,aA]at a;have g:=oX h a.1 e d;have f:=oX h a.2 d e;exact⟨by omega,by omega⟩
theorem JZ{j:List pR}(h:oZ V j)(g:V[0]? =some 0){s:Nat}{v:Int}(f:V[s]? =some v):∀{l:List pR},oZ V l->∀{p:Int},Uk j l s=some p->(v-p)%2=0
 |[],_,p,a=>by
  simp only[Uk]at a;split at a;rename_i e;have:=aD e;subst this;rw[g]at f;cases f;cases a;rfl;cases a
 | .le .. ::r,b,p,a=>JZ h g f (λq d=>b q (aC _ d)) a| .sm .. ::r,b,p,a=>JZ h g f (λq d=>b q (aC _ d)) a| .ne .. ::r,b,p,a=>JZ h g f (λq d=>b q (aC _ d)) a
 | .ev x y c::r,b,p,a=>by
  simp only[Uk]at a;split at a;rename_i e;simp only[aA]at e;have o:=aD e.1;subst o;cases a;obtain⟨w,i,m,k,u⟩:=b _ aO;rw[f]at m;cases m;have z:=xR h _ _ _ _ e.2.1 i 0 k g;have B:=xR h _ _ _ _ e.2.2 0 i g k;obtain rfl:i=0:=by omega
  omega;exact JZ h g f (λq d=>b q (aC _ d)) a
theorem GA{j:List pR}(h:oZ V j)(g:V[0]? =some 0){s:Nat}{v:Int}(b:V[s]? =some v):∀{l:List pR},oZ V l->∀{p:Int},Ul j l s=some p->(v-p)%2=0
 |[],_,p,a=>JZ h g b h a| .sm .. ::r,d,p,a=>GA h g b (λq f=>d q (aC _ f)) a| .ne .. ::r,d,p,a=>GA h g b (λq f=>d q (aC _ f)) a| .ev .. ::r,d,p,a=>GA h g b (λq f=>d q (aC _ f)) a
 | .le x y c::r,d,p,a=>by
  have i:oZ V r:=λq f=>d q (aC _ f);simp only[Ul]at a;split at a;rename_i e;simp only[aA]at e;have o:=aD e.1;subst o;obtain⟨B,w,m,k,z⟩:=d _ aO;rw[b]at m;cases m;have C:=xR h _ _ _ _ e.2 w v k b;split at a;rename_i D u;cases a;have:=JZ h g k h u;omega;exact GA h g b i a;exact GA h g b i a
theorem aMg{e:List pR}(h:oZ V e)(f:V[0]? =some 0){x y:Nat}{c d v:Int}(j:V[x]? =some d)(g:V[y]? =some v)(a:d<=v+c):d<=v+aMf e x y c:=by
 unfold aMf;split;split;rename_i p q i k;have m:=GA h f j h i;have o:=GA h f g h k;split;exact a;rename_i b;have b:¬(q+c-p)%2=0:=by simpa using b
 omega;exact a;exact a
theorem NN{y:Nat}{c v:Int}(g:V[y]? =some v)(h:0<=v+c):∀{q r:List pR},oZ V q->oZ V r->oZ V (aBi y c q r)
 |[],r,_,d=>d| .le .. ::q,r,f,d=>NN g h (q:=q) (λx hx=>f x (aC _ hx)) d| .ne .. ::q,r,f,d=>NN g h (q:=q) (λx hx=>f x (aC _ hx)) d| .ev .. ::q,r,f,d=>NN g h (q:=q) (λx hx=>f x (aC _ hx)) d
 | .sm m a b e::q,r,f,d=>by
  have j:=NN g h (q:=q) (r:=r) (λx hx=>f x (aC _ hx)) d;simp only[aBi];split;rename_i i;have i:=aD i;subst i;obtain⟨z,o,k,s,u,p,w⟩:=f _ aO;rw[g]at k;cases k;intro x hx;rcases aY.1 hx with rfl|hx
  exact⟨o,u,s,p,by omega⟩;exact j x hx;exact j
theorem aFs{b:List pR}(h:oZ V b)(j:V[0]? =some 0){x y:Nat}{c d v:Int}(f:V[x]? =some d)(i:V[y]? =some v)(a:d<=v+c):oZ V (aFr b x y c):=by
 have g:oZ V (.le x y c::b):=λq hm=>by
  rcases aY.1 hm with rfl|hm;exact⟨d,v,f,i,a⟩;exact h q hm
 unfold aFr;split;rename_i e;have e:=aD e;subst e;rw[j]at f;cases f;exact NN i a h g;exact g
theorem xI(e:V[0]? =some 0):∀(q f:List pR),oZ V f->oZ V q->∃i,yO f q=some i/\oZ V i
 |[],f,h,_ =>⟨f,rfl,h⟩
 | .ev x y c::r,f,h,a=>by
  simp only[yO];refine xI e r _ (λq hm=> ?_) (λq hm=>a q (aC _ hm));rcases aY.1 hm with rfl|hm
  exact a _ aO;exact h q hm
 | .sm x y z c::r,f,h,a=>by
  simp only[yO];refine xI e r _ (λq hm=> ?_) (λq hm=>a q (aC _ hm));rcases aY.1 hm with rfl|hm
  exact a _ aO;exact h q hm
 | .le x y c::r,f,h,a=>by
  obtain⟨v,g,d,b,j⟩:=a _ aO;simp only[yO];split;rename_i p;have:=xR h _ _ _ _ p g v b d;omega;exact xI e r _ (aFs h e d b (aMg h e d b j)) (λq hm=>a q (aC _ hm))
 | .ne x y c::r,f,h,a=>by
  obtain⟨v,g,d,b,o⟩:=a _ aO;have k:oZ V r:=λq hm=>a q (aC _ hm);simp only[yO];split;rename_i s;have w:=xR h _ _ _ _ s v g d b;split;rename_i m;have u:=xR h _ _ _ _ m g v b d;omega;refine xI e r _ (λq hm=> ?_) k;rcases aY.1 hm with rfl|hm
  exact⟨v,g,d,b,by omega⟩;exact h q hm;split;rename_i m;have u:=xR h _ _ _ _ m g v b d;refine xI e r _ (λq hm=> ?_) k;rcases aY.1 hm with rfl|hm
  exact⟨g,v,b,d,by omega⟩;exact h q hm;exact xI e r _ h k
theorem Il{B:Bo}{b:Bool}(h:tX V B b):tX V B.not (!b):=by
 cases B with
 |lit x=>simp only[tX,Bo.not]at h⊢;rw[h]|imp p n=>exact⟨λe=>h.2 (by simpa using e),λe=>h.1 (by simpa using e)⟩
theorem yL(i:V[0]? =some 0){d:List pR}(h:oZ V d){B:Bo}{b:Bool}(e:tX V B b):∃a,(b,a)∈AZ d B/\oZ V a:=by
 cases B with
 |lit x=>simp only[tX]at e;subst e;exact⟨d,by simp[AZ],h⟩
 |imp p n=>
  cases b with
  |true=>
   obtain⟨c,g,f⟩:=xI i p d h (e.1 rfl);exact⟨c,by simp[AZ,g],f⟩
  |false=>
   obtain⟨c,g,f⟩:=xI i n d h (e.2 rfl);exact⟨c,by simp[AZ,g],f⟩
theorem aOq{i:List pR}(h:oZ V i){x y:Nat}{c a v:Int}(f:V[x]? =some a)(d:V[y]? =some v):tX V (Sf i x y c) (decide (a<=v+c)):=by
 unfold Sf;split;rename_i g;have:=xR h _ _ _ _ g a v f d;simpa [tX]using this;split;rename_i g;have:=xR h _ _ _ _ g v a d f;simp only[tX,decide_eq_false_iff_not];omega;refine⟨λe q b=> ?_,λe q b=> ?_⟩;simp only[bR]at b;subst b;exact⟨a,v,f,d,by simpa using e⟩;simp only[bR]at b;subst b;have:¬a<=v+c:=by simpa using e
 exact⟨v,a,d,f,by omega⟩
theorem Wy{g:List pR}(h:oZ V g){x y:Nat}{c a v:Int}(d:V[x]? =some a)(b:V[y]? =some v):tX V (aBa g x y c) (decide (a=v+c)):=by
 unfold aBa;split;rename_i hp;simp only[aA]at hp;have j:=xR h _ _ _ _ hp.1 a v d b;have i:=xR h _ _ _ _ hp.2 v a b d;simp only[tX,aF];omega;split;rename_i hp;simp only[bO]at hp;simp only[tX,decide_eq_false_iff_not];rcases hp with hp|hp
 have:=xR h _ _ _ _ hp a v d b;omega;have:=xR h _ _ _ _ hp v a b d;omega;refine⟨λe q f=> ?_,λe q f=> ?_⟩;have e:a=v+c:=by simpa using e
 simp only[aY,dF,fQ]at f;rcases f with rfl|rfl
 exact⟨a,v,d,b,by omega⟩;exact⟨v,a,b,d,by omega⟩;have e:¬a=v+c:=by simpa using e
 simp only[bR]at f;subst f;exact⟨a,v,d,b,by omega⟩
theorem sL(b:Bool):tX V tA b:=⟨λ_ q h=>by simp at h,λ_ q h=>by simp at h⟩
end
class jm where
 one:Option Int
instance iO:jm:=⟨none⟩
variable[jm]
section
variable{V V':gN}{U μ':gE}{n:Nat}{cs:List pR}
structure Sy(V:gN)(n:Nat)(cs:List pR):Prop where
 len:V.length=n
 zero:V[0]? =some 0
 cs:oZ V cs
 one:∀v,jm.one=some v->V[1]? =some v
theorem Sy.fst(a:Sy V n cs)(h:rX V V'):∀v,jm.one=some v->V'[1]? =some v:=λv b=>h _ _ (a.one v b)
def im(V:gN)(U:gE)(v:AV)(t:T):Prop:=∃b,rX V b/\Sy b v.nx v.cs/\Gm b U v.a t
theorem im.here(b:Sy V n cs){a:A}{t:T}(h:Gm V U a t):im V U ⟨a,n,cs⟩ t:=⟨V,.refl _,b,h⟩
theorem Sy.new(h:Sy V n cs)(v:Int):rX V (V++[v])/\(V++[v])[n]? =some v/\(V++[v]).length=n+1/\(V++[v])[0]? =some 0:=by
 refine⟨.app _ _,?_,by simp[h.len],(rX.app V [v]) _ _ h.zero⟩;rw[<-h.len];simp
theorem Sy.push(a:Sy V n cs)(v:Int)(b:List pR)(h:oZ (V++[v]) b):Sy (V++[v]) (n+1) (b++cs):=by
 obtain⟨c,f,d,e⟩:=a.new v;refine⟨d,e,λq hq=> ?_,a.fst c⟩;rcases bZ.1 hq with hq|hq;exact h q hq;exact(a.cs q hq).ext c
theorem oZ.cons{q:pR}{r:List pR}(h:UT V q)(a:oZ V r):oZ V (q::r):=λx hx=>by
 rcases aY.1 hx with rfl|hx;exact h;exact a x hx
theorem oZ.nil:oZ V []:=λq h=>by simp at h
theorem XC{b:Bool}{q:pR}(h:b=true->UT V q)(a:oZ V cs):oZ V (NK b q cs):=by
 unfold NK;split;exact .cons (h ‹_›) a;exact a
theorem Sy.fresh(h:Sy V n cs){v lo hi:Int}(c:lo<=v)(b:v<=hi):Sy (V++[v]) (n+1) (.le 0 n (-lo):: .le n 0 hi::cs):=by
 obtain⟨d,e,f,a⟩:=h.new v;exact h.push v [.le 0 n (-lo),.le n 0 hi] (.cons ⟨0,v,a,e,by omega⟩ (.cons ⟨v,0,e,a,by omega⟩ .nil))
theorem vE(k:iC)(n:Int):CL k (k.wrap n):=by
 cases k<;>simp[CL,IntKind.wrap,IntKind.min,IntKind.max,IntKind.bits,IntKind.signed]<;>omega
theorem KK{k:iC}{n:Int}(h:CL k n):k.wrap n=n:=by
 revert h;cases k<;>simp[CL,IntKind.wrap,IntKind.min,IntKind.max,IntKind.bits,IntKind.signed]<;>omega
theorem Za(b:Sy V n cs):∀(a:A) (t:T),Gm V U a t->∃w,rX V w/\Sy w (Ig a n cs).2.1 (Ig a n cs).2.2/\Gm w U (Ig a n cs).1 t:=by
 intro a t h;cases h with
 |ft k i p m d c g=>
  simp only[Ig];split;rename_i u;simp only[sQ,aF]at u;obtain rfl:m=i:=by omega
  have e:=Gm.int (V:=V) (U:=U) k 0 m 0 b.zero (by rw[fY];exact g);rw[fY]at e;exact⟨V,.refl _,b,e⟩;refine⟨V++[m],.app _ _,b.fresh d c,?_⟩;have:=(b.new m).2.1;have e:=Gm.int (V:=V++[m]) (U:=U) k n 0 m this (by simpa using g);rw[Int.add_zero]at e;exact e
 |fy i p l d c=>
  exact⟨V++[(l.length:Int)],.app _ _,b.fresh d c,.str n 0 _ l (b.new _).2.1 (by simp)⟩
 |gp e i p t o d c g s=>
  exact⟨V++[(o.length:Int)],.app _ _,b.fresh c g,.sl e n 0 t o _ d (b.new _).2.1 (by simp) (λx v=>(s x v).ext (.app _ _) (.refl _))⟩
 |gr q e i p t o y d c g s=>
  exact⟨V++[(o.length:Int)],.app _ _,b.fresh c g,.g7 q e n 0 t o _ y d (b.new _).2.1 (by simp) (λx v=>(s x v).ext (.app _ _) (.refl _))⟩
 |ig i p j m f d c=>
  exact⟨V++[(m:Int)],.app _ _,b.fresh d c,.sx n 0 j m f _ (b.new _).2.1 (by simp)⟩
 |_ =>exact⟨V,.refl _,b,by first|(constructor<;>assumption)|(simp only[Ig];first|constructor;assumption|skip)⟩
theorem Zb:∀(b:List A) (n:Nat) (c:List pR) (V:gN) (d:gC),Sy V n c->pT V U b d->∃f,rX V f/\Sy f (aJk b n c).2.1 (aJk b n c).2.2/\pT f U (aJk b n c).1 d
 |[],n,c,V,d,e,h=>⟨V,.refl _,e,h⟩
 |a::b,n,c,V,d,e,h=>by
  obtain⟨t,r,rfl,p,o⟩:=h.I;obtain⟨j,g,m,q⟩:=Za e a t p;obtain⟨k,i,s,u⟩:=Zb b _ _ j r m (o.ext g (.refl _));exact⟨k,g.trans i,s,pT.cons (q.ext i (.refl _)) u⟩
theorem Yz(f:Sy V n cs){a:A}{t:T}(h:Gm V U a t):∃c,rX V c/\Sy c (Ol a n cs).2.1 (Ol a n cs).2.2/\Gm c U (Ol a n cs).1 t:=by
 by_cases d:∃b,a= .agg b;obtain⟨b,rfl⟩:=d;cases h with
 |agg _ m k i=>
  obtain⟨c,j,s,g⟩:=Zb b n cs V m f ⟨k,i⟩;exact⟨c,j,s,.agg _ _ g.1 g.2⟩
 have e:Ol a n cs=Ig a n cs:=by cases a<;>first|rfl|exact absurd ⟨_,rfl⟩ d
 rw[e];exact Za f a t h
theorem Oo:∀(b:List A) (n:Nat) (c:List pR) (V:gN) (d:gC),Sy V n c->pT V U b d->∃f,rX V f/\Sy f (Om b n c).2.1 (Om b n c).2.2/\pT f U (Om b n c).1 d
 |[],n,c,V,d,e,h=>⟨V,.refl _,e,h⟩
 |a::b,n,c,V,d,e,h=>by
  obtain⟨t,r,rfl,p,o⟩:=h.I;obtain⟨j,g,m,q⟩:=Yz e p;obtain⟨k,i,s,u⟩:=Oo b _ _ j r m (o.ext g (.refl _));exact⟨k,g.trans i,s,pT.cons (q.ext i (.refl _)) u⟩
theorem rB(d:Sy V n cs){a:A}{t:T}(h:Gm V U a t):im V U (uO a n cs) t:=by
 by_cases c:∃b,a= .fm b;obtain⟨b,rfl⟩:=c;cases h with
 |fm _ k j f=>
  obtain⟨m,i,s,g⟩:=Oo b n cs V k d ⟨j,f⟩;exact⟨m,i,s,.fm _ _ g.1 g.2⟩
 have e:oB a n cs=Ol a n cs:=by cases a<;>first|rfl|exact absurd ⟨_,rfl⟩ c
 unfold uO im;rw[e];exact Yz d h
theorem XZ(c:V[0]? =some 0){v:gZ}{a:A}(h:JW v=some a):∃t,XY v=some t/\Gm V U a t/\IV v=some a/\ST v=some t:=by
 unfold JW at h;split at h;rename_i k m;split at h;rename_i b;cases h;simp only[aA,sQ,aF]at b;have e:=Gm.int (V:=V) (U:=U) k 0 m 0 c (by rw[fY];exact b);rw[fY]at e;exact⟨_,rfl,e,by simp[IV,JW,sQ,b],rfl⟩;cases h
 all_goals first|(cases h;done)|skip
 cases h;exact⟨_,rfl,.bool _ _ rfl,rfl,rfl⟩;cases h;exact⟨_,rfl,.gh _,rfl,rfl⟩;cases h;exact⟨_,rfl,.fS,rfl,rfl⟩;cases h;exact⟨_,rfl,.fp,rfl,rfl⟩;cases h;exact⟨_,rfl,.gg,rfl,rfl⟩;cases h;exact⟨_,rfl,.gb,rfl,rfl⟩;cases h;exact⟨_,rfl,.fw,rfl,rfl⟩
theorem SS(e:V[0]? =some 0):∀(d:gV) (b:List A),IU d=some b->∃c,FZ d=some c/\pT V U b c
 |[],b,h=>by simp[IU]at h;subst h;exact⟨[],rfl,.nil⟩
 |v::d,b,h=>by
  simp only[IU]at h;split at h;rename_i a j;split at h;rename_i r m;cases h;obtain⟨t,i,g,_⟩:=XZ (U:=U) e j;obtain⟨c,f,k⟩:=SS e d r m;exact⟨t::c,by simp[FZ,i,f],pT.cons g k⟩;cases h;cases h
theorem Dj(e:V[0]? =some 0){v:gZ}{a:A}(h:IV v=some a):∃t,ST v=some t/\Gm V U a t:=by
 unfold IV at h;split at h;split at h;rename_i i j c;cases h;obtain⟨u,f,b⟩:=SS (U:=U) e _ _ c;exact⟨.agg u,by simp[ST,f],.agg _ _ b.1 b.2⟩;cases h;split at h;rename_i k d;cases h;exact⟨.fm [],by simp[ST,d],tN⟩;cases h;obtain⟨t,_,b,_,g⟩:=XZ (U:=U) e h;exact⟨t,g,b⟩
def lZ(gl:gG)(ga:Nat->Option A):Prop:=∀g a,ga g=some a->∃t,gl g=some t/\∀(V:gN) (U:gE),V[0]? =some 0->Gm V U a t
section
variable{gl:gG}{ga:Nat->Option A}{fa:List A}{fr:gC}
theorem sV(i:lZ gl ga)(b:V[0]? =some 0)(c:pT V U fa fr){x:jH}{a:A}(h:LK ga fa x=some a):∃t,pQ gl fr x=some t/\Gm V U a t:=by
 cases x with
 |tmp t=>simp only[LK]at h;cases h;exact⟨_,rfl,c.get t⟩|const v=>exact Dj b h|global g=>obtain⟨t,d,e⟩:=i g a h;exact⟨t,d,e V U b⟩
 |func f=>simp only[LK]at h;cases h;exact⟨_,rfl,.fn f [] [] [] [] rfl (λj a t h=>by simp at h) rfl (λj a t h=>by simp at h)⟩
theorem yS(f:lZ gl ga)(g:V[0]? =some 0)(e:pT V U fa fr):∀{d:List Operand} {b:List A},EC ga fa d=some b->∃c,vN gl fr d=some c/\pT V U b c
 |[],b,h=>by simp[EC]at h;subst h;exact⟨[],rfl,.nil⟩
 |x::d,b,h=>by
  simp only[EC]at h;split at h;rename_i a k;split at h;rename_i r p;cases h;obtain⟨t,j,m⟩:=sV f g e k;obtain⟨c,i,o⟩:=yS f g e p;exact⟨t::c,by simp[vN,j,i],pT.cons m o⟩;cases h;cases h
theorem JY(f:lZ gl ga)(g:V[0]? =some 0)(e:pT V U fa fr):∀{d:List (Nat×Operand)} {b:List (Nat×A)},MG ga fa d=some b->
  ∃c,g9 gl fr d=some c/\b.map Prod.fst=c.map Prod.fst/\pT V U (b.map Prod.snd) (c.map Prod.snd)
 |[],b,h=>by simp[MG]at h;subst h;exact⟨[],rfl,rfl,.nil⟩
 |(i,x)::d,b,h=>by
  simp only[MG]at h;split at h;rename_i a o;split at h;rename_i r s;cases h;obtain⟨t,m,k⟩:=sV f g e o;obtain⟨c,j,p,q⟩:=JY f g e s;exact⟨(i,t)::c,by simp[g9,m,j],by simp[p],pT.cons k q⟩;cases h;cases h
theorem Zj(g:lZ gl ga)(i:V[0]? =some 0)(d:pT V U fa fr){x:Option Operand}{a:Option A}(h:aJx (LK ga fa) x=some a):
  ∃t,OP (pQ gl fr) x=some t/\(match a,t with|none,none=>True|some a,some t=>Gm V U a t|_,_ =>False):=by
 cases x with
 |none=>simp only[aJx]at h;cases h;exact⟨none,rfl,trivial⟩
 |some x=>
  simp only[aJx]at h;split at h;rename_i b c;cases h;obtain⟨t,f,e⟩:=sV g i d c;exact⟨some t,by simp[OP,f],e⟩;cases h
end
theorem zH(d:V[0]? =some 0){P:gD}{t:gB}{a:A}(h:EW P t=some a):∃z,wM P t=some z/\Gm V U a z:=by
 unfold EW at h;unfold wM;split at h;rename_i i c;split at h;rename_i v b;rw[c];simp only[b];exact Dj d h;cases h;cases h
theorem Xz{a:A}{t:T}(h:Gm V U a t)(d:a.flat=true):t.one=true/\t.isAgg=false:=by
 cases h with
 |top=>simp[A.flat]at d|or=>simp[A.flat]at d|agg=>simp[A.flat]at d|fm=>simp[A.flat]at d|ia=>simp[A.flat]at d|g7 q e s c _ x v f b=>rcases b with⟨rfl,_⟩|⟨_,rfl⟩|⟨_,_,_,rfl,_⟩<;>exact⟨rfl,rfl⟩
 |gr q e i g _ x f b=>rcases b with⟨rfl,_⟩|⟨_,rfl⟩|⟨_,_,_,rfl,_⟩<;>exact⟨rfl,rfl⟩
 |ie j _ x b=>rcases b with⟨rfl,_⟩|⟨_,rfl⟩|⟨_,_,_,rfl,_⟩<;>exact⟨rfl,rfl⟩
 |any _ h=>exact⟨h,by cases t<;>simp_all [T.one,T.isAgg]⟩|sl e s c _ x v b=>rcases b with⟨rfl,_⟩|⟨_,rfl⟩|⟨_,_,_,rfl,_⟩<;>exact⟨rfl,rfl⟩
 |gp e i g _ x b=>rcases b with⟨rfl,_⟩|⟨_,rfl⟩|⟨_,_,_,rfl,_⟩<;>exact⟨rfl,rfl⟩
 |_ =>exact⟨rfl,rfl⟩
theorem SB:∀{c:List A} {a:A},NA c=true->a∈c->a.flat=true
 |b::d,a,h,hm=>by
  simp only[NA,aA]at h;rcases aY.1 hm with rfl|hm
  exact h.1;exact SB h.2 hm
theorem RH{a:A}{t:T}(h:Gm V U a t)(d:a.one=true):t.one=true/\t.isAgg=false:=by
 by_cases e:∃c,a= .or c;obtain⟨c,rfl⟩:=e;cases h with
 |or _ b _ g f=>exact Xz f (SB d g)
 refine Xz h ?_;cases a<;>first|exact d|exact absurd ⟨_,rfl⟩ e
theorem FB{t:T}(h:t.isAgg=false):t.cells=[t]:=by cases t<;>simp_all [T.isAgg,T.cells]
theorem aCm{a:A}(h:a.one=true):a.isAgg=false/\a.cells=[a]:=by
 cases a<;>simp_all [A.one,A.isAgg,A.cells,A.flat]
theorem qU{a:A}{t:T}(h:Gm V U a t)(o:a.known=true):t.isAgg=a.isAgg/\pT V U a.cells t.cells:=by
 by_cases g:∃b,a= .agg b;obtain⟨b,rfl⟩:=g;cases h with
 |agg _ j d c=>exact⟨rfl,d,c⟩
 by_cases f:∃b,a= .fm b;obtain⟨b,rfl⟩:=f;cases h with
 |fm _ j d c=>exact⟨rfl,pT.nil.cons (.fm _ _ d c)⟩
 by_cases e:∃q b,a= .ia q b;obtain⟨q,b,rfl⟩:=e;cases h with
 |ia _ _ j _ d c=>exact⟨rfl,d,c⟩
 have i:a.one=true:=by cases a<;>first|exact o|exact absurd ⟨_,rfl⟩ g|exact absurd ⟨_,rfl⟩ f|exact absurd ⟨_,_,rfl⟩ e
 obtain⟨_,q⟩:=RH h i;obtain⟨m,k⟩:=aCm i;rw[k,FB q];exact⟨q.trans m.symm,pT.nil.cons h⟩
theorem BT{b:List A}{d:gC}(h:pT V U b d)(c:uB b=true):qO d=true:=by
 induction b generalizing d with
 |nil=>rw[h.ae];rfl
 |cons a b i=>
  obtain⟨t,r,rfl,f,e⟩:=h.I;simp only[uB,aA]at c;simp only[qO,aA];exact⟨(RH f c.1).1,i e c.2⟩
theorem EL{P:gD}{t:gB}{c:List A}{f:gC}(h:pT V U c f){o:Nat}{a:A}(b:SV P t c o=some a):∃r,wK P t f o=some r/\Gm V U a r:=by
 unfold SV at b;unfold wK;split at b;rename_i d;rw[d];split at b;rename_i m g;simp only[g];split at b;rename_i e;cases b;rw[aJ (by rw[<-h.1];exact e)];have:=(h.drop o).take m;exact⟨_,rfl,.agg _ _ this.1 this.2⟩;cases b;cases b;rename_i d;rw[d];exact h.at b;cases b
theorem aKd{P:gD}{t:gB}{x:A}{u:T}(h:Gm V U x u)(g:x.known=true){o:Nat}{a:A}(b:aKc P t x o=some a):∃r,wK P t u.cells o=some r/\Gm V U a r:=by
 unfold aKc at b;split at b
 .rename_i q i;split at b
  .rename_i f;cases b;cases h with
   |ia _ _ e m d k=>
   simp only[aA,bN]at f;obtain⟨⟨c,j⟩,p⟩:=f;have c:=aD c;subst c;refine⟨.agg e,?_,.ia q i e m d k⟩;simp only[wK,j,p,T.cells,d,cG,bB,cB,fD,List.take_length]
  exact EL (qU h g).2 b
 exact EL (qU h g).2 b
end
end Go.Ps
namespace Go.Ps
variable[Inhabited gy][jm]
section
variable{V:gN}{U:gE}{n:Nat}{cs:List pR}
theorem tM{k:iC}{s:Nat}{c v x:Int}(h:V[s]? =some v)(b:x=v+c)(a:CL k x):Gm V U (.int k s c) (.int k x):=by
 subst b;exact .int k s c v h a
theorem wD(a:Sy V n cs){k:iC}{x:Int}(h:CL k x):im V U (uO (.ft k k.min k.max) n cs) (.int k x):=
 rB a (.ft k _ _ x h.1 h.2 h)
theorem JR(a:Sy V n cs){k:iC}{s:Nat}{c v x:Int}(h:V[s]? =some v)(b:x=v+c):im V U (Oh n cs k s c) (.int k (k.wrap x)):=by
 unfold Oh;split;rename_i d;have:=XD a.cs a.zero d h;rw[<-b]at this;rw[KK this];exact .here a (tM h b this);exact wD a (vE k x)
theorem DE(h:Sy V n cs){k:iC}{x:Int}(e:CL k x){q:List pR}(f:oZ (V++[x]) q):im V U ⟨.int k n 0,n+1,q⟩ (.int k x):=by
 obtain⟨a,c,b,d⟩:=h.new x;exact⟨V++[x],a,⟨b,d,f,h.fst a⟩,tM c (by omega) e⟩
theorem PD(a:Sy V n cs){s:Nat}{c v:Int}(h:RS cs s c=true)(b:V[s]? =some v):-1000000000000000000<=v+c/\v+c<=1000000000000000000:=by
 simp only[RS,aA]at h;have e:=oX a.cs h.1 a.zero b;have d:=oX a.cs h.2 b a.zero;omega
theorem vC{x:Int}(h:-9223372036854775808<=x/\x<=9223372036854775807):CL .i64 x:=by
 simp only[CL,IntKind.min,IntKind.max,IntKind.bits,IntKind.signed];simp;omega
theorem BA{s:Nat}{v:Int}(f:V[0]? =some 0)(a:V[s]? =some v):∀{i:List pR},oZ V i->∀{u:Int},ju s i=some u->v<=u
 |[],_,u,h=>by
  simp only[ju]at h;split at h;rename_i e;have:=aD e;subst this;rw[f]at a;cases a;cases h;omega;cases h
 | .le x y d::r,b,u,h=>by
  have g:oZ V r:=λq c=>b q (aC _ c);simp only[ju]at h;split at h;rename_i e;simp only[aA]at e;have m:=aD e.1;have o:=aD e.2;subst m o;obtain⟨C,B,k,j,w⟩:=b _ aO;rw[a]at k;cases k;rw[f]at j;cases j;split at h;rename_i p;have:=BA f a g p;cases h;split<;>omega;cases h;omega;exact BA f a g h
 | .ne x y d::r,b,u,h=>BA f a (λq c=>b q (aC _ c)) h| .sm x y z d::r,b,u,h=>BA f a (λq c=>b q (aC _ c)) h| .ev x y d::r,b,u,h=>BA f a (λq c=>b q (aC _ c)) h
theorem MQ{s:Nat}{v:Int}(c:V[0]? =some 0)(b:V[s]? =some v){p:List pR}(a:oZ V p):∀{o:List pR},oZ V o->∀{u:Int},lD p s o=some u->v<=u
 |[],_,u,h=>by
  simp only[lD]at h;split at h;rename_i e;have:=aD e;subst this;rw[c]at b;cases b;cases h;omega;cases h
 | .le x y d::r,f,u,h=>by
  have j:oZ V r:=λq g=>f q (aC _ g);simp only[lD]at h;split at h;rename_i e;have C:=aD e;subst C;obtain⟨K,D,B,k,J⟩:=f _ aO;rw[b]at B;cases B;split at h;rename_i w i;have E:D<=w:=by
   split at i;rename_i m;have m:=aD m;subst m;rw[c]at k;cases k;cases i;omega;exact BA c k a i
  split at h;rename_i I;have:=MQ c b a j I;cases h;split<;>omega;cases h;omega;exact MQ c b a j h;exact MQ c b a j h
 | .ne x y d::r,f,u,h=>MQ c b a (λq g=>f q (aC _ g)) h| .sm x y z d::r,f,u,h=>MQ c b a (λq g=>f q (aC _ g)) h| .ev x y d::r,f,u,h=>MQ c b a (λq g=>f q (aC _ g)) h
theorem ZN{s:Nat}{v:Int}{c:List pR}(d:V[0]? =some 0)(b:V[s]? =some v)(a:oZ V c){u:Int}(h:ub s c=some u):v<=u:=MQ d b a a h
theorem AY{s:Nat}{v:Int}(f:V[0]? =some 0)(a:V[s]? =some v):∀{i:List pR},oZ V i->∀{u:Int},jv s i=some u->u<=v
 |[],_,u,h=>by
  simp only[jv]at h;split at h;rename_i e;have:=aD e;subst this;rw[f]at a;cases a;cases h;omega;cases h
 | .le x y d::r,b,u,h=>by
  have g:oZ V r:=λq c=>b q (aC _ c);simp only[jv]at h;split at h;rename_i e;simp only[aA]at e;have m:=aD e.1;have o:=aD e.2;subst m o;obtain⟨C,B,k,j,w⟩:=b _ aO;rw[f]at k;cases k;rw[a]at j;cases j;split at h;rename_i p;have:=AY f a g p;cases h;split<;>omega;cases h;omega;exact AY f a g h
 | .ne x y d::r,b,u,h=>AY f a (λq c=>b q (aC _ c)) h| .sm x y z d::r,b,u,h=>AY f a (λq c=>b q (aC _ c)) h| .ev x y d::r,b,u,h=>AY f a (λq c=>b q (aC _ c)) h
theorem Vz{m:Int}(h:V[n]? =some m)(a:V[0]? =some 0){r:List pR}(b:oZ V r){o:Option Int}(d:m<=2000000000000000000)(c:∀u,o=some u->m<=u):oZ V (nH n r o):=by
 cases o with
 |none=>exact .cons ⟨_,_,h,a,by omega⟩ b|some u=>exact .cons ⟨_,_,h,a,by have:=c u rfl;omega⟩ b
theorem aJc{m:Int}(h:V[n]? =some m)(a:V[0]? =some 0){r:List pR}(b:oZ V r){o:Option Int}(d:-2000000000000000000<=m)(c:∀u,o=some u->u<=m):oZ V (oC n r o):=by
 cases o with
 |none=>exact .cons ⟨_,_,a,h,by omega⟩ b|some u=>exact .cons ⟨_,_,a,h,by have:=c u rfl;omega⟩ b
theorem Fo{a b:Option Int}{c u:Int}(h:aFt a b c=some u):∃x y,a=some x/\b=some y/\u=x+y+c:=by
 cases a<;>cases b<;>simp only[aFt]at h<;>cases h;exact⟨_,_,rfl,rfl,rfl⟩
theorem aAk{a b:Option Int}{c u:Int}(h:aTj a b c=some u):∃x y,a=some x/\b=some y/\u=x-y+c:=by
 cases a<;>cases b<;>simp only[aTj]at h<;>cases h;exact⟨_,_,rfl,rfl,rfl⟩
theorem TT{m w:Int}{s:Nat}{c:Int}(h:V[n]? =some m)(b:V[s]? =some w){r:List pR}(a:oZ V r){o:Option Int}(d:∀u,o=some u->m<=w+(u+c)):oZ V (aBq n s c r o):=by
 cases o with
 |none=>exact a
 |some u=>
  simp only[aBq];split;exact .cons ⟨_,_,h,b,d u rfl⟩ a;exact a
theorem PG{u s:Nat}{p B w v m:Int}{C:List pR}(k:oZ V C)(j:V[u]? =some w)(i:V[s]? =some v){o:gN}(f:rX V o)(g:o[n]? =some m)(a:m=w+p+(v+B)):∀{q r:List pR},oZ V q->oZ o r->oZ o (aMb C n u p s B q r)
 |[],r,_,h=>h| .le .. ::q,r,b,h=>PG k j i f g a (q:=q) (λx d=>b x (aC _ d)) h| .ne .. ::q,r,b,h=>PG k j i f g a (q:=q) (λx d=>b x (aC _ d)) h| .ev .. ::q,r,b,h=>PG k j i f g a (q:=q) (λx d=>b x (aC _ d)) h
 | .sm x y z c::q,r,b,h=>by
  simp only[aMb];split;rename_i e;simp only[aA]at e;have I:=aD e.1;subst I;obtain⟨J,N,K,D,L,E,M⟩:=b _ aO;rw[j]at D;cases D;have:=xR k _ _ _ _ e.2 v J i K;exact .cons ⟨_,L,g,f _ _ E,by omega⟩ h;exact PG k j i f g a (λx d=>b x (aC _ d)) h
theorem aOc(a:Sy V n cs){k:iC}{p s:Nat}{j m i v:Int}(c:V[p]? =some i)(b:V[s]? =some v):
  im V U (aXc n cs k p j s m) (.int k (k.wrap (i+j+(v+m)))):=by
 unfold aXc;split;rename_i e;have:s=0:=aD e;subst this;rw[a.zero]at b;cases b;exact JR a c (by omega);split;rename_i _ e;have:p=0:=aD e;subst this;rw[a.zero]at c;cases c;exact JR a b (by omega);split;rename_i B;simp only[aA,bN]at B;obtain⟨⟨rfl,b1⟩,b2⟩:=B;have b1:=PD a b1 c;have b2:=PD a b2 b;have z:CL .i64 (i+j+(v+m)):=vC (by omega);rw[KK z];obtain⟨g,d,C,w⟩:=a.new (i+j+(v+m));refine DE a z (PG a.cs c b g d rfl a.cs (XC (λh=>⟨v,_,g _ _ b,d,?_⟩) (XC (λh=>⟨i,_,g _ _ c,d,?_⟩) (aJc d w (Vz d w (TT d (g _ _ c) (TT d (g _ _ b) (a.cs.ext g) λu f=> ?_) λu f=> ?_) (by omega) λu f=> ?_) (by omega) λu f=> ?_))));have:=oX a.cs h a.zero c;split;rename_i h;have:=oX a.cs h a.zero c;omega;omega;have:=oX a.cs h a.zero b;split;rename_i h;have:=oX a.cs h a.zero b;omega;omega;have:=ZN a.zero c a.cs f;omega;have:=ZN a.zero b a.cs f;omega;obtain⟨x,y,o,q,rfl⟩:=Fo f;have:=ZN a.zero c a.cs o;have:=ZN a.zero b a.cs q;omega;obtain⟨x,y,o,q,rfl⟩:=Fo f;have:=AY a.zero c a.cs o;have:=AY a.zero b a.cs q;omega;exact wD a (vE k _)
theorem aTi(a:Sy V n cs){k:iC}{o s:Nat}{d f v g:Int}(c:V[o]? =some v)(b:V[s]? =some g):
  im V U (bAv n cs k o d s f) (.int k (k.wrap (v+d-(g+f)))):=by
 unfold bAv;split;rename_i e;have:s=0:=aD e;subst this;rw[a.zero]at b;cases b;exact JR a c (by omega);split;rename_i _ e;have:o=s:=aD e;subst this;rw[c]at b;cases b;exact JR a a.zero (by omega);split;rename_i B;simp only[aA,bN]at B;obtain⟨⟨rfl,b1⟩,b2⟩:=B;have b1:=PD a b1 c;have b2:=PD a b2 b;have z:CL .i64 (v+d-(g+f)):=vC (by omega);rw[KK z];obtain⟨w,i,C,j⟩:=a.new (v+d-(g+f));refine DE a z (XC (λh=>⟨_,v,i,w _ _ c,?_⟩) (XC (λh=>⟨0,_,j,i,?_⟩) (aJc i j (Vz i j (a.cs.ext w) (by omega) λu p=> ?_) (by omega) λu p=> ?_)));have:=oX a.cs h a.zero b;omega;have:=oX a.cs h b c;omega;obtain⟨x,y,m,q,rfl⟩:=aAk p;have:=ZN a.zero c a.cs m;have:=AY a.zero b a.cs q;omega;obtain⟨x,y,m,q,rfl⟩:=aAk p;have:=AY a.zero c a.cs m;have:=ZN a.zero b a.cs q;omega;exact wD a (vE k _)
theorem Di(c:V[0]? =some 0){o:jE}{a:A}(h:YA o=some a):∃t,o=some t/\Gm V U a t:=by
 unfold YA at h;split at h;rename_i k m;split at h;rename_i b;cases h;simp only[aA,sQ,aF]at b;exact⟨_,rfl,tM c (by omega) b⟩;cases h;cases h;exact⟨_,rfl,.bool _ _ rfl⟩;cases h
theorem Qs{k:iC}{a:Int}(b:Int)(h:CL k a):CL k (a.tmod b):=by
 have f:k.min<=0:=by cases k<;>simp[IntKind.min,IntKind.bits,IntKind.signed]
 have g:0<=k.max:=by cases k<;>simp[IntKind.max,IntKind.bits,IntKind.signed]
 rcases Int.le_total 0 a with ha|ha;have c:0<=a.tmod b:=Int.tmod_nonneg b ha;have e:a.tmod b<=a:=by
  have:=Int.natAbs_tmod a b;have d:(a.natAbs%b.natAbs)<=a.natAbs:=Nat.mod_le _ _;omega
 exact⟨by omega,by have:=h.2;omega⟩;have c:0<=(-a).tmod b:=Int.tmod_nonneg b (by omega);rw[Int.neg_tmod]at c;have e:a<=a.tmod b:=by
  have:=Int.natAbs_tmod a b;have d:(a.natAbs%b.natAbs)<=a.natAbs:=Nat.mod_le _ _;omega
 exact⟨by have:=h.1;omega,by omega⟩
theorem aRy(h:Sy V n cs){k:iC}{d s:Nat}{c a v b:Int}(j:V[d]? =some v)(i:V[s]? =some b):im V U (aZl n cs k d c s a) (.int k (k.wrap ((v+c)*(b+a)))):=by
 unfold aZl;split;rename_i e u f q p z w o;have C:=AY h.zero j h.cs p;have E:=BA h.zero j h.cs z;have I:=AY h.zero i h.cs w;have D:=BA h.zero i h.cs o;split;rename_i m;simp only[aA,sQ,aF]at m;obtain⟨b1,b2,b3⟩:=m;have y:(e+c)*(f+a)<=(v+c)*(b+a):=Int.mul_le_mul (by omega) (by omega) b2 (by omega);have x:(v+c)*(b+a)<=(u+c)*(q+a):=Int.mul_le_mul (by omega) (by omega) (by omega) (by omega);have B:0<=(e+c)*(f+a):=Int.mul_nonneg b1 b2;have g:CL k ((v+c)*(b+a)):=by
  refine⟨?_,by omega⟩;have:k.min<=0:=by(cases k<;>simp[IntKind.min,IntKind.bits,IntKind.signed])
  omega
 rw[KK g];exact rB h (.ft _ _ _ _ y x g);exact wD h (vE k _);exact wD h (vE k _)
theorem aRz(a:Sy V n cs){k:iC}{s:Nat}{c v:Int}(h:V[s]? =some v)(b:CL k (v+c)):im V U (aZo n cs k s c) (.int k (k.wrap (0-(v+c)))):=by
 unfold aZo;split;rename_i l i;have m:=AY a.zero h a.cs i;split;rename_i f;simp only[aA,sQ,aF]at f;obtain⟨d,b1⟩:=f;have d:k= .i64:=by simpa using d
 subst d;have j:v+c<=9223372036854775807:=b.2;have e:CL .i64 (0-(v+c)):=vC (by omega);rw[KK e];refine rB a (.ft _ _ _ _ ?_ (by omega) e);split;rename_i u g;have:=BA a.zero h a.cs g;omega;omega;exact wD a (vE k _);exact wD a (vE k _)
theorem aPk(a:Sy V n cs){z:jU}{k:iC}{y w:Nat}{f c d B:Int}(s:V[y]? =some d)(g:V[w]? =some B)(i1:CL k (d+f)){v:AV}
  (h:aPj n cs z k y f w c=some v):∃t,xP z k (d+f) (B+c)=some t/\im V U v t:=by
 have D:∀{b:Bool},(b=true->True)->(leq cs 0 1 w c||leq cs w c 0 (-1))=true->B+c≠0:=by
  intro _ _ hh;simp only[bO]at hh;rcases hh with hh|hh
  have:=oX a.cs hh a.zero g;omega;have:=oX a.cs hh g a.zero;omega
 cases z<;>simp only[aPj]at h<;>try(cases h;done)
 case mul=>cases h;exact⟨_,rfl,aRy a s g⟩
 case and=>cases h;exact⟨_,rfl,wD a (vE k _)⟩
 case or=>cases h;exact⟨_,rfl,wD a (vE k _)⟩
 case xor=>cases h;exact⟨_,rfl,wD a (vE k _)⟩
 case andNot=>cases h;exact⟨_,rfl,wD a (vE k _)⟩
 case quo=>
  split at h;rename_i m;cases h;simp only[aA,sQ,aF]at m;have e:w=0:=aD m.1.1;subst e;rw[a.zero]at g;cases g;have C:=oX a.cs m.2 a.zero s;have i:0+c≠0:=by omega
  have E:0<=(d+f).tdiv (0+c):=Int.tdiv_nonneg (by omega) (by omega);have N:(d+f).tdiv (0+c)<=d+f:=by
   rw[Int.tdiv_eq_ediv_of_nonneg (by omega)];exact Int.ediv_le_self _ (by omega)
  have x : CL k ((d + f).tdiv (0 + c)) := ⟨by have:k.min<=0:=by(cases k<;>simp[IntKind.min,IntKind.bits,IntKind.signed])
                                              omega,by have:=i1.2;omega⟩
  refine⟨.int k ((d+f).tdiv (0+c)),by simp only[xP];rw[aH i,KK x],?_⟩;obtain⟨p,j,M,o⟩:=a.new ((d+f).tdiv (0+c));refine DE a x (.cons ⟨0,_,o,j,by omega⟩ (.cons ⟨_,d,j,p _ _ s,by omega⟩ (.cons ⟨_,0,j,o,?_⟩ (a.cs.ext p))));split;rename_i u O;have Q:=BA a.zero s a.cs O;have I:(d+f).tdiv (0+c)<=(u+f)/(0+c):=by
   rw[Int.tdiv_eq_ediv_of_nonneg (by omega)];exact Int.ediv_le_ediv (by omega) (by omega)
  rw[fY]at I⊢;omega;have:=x.2;omega;split at h;rename_i m;cases h;have i:=D (b:=true) (λ_ =>trivial) m;exact⟨_,by simp only[xP];rw[aH i],wD a (vE k _)⟩;cases h
 case rem=>
  split at h;rename_i m;simp only[aA,sQ,aF]at m;have e:w=0:=aD m.1;subst e;rw[a.zero]at g;cases g;have i:0+c≠0:=by omega
  have x:=Qs (0+c) i1;obtain⟨p,j,M,o⟩:=a.new ((d+f).tmod (0+c));refine⟨.int k ((d+f).tmod (0+c)),by simp only[xP];rw[aH i],?_⟩;have J:(d+f).tmod (0+c)<0+c:=Int.tmod_lt_of_pos _ (by omega);split at h;rename_i K;cases h;have C:=oX a.cs K a.zero s;have E:0<=(d+f).tmod (0+c):=Int.tmod_nonneg _ (by omega);have N:(d+f).tmod (0+c)<=d+f:=by
   have:=Int.natAbs_tmod (d+f) (0+c);have L:((d+f).natAbs%(0+c).natAbs)<=(d+f).natAbs:=Nat.mod_le _ _;omega
  refine DE a x ?_;have i:=oZ.cons (V:=V++[(d+f).tmod (0+c)]) (q:= .le 0 n 0) ⟨0,_,o,j,by omega⟩ (.cons (q:= .le n y f) ⟨_,d,j,p _ _ s,by omega⟩ (.cons (q:= .le n 0 (c-1)) ⟨_,0,j,o,by omega⟩ (a.cs.ext p)));unfold NK;split;rename_i g;have g:c=2:=by simpa using g
  subst g;refine .cons ⟨d,_,p _ _ s,j,?_⟩ i;rw[fY,Int.tmod_eq_emod_of_nonneg C];omega;exact i;cases h;have E:-(0+c)<(d+f).tmod (0+c):=by
   have:=Int.natAbs_tmod (d+f) (0+c);have L:((d+f).natAbs%(0+c).natAbs)<(0+c).natAbs:=Nat.mod_lt _ (by omega);omega
  exact DE a x (.cons ⟨0,_,o,j,by omega⟩ (.cons ⟨_,0,j,o,by omega⟩ (a.cs.ext p)));split at h;rename_i m;cases h;have i:=D (b:=true) (λ_ =>trivial) m;exact⟨_,by simp only[xP];rw[aH i],wD a (Qs _ i1)⟩;cases h
theorem aQn(d:Sy V n cs){o:jU}{k:iC}{q s:Nat}{i m p z:Int}(g:V[q]? =some p)(f:V[s]? =some z)(i1:CL k (p+i)){v:AV}
  (h:aYp n cs o k q i s m=some v):∃t,xP o k (p+i) (z+m)=some t/\im V U v t:=by
 have rz:∀{x y:Nat} {c w u:Int} {b:Bool},V[x]? =some w->V[y]? =some u->b=decide (w=u+c)->tX V (aBa cs x y c) b:=λE C e=>e▸Wy d.cs E C;have j:∀{x y:Nat} {c w u:Int} {b:Bool},V[x]? =some w->V[y]? =some u->b=decide (w<=u+c)->tX V (Sf cs x y c) b:=λE C e=>e▸aOq d.cs E C;have D:∀{o:jU},(match(if Nat.beq q 0&&Nat.beq s 0 then YA (xP o k i m)else none)with|some a=>some ⟨a,n,cs⟩|none=>aPj n cs o k q i s m)=some v->
   ∃t,xP o k (p+i) (z+m)=some t/\im V U v t:=by
  intro o h;split at h;rename_i a B;cases h;split at B;rename_i I;simp only[aA]at I;have J:q=0:=aD I.1;have M:s=0:=aD I.2;subst J M;rw[d.zero]at g f;cases g;cases f;obtain⟨t,L,K⟩:=Di (U:=U) d.zero B;exact⟨t,by simpa using L,.here d K⟩;cases B;exact aPk d g f i1 h
 cases o<;>simp only[aYp]at h<;>try(exact D h)
 case add=>cases h;exact⟨_,rfl,aOc d g f⟩
 case sub=>cases h;exact⟨_,rfl,aTi d g f⟩
 case eql=>cases h;exact⟨_,rfl,.here d (.bool _ _ (rz g f (by rw[eB];simp;omega)))⟩
 case neq=>
  cases h;refine⟨_,rfl,.here d (.bool _ _ ?_)⟩;have:=Il (rz (c:=m-i) g f rfl);have e:(p+i !=z+m)= !(decide (p=z+(m-i))):=by
   rw[eB];simp;omega
  rw[e];exact this
 case lss=>cases h;exact⟨_,rfl,.here d (.bool _ _ (j g f (by rw[eB];simp;omega)))⟩
 case leq=>cases h;exact⟨_,rfl,.here d (.bool _ _ (j g f (by rw[eB];simp;omega)))⟩
 case gtr=>cases h;exact⟨_,rfl,.here d (.bool _ _ (j f g (by rw[eB];simp;omega)))⟩
 case geq=>cases h;exact⟨_,rfl,.here d (.bool _ _ (j f g (by rw[eB];simp;omega)))⟩
end
section
variable{V:gN}{U:gE}{n:Nat}{cs:List pR}
theorem Ek(b:Sy V n cs){p:jU}{k:iC}{q s:Nat}{d e c f:Int}(j:V[q]? =some c)(o:V[s]? =some f)(i1:CL k (c+d)){v:AV}
  (h:Jv n cs p k q d s e=some v):∃t,zF p k (c+d) (f+e)=some t/\im V U v t:=by
 unfold Jv at h;split at h;rename_i a g;cases h;split at g;rename_i u;simp only[aA]at u;have m:q=0:=aD u.1;have i:s=0:=aD u.2;subst m i;rw[b.zero]at j o;cases j;cases o;obtain⟨t,z,x⟩:=Di (U:=U) b.zero g;exact⟨t,by simpa using z,.here b x⟩;cases g
 .split at h
  .rename_i y;have y:=oX b.cs y b.zero o;have C:¬(f+e<0):=by omega
   cases p<;>simp only at h<;>try(cases h;done)
   cases h;exact⟨_,by simp only[zF];rw[aH C],wD b (vE k _)⟩;split at h;rename_i g;cases h;have g:=oX b.cs g b.zero j;have I:(0:Int)<2^(min (f+e).toNat k.bits):=Int.pow_pos (by omega);have z:0<=(c+d).fdiv (2^(min (f+e).toNat k.bits)):=by
    rw[Int.fdiv_eq_ediv_of_nonneg _ (by omega)];exact Int.ediv_nonneg (by omega) (by omega)
   have x:(c+d).fdiv (2^(min (f+e).toNat k.bits))<=c+d:=by
    rw[Int.fdiv_eq_ediv_of_nonneg _ (by omega)];exact Int.ediv_le_self _ (by omega)
   have D:k.min<=0:=by cases k<;>simp[IntKind.min,IntKind.bits,IntKind.signed]
   have B:CL k ((c+d).fdiv (2^(min (f+e).toNat k.bits))):=⟨by omega,by have:=i1.2;omega⟩;refine⟨_,by simp only[zF];rw[aH C],?_⟩;obtain⟨m,i,E,w⟩:=b.new ((c+d).fdiv (2^(min (f+e).toNat k.bits)));exact DE b B (.cons ⟨0,_,w,i,by omega⟩ (.cons ⟨_,c,i,m _ _ j,by omega⟩ (.cons ⟨_,0,i,w,by have:=B.2;omega⟩ (b.cs.ext m))));cases h
  cases h
theorem wH(f:V[0]? =some 0){a:A}{t:T}(h:Gm V U a t){s:Nat}{c:Int}(b:GY a=some (s,c)):∃l v,t= .str l/\V[s]? =some v/\(l.length:Int)=v+c:=by
 cases h<;>simp[GY]at b;rename_i l;obtain⟨rfl,rfl⟩:=b;exact⟨l,0,rfl,f,by omega⟩;rename_i c l v e d;obtain⟨rfl,rfl⟩:=b;exact⟨_,_,rfl,e,d⟩
theorem Co{a:A}{l:gH}(h:Gm V U a (.str l))(b:HM a=true):l=[]:=by
 cases h<;>simp[HM]at b;split at b;rename_i h;cases h;rfl;cases b
theorem NE(l m:gH):(l==m)=true↔l=m:=by simp
theorem aGd(v:Sy V n cs){a b:A}{l m:gH}{z y:Nat}{j o:Int}(u:Gm V U a (.str l))(w:Gm V U b (.str m))(I:GY a=some (z,j))(E:GY b=some (y,o)):
  tX V (Wz cs a b z j y o) (l==m):=by
 unfold Wz;split;cases u;cases w;rfl;obtain⟨O,B,D,K,M⟩:=wH v.zero u I;obtain⟨Q,C,L,J,N⟩:=wH v.zero w E;cases D;cases L;have k:=Wy v.cs (c:=o-j) K J;have d:l=m->B=C+(o-j):=λe=>by subst e;omega
 have i:(HM a||HM b)=true->B=C+(o-j)->l=m:=by
  intro he x;have f:l.length=m.length:=by omega
  simp only[bO]at he;rcases he with he|he
  have:=Co u he;subst this;simp at f;exact(cM f.symm).symm;have:=Co w he;subst this;simp at f;exact f
 split;rename_i s;rw[s]at k;simp only[tX,decide_eq_false_iff_not]at k;simp only[tX];exact Bool.eq_false_iff.2 λg=>k (d ((NE l m).1 g));rename_i s;rw[s]at k;simp only[tX,aF]at k;split;rename_i he;simp only[tX];exact(NE l m).2 (i he k);exact sL _;rename_i p q s;rw[s]at k;split;rename_i he;refine⟨λg=>k.1 ?_,λg=>k.2 ?_⟩;simpa using d ((NE l m).1 g);simp only[decide_eq_false_iff_not];intro x;have:=(NE l m).2 (i he x);rw[this]at g;cases g;refine⟨λg=>k.1 ?_,λ_ q h=>by simp at h⟩;simpa using d ((NE l m).1 g)
theorem Kk{s:Nat}{v:Int}{c:List pR}(d:V[0]? =some 0)(a:V[s]? =some v)(b:oZ V c){u:Int}(h:mh s c=some u):v<=u:=by
 unfold mh at h;split at h;rename_i w e;have:=ZN d a b e;split at h;cases h;exact this;split at h;rename_i f;cases h;have:=oX b f a d;omega;cases h;exact this;cases h
theorem aTf(c:Sy V n cs){z:jU}{a b:A}{x y:T}(o:Gm V U a x)(s:Gm V U b y){v:AV}(h:bAt n cs z a b=some v):
  ∃l m t,x= .str l/\y= .str m/\GE z l m=some t/\im V U v t:=by
 unfold bAt at h;split at h
 .rename_i C R B Z I E;obtain⟨l,D,rfl,d,S⟩:=wH c.zero o I;obtain⟨m,J,rfl,q,W⟩:=wH c.zero s E;have k:=aGd c o s I E;refine⟨l,m,?_⟩;cases z<;>simp only at h<;>try(cases h;done)
  case add=>
   split at h;cases o;cases s;split at h;rename_i L;cases h;simp only[sQ,aF]at L;exact⟨_,rfl,rfl,by simp only[GE];rw[aJ (by omega)],.here c (.gh _)⟩;cases h;split at h;rename_i K;simp only[aA]at K;obtain⟨⟨⟨b1,b2⟩,b3⟩,b4⟩:=K;have b3:=oX c.cs b3 d c.zero;have b4:=oX c.cs b4 q c.zero;have w:l.length+m.length<=pK:=by unfold pK;omega
   have g:GE .add l m=some (.str (l++m)):=by simp only[GE];rw[aJ w]
   split at h;rename_i e;have:B=0:=aD e;subst this;rw[c.zero]at q;cases q;cases h;exact⟨_,rfl,rfl,g,.here c (.str C _ D _ d (by simp;omega))⟩;split at h;rename_i e;have:C=0:=aD e;subst this;rw[c.zero]at d;cases d;cases h;exact⟨_,rfl,rfl,g,.here c (.str B _ J _ q (by simp;omega))⟩;cases h;obtain⟨f,i,N,p⟩:=c.new ((l++m).length:Int);refine⟨_,rfl,rfl,g,V++[((l++m).length:Int)],f,⟨N,p,?_,c.fst f⟩,.str n 0 _ _ i (by simp)⟩;have Q:((l++m).length:Int)=l.length+m.length:=by simp
   exact .cons ⟨D,_,f _ _ d,i,by omega⟩ (.cons ⟨J,_,f _ _ q,i,by omega⟩ (.cons ⟨0,_,p,i,by omega⟩ (Vz i p (TT i (f _ _ d) (TT i (f _ _ q) (c.cs.ext f) λu j=>by have:=Kk c.zero d c.cs j;omega) λu j=>by have:=Kk c.zero q c.cs j;omega) (by omega) λu j=>by
    obtain⟨x,y,M,O,rfl⟩:=Fo j;have:=Kk c.zero d c.cs M;have:=Kk c.zero q c.cs O
    omega)))
   cases h
  case eql=>cases h;exact⟨_,rfl,rfl,rfl,.here c (.bool _ _ k)⟩
  case neq=>cases h;exact⟨_,rfl,rfl,rfl,.here c (.bool _ _ (Il k))⟩
  case lss=>cases h;exact⟨_,rfl,rfl,rfl,.here c (.bool _ _ (sL _))⟩
  case leq=>cases h;exact⟨_,rfl,rfl,rfl,.here c (.bool _ _ (sL _))⟩
  case gtr=>cases h;exact⟨_,rfl,rfl,rfl,.here c (.bool _ _ (sL _))⟩
  case geq=>cases h;exact⟨_,rfl,rfl,rfl,.here c (.bool _ _ (sL _))⟩
 cases h
theorem Ze{a:A}{t:T}(h:Gm V U a t){b:Bool}(c:jw.lh a=some b):(t= .fS/\b=true)\/(((∃l o,t= .ptr l o)\/∃x o,t= .ref x o)/\b=false):=by
 cases h<;>simp[jw.lh]at c<;>subst c;exact .inl ⟨rfl,rfl⟩;exact .inr ⟨.inl ⟨_,_,rfl⟩,rfl⟩;exact .inr ⟨.inl ⟨_,_,rfl⟩,rfl⟩;exact .inr ⟨.inr ⟨_,_,rfl⟩,rfl⟩
theorem UB{a:A}{t:T}(h:Gm V U a t){b:Bool}(c:jw.jx a=some b):(t= .gb/\b=true)\/((∃u x,t= .iface u x)/\b=false):=by
 cases h<;>simp[jw.jx]at c<;>subst c;exact .inl ⟨rfl,rfl⟩;exact .inr ⟨⟨_,_,rfl⟩,rfl⟩;exact .inr ⟨⟨_,_,rfl⟩,rfl⟩
theorem Zd{a:A}{t:T}(h:Gm V U a t){b:Bool}(c:jw.li a=some b):(t= .gg/\b=true)\/((∃f x y,t= .fn f x y)/\b=false):=by
 cases h<;>simp[jw.li]at c<;>subst c;exact .inl ⟨rfl,rfl⟩;exact .inr ⟨⟨_,_,_,rfl⟩,rfl⟩
theorem LW:∀{d:List A} {a:A},jw.ifaces d=true->a∈d->∃b,jw.jx a=some b
 |c::r,a,h,hm=>by
  simp only[jw.ifaces,aA]at h;rcases aY.1 hm with rfl|hm
  exact eQ.1 h.1;exact LW h.2 hm
def Ui:T->T->Bool
 | .int ..,_ |_,.int .. | .str _,_ |_,.str _ | .agg _,_ |_,.agg _ =>false|_,_ =>true
theorem aHf{P:gD}{f:gB}{a b:A}{x y:T}(g:Gm V U a x)(i:Gm V U b y){B:Bo}(h:jw P f a b=some B):∃r,PR P f x y=some r/\tX V B r/\Ui x y=true:=by
 unfold jw at h;split at h;have d:=‹P.underlying f=_›;cases h;cases g;rename_i p;cases i;rename_i o;simp only[tX]at p o;subst p o;exact⟨_,by simp[PR,d],rfl,rfl⟩;have d:=‹P.underlying f=_›;cases h;cases g with
 |bool _ b1=>cases i with
  |bool _ b2=>exact⟨b1==b2,by simp[PR,d],sL _,rfl⟩
 have d:=‹P.underlying f=_›;cases g;obtain⟨r,e,rfl⟩:=aG.1 h;rcases Ze i e with⟨rfl,rfl⟩|⟨⟨_,_,rfl⟩|⟨_,_,rfl⟩,rfl⟩<;>exact⟨_,by simp[PR,d],rfl,rfl⟩
 have d:=‹P.underlying f=_›;cases i;obtain⟨r,e,rfl⟩:=aG.1 h;rcases Ze g e with⟨rfl,rfl⟩|⟨⟨_,_,rfl⟩|⟨_,_,rfl⟩,rfl⟩<;>exact⟨_,by simp[PR,d],rfl,rfl⟩
 have d:=‹P.underlying f=_›;split at h;rename_i k;cases h;cases g;cases i with
 |or _ c _ j m=>
  obtain⟨r,e⟩:=LW k j;rcases UB m e with⟨rfl,rfl⟩|⟨⟨_,_,rfl⟩,rfl⟩
  exact⟨true,by simp[PR,d],sL _,rfl⟩;exact⟨false,by simp[PR,d],sL _,rfl⟩
 cases h;have d:=‹P.underlying f=_›;split at h;rename_i k;cases h;cases i;cases g with
 |or _ c _ j m=>
  obtain⟨r,e⟩:=LW k j;rcases UB m e with⟨rfl,rfl⟩|⟨⟨_,_,rfl⟩,rfl⟩
  exact⟨true,by simp[PR,d],sL _,rfl⟩;exact⟨false,by simp[PR,d],sL _,rfl⟩
 cases h;have d:=‹P.underlying f=_›;cases g;obtain⟨r,e,rfl⟩:=aG.1 h;rcases UB i e with⟨rfl,rfl⟩|⟨⟨_,_,rfl⟩,rfl⟩<;>exact⟨_,by simp[PR,d],rfl,rfl⟩
 have d:=‹P.underlying f=_›;cases i;obtain⟨r,e,rfl⟩:=aG.1 h;rcases UB g e with⟨rfl,rfl⟩|⟨⟨_,_,rfl⟩,rfl⟩<;>exact⟨_,by simp[PR,d],rfl,rfl⟩
 have d:=‹P.underlying f=_›;cases g;obtain⟨r,e,rfl⟩:=aG.1 h;rcases Zd i e with⟨rfl,rfl⟩|⟨⟨_,_,_,rfl⟩,rfl⟩<;>exact⟨_,by simp[PR,d],rfl,rfl⟩
 have d:=‹P.underlying f=_›;cases i;obtain⟨r,e,rfl⟩:=aG.1 h;rcases Zd g e with⟨rfl,rfl⟩|⟨⟨_,_,_,rfl⟩,rfl⟩<;>exact⟨_,by simp[PR,d],rfl,rfl⟩
 cases h
theorem aCj{X Y:jH}{a b:A}{x y:T}(d:Gm V U a x)(c:Gm V U b y)(h:Ik X Y a b=true):MC X Y x y=true:=by
 unfold Ik at h;unfold MC;cases hx:HL X<;>cases hy:HL Y<;>simp[hx,hy]at h⊢;split at h<;>first|(cases d<;>simp[TP];done)|(cases c<;>cases x<;>simp[TP];done)|cases h
theorem aFz{P:gD}{c:gB}{o:jU}{k:iC}{a b:Int}(d:o≠ .shl)(h:o≠ .shr):BF P o c (.int k a) (.int k b)=xP o k a b:=by
 cases o<;>simp[BF]at*
theorem Xr{P:gD}{a:gB}{x y:T}(h:Ui x y=true):j5 P a x y=PR P a x y:=by
 unfold j5;split;simp[Ui]at h;rfl
theorem aFy{P:gD}{a:gB}{x y:T}(h:Ui x y=true):BF P .eql a x y=(PR P a x y).map .bool:=by
 unfold BF;split<;>first|rfl|(simp[Ui]at h;done)|(simp_all;done)|(rw[Xr h])
theorem aGa{P:gD}{a:gB}{x y:T}(h:Ui x y=true):BF P .neq a x y=(PR P a x y).map λb=> .bool (!b):=by
 unfold BF;split<;>first|rfl|(simp[Ui]at h;done)|(simp_all;done)|(rw[Xr h])
theorem aGb{P:gD}{c:gB}{o:jU}{a b:gH}:BF P o c (.str a) (.str b)=GE o a b:=by
 cases o<;>rfl
theorem aOl(d:Sy V n cs){P:gD}{w:jU}{u:gB}{a b:A}{x y:T}(f:Gm V U a x)(i:Gm V U b y){v:AV}(h:aXf P n cs w u a b=some v):
  ∃t,BF P w u x y=some t/\im V U v t:=by
 unfold aXf at h;split at h
 .rename_i k K E D I M;cases f with
  |int _ _ _ L p i1=>
  cases i with
  |int _ _ _ N q i2=>
  split at h;obtain⟨t,e,c⟩:=Ek (U:=U) d p q i1 h;exact⟨t,by simpa [BF]using e,c⟩;obtain⟨t,e,c⟩:=Ek (U:=U) d p q i1 h;exact⟨t,by simpa [BF]using e,c⟩;rename_i z C;split at h;rename_i s;have s:k=D:=by simpa using s
  obtain⟨t,e,c⟩:=aQn (U:=U) d p q i1 h;exact⟨t,by rw[<-s,aFz (λh=>z h) (λh=>C h)];exact e,c⟩;cases h
 rename_i z;split at h;rename_i B g;cases h;split at g;obtain⟨r,e,c,o⟩:=aHf f i g;exact⟨.bool r,by rw[aFy o,e];rfl,.here d (.bool _ _ c)⟩;obtain⟨J,j,rfl⟩:=aG.1 g;obtain⟨r,e,c,o⟩:=aHf f i j;exact⟨.bool (!r),by rw[aGa o,e];rfl,.here d (.bool _ _ (Il c))⟩;cases g;obtain⟨l,m,t,rfl,rfl,e,c⟩:=aTf d f i h;exact⟨t,by rw[aGb];exact e,c⟩
theorem bBb(d:Sy V n cs){o:UnOp}{a:A}{x:T}(f:Gm V U a x){v:AV}(h:oF n cs o a=some v):∃t,nB o x=some t/\im V U v t:=by
 unfold oF at h;split at h;cases f with
 |int _ _ _ j q i1=>
  split at h;rename_i e;rename_i s c;cases h;have g:s=0:=aD e;rw[g,d.zero]at q;cases q;exact⟨_,rfl,JR d d.zero (by omega)⟩;cases h;exact⟨_,rfl,aRz d q i1⟩
 cases h;cases f with
 |bool _ b i=>exact⟨_,rfl,.here d (.bool _ _ (Il i))⟩
 cases h
theorem aGp(g:Sy V n cs){P:gD}{src f:gB}{a:A}{x:T}(i:Gm V U a x){v:AV}(h:aGo P n cs src f a=some v):∃t,SG P src f x=some t/\im V U v t:=by
 have conv:∀{t:T},KU P src f x=some t->SG P src f x=some t:=λh=>by unfold SG;rw[h]
 unfold aGo at h;split at h;rename_i d e;cases h;cases i with
 |int _ _ _ k q i1=>exact⟨_,conv (by simp[KU,d,e]),JR g q rfl⟩
 rename_i d e;cases h;cases i with
 |str _ _ k l q i1=>exact⟨.str l,conv (by simp[KU,d,e]),.here g (.str _ _ k l q i1)⟩
 rename_i d e;cases h;cases i;exact⟨_,conv (by simp[KU,d,e]),.here g (.gh _)⟩;rename_i d e;split at h;rename_i s c u m;split at h;rename_i j;cases h;obtain⟨l,w,rfl,q,o⟩:=wH g.zero i u;have:=oX g.cs j q g.zero;refine⟨.sl false (l.map λb=> .int .u8 b.toNat),?_,.here g (.sl _ _ _ _ _ w (.inr (.inl ⟨_,rfl⟩)) q (by simpa using o) (λy p=> ?_))⟩;have z:KU P src f (.str l)=none:=by simp[KU,d,e]
 unfold SG;rw[z];simp only[VS,d,e,m];rw[aJ (by omega)];obtain⟨b,_,rfl⟩:=bS.1 p;have:=UInt8.toNat_lt b;exact .ft _ _ _ _ (by omega) (by omega) (by simp only[CL,IntKind.min,IntKind.max,IntKind.bits,IntKind.signed];simp;omega);cases h;cases h;cases h
end
def mT:Option (Option Nat)->Option Code
 |none=>none|some (some id)=>some (.exit id)|some none=>some .ret
def MK.t:MK->T
 | .i n=> .int .i64 n| .s b=> .str b
def Kv(V:gN)(U:gE):AO->Ob->Prop
 | .fix e y,o=>(o.elem=e/\o.sz=0)/\pT V U y o.cells| .map g,o=>∃(c:Nat) (m:gS),o.me=some (.map c m)/\g.length=m.length/\∀(j:Nat) (k:MK) (a:A),g[j]? =some (k,a)->∃i v,m[j]? =some (i,k.t,v)/\Gm V U a v| .loop st p h w f u q _ _,o=>∃r:Lr,o.me=some (.loop r)/\r.st=st/\r.pe=mT p/\r.ps=w/\r.iF=f/\r.bd=u/\r.ow=q/\pT V U h (r.fr.view r.n)| .row e d a s c,o=>o.elem=e/\(o.sz=d/\(e=5->o.cells≠[]))/\∃(b:gC) (v:Int),V[s]? =some v/\(b.length:Int)=v+c/\o.cells=b.flatMap T.cells/\∀t∈b,Gm V U a t/\t.cells.length=d| .ax e d a s c,o=>o.elem=e/\(o.sz=d/\(e=5->o.cells≠[]))/\∃(b:gC) (v:Int),V[s]? =some v/\(b.length:Int)=v+c/\o.cells=b.flatMap T.cells/\(∀t∈b,Gm V U a t/\t.cells.length=d)/\∀x,b.getLast? =some x->∃r,x.cells= .int .i64 0::r
theorem Xx{H:Hp}(h:∀(m:Nat) (o:Ob),H.any m=some o->m<H.next)(b:Ob):∀(m:Nat) (o:Ob),(H.new b).any m=some o->m<(H.new b).next:=by
 intro m o e;rw[rN]at e;split at e;rename_i q;rw[<-q];exact Nat.lt_succ_self _;exact Nat.lt_succ_of_lt (h m o e)
theorem Gz{H:Hp}(h:∀(m:Nat) (o:Ob),H.any m=some o->m<H.next){x:Nat}(a:x<H.next)(b:Ob):∀(m:Nat) (o:Ob),(H.put x b).any m=some o->m<(H.put x b).next:=by
 intro m o e;rw[qP]at e;split at e;rename_i q;rw[q];exact a;exact h m o e
theorem aHr{H:Hp}(h:∀(m:Nat) (o:Ob),H.any m=some o->m<H.next)(x:Nat):∀(m:Nat) (o:Ob),(H.drop x).any m=some o->m<(H.drop x).next:=by
 intro m o e;rw[qY]at e;split at e;cases e;exact h m o e
noncomputable def Ip:AO->Hp->Nat->Option Ob
 | .loop ..,H,x=>H.any x| .map _,H,x=>H.any x|_,H,x=>H.get x
structure GH(hp:gP)(nl:Nat)(V:gN)(U:gE)(H:Hp):Prop where
 len:U.length=nl
 obj:∀(l:Nat) (o:AO),oV hp l=some o->∃y,U[l]? =some y/\∀x,y=some x->∃b,Ip o H x=some b/\Kv V U o b
 inj:∀(l l':Nat) (o o':AO) (x:Nat),oV hp l=some o->oV hp l'=some o'->U[l]? =some (some x)->U[l']? =some (some x)->l=l'
 lt:∀(l x:Nat),U[l]? =some (some x)->x<H.next
 aN:∀(l:Nat) (e:gB) (xs:List A),oV hp l=some (.fix e xs)->∃x,U[l]? =some (some x)
 fin:∀(m:Nat) (o:Ob),H.any m=some o->m<H.next
section
variable{V V':gN}{U μ':gE}{n:Nat}{cs:List pR}
theorem Kv.ext(h:rX V V')(u:rX U μ'){a:AO}{o:Ob}(p:Kv V U a o):Kv V' μ' a o:=by
 cases a with
 |fix e Q=>exact⟨p.1,p.2.ext h u⟩
 |row e D a s c=>
  obtain⟨g,i,w,v,f,b,d,m⟩:=p;exact⟨g,i,w,v,h _ _ f,b,d,λt q=>⟨(m t q).1.ext h u,(m t q).2⟩⟩
 |ax e D a s c=>
  obtain⟨g,i,w,v,f,b,d,m,x⟩:=p;exact⟨g,i,w,v,h _ _ f,b,d,λt q=>⟨(m t q).1.ext h u,(m t q).2⟩,x⟩
 |map K=>
  obtain⟨c,z,g,i,f⟩:=p;exact⟨c,z,g,i,λj k a y=>by obtain⟨B,v,b,d⟩:=f j k a y;exact⟨B,v,b,d.ext h u⟩⟩
 |loop st L I N C R M J O=>
  obtain⟨r,g,i,f,b,d,m,x,E⟩:=p;exact⟨r,g,i,f,b,d,m,x,E.ext h u⟩
theorem GH.ext{c:gP}{nl:Nat}{H:Hp}(h:rX V V')(a:GH c nl V U H):GH c nl V' U H:=
 ⟨a.len,λl o i=>by
  obtain⟨y,f,e⟩:=a.obj l o i
  exact⟨y,f,λx j=>by obtain⟨b,d,g⟩:=e x j;exact⟨b,d,g.ext h (.refl _)⟩⟩,a.inj,a.lt,a.aN,a.fin⟩
def AO.plain:AO->Bool
 | .loop .. | .map _ =>false|_ =>true
theorem zW{o:AO}(h:o.plain=true)(H:Hp)(x:Nat):Ip o H x=H.get x:=by cases o<;>first|rfl|cases h
theorem GH.at{c:gP}{nl:Nat}{H:Hp}(e:GH c nl V U H){l x:Nat}{o:AO}(h:oV c l=some o)(f:U[l]? =some (some x))(g:o.plain=true:=by rfl):∃b,H.get x=some b/\Kv V U o b:=by
 obtain⟨y,a,d⟩:=e.obj l o h;rw[f]at a;cases a;have:=d x rfl
 rwa [zW g]at this
theorem FJ{s:Nat}:∀(ts:gC) (i:Nat),(∀t∈ts,t.cells.length=s)->i<=ts.length->(ts.flatMap T.cells).drop (i*s)=(ts.drop i).flatMap T.cells
 |ts,0,_,_ =>by simp|[],i+1,_,h=>by simp at h
 |t::ts,i+1,a,h=>by
  rw[bP,List.drop_succ_cons,<-FJ ts i (λx b=>a x (by simp[b])) (by simpa using h)];have:t.cells.length=s:=a t (by simp);rw[dA,Nat.add_comm,<-List.drop_drop,<-this,List.drop_left]
theorem vU{sz:Nat}:∀(a:gC),(∀t∈a,t.cells.length=sz)->(a.flatMap T.cells).length=a.length*sz
 |[],_ =>by simp
 |t::a,h=>by
  rw[bP,aU,vU a (λx b=>h x (by simp[b])),h t (by simp),aZ,dA];omega
theorem aKe{P:gD}{t:gB}{s:Nat}{a:gC}(d:∀t∈a,t.cells.length=s){i o:Nat}{x r:T}(e:a[i]? =some x)(h:wK P t x.cells o=some r):
  wK P t (a.flatMap T.cells) (i*s+o)=some r:=by
 have c:=(aQ.1 e).1;have f:=FJ a i d (by omega);have j:a.drop i=x::a.drop (i+1):=by
  rw[eN c];congr 1;exact(aQ.1 e).2
 rw[j,bP]at f;have p:=d x (bK e);have g:=vU a d;have b:(i+1)*s<=a.length*s:=cZ _ c;rw[dA]at b;unfold wK at h⊢;split at h;split at h;rename_i m u;split at h;rename_i q;cases h;rw[aJ (by rw[g];omega),<-List.drop_drop,f,List.drop_append_of_le_length (by omega),List.take_append_of_le_length (by rw[cP];omega)];cases h;cases h;have k:=(aQ.1 h).1;rw[<-cD,f,dI k];exact h;cases h
theorem XS{a:A}(h:a.known=true):(uO a n cs).a.known=true:=by
 cases a<;>first|exact h|rfl|(simp only[uO,oB,Ol,Ig];split<;>rfl)
theorem Oi{P:gD}{q:gP}{nl:Nat}{H:Hp}(i:Sy V n cs)(B:GH q nl V U H){t:gB}{a:A}{x:T}(m:Gm V U a x){v:AV}(h:Yw P q n cs t a=some v):
  ∃r,wI P H t x=some r/\im V U v r:=by
 unfold Yw at h;split at h;split at h;rename_i hk;obtain⟨y,f,rfl⟩:=aG.1 h;cases m with
 |ref _ u o _ hu=>
  obtain⟨r,g,j⟩:=aKd hu hk f;exact⟨r,g,rB i j⟩
 cases h;split at h;rename_i l o e xs p;obtain⟨y,f,rfl⟩:=aG.1 h;cases m with
 |ptr _ _ l' d=>
  obtain⟨b,g,j⟩:=B.at p d;obtain⟨r,C,I⟩:=EL j.2 f;exact⟨r,by simp only[wI,vM,g];exact C,rB i I⟩
 cases h;rename_i l sz s c o;split at h;rename_i sz' e s' c' p;split at h;rename_i E;obtain⟨y,f,rfl⟩:=aG.1 h;simp only[aA]at E;obtain⟨⟨⟨k,Q⟩,c3⟩,L⟩:=E;have k:=aD k;subst k;cases m with
 |iv _ _ _ _ _ l' w d N hw0=>
  obtain⟨b,g,j,C,O,v',W,g2,J,D⟩:=B.at p d;have K:=oX i.cs L N W;have z:(w+c).toNat<O.length:=by omega
  have Z:=aB z;have S:=D _ (cC z);obtain⟨r,M,h6⟩:=EL (qU S.1 Q).2 f;refine⟨r,?_,rB i h6⟩;simp only[wI,vM,g,J];exact aKe (λt R=>(D t R).2) Z M
 cases h;cases h;cases h
theorem GH.fb{c:gP}{nl:Nat}{H:Hp}(e:GH c nl V U H){l x:Nat}{o:AO}(h:oV c l=some o)(f:U[l]? =some (some x))(g:o.plain=false:=by rfl):∃b,H.any x=some b/\Kv V U o b:=by
 obtain⟨y,a,d⟩:=e.obj l o h;rw[f]at a;cases a;have:=d x rfl;cases o<;>first|exact this|cases g
theorem Lo:∀{a b:gH},ND a b=decide (a=b)
 |[],[]=>by simp[ND]|[],_ ::_ =>by simp[ND]|_ ::_,[]=>by simp[ND]
 |a::c,b::d=>by
  simp only[ND,Lo (a:=c) (b:=d)];by_cases e:a=b<;>by_cases h:c=d<;>simp[e,h]
theorem Xq{P:gD}{c:gB}{k d:MK}(h:yV P c k=true)(f:yV P c d=true):Tj P c k.t d.t=some (aOk d k):=by
 cases k with
 |i a=>
  simp only[yV]at h;split at h;rename_i e;cases d with
  |i b=>
   have g:Tj P c (.int .i64 a) (.int .i64 b)=some (a==b):=by simp[Tj,ke,e]
   have j:(a==b)=(b==a):=by rw[eB,bN,bN];exact eq_comm
   show Tj P c (.int .i64 a) (.int .i64 b)=some (b==a);rw[g,j]
  |s b=>simp only[yV,e]at f;cases f
  cases h
 |s a=>
  simp only[yV]at h;split at h;rename_i e;cases d with
  |i b=>simp only[yV,e]at f;cases f
  |s b=>
   have g:Tj P c (.str a) (.str b)=some (decide (a=b)):=by
    simp only[Tj,ke,e];congr 1;rw[eB,bN,decide_eq_true_iff]
   show Tj P c (.str a) (.str b)=some (ND b a);rw[g,Lo];congr 1;exact decide_eq_decide.2 eq_comm
  cases h
theorem WR{P:gD}{c:gB}{k:MK}(s:yV P c k=true):∀(e:List (MK×A)) (m:gS) (i:Nat),e.length=m.length->
  (∀(j:Nat) (k:MK) (a:A),e[j]? =some (k,a)->∃f v,m[j]? =some (f,k.t,v)/\Gm V U a v)->(∀q∈e,yV P c q.1=true)->
  (∀a,WQ k e=some a->∃j b v,zM P c k.t m i=some (some (j,b,v))/\Gm V U a v)/\(WQ k e=none->zM P c k.t m i=some none)
 |[],[],_,_,_,_ =>⟨λa h=>by simp[WQ]at h,λ_ =>rfl⟩|[],_ ::_,_,h,_,_ =>by simp at h|_ ::_,[],_,h,_,_ =>by simp at h
 |(d,o)::e,(E,D,C)::m,i,B,h,g=>by
  obtain⟨f,v,p,y⟩:=h 0 d o rfl;simp only[cJ,aI,bF]at p;obtain⟨rfl,rfl,rfl⟩:=p;have x:=WR s e m (i+1) (by simpa using B) (λj k a w=>h (j+1) k a (by simpa using w)) (λq z=>g q (aC _ z));have u:=Xq s (g (d,o) aO);simp only[WQ,zM,u];cases hb:aOk d k with
  |true=>
   simp only[cB];exact⟨λa h=>by cases h;exact⟨_,_,_,rfl,y⟩,λh=>by cases h⟩
  |false=>
   simp only[bI,cN];exact x
theorem WO{P:gD}{c:gB}{k:MK}(w:yV P c k=true):∀(e:List (MK×A)) (m:gS) (i:Nat),e.length=m.length->
  (∀(j:Nat) (k:MK) (a:A),e[j]? =some (k,a)->∃o v,m[j]? =some (o,k.t,v)/\Gm V U a v)->(∀q∈e,yV P c q.1=true)->
  zM P c k.t m i=some none\/∃j b v,zM P c k.t m i=some (some (j,b,v))/\∃a∈e.map Prod.snd,Gm V U a v
 |[],[],_,_,_,_ => .inl rfl|[],_ ::_,_,h,_,_ =>by simp at h|_ ::_,[],_,h,_,_ =>by simp at h
 |(g,f)::e,(K,J,I)::m,i,E,h,p=>by
  obtain⟨o,v,s,B⟩:=h 0 g f rfl;simp only[cJ,aI,bF]at s;obtain⟨rfl,rfl,rfl⟩:=s;have d:=WO w e m (i+1) (by simpa using E) (λj k a y=>h (j+1) k a (by simpa using y)) (λq C=>p q (aC _ C));have x:=Xq w (p (g,f) aO);simp only[zM,x];cases hb:aOk g k with
  |true=>exact .inr ⟨_,_,_,rfl,f,by simp,B⟩
  |false=>
   rcases d with d|⟨j,b,v,D,a,u,z⟩;exact .inl d;exact .inr ⟨j,b,v,D,a,by simp at u⊢;exact .inr u,z⟩
theorem Yn{k:A}{q:MK}{z:T}(e:V[0]? =some 0)(h:aQx k=some q)(c:Gm V U k z):z=q.t:=by
 unfold aQx at h;split at h;split at h;rename_i a;simp only[aA,bN]at a;obtain⟨rfl,a⟩:=a;have a:=aD a;subst a;cases h;cases c with
 |int _ _ _ v b d=>rw[e]at b;cases b;simp[MK.t]
 cases h;cases h;cases c;rfl;cases h
theorem XM{P:gD}{k:gB}{q:MK}(h:yV P k q=true):OG P k q.t=true:=by
 cases q<;>simp only[yV]at h<;>split at h<;>first|(cases h;done)|(rename_i e;simp[MK.t,OG,IL,e])
theorem Lc{a:A}{x:T}(d:Gm V U a x){m:Nat}{b:A}(h:Wu a m=some b):∃y,aAu x m=some y/\Gm V U b y:=by
 unfold Wu at h;split at h;cases h;cases d with
 |ref _ u o j i=>exact⟨_,rfl,.ref _ _ _ j i⟩
 cases h;cases d with
 |ptr _ _ f c=>exact⟨_,rfl,.ptr _ _ f c⟩
 cases h;cases d with
 |iv _ _ _ _ _ f w c g e=>exact⟨_,rfl,by rw[dT];exact .iv _ _ _ _ _ f w c g e⟩
 cases h
theorem ZZ{P:gD}{s:gB}{a:A}{x:T}(d:Gm V U a x){f:Nat}{b:A}(h:LP P s a f=some b):∃y,CA P s x f=some y/\Gm V U b y:=by
 unfold LP at h;unfold CA;split at h;rename_i i c;rw[c];simp only;split at h;rename_i m e;rw[e];simp only;split at h;cases h;rename_i g;rw[aH g];exact Lc d h;cases h;cases h
theorem PH(k:V[0]? =some 0){s g:Nat}{i j f c:Int}(a:V[s]? =some f)(b:V[g]? =some c){q:Nat}{d:Int}(h:aDx s i g j=some (q,d)):
  ∃v,V[q]? =some v/\v+d=f+i+(c+j):=by
 unfold aDx at h;split at h;rename_i e;cases h;have:g=0:=aD e;subst this;rw[k]at b;cases b;exact⟨f,a,by omega⟩;split at h;rename_i e;cases h;have:s=0:=aD e;subst this;rw[k]at a;cases a;exact⟨c,b,by omega⟩;cases h
theorem XF{P:gD}(j:Sy V n cs){t:gB}{a b:A}{x i:T}(M:Gm V U a x)(hb:Gm V U b i){v:AV}(h:IG P n cs t a b=some v):
  ∃r,sH P t x i=some r/\im V U v r:=by
 unfold IG at h;split at h
 .rename_i k s c;cases hb with
  |int _ _ _ w p hin=>
  split at h;rename_i e el s' c' C;split at h;rename_i z B;split at h;rename_i o;simp only[aA]at o;obtain⟨⟨⟨k1,k2⟩,k3⟩,S⟩:=o;have k3:=oX j.cs k3 j.zero p;cases M with
  |sl _ _ _ _ E v' h1 h2 h3 h4=>
   have S:=oX j.cs S p h2;have D:(w+c).toNat<E.length:=by omega
   have J:=h4 _ (cC D);have g:(E[(w+c).toNat]).cells.length=z:=by rw[<-(qU J k1).2.1];exact aD k2
   obtain⟨R,W,e2,Z⟩:=rB j J;have hk:=XS (n:=n) (cs:=cs) k1;cases h;refine⟨.ref E[(w+c).toNat] 0,?_,R,W,e2,.ref _ _ _ hk Z⟩;rcases h1 with⟨rfl,rfl⟩|⟨f,rfl⟩|⟨L,m,f,rfl,rfl⟩
   simp at D;simp only[sH,C];rw[aJ (by omega),aB D];simp only[B];rw[aJ g];simp only[dQ,eV]at D h3;simp only[List.getElem_map,List.getElem_range]at g⊢;simp only[sH,C];rw[aJ (by omega)];simp only[B];rw[aJ g]
  cases h;cases h;rename_i e es C;split at h;rename_i z B;split at h;rename_i o;simp only[aA,sQ,aF]at o;obtain⟨k1,k2⟩:=o;have k1:s=0:=aD k1;subst k1;rw[j.zero]at p;cases p;split at h;rename_i a0 K;split at h;rename_i I;simp only[aA]at I;obtain⟨m1,m2⟩:=I;cases M with
  |ie _ _ E N O Q=>
   have D:c.toNat<E.length:=by rw[<-O];exact(aQ.1 K).1
   have hx:=aB D;have J:=Q _ _ _ K hx;have g:(E[c.toNat]).cells.length=z:=by rw[<-(qU J m1).2.1];exact aD m2
   obtain⟨R,W,e2,Z⟩:=rB j J;have hk:=XS (n:=n) (cs:=cs) m1;cases h;refine⟨.ref E[c.toNat] 0,?_,R,W,e2,.ref _ _ _ hk Z⟩;simp only[fY];rcases N with⟨rfl,rfl⟩|⟨f,rfl⟩|⟨L,m,f,rfl,rfl⟩
   simp at D;simp only[sH,C];rw[aJ k2,hx];simp only[B];rw[aJ g];simp only[dQ,eV]at D;simp only[List.getElem_map,List.getElem_range]at g⊢;simp only[sH,C];rw[aJ (by omega)];simp only[B];rw[aJ g]
  cases h;cases h;cases h;cases h;rename_i e l sz si ci s' c' C;split at h;rename_i z B;split at h;rename_i o;simp only[aA]at o;obtain⟨⟨⟨k1,k2⟩,k3⟩,S⟩:=o;have k1:sz=z:=aD k1;have k2:=oX j.cs k2 j.zero p;split at h;rename_i q d hq;cases h;cases M with
  |ge _ _ _ _ _ _ l' vi v' N O Q g4 g5=>
   have k3:=oX j.cs k3 p g4;obtain⟨u,u1,u2⟩:=PH j.zero O p hq;have e:=Gm.iv (V:=V) (U:=U) l sz q d 0 l' u N u1 (by omega);refine⟨.ptr l' ((u+d).toNat*sz+0),?_,.here j e⟩;simp only[sH,C];rw[aJ (by omega)];simp only[B];rw[aJ k1];have:(vi+ci).toNat+(w+c).toNat=(u+d).toNat:=by omega
   rw[this,fW]
  |ar _ _ _ _ _ _ vi v' N O Q g4 g5=>
   have k3:=oX j.cs k3 p g4;omega
  cases h;cases h;cases h;rename_i len e _ C;split at h;rename_i z B;split at h;rename_i o;simp only[aA,sQ,aF]at o;obtain⟨⟨k1,k2⟩,k3⟩:=o;have k1:s=0:=aD k1;subst k1;rw[j.zero]at p;cases p;obtain⟨y,hy,rfl⟩:=aG.1 h;obtain⟨r,r1,r2⟩:=Lc M hy;refine⟨r,?_,.here j r2⟩;simp only[sH,C];rw[aJ (by omega)];simp only[B];rw[<-r1];congr 2;simp;cases h;cases h;cases h
 cases h
theorem Aa{P:gD}(d:Sy V n cs){t:gB}{a b:A}{x i:T}(e:Gm V U a x)(c:Gm V U b i){v:AV}(h:XE P n cs t a b=some v):
  ∃r,sH P t x i=some r/\im V U v r:=XF d e.cq c h
theorem Ds(h:Sy V n cs){s:Nat}{c w:Int}(g:V[s]? =some w):∀(d:List A) (j:Nat) (a:A) (i:Nat),d[i]? =some a->((j+i:Nat):Int)=w+c->a∈Dr cs s c j d
 |b::k,j,a,0,e,f=>by
  simp at e;subst e;have f:(j:Int)=w+c:=by simpa using f
  simp only[Dr];split;rename_i hc;simp only[bO]at hc;rcases hc with hc|hc
  have:=oX h.cs hc g h.zero;omega;have q:=oX h.cs hc h.zero g;omega;exact aO
 |b::k,j,a,i+1,e,f=>by
  have:=Ds (c:=c) h g k (j+1) a i (by simpa using e) (by omega);simp only[Dr];split;exact this;exact aC _ this
theorem aBv{P:gD}(d:Sy V n cs){t:gB}{a b:A}{x i:T}(I:Gm V U a x)(O:Gm V U b i){v:AV}(h:Tw P n cs t a b=some v):
  ∃r,FR P t x i=some r/\im V U v r:=by
 unfold Tw at h;split at h
 .rename_i k s c;cases O with
  |int _ _ _ w g M=>
  split at h
  .rename_i len e m q;split at h
   .rename_i z J;split at h
    .rename_i o;simp only[aA]at o;have k1:=oX d.cs o.1 d.zero g;have k2:=oX d.cs o.2 g d.zero;cases I with
     |agg _ ts p K=>
     split at h;rename_i u;have u:s=0:=aD u;subst u;rw[d.zero]at g;cases g;obtain⟨y,N,rfl⟩:=aG.1 h;obtain⟨r,B,E⟩:=EL ⟨p,K⟩ N;refine⟨r,?_,.here d E⟩;simp only[FR,q];rw[aJ (by omega)];simp only[J];rw[<-B];congr 2;simp;split at h;rename_i C;split at h;rename_i j;cases h;simp only[aA]at j;have Q:z=1:=aD j.1;have L:m.length=len:=aD j.2;subst Q;have D:(w+c).toNat<m.length:=by omega
     have f:=aB D;obtain⟨r,B,E⟩:=pT.at (V:=V) (U:=U) ⟨p,K⟩ f;refine⟨r,?_,.here d (.or _ _ r (Ds d g m 0 _ _ f (by omega)) E)⟩;simp only[FR,q];rw[aJ (by omega)];simp only[J,wK,C,Nat.mul_one];exact B;cases h;cases h
    cases h
   cases h
  rename_i q;split at h;rename_i s' Z p;obtain⟨l,W,rfl,R,S⟩:=wH d.zero I p;split at h;rename_i o;cases h;simp only[aA]at o;have k1:=oX d.cs o.1 d.zero g;have k2:=oX d.cs o.2 g R;have D:(w+c).toNat<l.length:=by omega
  refine⟨.int .u8 l[(w+c).toNat].toNat,?_,rB d (.ft _ _ _ _ (by omega) ?_ ?_)⟩;simp only[FR,q];rw[aJ (by omega),aB D];rfl;have:=UInt8.toNat_lt l[(w+c).toNat];omega;have:=UInt8.toNat_lt l[(w+c).toNat];simp only[CL,IntKind.min,IntKind.max,IntKind.bits,IntKind.signed];simp;omega;cases h;cases h;cases h
 cases h
end
section
variable{V V':gN}{U μ':gE}{n:Nat}{cs:List pR}
def Rs(V:gN)(U:gE):Option A->Option T->Prop
 |none,none=>True|some a,some t=>Gm V U a t|_,_ =>False
theorem yG{x:Option A}{y:jE}(f:Rs V U x y){s:Nat}{c w:Int}(o:V[s]? =some w){k:Nat}{e:Int}(h:HI x s c=some (k,e)):
  ∃b,V[k]? =some b/\∀(d a:Nat),(d:Int)=w+c->0<=b+e->b+e<=a->tD y d a=some (b+e).toNat:=by
 unfold HI at h;split at h;cases h;cases y with
 |some y=>exact f.elim|none=>exact⟨w,o,λd a m j i=>by simp only[tD];rw[<-m];simp⟩
 cases h;cases y with
 |none=>exact f.elim
 |some y=>
  cases f with
  |int _ _ _ b g _ =>exact⟨b,g,λd a m j i=>by simp only[tD];rw[aJ ⟨j,i⟩]⟩
 cases h
theorem IR{s w:Nat}{B p l h v:Int}(k:V[s]? =some l)(g:V[w]? =some h){m:gN}(o:rX V m)(j:m[0]? =some 0)(i:m[n]? =some v)(b:v=h+p-(l+B)):∀{q r:List pR},oZ V q->oZ m r->oZ m (Ou n s B w p q r)
 |[],r,_,a=>a| .ne .. ::q,r,c,a=>IR k g o j i b (q:=q) (λx f=>c x (aC _ f)) a| .ev .. ::q,r,c,a=>IR k g o j i b (q:=q) (λx f=>c x (aC _ f)) a| .sm .. ::q,r,c,a=>IR k g o j i b (q:=q) (λx f=>c x (aC _ f)) a
 | .le x y d::q,r,c,a=>by
  simp only[Ou];split;rename_i e;simp only[aA]at e;have D:=aD e.1;have C:=aD e.2;subst D C;obtain⟨J,I,z,u,E⟩:=c _ aO;rw[g]at z;cases z;rw[k]at u;cases u;exact .cons ⟨_,0,i,j,by omega⟩ a;exact IR k g o j i b (λx f=>c x (aC _ f)) a
theorem NF(a:Sy V n cs){s i:Nat}{d f l h:Int}(g:V[s]? =some l)(b:V[i]? =some h)(u:0<=l+d)(p:l+d<=h+f):
  ∃m,rX V m/\Sy m (GK n cs s d i f).2.2.1 (GK n cs s d i f).2.2.2/\∃v,m[(GK n cs s d i f).1]? =some v/\v+(GK n cs s d i f).2.1=h+f-(l+d):=by
 unfold GK;split;rename_i e;have:s=0:=aD e;subst this;rw[a.zero]at g;cases g;exact⟨V,.refl _,a,h,b,by simp;omega⟩;split;rename_i e;have:s=i:=aD e;subst this;rw[g]at b;cases b;exact⟨V,.refl _,a,0,a.zero,by simp;omega⟩;obtain⟨c,j,o,k⟩:=a.new (h+f-(l+d));refine⟨_,c,⟨o,k,.cons ⟨_,l,j,c _ _ g,h,c _ _ b,by omega⟩ (IR g b c k j rfl a.cs (XC (λq=>⟨_,h,j,c _ _ b,?_⟩) (.cons ⟨0,_,k,j,?_⟩ (.cons ⟨_,h,j,c _ _ b,by omega⟩ (a.cs.ext c))))),a.fst c⟩,_,j,by simp⟩;have:=oX a.cs q a.zero g;omega;split;rename_i q;have:=oX a.cs q g b;omega;omega
theorem Ua{t:T}{b:gC}(h:wP t b){P:gD}{s e:gB}(p:P.underlying s=some (.slice e)){z:Nat}(o:uI P e=some z)(w:∀x∈b,x.cells.length=z)
  {u v:jE} {l c:Nat} (d:tD u 0 c=some l) (a:tD v b.length b.length=some c) (y:l<=c) (k:c<=b.length):
  ∃r,vY P s t u v=some r/\wP r ((b.take c).drop l):=by
 rcases h with⟨rfl,rfl⟩|⟨f,rfl⟩|⟨g,m,f,rfl,rfl⟩
 simp at a k;subst k;have:l=0:=by omega
 subst this;exact⟨.fp,by simp[vY,p,a,d,o],.inl ⟨rfl,by simp⟩⟩;refine⟨.sl (f&&c==b.length) ((b.take c).drop l),?_,.inr (.inl ⟨_,rfl⟩)⟩;have B:DD z b=true:=by
  cases b with
  |nil=>rfl|cons x r=>simp only[DD,bN];exact w x (by simp)
 simp only[vY,p,a,d,o];rw[aJ B];simp only[dQ,eV]at a k;refine⟨.ac (g&&c==m) (c-l) (λi=>f (l+i)),?_,.inr (.inr ⟨_,_,_,rfl,?_⟩)⟩;simp only[vY,p,a,d,o];rw[aH];intro⟨q1,q2⟩;exact q2 (w (f l) (bS.2 ⟨l,by simp;omega,rfl⟩));apply fL;intro j;rw[cD,bJ,bA,bA];by_cases q:l+j<c;rw[aJ q,List.getElem?_range (by omega),List.getElem?_range (by omega)];rfl;rw[aH q,cA (by simp;omega)];rfl
theorem El{P:gD}(b:Sy V n cs){t:gB}{a:A}{x:T}{lo hi:Option A}{lo' hi':jE}(ha:Gm V U a x)(B:Rs V U lo lo')(y:Rs V U hi hi'){v:AV}
  (h:Jx P n cs t a lo hi=some v):∃r,vY P t x lo' hi'=some r/\im V U v r:=by
 unfold Jx at h;split at h;rename_i W;split at h;rename_i s c hl;obtain⟨l,w,rfl,q1,w1⟩:=wH b.zero ha hl;split at h;rename_i N k i;obtain⟨C,g,E⟩:=yG y q1 i;split at h;rename_i O o j;obtain⟨S,f,I⟩:=yG B b.zero j;split at h;rename_i p;simp only[aA]at p;have k1:=oX b.cs p.1.1 b.zero f;have k2:=oX b.cs p.1.2 f g;have k3:=oX b.cs p.2 g q1;obtain⟨J,b1,b2,u,b3,b4⟩:=NF b f g (by omega) k2;generalize GK n cs O o N k=D at h b2 b3 b4;obtain⟨s1,c1,n1,M⟩:=D;simp only at b2 b3 b4 h;cases h;have K:=E l.length l.length (by omega) (by omega) (by omega);have L:=I 0 (C+k).toNat (by omega) (by omega) (by omega);refine⟨.str ((l.take (C+k).toNat).drop (S+o).toNat),by simp only[vY,W,K,L],J,b1,b2,.str _ _ u _ b3 ?_⟩;rw[cP,cY];omega;cases h;cases h;cases h;cases h
 .rename_i e W;split at h
  .rename_i el s c;cases ha with
   |sl _ _ _ _ xs w h1 h2 h3 h4=>
   split at h;rename_i N k i;obtain⟨C,g,E⟩:=yG y h2 i;split at h;rename_i O o j;obtain⟨S,f,I⟩:=yG B b.zero j;split at h;rename_i z hz;split at h;rename_i p;simp only[aA]at p;obtain⟨⟨⟨⟨R,Q⟩,k1⟩,k2⟩,k3⟩:=p;have k1:=oX b.cs k1 b.zero f;have k2:=oX b.cs k2 f g;have k3:=oX b.cs k3 g h2;obtain⟨J,b1,b2,u,b3,b4⟩:=NF b f g (by omega) k2;generalize GK n cs O o N k=D at h b2 b3 b4;obtain⟨s1,c1,n1,M⟩:=D;simp only at b2 b3 b4 h;cases h;have K:=E xs.length xs.length (by omega) (by omega) (by omega);have L:=I 0 (C+k).toNat (by omega) (by omega) (by omega);have hcl:∀x∈xs,x.cells.length=z:=λx hx=>by
    rw[<-(qU (h4 x hx) R).2.1];exact aD Q
   obtain⟨r,g1,g2⟩:=Ua h1 W hz hcl L K (by omega) (by omega);refine⟨r,g1,J,b1,b2,.sl _ _ _ r _ u g2 b3 (by rw[cP,cY];omega) (λx hx=> ?_)⟩;exact(h4 x (eC (eR hx))).ext b1 (.refl _);cases h;cases h;cases h;cases h
  rename_i l sz si ci s c;split at h;rename_i N k i;split at h;rename_i O o j;split at h;rename_i z hz;split at h;rename_i p;simp only[aA]at p;obtain⟨⟨⟨⟨R,Q⟩,k1⟩,k2⟩,k3⟩:=p;have R:sz=z:=aD R;split at h;rename_i q d hq;cases ha with
  |ge _ _ _ _ _ _ S vi w g1 g2 g3 g4 g5=>
   obtain⟨C,g,E⟩:=yG y g4 i;obtain⟨Z,f,I⟩:=yG B b.zero j;have k1:=oX b.cs k1 b.zero f;have k2:=oX b.cs k2 f g;have k3:=oX b.cs k3 g g4;obtain⟨J,b1,b2,u,b3,b4⟩:=NF b f g (by omega) k2;generalize GK n cs O o N k=D at h b2 b3 b4;obtain⟨s1,c1,n1,M⟩:=D;simp only at b2 b3 b4 h;have K:=E (w+c).toNat (w+c).toNat (by omega) (by omega) (by omega);have L:=I 0 (C+k).toNat (by omega) (by omega) (by omega);obtain⟨m,u1,u2⟩:=PH b.zero g2 f hq;cases h;refine⟨.ge S sz ((vi+ci).toNat+(Z+o).toNat) ((C+k).toNat-(Z+o).toNat),?_,J,b1,b2,?_⟩;simp only[vY,W,K,L,hz];rw[aJ R.symm];have a1:(vi+ci).toNat+(Z+o).toNat=(m+d).toNat:=by omega
   have a2:(C+k).toNat-(Z+o).toNat=(u+c1).toNat:=by omega
   rw[a1,a2];exact .ge _ _ _ _ _ _ S m u g1 (b1 _ _ u1) (by omega) b3 (by omega)
  |ar _ _ _ _ _ _ vi w g1 g2 g3 g4 g5=>
   obtain⟨C,g,E⟩:=yG y g4 i;obtain⟨Z,f,I⟩:=yG B b.zero j;have k1:=oX b.cs k1 b.zero f;have k2:=oX b.cs k2 f g;have k3:=oX b.cs k3 g g4;obtain⟨J,b1,b2,u,b3,b4⟩:=NF b f g (by omega) k2;generalize GK n cs O o N k=D at h b2 b3 b4;obtain⟨s1,c1,n1,M⟩:=D;simp only at b2 b3 b4 h;have K:=E 0 0 (by omega) (by omega) (by omega);have L:=I 0 0 (by omega) (by omega) (by omega);obtain⟨m,u1,u2⟩:=PH b.zero g2 f hq;cases h;refine⟨.fp,?_,J,b1,b2,.ar _ _ _ _ _ _ m u g1 (b1 _ _ u1) (by omega) b3 (by omega)⟩;simp only[vY,W,K,L,hz];rfl
  cases h;cases h;cases h;cases h;cases h;cases h
 cases h
theorem Hl{m:Nat}(h:(m:Int)<=9000000000000000000):CL .i64 (m:Int):=vC (by omega)
theorem aLo{a:A}{q:Nat}{e:A}{s:Nat}{c:Int}(h:Qf a=some (q,e,s,c)):a= .g7 q e s c:=by
 cases a<;>simp only[Qf]at h<;>cases h<;>rfl
theorem aBb{i:Int}{n l:Nat}(h:tD (some (.int .i64 i)) 0 n=some l):l=i.toNat:=by
 simp only[tD]at h;split at h;cases h;rfl;cases h
theorem Qe{P:gD}{t e:gB}(c:P.underlying t=some (.slice e)){x r:T}{b:gC}(g:wP x b){i:Int}(h:vY P t x (some (.int .i64 i)) none=some r):wP r (b.drop i.toNat):=by
 have bt:∀{n l:Nat},tD (some (.int .i64 i)) 0 n=some l->l=i.toNat:=λh=>aBb h;rcases g with⟨rfl,rfl⟩|⟨f,rfl⟩|⟨d,n,f,rfl,rfl⟩
 .simp only[vY,c]at h
  repeat' split at h
  all_goals first|cases h|skip
  exact .inl ⟨rfl,by simp⟩
 .have e:tD none b.length b.length=some b.length:=rfl;simp only[vY,c,e]at h;split at h
  .rename_i l a;have a:=bt a;subst a
   repeat' split at h
   all_goals first|cases h|skip
   exact .inr (.inl ⟨f,by simp⟩)
  cases h
 .have e:tD none n n=some n:=rfl;simp only[vY,c,e]at h;split at h
  .rename_i l a;have a:=bt a;subst a
   repeat' split at h
   all_goals first|cases h|skip
   refine .inr (.inr ⟨_,_,_,rfl,?_⟩);apply List.ext_getElem;simp;intro j k m;simp
  cases h
theorem aDk{P:gD}(i:Sy V n cs){t:gB}{q:Nat}{e:A}{s:Nat}{c:Int}{x:T}{D z:Option A}{b a:jE}(K:Gm V U (.g7 q e s c) x)(d:Rs V U D b)(g:Rs V U z a){v:AV}
  (h:Vk P n cs t q e s c D z=some v):∃r,vY P t x b a=some r/\im V U v r:=by
 unfold Vk at h;split at h
 .rename_i e0 J C hu;split at h
  .rename_i I;simp only[aA]at I;obtain⟨f,c2,c3⟩:=I;have f:=aD f;subst f;cases K with
   |g7 _ _ _ _ _ E w Q k B h3 L=>
   have m:Gm V U (.sl e s c) x:= .sl e s c x E w k B h3 L;split at h
   .rename_i R Z f n1 cs1 N;cases h;obtain⟨r,u,V',b1,b2,b3⟩:=El i m d g N;refine⟨r,u,V',b1,b2,?_⟩;cases a with
    |some _ =>exact g.elim|none=>
    cases b with
    |none=>exact d.elim|some l=>
    cases(show Gm V U (.int .i64 J C) l from d)with
    |int _ _ _ v p hk=>
    have k2:=oX i.cs c2 i.zero p;have k3:=oX i.cs c3 p B;have o:=Qe hu k u;cases b3 with
    |sl _ _ _ _ ys w' g1 g2 M g4=>
    obtain⟨zs,z1,W,S⟩:=((default:gy).fin x).1 Q;have:=BR k z1;subst this;have:=BR g1 o;subst this;have O:(v+C).toNat<E.length:=by omega
    refine .g7 30 R Z f r _ w' (((default:gy).fin r).2 ⟨_,o,λy j=>W y (eR j),λy j=> ?_⟩) o g2 M g4;rw[List.getLast?_drop,aH (by omega)]at j;exact S y j
   cases h
  cases h
 cases h
theorem aIz{P:gD}(d:Sy V n cs){t:gB}{a:A}{x:T}(j:Gm V U a x){b:A}(h:aIy P cs t a=some b):∃r,CD P t x=some r/\Gm V U b r:=by
 unfold aIy at h;split at h;have c:=‹P.underlying t=_›;split at h;rename_i p;cases h;cases j;simp only[sQ,aF]at p;exact⟨_,by simp only[CD,c],tM d.zero (by omega) (Hl p)⟩;cases h;have c:=‹P.underlying t=_›;split at h;rename_i i;cases h;cases j with
 |str _ _ w l g q=>
  have:=XD d.cs d.zero i g;rw[<-q]at this;exact⟨_,by simp only[CD,c],tM g q this⟩
 cases h;have c:=‹P.underlying t=_›;cases h;cases j;exact⟨.int .i64 0,by simp only[CD,c],tM d.zero (by omega) (vC (by omega))⟩;have c:=‹P.underlying t=_›;split at h;rename_i i;cases h;simp only[sQ,aF]at i;cases j with
 |ie E _ D u o I=>
  have e:=Hl i;rw[o]at e;rcases u with⟨rfl,rfl⟩|⟨f,rfl⟩|⟨k,m,f,rfl,rfl⟩
  exact⟨.int .i64 0,by simp only[CD,c],tM d.zero (by rw[o];simp) (vC (by omega))⟩;exact⟨_,by simp only[CD,c],tM d.zero (by rw[o];simp) e⟩;simp only[dQ,eV]at e o;exact⟨_,by simp only[CD,c],tM d.zero (by rw[o];simp) e⟩
 cases h;have c:=‹P.underlying t=_›;split at h;rename_i i;cases h;cases j with
 |sl _ _ _ _ D w u g q _ =>
  have e:=XD d.cs d.zero i g;rw[<-q]at e;rcases u with⟨rfl,rfl⟩|⟨f,rfl⟩|⟨k,m,f,rfl,rfl⟩
  exact⟨.int .i64 0,by simp only[CD,c],tM g (by simpa using q) (vC (by omega))⟩;exact⟨_,by simp only[CD,c],tM g q e⟩;simp only[dQ,eV]at q e;exact⟨_,by simp only[CD,c],tM g q e⟩
 cases h;have c:=‹P.underlying t=_›;split at h;rename_i i;cases h;cases j with
 |ge _ _ _ _ _ _ J C w z B y s v=>
  have e:=XD d.cs d.zero i s;refine⟨_,by simp only[CD,c];rfl,?_⟩;rw[Int.toNat_of_nonneg v];exact tM s rfl e
 |ar _ _ _ _ _ _ C w z B y s v=>
  exact⟨.int .i64 0,by simp only[CD,c],tM s v.symm (vC (by omega))⟩
 cases h;have c:=‹P.underlying t=_›;split at h;rename_i i;cases h;cases j with
 |sx _ _ k m f w g q=>
  have e:=XD d.cs d.zero i g;rw[<-q]at e;exact⟨.int .i64 m,by simp only[CD,c],tM g q e⟩
 cases h;have c:=‹P.underlying t=_›;split at h;rename_i p;cases h;simp only[sQ,aF]at p;exact⟨_,by simp only[CD,c],tM d.zero (by omega) (Hl p)⟩;cases h;have c:=‹P.underlying t=_›;cases h;cases j;exact⟨.int .i64 0,by simp only[CD,c],tM d.zero (by omega) (vC (by omega))⟩;cases h
theorem aRg{P:gD}(c:Sy V n cs){t:gB}{a:A}{x:T}(d:Gm V U a x){b:A}(h:bGh P cs t a=some b):∃r,CD P t x=some r/\Gm V U b r:=aIz c d.cq h
theorem Kl{s v:Nat}{c u m w q:Int}{d:gN}(b:Sy V n cs)(f:V[s]? =some w)(a:V[v]? =some q)(p:m=w+c\/m=q+u)(i:rX V d)(g:d[n]? =some m){r:List pR}(o:oZ d r):∀k,k<=n->oZ d (aMn n cs s c v u r k)
 |0,_ =>o
 |k+1,z=>by
  unfold aMn;split;rename_i h;simp only[aA]at h;have j:k<V.length:=by rw[b.len];omega
  have e:V[k]? =some V[k]:=aB j;have y:=oX b.cs h.2.1 e f;have x:=oX b.cs h.2.2 e a;exact .cons ⟨_,_,i _ _ e,g,by omega⟩ (Kl b f a p i g o k (by omega));exact Kl b f a p i g o k (by omega)
theorem aRv(f:Sy V n cs){a b:A}{x y:T}(I:Gm V U a x)(J:Gm V U b y){v:AV}(h:aZj n cs a b=some v):∃r,aRw x y=some r/\im V U v r:=by
 unfold aZj at h;split at h
 .rename_i k s c L M j;cases I with
  |int _ _ _ w p K=>cases J with
   |int _ _ _ g d z=>
   split at h;cases h;rename_i C;have C:k=L:=by simpa using C
   subst C;refine⟨_,rfl,?_⟩;split at h;rename_i o;have:=oX f.cs o p d;cases h;rw[aH (by omega)];exact .here f (tM p rfl K);split at h;rename_i o;have:=oX f.cs o d p;cases h;have e:(if g+j<w+c then g+j else w+c)=g+j:=by split<;>omega
   rw[e];exact .here f (tM d rfl z);cases h;have i:CL k (if g+j<w+c then g+j else w+c):=by split<;>assumption
   generalize E:(if g+j<w+c then g+j else w+c)=m at i;have B:m<=w+c/\m<=g+j/\(m=w+c\/m=g+j):=by rw[<-E];split<;>omega
   obtain⟨u,q,N,D⟩:=f.new m;refine DE f i (.cons ⟨m,w,q,u _ _ p,B.1⟩ (.cons ⟨m,g,q,u _ _ d,B.2.1⟩ (.cons ⟨m,0,q,D,by have:=i.2;omega⟩ (.cons ⟨0,m,D,q,?_⟩ (Kl f p d B.2.2 u q (f.cs.ext u) n (bB _))))));split;rename_i o;simp only[aA]at o;have Q:=oX f.cs o.1 f.zero p;have O:=oX f.cs o.2 f.zero d;omega;have:=i.1;omega
 cases h
theorem bBa{s g:Nat}{c f m w e:Int}{a:gN}(h:Sy V n cs)(p:V[s]? =some w)(b:V[g]? =some e)(x:m=w+c\/m=e+f)(q:a[n]? =some m)(o:a[0]? =some 0){r:List pR}(i:oZ a r):oZ a (oD cs n s c g f r):=by
 unfold oD;split;rename_i u y k j;have z:=BA h.zero p h.cs k;have v:=BA h.zero b h.cs j;refine .cons ⟨_,_,q,o,?_⟩ i;split;rename_i d;simp only[sQ,aF]at d;omega;rename_i d;simp only[sQ,aF]at d;omega;exact i
theorem aRr(j:Sy V n cs){a b:A}{x y:T}(E:Gm V U a x)(I:Gm V U b y){v:AV}(h:aZi n cs a b=some v):∃r,aRs x y=some r/\im V U v r:=by
 unfold aZi at h;split at h
 .rename_i k s c L M i;cases E with
  |int _ _ _ w o J=>cases I with
   |int _ _ _ f d u=>
   split at h;cases h;rename_i B;have B:k=L:=by simpa using B
   subst B;refine⟨_,rfl,?_⟩;split at h;rename_i C;have:=oX j.cs C o d;cases h;have e:(if w+c<f+i then f+i else w+c)=f+i:=by split<;>omega
   rw[e];exact .here j (tM d rfl u);split at h;rename_i C;have:=oX j.cs C d o;cases h;rw[aH (by omega)];exact .here j (tM o rfl J);cases h;have g:CL k (if w+c<f+i then f+i else w+c):=by split<;>assumption
   generalize D:(if w+c<f+i then f+i else w+c)=m at g;have K:w+c<=m/\f+i<=m/\(m=w+c\/m=f+i):=by rw[<-D];split<;>omega
   obtain⟨z,p,N,q⟩:=j.new m;exact DE j g (.cons ⟨w,m,z _ _ o,p,by omega⟩ (.cons ⟨f,m,z _ _ d,p,by omega⟩ (.cons ⟨0,m,q,p,by have:=g.1;omega⟩ (.cons ⟨m,0,p,q,by have:=g.2;omega⟩ (bBa j o d K.2.2 p q (j.cs.ext z))))))
 cases h
theorem WT{f:Nat->List pR->A->A->Option AV}{g:T->T->Option T}
  (o:∀(V:gN) (n:Nat) (c:List pR) (a b:A) (x y:T) (v:AV),Sy V n c->Gm V U a x->Gm V U b y->f n c a b=some v->∃r,g x y=some r/\im V U v r):
  ∀(d:List A) (V:gN) (n:Nat) (c:List pR) (a:A) (x:T) (e:gC) (v:AV),Sy V n c->Gm V U a x->pT V U d e->Cv f n c a d=some v->∃r,HR g x e=some r/\im V U v r
 |[],V,n,c,a,x,e,v,j,i,k,h=>by
  rw[k.ae];simp only[Cv]at h;cases h;exact⟨x,rfl,.here j i⟩
 |b::d,V,n,c,a,x,e,v,j,i,k,h=>by
  obtain⟨y,r,rfl,J,I⟩:=k.I;simp only[Cv]at h;split at h;rename_i z M m E;obtain⟨q,D,u,p,L,s⟩:=o V n c a b x y _ j i J E;obtain⟨w,B,C,O,N,K⟩:=WT o d u M m z q r v L s (I.ext p (.refl _)) h;exact⟨w,by simp only[HR,D];exact B,C,p.trans O,N,K⟩;cases h
theorem MO{a c:List A}{b u:gC}(h:pT V U a b)(d:pT V U c u)(off:Nat):pT V U (PE a off c) (sC b off u):=by
 unfold PE sC;rw[d.1];exact((h.take off).app d).app (h.drop _)
theorem WL{p:jM}:∀(e:List (Nat×A)) (q:iE) (c:List A) (d:gC) (f:List A),e.map Prod.fst=q.map Prod.fst->pT V U (e.map Prod.snd) (q.map Prod.snd)->pT V U c d->Cr p c e=some f->
  ∃u,KW p d q=some u/\pT V U f u
 |[],[],c,d,f,_,_,h,b=>by simp only[Cr]at b;cases b;exact⟨d,rfl,h⟩
 |(i,a)::e,(j,t)::q,c,d,f,g,k,h,b=>by
  simp only[dN,fT]at g k;obtain⟨rfl,g⟩:=g;simp only[Cr]at b;split at b;cases b;rename_i o s v;split at b;rename_i z;obtain⟨m,w,B⟩:=z;obtain⟨_,k2⟩:=qU k.head m;obtain⟨u,x,y⟩:=WL e q _ _ f g k.tail (MO h k2 o) b;refine⟨u,?_,y⟩;simp only[KW,v];rw[aJ ⟨by rw[<-k2.1];exact w,by rw[<-h.1];exact B⟩];exact x;cases b
 |[],_ ::_,_,_,_,h,_,_,_ =>by simp at h|_ ::_,[],_,_,_,h,_,_,_ =>by simp at h
theorem Ir{v:gZ}{a:A}(h:IV v=some a):a.known=true:=by
 unfold IV at h;split at h;split at h;cases h;rfl;cases h;split at h;cases h;rfl;cases h
 .unfold JW at h;split at h<;>first|(cases h;rfl)|cases h|skip
  split at h<;>cases h;rfl
theorem Rk{P:gD}{t:gB}{a:A}(h:EW P t=some a):a.known=true:=by
 unfold EW at h;split at h;split at h;exact Ir h;cases h;cases h
theorem aBc{P:gD}(o:V[0]? =some 0){t:gB}{p:List (Nat×A)}{q:iE}(m:p.map Prod.fst=q.map Prod.fst)(k:pT V U (p.map Prod.snd) (q.map Prod.snd)){b:A}(h:Sl P t p=some b):
  ∃r,VR P t q=some r/\Gm V U b r:=by
 unfold Sl at h;split at h;rename_i z j;obtain⟨B,w,x⟩:=zH (V:=V) (U:=U) o j;obtain⟨_,k2⟩:=qU x (Rk j);unfold VR;rw[w];simp only;split at h;rename_i y f;rw[f];simp only;split at h;rename_i C i;rw[i];obtain⟨u,g,rfl⟩:=aG.1 h;obtain⟨v,d,a⟩:=WL p q _ _ u m k k2 g;exact⟨.agg v,by simp only[d];rfl,.agg _ _ a.1 a.2⟩;cases h;rename_i e f;rw[f];simp only;split at h;rename_i s c;rw[c];obtain⟨u,g,rfl⟩:=aG.1 h;obtain⟨v,d,a⟩:=WL p q _ _ u m k k2 g;exact⟨.agg v,by simp only[d];rfl,.agg _ _ a.1 a.2⟩;cases h;cases h;cases h
theorem SD:∀{c:List A} {a:A},EG.iN c=true->a∈c->∃f x y,a= .fn f x y
 |b::d,a,h,hm=>by
  cases b<;>simp only[EG.iN]at h<;>try(cases h;done)
  rcases aY.1 hm with rfl|hm;exact⟨_,_,_,rfl⟩;exact SD h hm
theorem Ij{a:A}{x:T}(g:Gm V U a x){b:A}(h:EG a=some b):∃r,RE x=some r/\Gm V U b r:=by
 cases a<;>simp only[EG]at h<;>try(cases h;done)
 case ptr=>cases h;cases g with|ptr _ _ o v=>exact⟨_,rfl,.ptr _ _ o v⟩
 case iv=>cases h;cases g with|iv _ _ _ _ _ o w d e i=>exact⟨_,rfl,.iv _ _ _ _ _ o w d e i⟩
 case ref=>cases h;cases g with|ref _ t _ d e=>exact⟨_,rfl,.ref _ t _ d e⟩
 case fn=>cases h;cases g with|fn _ _ _ k m d e i j=>exact⟨_,rfl,.fn _ _ _ k m d e i j⟩
 case iface=>cases h;cases g with|iface _ _ y d=>exact⟨_,rfl,.iface _ _ y d⟩
 case or a_s=>
  split at h;rename_i u;cases h;cases g with
  |or _ c _ s z=>
   obtain⟨f,p,q,rfl⟩:=SD u s;cases z with
   |fn _ _ _ k m d e i j=>exact⟨_,rfl,.or _ _ _ s (.fn _ _ _ k m d e i j)⟩
  cases h
end
section
variable{V V':gN}{U μ':gE}{n:Nat}{cs:List pR}{X:AX}{gl:gG}{pe:gM}
theorem aJp{a b:Nat}(h:Nat.beq a b=true):a=b:=aD h
theorem rS:∀(b:gP) (l m:Nat) (o:AO),oV (zZ b l o) m=if l=m then(oV b l).map (λ_ =>o)else oV b m
 |[],l,m,o=>by simp[zZ,oV]
 |(k,q)::r,l,m,o=>by
  have i:=rS r l m o;by_cases h:k=l;by_cases a:k=m;simp[zZ,oV,<-h,<-a];have:¬l=m:=λe=>a (h.trans e);simp[zZ,oV,h,this,i];by_cases a:k=m;have:¬l=m:=λe=>h (a.trans e.symm);simp[zZ,oV,h,a,this];simp[<-a,h,oV];simp[zZ,oV,h,a,i]
theorem zT:∀(b:gP) (l m:Nat),oV (vB b l) m=if l=m then none else oV b m
 |[],l,m=>by simp[vB,oV]
 |(k,q)::r,l,m=>by
  have i:=zT r l m;by_cases h:k=l;by_cases a:k=m;subst h;subst a;simp[vB];simpa using i;have:¬l=m:=λe=>a (h.trans e);simp[vB,oV,h,this,i];by_cases a:k=m;have:¬l=m:=λe=>h (a.trans e.symm);simp[vB,oV,h,a,this];simp[<-a,h,oV];simp[vB,oV,h,a,i]
variable{hp:gP}{nl:Nat}{H:Hp}
theorem GH.dv(e:GH hp nl V U H)(y:gW):∀l o,oV hp l=some o->∃q,(U++[y])[l]? =some q/\U[l]? =some q/\∀x,q=some x->∃b,Ip o H x=some b/\Kv V (U++[y]) o b:=λl o f=>by
 obtain⟨q,h,c⟩:=e.obj l o f;exact⟨q,rX.app _ _ _ _ h,h,λx g=>by obtain⟨b,a,d⟩:=c x g;exact⟨b,a,d.ext (.refl _) (.app _ _)⟩⟩
theorem sZ{Z:Type}{l:List Z}{m:Nat}(h:l.length=m)(y:Z):(l++[y])[m]? =some y:=by subst h;simp
theorem wC{Z:Type}{l:List Z}{m:Nat}(h:l.length=m){y z:Z}{j:Nat}(a:(l++[y])[j]? =some z):(j=m/\y=z)\/(j<m/\l[j]? =some z):=by
 subst h;rw[dP]at a;split at a;exact .inr ⟨‹_›,a⟩;rename_i b;have:j=l.length:=by
  have:=(aQ.1 a).1;simp at this;omega
 subst this;simp at a;exact .inl ⟨rfl,a⟩
theorem YM{o:AO}{b:Ob}(h:Kv V U o b)(d:b.me=none):o.plain=true:=by
 cases o with
 |loop=>obtain⟨r,a,_⟩:=h;rw[d]at a;cases a
 |map=>obtain⟨c,m,a,_⟩:=h;rw[d]at a;cases a
 |_ =>rfl
theorem Ow{q:AO}{b:Ob}{x:Nat}(a:x<H.next):Ip q (H.new b) x=Ip q H x:=by
 have h:(H.new b).any x=H.any x:=by rw[rN,aH (by omega)]
 cases q<;>first|exact h|exact FP h
theorem XX{q:AO}{b:Ob}{x z:Nat}(a:z≠x):Ip q (H.put x b) z=Ip q H z:=by
 have h:(H.put x b).any z=H.any z:=by rw[qP,aH a]
 cases q<;>first|exact h|exact FP h
theorem GH.new(h:GH hp nl V U H){o:AO}{b:Ob}(u:Kv V (U++[some H.next]) o b)(k:b.me=none:=by rfl):GH ((nl,o)::hp) (nl+1) V (U++[some H.next]) (H.new b):=by
 refine⟨by simp[h.len],λl q a=> ?_,λl E q z x a g d j=> ?_,λl x d=> ?_,λl e I a=> ?_,Xx h.fin b⟩;simp only[oV]at a;split at a;rename_i e;have e:=aD e;subst e;cases a;exact⟨some H.next,sZ h.len _,λx d=>by cases d;exact⟨b,by rw[zW (YM u k),FI _ _ _ k,aJ rfl],u⟩⟩;obtain⟨y,D,C,B⟩:=h.dv (some H.next) l q a;refine⟨y,D,λx d=> ?_⟩;obtain⟨c,v,w⟩:=B x d;subst d;exact⟨c,by rw[Ow (h.lt l x C)];exact v,w⟩;rcases wC h.len d with⟨p,f⟩|⟨p,f⟩
 rcases wC h.len j with⟨s,i⟩|⟨s,i⟩
 omega;have:=h.lt _ _ i;cases f;omega;rcases wC h.len j with⟨s,i⟩|⟨s,i⟩
 have:=h.lt _ _ f;cases i;omega;simp only[oV]at a g;rw[aH (by simp;omega)]at a g;exact h.inj l E q z x a g f i;rcases wC h.len d with⟨p,f⟩|⟨p,f⟩
 cases f;simp[Hp.new];have:=h.lt _ _ f;simp[Hp.new];omega;simp only[oV]at a;split at a;rename_i m;have m:=aJp m;subst m;exact⟨_,sZ h.len _⟩;obtain⟨x,d⟩:=h.aN l e I a;exact⟨x,rX.app _ _ _ _ d⟩
theorem GH.alias(a:GH hp nl V U H){o:AO}{y:gW}(v:∀e w,o≠ .fix e w)(u:∀x,y=some x->x<H.next/\(∀l q,oV hp l=some q->U[l]? ≠some (some x))/\∃b,H.get x=some b/\Kv V (U++[y]) o b):GH ((nl,o)::hp) (nl+1) V (U++[y]) H:=by
 refine⟨by simp[a.len],λl q h=> ?_,λl B q z x h j g k=> ?_,λl x g=> ?_,λl e w h=> ?_,a.fin⟩;simp only[oV]at h;split at h;rename_i e;have e:=aD e;subst e;cases h;exact⟨y,sZ a.len _,λx g=>by obtain⟨b,p,f⟩:=(u x g).2.2;exact⟨b,by rw[zW (YM f (pD p).2)];exact p,f⟩⟩;obtain⟨D,p,f,C⟩:=a.dv y l q h;exact⟨D,p,C⟩;have c:∀{l:Nat} {q:AO},l<nl->oV ((nl,o)::hp) l=some q->oV hp l=some q:=λp f=>by
  simp only[oV]at f;rw[aH (by simp;omega)]at f;exact f
 rcases wC a.len g with⟨m,d⟩|⟨m,d⟩
 rcases wC a.len k with⟨s,i⟩|⟨s,i⟩
 omega;exact absurd i ((u x d).2.1 B z (c s j));rcases wC a.len k with⟨s,i⟩|⟨s,i⟩
 exact absurd d ((u x i).2.1 l q (c m h));exact a.inj l B q z x (c m h) (c s j) d i;rcases wC a.len g with⟨m,d⟩|⟨m,d⟩
 exact(u x d).1;exact a.lt _ _ d;simp only[oV]at h;split at h;cases h;exact absurd rfl (v _ _);obtain⟨x,g⟩:=a.aN l e w h;exact⟨x,rX.app _ _ _ _ g⟩
theorem GH.sub(a:GH hp nl V U H){c:gP}(h:∀l o,oV c l=some o->oV hp l=some o):GH c nl V U H:=
 ⟨a.len,λl o b=>a.obj l o (h l o b),λl f q g x b d=>a.inj l f q g x (h _ _ b) (h _ _ d),a.lt,λl e i b=>a.aN l e i (h _ _ b),a.fin⟩
theorem GH.put(d:GH hp nl V U H){l x:Nat}{o B:AO}{b j:Ob}(C:oV hp l=some o)(k:U[l]? =some (some x))(W:H.get x=some b)(J:Kv V U B j)(g:j.me=none:=by rfl):GH (zZ hp l B) nl V U (H.put x j):=by
 refine⟨d.len,λm q a=> ?_,λm Q q S y a v f D=> ?_,λm y f=>d.lt m y f,λm e R a=> ?_,Gz d.fin (d.lt l x k) _⟩;rw[rS]at a;split at a;rename_i e;subst e;rw[C]at a;cases a;refine⟨some x,k,λy f=> ?_⟩;cases f;exact⟨j,by rw[zW (YM J g),gw _ _ _ _ g,aJ rfl],J⟩;rename_i u;obtain⟨y,I,N⟩:=d.obj m q a;refine⟨y,I,λz E=> ?_⟩;obtain⟨c,M,L⟩:=N z E;subst E;have:z≠x:=λe=>by subst e;exact u (d.inj l m o q z C a k I)
 exact⟨c,by rw[XX this];exact M,L⟩;have i:∀{m:Nat} {q:AO},oV (zZ hp l B) m=some q->∃q,oV hp m=some q:=λ{m q} h=>by
  rw[rS]at h;split at h;rename_i e;subst e;exact⟨o,C⟩;exact⟨q,h⟩
 obtain⟨p,w⟩:=i a;obtain⟨O,s⟩:=i v;exact d.inj m Q p O y w s f D;rw[rS]at a;split at a;rename_i K;subst K;exact⟨x,k⟩;exact d.aN m e R a
theorem GH.mark(c:GH hp nl V U H){l x:Nat}{o o':AO}(g:oV hp l=some o)(B:U[l]? =some (some x))(E:∀b,H.get x=some b->Kv V U o' b)(u:∀e z,o'≠ .fix e z)(k:o.plain=true)(f:o'.plain=true):GH (zZ hp l o') nl V U H:=by
 refine⟨c.len,λm q a=> ?_,λm I q J y a j s w=> ?_,c.lt,λm e z a=> ?_,c.fin⟩;rw[rS]at a;split at a;rename_i e;subst e;rw[g]at a;cases a;refine⟨some x,B,λy s=> ?_⟩;cases s;obtain⟨b,b1,_⟩:=c.at g B k;exact⟨b,by rw[zW f,b1],E b b1⟩;exact c.obj m q a;have d:∀{m:Nat} {q:AO},oV (zZ hp l o') m=some q->∃q,oV hp m=some q:=λ{m q} h=>by
  rw[rS]at h;split at h;rename_i e;subst e;exact⟨o,g⟩;exact⟨q,h⟩
 obtain⟨p,v⟩:=d a;obtain⟨D,i⟩:=d j;exact c.inj m I p D y v i s w;rw[rS]at a;split at a;rename_i C;subst C;rw[g]at a;cases a;exact absurd rfl (u _ _);exact c.aN m e z a
theorem GH.cr(d:GH hp nl V U H){l x:Nat}{o:AO}(E:oV hp l=some o)(C:U[l]? =some (some x)):GH (vB hp l) nl V U (H.drop x):=by
 have a:∀{m:Nat} {q:AO},oV (vB hp l) m=some q->l≠m/\oV hp m=some q:=λ{m q} h=>by
  rw[zT]at h;split at h;cases h;exact⟨‹_›,h⟩
 refine⟨d.len,λm q b=> ?_,λm D q v y b g i j=>d.inj m D q v y (a b).2 (a g).2 i j,λm y i=>d.lt m y i,λm e I b=>d.aN m e I (a b).2,aHr d.fin _⟩;obtain⟨f,b⟩:=a b;obtain⟨y,s,B⟩:=d.obj m q b;refine⟨y,s,λz p=> ?_⟩;obtain⟨c,w,u⟩:=B z p;subst p;have:z≠x:=λe=>by subst e;exact f (d.inj l m o q z E b C s)
 refine⟨c,?_,u⟩;have k:(H.drop x).any z=H.any z:=by rw[qY,aH this]
 have:Ip q (H.drop x) z=Ip q H z:=by cases q<;>first|exact k|exact FP k
 rw[this];exact w
theorem GH.newL{p:gP}{nl:Nat}{H:Hp}(h:GH p nl V U H){o:AO}{b:Ob}(w:Kv V (U++[some H.next]) o b)(s:o.plain=false):GH ((nl,o)::p) (nl+1) V (U++[some H.next]) (H.new b):=by
 refine⟨by simp[h.len],λl q a=> ?_,λl E q z x a g d j=> ?_,λl x d=> ?_,λl e I a=> ?_,Xx h.fin b⟩;simp only[oV]at a;split at a;rename_i e;have e:=aD e;subst e;cases a;refine⟨some H.next,sZ h.len _,λx d=> ?_⟩;cases d;refine⟨b,?_,w⟩;have:(H.new b).any H.next=some b:=by rw[rN,aJ rfl]
 cases o<;>first|exact this|cases s
 obtain⟨y,D,C,B⟩:=h.dv (some H.next) l q a;refine⟨y,D,λx d=> ?_⟩;obtain⟨c,u,v⟩:=B x d;subst d;exact⟨c,by rw[Ow (h.lt l x C)];exact u,v⟩;rcases wC h.len d with⟨k,f⟩|⟨k,f⟩
 rcases wC h.len j with⟨m,i⟩|⟨m,i⟩
 omega;have:=h.lt _ _ i;cases f;omega;rcases wC h.len j with⟨m,i⟩|⟨m,i⟩
 have:=h.lt _ _ f;cases i;omega;simp only[oV]at a g;rw[aH (by simp;omega)]at a g;exact h.inj l E q z x a g f i;rcases wC h.len d with⟨k,f⟩|⟨k,f⟩
 cases f;simp[Hp.new];have:=h.lt _ _ f;simp[Hp.new];omega;simp only[oV]at a;split at a;cases a;cases s;obtain⟨x,d⟩:=h.aN l e I a;exact⟨x,rX.app _ _ _ _ d⟩
theorem GH.cf{f:gP}{nl:Nat}{H:Hp}(b:GH f nl V U H){l x:Nat}{o o':AO}{i:Ob}(k:oV f l=some o)(B:U[l]? =some (some x))(M:Kv V U o' i)(j:o'.plain=false):GH (zZ f l o') nl V U (H.put x i):=by
 refine⟨b.len,λm q a=> ?_,λm N q Q y a v d C=> ?_,λm y d=>b.lt m y d,λm e O a=> ?_,Gz b.fin (b.lt l x B) _⟩;rw[rS]at a;split at a;rename_i e;subst e;rw[k]at a;cases a;refine⟨some x,B,λy d=> ?_⟩;cases d;refine⟨i,?_,M⟩;have:(H.put x i).any x=some i:=by rw[qP,aJ rfl]
 cases o'<;>first|exact this|cases j
 rename_i u;obtain⟨y,E,K⟩:=b.obj m q a;refine⟨y,E,λz D=> ?_⟩;obtain⟨c,J,I⟩:=K z D;subst D;have:z≠x:=λe=>by subst e;exact u (b.inj l m o q z k a B E)
 exact⟨c,by rw[XX this];exact J,I⟩;have g:∀{m:Nat} {q:AO},oV (zZ f l o') m=some q->∃q,oV f m=some q:=λ{m q} h=>by
  rw[rS]at h;split at h;rename_i e;subst e;exact⟨o,k⟩;exact⟨q,h⟩
 obtain⟨p,w⟩:=g a;obtain⟨L,s⟩:=g v;exact b.inj m N p L y w s d C;rw[rS]at a;split at a;rw[k]at a;cases a;cases j;exact b.aN m e O a
end
section
variable{V V':gN}{U μ':gE}{n:Nat}{cs:List pR}
theorem oT{a b:Nat}(h:Nat.beq a b=true):a=b:=aD h
theorem pC{a b:Nat}(h:Nat.blt a b=true):a<b:=by simpa [Nat.blt,Nat.lt_iff_add_one_le]using h
theorem aOj:∀{a b:pR},GU a b=true->a=b
 | .le x y c,.le e d f,h=>by
  simp only[GU,aA,bN]at h;rw[oT h.1,oT h.2.1,h.2.2]
 | .ne x y c,.ne e d f,h=>by
  simp only[GU,aA,bN]at h;rw[oT h.1,oT h.2.1,h.2.2]
 | .ev x y c,.ev e d f,h=>by
  simp only[GU,aA,bN]at h;rw[oT h.1,oT h.2.1,h.2.2]
 | .le ..,.ne ..,h=>by simp[GU]at h| .ne ..,.le ..,h=>by simp[GU]at h| .ev ..,.le ..,h=>by simp[GU]at h| .le ..,.ev ..,h=>by simp[GU]at h| .ev ..,.ne ..,h=>by simp[GU]at h| .ne ..,.ev ..,h=>by simp[GU]at h
 | .sm x y z c,.sm e d g f,h=>by
  simp only[GU,aA,bN]at h;rw[oT h.1,oT h.2.1,oT h.2.2.1,h.2.2.2]
 | .sm ..,.le ..,h=>by simp[GU]at h| .sm ..,.ne ..,h=>by simp[GU]at h| .sm ..,.ev ..,h=>by simp[GU]at h| .le ..,.sm ..,h=>by simp[GU]at h| .ne ..,.sm ..,h=>by simp[GU]at h| .ev ..,.sm ..,h=>by simp[GU]at h
theorem VO:∀{a b:List pR},VN a b=true->a=b
 |[],[],_ =>rfl
 |a::c,b::d,h=>by
  simp only[VN,aA]at h;rw[aOj h.1,VO h.2]
 |[],_ ::_,h=>by simp[VN]at h|_ ::_,[],h=>by simp[VN]at h
theorem aOi:∀{a b:Bo},aAy a b=true->a=b
 | .lit a,.lit b,h=>by simp only[aAy,bN]at h;rw[h]
 | .imp p q,.imp d c,h=>by
  simp only[aAy,aA]at h;rw[VO h.1,VO h.2]
 | .lit _,.imp ..,h=>by simp[aAy]at h| .imp ..,.lit _,h=>by simp[aAy]at h
theorem Fz:∀{a b:gH},ND a b=true->a=b
 |[],[],_ =>rfl
 |a::c,b::d,h=>by
  simp only[ND,aA,bN]at h;rw[h.1,Fz h.2]
 |[],_ ::_,h=>by simp[ND]at h|_ ::_,[],h=>by simp[ND]at h
theorem CV{f:A->A->Bool}(e:∀a b,f a b=true->a=b):∀{c d:List A},yW f c d=true->c=d
 |[],[],_ =>rfl
 |a::c,b::d,h=>by
  simp only[yW,aA]at h;rw[e _ _ h.1,CV e h.2]
 |[],_ ::_,h=>by simp[yW]at h|_ ::_,[],h=>by simp[yW]at h
theorem JG:∀(k:Nat) (a b:A),CM k a b=true->a=b
 |0,_,_,h=>by simp[CM]at h
 |k+1,a,b,h=>by
  have i:=JG k;unfold CM at h;split at h<;>try rfl
  all_goals(try simp only[aA,bN]at h)
  obtain⟨e,d,c⟩:=h;rw[e,oT d,c];obtain⟨e,d,c⟩:=h;rw[e,d,c];rw[aOi h];rw[Fz h];rw[oT h.1,h.2];rw[h.1,h.2];rw[oT h];rw[oT h.1,oT h.2];obtain⟨e,d,c,f,g⟩:=h;rw[oT e,oT d,oT c,f,oT g];rw[i _ _ h.1,oT h.2];obtain⟨e,d,c⟩:=h;rw[i _ _ e,oT d,c];rw[oT h.1,h.2];rw[h.1,h.2];obtain⟨e,d,c⟩:=h;rw[i _ _ e,d,c];obtain⟨e,d,c,f,g,j⟩:=h;rw[oT e,oT d,oT c,f,oT g,j];obtain⟨e,d,c⟩:=h;rw[oT e,CV i d,CV i c];rw[oT h.1,i _ _ h.2];rw[CV i h];rw[CV i h];rw[CV i h];rw[CV i h];rw[oT h.1,CV i h.2];rw[oT h];obtain⟨e,d,c,f⟩:=h;rw[oT e,i _ _ d,oT c,f];obtain⟨e,d,c,f⟩:=h;rw[oT e,i _ _ d,c,f];cases h
theorem qM{f:A->Bool}:∀{c:List A},HD f c=true->∀a∈c,f a=true
 |b::d,h,a,hm=>by
  simp only[HD,aA]at h;rcases aY.1 hm with rfl|hm
  exact h.1;exact qM h.2 a hm
theorem qG{Z:Type}{l:List Z}{m j:Nat}{v:Z}(h:l[j]? =some v)(a:j<m):(l.take m)[j]? =some v:=by
 rw[bJ,aJ a];exact h
theorem EI:∀{k:List pR},vJ n k=true->oZ V k->oZ (V.take n) k
 |[],_,_ =>oZ.nil
 | .le x y c::r,h,e=>by
  simp only[vJ,aA]at h;obtain⟨a,b,i,g,f⟩:=e _ aO;exact .cons ⟨a,b,qG i (pC h.1),qG g (pC h.2.1),f⟩ (EI h.2.2 (λq j=>e q (aC _ j)))
 | .ne x y c::r,h,e=>by
  simp only[vJ,aA]at h;obtain⟨a,b,i,g,f⟩:=e _ aO;exact .cons ⟨a,b,qG i (pC h.1),qG g (pC h.2.1),f⟩ (EI h.2.2 (λq j=>e q (aC _ j)))
 | .ev x y c::r,h,e=>by
  simp only[vJ,aA]at h;obtain⟨a,b,i,g,f⟩:=e _ aO;exact .cons ⟨a,b,qG i (pC h.1),qG g (pC h.2.1),f⟩ (EI h.2.2 (λq j=>e q (aC _ j)))
 | .sm x y z c::r,h,e=>by
  simp only[vJ,aA]at h;obtain⟨a,b,i,g,d,f,m⟩:=e _ aO;exact .cons ⟨a,b,qG i (pC h.1),qG g (pC h.2.1),d,qG f (pC h.2.2.1),m⟩ (EI h.2.2.2 (λq j=>e q (aC _ j)))
theorem Iw(n l:Nat):∀(k:Nat) (a:A) (t:T),uR n l k a=true->Gm V U a t->Gm (V.take n) (U.take l) a t
 |0,_,_,h,_ =>by simp[uR]at h
 |k+1,a,t,h,hg=>by
  have z:=Iw n l k;cases hg with
  |top t=>exact .top t|any t h=>exact .any t h|int k s c v d g=>exact .int k s c v (qG d (pC (by simpa [uR]using h))) g|ft k L I m d g o=>exact .ft k L I m d g o
  |bool B b Z=>
   refine .bool B b ?_;cases B with
   |lit x=>exact Z
   |imp p q=>
    simp only[uR,aA]at h;exact⟨λe=>EI h.1 (Z.1 e),λe=>EI h.2 (Z.2 e)⟩
  |gh s=>exact .gh s|str s c v l d g=>exact .str s c v l (qG d (pC (by simpa [uR]using h))) g|fy L I l d g=>exact .fy L I l d g|fS=>exact .fS|fp=>exact .fp|gg=>exact .gg|gb=>exact .gb|fw=>exact .fw|mp l J d=>exact .mp l J (qG d (pC (by simpa [uR]using h)))|yl l J d=>exact .yl l J (qG d (pC (by simpa [uR]using h)))|ptr l D J d=>exact .ptr l D J (qG d (pC (by simpa [uR]using h)))
  |iv l Q s c D J v d g o=>
   simp only[uR,aA]at h;exact .iv l Q s c D J v (qG d (pC h.1)) (qG g (pC h.2)) o
  |ref x t D d g=>exact .ref x t D d (z _ _ (by simpa [uR]using h) g)
  |sl e s c t K v d g o w=>
   simp only[uR,aA]at h;exact .sl e s c t K v d (qG g (pC h.2)) o (λx M=>z _ _ h.1 (w x M))
  |gp e L I t K d g o w=>exact .gp e L I t K d g o (λx M=>z _ _ (by simpa [uR]using h) (w x M))
  |g7 q e s c t K v N d g o w=>
   simp only[uR,aA]at h;exact .g7 q e s c t K v N d (qG g (pC h.2)) o (λx M=>z _ _ h.1 (w x M))
  |gr q e L I t K N d g o w=>exact .gr q e L I t K N d g o (λx M=>z _ _ (by simpa [uR]using h) (w x M))|ie es t K d g o=>exact .ie es t K d g (λj a t u E=>z _ _ (qM (by simpa [uR]using h) a (bK u)) (o j a t u E))|sx s c C m f v d g=>exact .sx s c C m f v (qG d (pC (by simpa [uR]using h))) g|ig L I C m f d g=>exact .ig L I C m f d g
  |ge l Q W ci s c J vi v d g o w h5=>
   simp only[uR,aA]at h;exact .ge l Q W ci s c J vi v (qG d (pC h.1)) (qG g (pC h.2.1)) o (qG w (pC h.2.2)) h5
  |ar l Q W ci s c vi v d g o w h5=>
   simp only[uR,aA]at h;exact .ar l Q W ci s c vi v (qG d (pC h.1)) (qG g (pC h.2.1)) o (qG w (pC h.2.2)) h5
  |fn f i bs S R d g o w=>
   simp only[uR,aA]at h;exact .fn f i bs S R d (λj a t u E=>z _ _ (qM h.1 a (bK u)) (g j a t u E)) o (λj a t u E=>z _ _ (qM h.2 a (bK u)) (w j a t u E))
  |iface t x y d=>exact .iface t x y (z _ _ (by simpa [uR]using h) d)|i7 t x=>exact .i7 t x|or i a t hm d=>exact .or i a t hm (z _ _ (qM (by simpa [uR]using h) a hm) d)|agg i O d g=>exact .agg i O d (λj a t u E=>z _ _ (qM (by simpa [uR]using h) a (bK u)) (g j a t u E))|ia q i O N d g=>exact .ia q i O N d (λj a t u E=>z _ _ (qM (by simpa [uR]using h) a (bK u)) (g j a t u E))|fm i O d g=>exact .fm i O d (λj a t u E=>z _ _ (qM (by simpa [uR]using h) a (bK u)) (g j a t u E))
theorem Hz{f:A->Bool}:∀{c:List A},mQ f c=true->∃a∈c,f a=true
 |b::g,h=>by
  simp only[mQ,bO]at h;rcases h with h|h
  exact⟨b,aO,h⟩;obtain⟨a,e,d⟩:=Hz h;exact⟨a,aC _ e,d⟩
theorem AC{f:A->A->Bool}{g i:gN}{μ1 μ2:gE}(e:∀a t x,f a t=true->Gm g μ1 a x->Gm i μ2 t x):
  ∀{b d:List A} {c:gC},yW f b d=true->pT g μ1 b c->pT i μ2 d c
 |[],[],c,_,h=>by rw[h.ae];exact .nil
 |a::b,t::d,c,h,m=>by
  simp only[yW,aA]at h;obtain⟨x,r,rfl,k,j⟩:=m.I;exact pT.cons (e _ _ _ h.1 k) (AC e h.2 j)
 |[],_ ::_,_,h,_ =>by simp[yW]at h|_ ::_,[],_,h,_ =>by simp[yW]at h
theorem wW(C:oZ V cs)(w:V[0]? =some 0)(n l:Nat):∀(k:Nat) (a t:A) (x:T),GM cs n l k a t=true->Gm V U a x->Gm (V.take n) (U.take l) t x
 |0,_,_,_,h,_ =>by simp[GM]at h
 |k+1,a,t,x,h,d=>by
  have D:=wW C w n l k;have fin:∀{t:A},(CM qZ a t&&uR n l qZ t)=true->Gm (V.take n) (U.take l) t x:=by
   intro t h;simp only[aA]at h;have:=JG _ _ _ h.1;subst this;exact Iw n l _ _ _ h.2 d
  unfold GM at h;split at h
  .rename_i q a_s I;cases a<;>simp only[aVx]at I<;>try(cases I;done)
   cases I;cases d with
   |ia _ _ Q S i g=>
   split at h;simp only[aA]at h;have:=oT h.1;subst this;have:=AC D h.2 ⟨i,g⟩;exact .ia _ _ _ S this.1 this.2;exact D _ _ _ h (.agg _ _ i g)
  split at h
  .rename_i q e s c I;cases a<;>simp only[Qf]at I<;>try(cases I;done)
   cases I;cases d with
   |g7 _ _ _ _ _ u v S i g E K=>
   split at h;simp only[aA]at h;have:=oT h.1;subst this;have h1:=oX C h.2.2.1 w g;have z:=oX C h.2.2.2 g w;refine .gr _ _ _ _ _ u S i (by omega) (by omega) (λx o=> ?_);rcases bO _ _ |>.mp h.2.1 with q|q
   have:=oX C q g w;have:u=[]:=by cases u with|nil=>rfl|cons=>simp at E;omega
   subst this;simp at o;exact D _ _ _ q (K x o);exact fin h;exact D _ _ _ h (.sl _ _ _ _ u v i g E K)
  cases t<;>simp only at h<;>try(exact fin h)
  case top=>exact .top _
  case any=>exact .any _ (RH d h).1
  case ft q lo J=>
   split at h;simp only[aA,bN]at h;obtain⟨rfl,h1,z⟩:=h;cases d with
   |int _ _ _ v L J=>
    have h1:=oX C h1 w L;have z:=oX C z L w;exact .ft _ _ _ _ (by omega) (by omega) J
   simp only[aA,bN,sQ,aF]at h;obtain⟨rfl,h1,z⟩:=h;cases d with
   |ft _ _ _ m i g E=>exact .ft _ _ _ _ (by omega) (by omega) E
   cases d with
   |or _ b _ N O=>exact D _ _ _ (qM h b N) O
   cases h
  case fy lo J=>
   split at h;simp only[aA,sQ,aF]at h;cases d;exact .fy _ _ _ h.1 h.2;simp only[aA]at h;cases d with
   |str _ _ v l L hl=>
    have z:=oX C h.2 L w;rcases bO _ _ ▸h.1 with h1|h1
    simp only[sQ,aF]at h1;exact .fy _ _ _ (by omega) (by omega);have h1:=oX C h1 w L;exact .fy _ _ _ (by omega) (by omega)
   simp only[aA,sQ,aF]at h;cases d with
   |fy _ _ l i g=>exact .fy _ _ _ (by omega) (by omega)
   cases h
  case gr q e lo J=>
   split at h;simp only[aA,sQ,aF]at h;obtain⟨⟨Z,W⟩,h1,z⟩:=h;have Z:=dX Z;have W:=dX W;have hq:(default:gy).q q .fp:=by
    obtain rfl|rfl|rfl:q=30\/q=31\/q=32:=by omega
    exact((default:gy).fin _).2 ⟨[],.inl ⟨rfl,rfl⟩,λx o=>by simp at o,λx o=>by simp at o⟩;exact((default:gy).ex _).2 .fp;exact((default:gy).vs _).2 (.inl rfl)
   cases d;exact .gr _ _ _ _ _ [] hq (.inl ⟨rfl,rfl⟩) (by simpa using h1) (by simpa using z) (λx o=>by simp at o);exact fin h
  case gp e lo J=>
   split at h;simp only[aA,sQ,aF]at h;cases d;exact .gp _ _ _ _ [] (.inl ⟨rfl,rfl⟩) (by simpa using h.1) (by simpa using h.2) (λx o=>by simp at o);simp only[aA,sQ,aF]at h;cases d with
   |ie es _ u i g E=>
    refine .gp _ _ _ _ u i (by omega) (by omega) (λx o=> ?_);obtain⟨j,hj,rfl⟩:=bX o;obtain⟨a,ha,R⟩:=pT.at' ⟨g,E⟩ (aB hj);exact D _ _ _ (qM h.2.2 a (bK ha)) R
   simp only[aA]at h;cases d with
   |sl _ _ _ _ u v i g E K=>
    have h1:=oX C h.2.1 w g;have z:=oX C h.2.2 g w;refine .gp _ _ _ _ u i (by omega) (by omega) (λx o=> ?_);rcases bO _ _ |>.mp h.1 with q|q
    have:=oX C q g w;have:u=[]:=by cases u with|nil=>rfl|cons=>simp at E;omega
    subst this;simp at o;exact D _ _ _ q (K x o)
   simp only[aA,bO,sQ,aF]at h;cases d with
   |gp _ _ _ _ u i g E K=>
    refine .gp _ _ _ _ u i (by omega) (by omega) (λx o=> ?_);rcases h.1 with q|q
    have:u=[]:=by cases u with|nil=>rfl|cons=>simp at E;omega
    subst this;simp at o;exact D _ _ _ q (K x o)
   cases h
  case ig lo J=>
   split at h;simp only[aA]at h;cases d with
   |sx _ _ M m f v i g=>
    have h1:=oX C h.1 w i;have z:=oX C h.2 i w;exact .ig _ _ _ _ _ (by omega) (by omega)
   simp only[aA,sQ,aF]at h;cases d with
   |ig _ _ M m f i g=>exact .ig _ _ _ _ _ (by omega) (by omega)
   cases h
  case bool B=>
   rcases B with b|⟨_ |⟨p,ps⟩,_ |⟨q,qs⟩⟩;exact fin h;simp only at h;split at h;cases d;exact .bool _ _ (sL _);cases h;exact fin h;exact fin h;exact fin h
  case or Q=>
   split at h;cases d with
   |or _ b _ N O=>
    obtain⟨y,h1,z⟩:=Hz (qM h b N);exact .or _ y _ h1 (D _ _ _ z O)
   obtain⟨y,h1,z⟩:=Hz h;exact .or _ y _ h1 (D _ _ _ z d)
  case agg Q=>
   split at h;cases d with
   |agg _ u i g=>
    have:=AC D h ⟨i,g⟩;exact .agg _ _ this.1 this.2
   cases h
  case fm Q=>
   split at h;cases d with
   |fm _ u i g=>
    have:=AC D h ⟨i,g⟩;exact .fm _ _ this.1 this.2
   cases h
theorem Yf(d:oZ V cs)(e:V[0]? =some 0){s:Nat}{c v h:Int}(b:V[s]? =some v)(a:aQm cs s c=some h):v+c<=h:=by
 unfold aQm at a;split at a;cases a;have:=oX d ‹_› b e;omega;split at a;cases a;have:=oX d ‹_› b e;omega;split at a;cases a;have:=oX d ‹_› b e;omega;split at a;cases a;have:=oX d ‹_› b e;omega;cases a
theorem KI(u:oZ V cs)(i:V[0]? =some 0){a b:A}{t:T}(h:aEb cs a=some b)(d:Gm V U a t):
  (∃k m,b= .ft k k.min k.max/\t= .int k m/\CL k m)\/(∃x,b= .bool tA/\t= .bool x)\/(∃l q,b= .fy 0 q/\t= .str l/\(l.length:Int)<=q):=by
 unfold aEb at h;split at h;cases h;cases d with|int k s c v f e=>exact .inl ⟨_,_,rfl,rfl,e⟩
 cases h;cases d with|ft k p j m f e o=>exact .inl ⟨_,_,rfl,rfl,o⟩
 cases h;cases d with|bool B x w=>exact .inr (.inl ⟨x,rfl,rfl⟩)
 split at h;rename_i g;cases h;cases d;exact .inr (.inr ⟨_,_,rfl,rfl,by simpa [sQ]using g⟩);cases h;split at h;rename_i g;cases h;cases d with|str s c v l f e=>exact .inr (.inr ⟨_,_,rfl,rfl,by have:=Yf u i f g;omega⟩)
 cases h;cases h;cases d with|fy p j l f e=>exact .inr (.inr ⟨_,_,rfl,rfl,e⟩)
 cases h
theorem ZM{a b:A}(h:aEb cs a=some b):(∃k,b= .ft k k.min k.max)\/b= .bool tA\/∃q,b= .fy 0 q:=by
 unfold aEb at h;split at h;cases h;exact .inl ⟨_,rfl⟩;cases h;exact .inl ⟨_,rfl⟩;cases h;exact .inr (.inl rfl);split at h;cases h;exact .inr (.inr ⟨_,rfl⟩);cases h;split at h;cases h;exact .inr (.inr ⟨_,rfl⟩);cases h;cases h;exact .inr (.inr ⟨_,rfl⟩);cases h
theorem JT(a b:Int):a<=CO a b/\b<=CO a b:=by
 unfold CO sQ;split<;>rename_i h<;>simp at h<;>omega
def aWo(V:gN)(U:gE)(a b x:A):Prop:=(∀t,Gm V U a t->Gm V U x t)/\(∀t,Gm V U b t->Gm V U x t)
theorem Uc{f:A->A->Option A}(m:∀a b x,f a b=some x->aWo V U a b x):∀(d g e:List A),jn.lE f d g=some e->(∀c,pT V U d c->pT V U e c)/\(∀c,pT V U g c->pT V U e c)
 |[],[],e,h=>by simp only[jn.lE]at h;cases h;exact⟨λc h=>h,λc h=>h⟩
 |a::d,b::g,e,h=>by
  simp only[jn.lE]at h;split at h;rename_i x w;split at h;rename_i r p;cases h;obtain⟨v,s⟩:=m _ _ _ w;obtain⟨q,o⟩:=Uc m d g r p;refine⟨λc i=> ?_,λc i=> ?_⟩;obtain⟨t,u,rfl,j,k⟩:=i.I;exact pT.cons (v _ j) (q _ k);obtain⟨t,u,rfl,j,k⟩:=i.I;exact pT.cons (s _ j) (o _ k);cases h;cases h
 |[],_ ::_,_,h=>by simp[jn.lE]at h|_ ::_,[],_,h=>by simp[jn.lE]at h
theorem RQ(s:oZ V cs)(p:V[0]? =some 0){a:A}{t:T}{o:Option A}{h:Int}(b:nI cs a=some (o,h))(f:Gm V U a t):
  ∃c,wP t c/\(c.length:Int)<=CO h 0/\∀x∈c,∃e,o=some e/\Gm V U e x:=by
 have k:=JT h 0;unfold nI at b;split at b;cases b;cases f;exact⟨[],.inl ⟨rfl,rfl⟩,by simpa using k.2,λx d=>by simp at d⟩;split at b;rename_i q;cases b;cases f with
 |sl _ _ _ _ c v g j m i=>
  have:=Yf s p j q;exact⟨c,g,by omega,λx d=>⟨_,rfl,i x d⟩⟩
 cases b;cases b;cases f with
 |gp _ _ _ _ c g j m i=>exact⟨c,g,by omega,λx d=>⟨_,rfl,i x d⟩⟩
 cases b
theorem aVi(w:oZ V cs)(u:V[0]? =some 0):∀(k:Nat) (a b x:A),jn cs k a b=some x->aWo V U a b x
 |0,_,_,_,h=>by simp[jn]at h
 |k+1,a,b,x,h=>by
  have O:=aVi w u k;unfold jn at h;split at h;rename_i s;cases h;have:=JG _ _ _ s;subst this;exact⟨λt h=>h,λt h=>h⟩;split at h;obtain⟨p,o,rfl⟩:=aG.1 h;obtain⟨i,v⟩:=Uc O _ _ _ o;refine⟨λt d=> ?_,λt d=> ?_⟩;cases d with|agg _ D E I=>have:=i D ⟨E,I⟩;exact .agg _ _ this.1 this.2
  cases d with|agg _ D E I=>have:=v D ⟨E,I⟩;exact .agg _ _ this.1 this.2
  obtain⟨p,o,rfl⟩:=aG.1 h;obtain⟨i,v⟩:=Uc O _ _ _ o;refine⟨λt d=> ?_,λt d=> ?_⟩;cases d with|fm _ D E I=>have:=i D ⟨E,I⟩;exact .fm _ _ this.1 this.2
  cases d with|fm _ D E I=>have:=v D ⟨E,I⟩;exact .fm _ _ this.1 this.2
  split at h;rename_i B i J v L K;split at h;rename_i y W;cases h;obtain⟨Z,j2⟩:=O _ _ _ W;have N:=JT i v;have hm0:=JT (CO i v) 0;refine⟨λt d=> ?_,λt d=> ?_⟩;obtain⟨p,f,C,g⟩:=RQ w u L d;refine .gp _ _ _ _ p f (by omega) ?_ (λx o=> ?_);have:CO i 0<=CO (CO i v) 0:=by
   generalize CO (CO i v) 0=z at*;unfold CO;split<;>omega
  omega;obtain⟨e,s,j⟩:=g x o;cases s;exact Z x j;obtain⟨p,f,C,g⟩:=RQ w u K d;refine .gp _ _ _ _ p f (by omega) ?_ (λx o=> ?_);have:CO v 0<=CO (CO i v) 0:=by
   generalize CO (CO i v) 0=z at*;unfold CO;split<;>omega
  omega;obtain⟨e,s,j⟩:=g x o;cases s;exact j2 x j;cases h;rename_i B i _ L K;cases h;refine⟨λt d=> ?_,λt d=> ?_⟩;obtain⟨p,f,C,g⟩:=RQ w u L d;exact .gp _ _ _ _ p f (by omega) C (λx o=>by obtain⟨e,s,j⟩:=g x o;cases s;exact j);obtain⟨p,f,C,g⟩:=RQ w u K d;have M:p=[]:=by cases p with|nil=>rfl|cons x r=>obtain⟨e,s,_⟩:=g x (by simp);cases s
  subst M;have:=JT i 0;exact .gp _ _ _ _ [] f (by simp) (by simpa using this.2) (λx o=>by simp at o);rename_i _ B i L K;cases h;refine⟨λt d=> ?_,λt d=> ?_⟩;obtain⟨p,f,C,g⟩:=RQ w u L d;have M:p=[]:=by cases p with|nil=>rfl|cons x r=>obtain⟨e,s,_⟩:=g x (by simp);cases s
  subst M;have:=JT i 0;exact .gp _ _ _ _ [] f (by simp) (by simpa using this.2) (λx o=>by simp at o);obtain⟨p,f,C,g⟩:=RQ w u K d;exact .gp _ _ _ _ p f (by omega) C (λx o=>by obtain⟨e,s,j⟩:=g x o;cases s;exact j);split at h;rename_i k1 lo hi k2 lo2 S B J;split at h;rename_i R;cases h;have R:k1=k2:=by simpa using R
  subst R;refine⟨λt d=> ?_,λt d=> ?_⟩;rcases KI w u B d with⟨k,m,f,rfl,g⟩|⟨_,f,_⟩|⟨_,_,f,_⟩<;>cases f
  exact .ft _ _ _ _ g.1 g.2 g;rcases ZM B with⟨k,q⟩|q|⟨_,q⟩<;>cases q
  rcases KI w u J d with⟨k,m,f,rfl,g⟩|⟨_,f,_⟩|⟨_,_,f,_⟩<;>cases f
  exact .ft _ _ _ _ g.1 g.2 g;cases h;rename_i B J;cases h;refine⟨λt d=> ?_,λt d=> ?_⟩;rcases KI w u B d with⟨k,m,f,rfl,g⟩|⟨_,f,rfl⟩|⟨_,_,f,_⟩<;>cases f
  exact .bool _ _ (sL _);rcases ZM B with⟨k,q⟩|q|⟨_,q⟩<;>cases q
  rcases KI w u J d with⟨k,m,f,rfl,g⟩|⟨_,f,rfl⟩|⟨_,_,f,_⟩<;>cases f
  exact .bool _ _ (sL _);rename_i i _ v B J;cases h;have N:=JT i v;refine⟨λt d=> ?_,λt d=> ?_⟩;rcases KI w u B d with⟨k,m,f,rfl,g⟩|⟨_,f,rfl⟩|⟨_,_,f,rfl,C⟩<;>cases f
  exact .fy _ _ _ (by omega) (by omega);rcases KI w u J d with⟨k,m,f,rfl,g⟩|⟨_,f,rfl⟩|⟨_,_,f,rfl,C⟩<;>cases f
  exact .fy _ _ _ (by omega) (by omega);split at h;split at h;cases h;refine⟨λt d=> ?_,λt d=> .or _ b t aO d⟩;cases d with
  |or _ c _ N Q=>exact .or _ c _ (aC _ N) Q
  cases h;split at h;cases h;exact⟨λt d=> .or _ a t aO d,λt d=> .or _ b t (aC _ aO) d⟩;cases h;cases h
theorem XJ(d:oZ V cs)(e:V[0]? =some 0){a b x:A}(h:lX cs a b=some x):aWo V U a b x:=by
 unfold lX at h;split at h;rename_i f;cases h;refine⟨λt c=>c,λt c=> ?_⟩;exact(wW d e 0 0 qZ _ _ _ f c).ext (λj v h=>by simp at h) (λj v h=>by simp at h);exact aVi d e _ _ _ _ h
theorem OE(g:oZ V cs)(f:V[0]? =some 0):∀(r:List A) (a x:A),XI cs a r=some x->(∀t,Gm V U a t->Gm V U x t)/\∀b∈r,∀t,Gm V U b t->Gm V U x t
 |[],a,x,h=>by simp only[XI]at h;cases h;exact⟨λt h=>h,λb o=>by simp at o⟩
 |b::r,a,x,h=>by
  simp only[XI]at h;split at h;rename_i y m;obtain⟨j,i⟩:=XJ (U:=U) g f m;obtain⟨e,k⟩:=OE g f r y x h;refine⟨λt d=>e t (j t d),λc hm t d=> ?_⟩;rcases aY.1 hm with rfl|hm
  exact e t (i t d);exact k c hm t d;cases h
end
theorem yY{f:jQ}:∀(a:gC),(∀t∈a,f t=some t)->qJ f a=some a
 |[],_ =>rfl|t::a,h=>by simp[qJ,h t (by simp),yY a (λx b=>h x (by simp[b]))]
theorem yU{V:gN}{U:gE}{b:List A}{c:gC}(i:b.length=c.length)(g:∀(j:Nat) (a:A) (t:T),b[j]? =some a->c[j]? =some t->Gm V U a t){t:T}(h:t∈c):∃a∈b,Gm V U a t:=by
 obtain⟨j,d,rfl⟩:=bX h;obtain⟨a,e,f⟩:=pT.at' ⟨i,g⟩ (aB d);exact⟨a,bK e,f⟩
theorem FK{V:gN}{U:gE}{H:Hp}:∀(n:Nat) (a:A) (t:T),qT n a=true->Gm V U a t->∀k,n<=k->pM k H t=some t
 |0,_,_,h,_,_,_ =>by simp[qT]at h
 |n+1,a,t,h,u,k,o=>by
  have j:=FK (V:=V) (U:=U) (H:=H) n;obtain⟨k,rfl⟩:∃k',k=k'+1:=⟨k-1,by omega⟩;have o:n<=k:=by omega
  have sl:∀{t:T} {p:gC},wP t p->(∀x∈p,pM k H x=some x)->pM (k+1) H t=some t:=by
   intro t p hs g;rcases hs with⟨rfl,rfl⟩|⟨f,rfl⟩|⟨R,m,f,rfl,rfl⟩
   rfl;simp only[pM,yY p g];simp;rfl
  have I:∀{q:Nat} {t:T},(default:gy).q q t->(Nat.beq q 31=true\/Nat.beq q 32=true)->pM (k+1) H t=some t:=λ{q t} S h=>by
   rcases h with h|h;have:=aD h;subst this;exact aAb (((default:gy).ex t).1 S).inv k H;have:=aD h;subst this;exact aAb (((default:gy).vs t).1 S) k H
  cases u with
  |int k s c v d i=>rfl|ft k Q L m d i D=>rfl|bool B b hb=>rfl|gh s=>rfl|str s c v l d i=>rfl|fy Q L l d i=>rfl|sx=>rfl|ig=>rfl|fS=>rfl|fp=>rfl|gg=>rfl|gb=>rfl|fw=>rfl|top=>simp[qT]at h|any=>simp[qT]at h|i7=>simp[qT]at h|yl=>simp[qT]at h|ptr=>simp[qT]at h|iv=>simp[qT]at h|ge=>simp[qT]at h|mp=>simp[qT]at h|ia q z K J d i=>exact(default:gy).pure q _ J (k+1) H (by simp[qT]at h;omega)
  |g7 q e s c t p v J d i D w=>
   simp only[qT,bO]at h;rcases h with h|h
   exact sl d λx g=>j _ _ h (w x g) k o;exact I J h
  |gr q e Q L t p J d i D w=>
   simp only[qT,bO]at h;rcases h with h|h
   exact sl d λx g=>j _ _ h (w x g) k o;exact I J h
  |ie es t p d i D=>
   refine sl d λx g=> ?_;obtain⟨a,C,O⟩:=yU i D g;exact j _ _ (qM (by simpa [qT]using h) a C) O k o
  |ar=>simp[qT]at h
  |ref x t off d i=>
   have:=j _ _ (by simpa [qT]using h) i k o;simp only[pM,this];simp
  |sl e s c t p v d i D w=>exact sl d λx g=>j _ _ (by simpa [qT]using h) (w x g) k o
  |gp e Q L t p d i D w=>
   simp only[qT,bO,sQ,aF]at h;rcases h with h|h
   have:p=[]:=by cases p with|nil=>rfl|cons=>simp at D;omega
   subst this;exact sl d λx g=>by simp at g
   exact sl d λx g=>j _ _ h (w x g) k o
  |fn f z bs N M d i D w=>
   simp only[qT,aA]at h;have E:=yY (f:=pM k H) N λx g=>by
    obtain⟨a,C,u⟩:=yU d i g;exact j _ _ (qM h.1 a C) u k o
   have Z:=yY (f:=pM k H) M λx g=>by
    obtain⟨a,C,u⟩:=yU D w g;exact j _ _ (qM h.2 a C) u k o
   simp only[pM,E,Z]
  |iface t x y d=>
   have:=j _ _ (by simpa [qT]using h) d k o;simp only[pM,this]
  |or z a t W d=>
   have hp:=qM (by simpa [qT]using h) a W;exact j _ _ hp d (k+1) (by omega)
  |agg z K d i=>
   have E:=yY (f:=pM k H) K λx g=>by
    obtain⟨a,C,u⟩:=yU d i g;exact j _ _ (qM (by simpa [qT]using h) a C) u k o
   simp only[pM,E]
  |fm z K d i=>
   have E:=yY (f:=pM k H) K λx g=>by
    obtain⟨a,C,u⟩:=yU d i g;exact j _ _ (qM (by simpa [qT]using h) a C) u k o
   simp only[pM,E]
theorem WW{V:gN}{U:gE}{f:A->Option A}{g:jQ}(m:∀a b t,f a=some b->Gm V U a t->∃d,g t=some d/\Gm V U b d):
  ∀(c i:List A) (e:gC),kw f c=some i->pT V U c e->∃u,qJ g e=some u/\pT V U i u
 |[],i,e,h,k=>by simp only[kw]at h;cases h;rw[k.ae];exact⟨[],rfl,.nil⟩
 |a::c,i,e,h,k=>by
  simp only[kw]at h;obtain⟨t,r,rfl,w,v⟩:=k.I;split at h;rename_i b p;split at h;rename_i s j;cases h;obtain⟨d,q,y⟩:=m a b t p w;obtain⟨u,x,o⟩:=WW m c s r j v;exact⟨d::u,by simp[qJ,q,x],pT.cons y o⟩;cases h;cases h
theorem XR{f:jQ}:∀(b c x y:gC),qJ f b=some x->qJ f c=some y->qJ f (b++c)=some (x++y)
 |[],c,x,y,h,e=>by simp only[qJ]at h;cases h;simpa using e
 |a::b,c,x,y,h,e=>by
  simp only[qJ]at h;split at h;rename_i r i;split at h;rename_i g d;cases h;simp[qJ,i,XR b c g y d e];cases h;cases h
theorem Zu{V:gN}{U:gE}{f:jQ}{g:List A}{s:Nat}(i:g.length=s)(d:0<s):∀(b:gC),(∀t∈b,∃u,qJ f t.cells=some u/\pT V U g u)->
  ∃c,qJ f (b.flatMap T.cells)=some c/\c.length=b.length*s/\∀x∈BC s b.length c,Gm V U (.agg g) x
 |[],_ =>⟨[],rfl,by simp,λx hx=>by simp[BC]at hx⟩
 |t::b,h=>by
  obtain⟨u,m,e⟩:=h t (by simp);obtain⟨c,j,k,o⟩:=Zu i d b λx hx=>h x (by simp[hx]);have a:u.length=s:=by rw[<-e.1];exact i
  refine⟨u++c,by rw[bP];exact XR _ _ _ _ m j,by rw[aU,a,k,aZ,dA];omega,λx hx=> ?_⟩;simp only[aZ,BC,aY]at hx;rcases hx with rfl|hx
  rw[List.take_left' a];exact .agg _ _ e.1 e.2;rw[List.drop_left' a]at hx;exact o x hx
theorem aMk{V:gN}{U:gE}{k:List A}{t:T}(h:aMj k=true)(e:Gm V U (.agg k) t):aNx t:=by
 have f:∀{a:A} {x:T},CT a=true->Gm V U a x->∃n,x= .int .i64 n:=λ{a x} h e=>by
  unfold CT at h;split at h;cases e;exact⟨_,rfl⟩;cases e;exact⟨_,rfl⟩;cases h
 have g:∀{a:A} {x:T},aAj a=true->Gm V U a x->∃n,x= .str n:=λ{a x} h e=>by
  unfold aAj at h;split at h;cases e;exact⟨_,rfl⟩;cases e;exact⟨_,rfl⟩;cases e;exact⟨_,rfl⟩;cases h
 have p:∀{a:A} {x:T},Sg a=true->Gm V U a x->∃n,x= .bool n:=λ{a x} h e=>by
  unfold Sg at h;split at h;cases e;exact⟨_,rfl⟩;cases h
 unfold aMj at h;split at h
 .simp only[aA]at h;obtain⟨z,y,w,m,o,E,D,B⟩:=h;cases e with
  |agg _ u C q=>
  match u,C with
  |[a,b,c,s,v,i,j,d],_ =>
   obtain⟨a,rfl⟩:=f z (q 0 _ _ rfl rfl);obtain⟨b,rfl⟩:=f y (q 1 _ _ rfl rfl);obtain⟨c,rfl⟩:=f w (q 2 _ _ rfl rfl);obtain⟨s,rfl⟩:=g m (q 3 _ _ rfl rfl);obtain⟨v,rfl⟩:=g o (q 4 _ _ rfl rfl);obtain⟨i,rfl⟩:=f E (q 5 _ _ rfl rfl);obtain⟨j,rfl⟩:=f D (q 6 _ _ rfl rfl);obtain⟨d,rfl⟩:=p B (q 7 _ _ rfl rfl);exact⟨_,_,_,_,_,_,_,_,rfl⟩
 cases h
theorem Ey{k:Nat}{H:Hp}(p:0<k):∀{ts:gC},(∀t∈ts,aNx t)->qJ (pM k H) (ts.flatMap T.cells)=some (ts.flatMap T.cells)/\BC 8 ts.length (ts.flatMap T.cells)=ts
 |[],_ =>⟨rfl,rfl⟩
 |t::ts,h=>by
  obtain⟨m,g⟩:=Ey (k:=k) (H:=H) p (ts:=ts) λt f=>h t (by simp[f]);obtain⟨a,b,c,s,v,i,j,d,rfl⟩:=h t (by simp);have e:qJ (pM k H) (T.cells (.agg [.int .i64 a,.int .i64 b,.int .i64 c,.str s,.str v,.int .i64 i,.int .i64 j,.bool d]))=some (T.cells (.agg [.int .i64 a,.int .i64 b,.int .i64 c,.str s,.str v,.int .i64 i,.int .i64 j,.bool d])):=by obtain⟨k,rfl⟩:∃o,k=o+1:=⟨k-1,by omega⟩;rfl
  rw[bP];refine⟨XR _ _ _ _ e m,?_⟩;show _ ::BC 8 ts.length (ts.flatMap T.cells)=_;rw[g];rfl
theorem WV{V:gN}{U:gE}{hp:gP}{nl:Nat}{H:Hp}(h0:V[0]? =some 0)(hh:GH hp nl V U H):∀(n:Nat) (a b:A) (t:T),kk hp n a=some b->Gm V U a t->∀k,n<=k->∃t',pM k H t=some t'/\Gm V U b t'
 |0,_,_,_,h,_,_,_ =>by simp[kk]at h
 |n+1,a,b,t,h,hg,k,hk=>by
  have ih:=WV h0 hh n;simp only[kk]at h;split at h;rename_i hp';cases h;exact⟨t,FK (n+1) a t hp' hg k hk,hg⟩;obtain⟨k,rfl⟩:∃k',k=k'+1:=⟨k-1,by omega⟩;have hk:n<=k:=by omega
  split at h;rename_i l W si ci s c _;split at h;rename_i e0 sz' e s' c' hf;split at h;rename_i hc;simp only[aA,bN]at hc;obtain⟨k1,k2,k3,k4,k5⟩:=hc;have k1:=oT k1;have k2:=oT k2;have k4:=oT k4;subst k1 k2 k3 k4 k5;have R:∀e',(∃v,V[s]? =some v/\v+c=0)->Gm V U (.sl e' s c) .fp:=by
   rintro e' ⟨v,v1,v2⟩;exact .sl e' s c .fp [] v (.inl ⟨rfl,rfl⟩) v1 (by simpa using v2.symm) (λx E=>by simp at E)
  cases hg with
  |ar _ _ _ _ _ _ vi v g1 g2 g3 L g5=>
   refine⟨.fp,rfl,?_⟩;split at h;split at h;split at h;cases h;exact R _ ⟨v,L,g5⟩;cases h;cases h;split at h;split at h;split at h;cases h;exact R _ ⟨v,L,g5⟩;cases h;cases h;cases h
  |ge _ _ _ _ _ _ l' vi v g1 g2 g3 L g5=>
   rw[h0]at g2;cases g2;obtain⟨o,o1,o2,o3,w,v1,r1,r2,r3,Q⟩:=hh.at hf g1;rw[L]at r1;cases r1;have p:(v+c).toNat=w.length:=by omega
   have M:=vU w (λt D=>(Q t D).2);have m:(o.cells.drop ((0+0:Int).toNat*W)).take ((v+c).toNat*W)=w.flatMap T.cells:=by
    rw[p,r3,<-M];show List.take _ (List.drop ((0:Nat)*W) _)=_;rw[fX,fD,List.take_length]
   have z:((0+0:Int).toNat+(v+c).toNat)*W<=o.cells.length:=by rw[r3,M,p];simp
   split at h;rename_i es;split at h;rename_i y;simp only[aA]at y;have Z:=pC y.1;have S:=oT y.2;split at h;rename_i bs g;cases h;have hbl:bs.length=W:=by
    rw[<-S];clear S hf y Q ih
    induction es generalizing bs with
    |nil=>simp only[kw]at g;cases g;rfl
    |cons x xs ihx=>
     simp only[kw]at g;split at g;split at g;rename_i q hq;cases g;simp[ihx q hq];cases g;cases g
   obtain⟨cs,c1,c2,c3⟩:=Zu (V:=V) (U:=U) (f:=pM k H) hbl (by omega) w λt D=>by
    have hgt:=(Q t D).1;cases hgt with
    |agg _ B q1 q2=>exact WW (λa b t J K=>ih a b t J K k hk) es bs B g ⟨q1,q2⟩
   refine⟨.sl false (BC W (v+c).toNat cs),?_,?_⟩;simp only[pM,o1];rw[aJ ⟨by omega,o3.1,z⟩,m,c1];simp only;rw[aH (by omega)];have:=(LE W w.length cs (by rw[c2])).2.2;rw[p];exact .sl _ _ _ _ (BC W w.length cs) v (.inr (.inl ⟨_,rfl⟩)) L (by rw[this];exact r2) c3;cases h;cases h;rename_i hna;split at h;rename_i y;simp only[aA]at y;have Z:=oT y.1;split at h;rename_i b' hb';split at h;rename_i hbo;cases h;have C:∀t∈w,t.cells=[t]:=λt D=>FB (RH (Q t D).1 y.2).2;have key:∀(l:gC),(∀t∈l,t∈w)->∃B,qJ (pM k H) (l.flatMap T.cells)=some B/\B.length=l.length/\∀u∈B,Gm V U b' u:=by
    intro l
    induction l with
    |nil=>intro _;exact⟨[],rfl,rfl,λu hu=>by simp at hu⟩
    |cons t l ihl=>
     intro N;obtain⟨B,u1,O,u3⟩:=ihl λx E=>N x (by simp[E]);obtain⟨t',t1,t2⟩:=ih _ b' t hb' (Q t (N t (by simp))).1 k hk;refine⟨t'::B,?_,by simp[O],λu hu=> ?_⟩;rw[bP,C t (N t (by simp))];simp[qJ,t1,u1];rcases aY.1 hu with rfl|hu;exact t2;exact u3 u hu
   obtain⟨B,u1,O,u3⟩:=key w λt D=>D;refine⟨.sl false B,?_,.sl _ _ _ _ B v (.inr (.inl ⟨_,rfl⟩)) L (by rw[O];exact r2) u3⟩;simp only[pM,o1];rw[aJ ⟨by omega,o3.1,z⟩,m,u1];simp only;rw[aJ Z,aJ];rw[aP];intro u hu;have:=(RH (u3 u hu) hbo).2;simp[this];cases h;cases h;cases h
  cases h;rename_i e0 sz' es s' c' hf;split at h;rename_i hc;simp only[aA,bN]at hc;obtain⟨k1,k2,k3,k4,k5,k6,k7,k8⟩:=hc;have k1:=oT k1;have k2:=oT k2;have k4:=oT k4;have k6:=oT k6;have k7:=pC k7;subst k6 k1 k2 k3 k4 k5;cases h;cases hg with
  |ar _ _ _ _ _ _ vi v g1 g2 g3 L g5=>
   exact⟨.fp,rfl,.g7 30 _ _ _ .fp [] v (((default:gy).fin _).2 ⟨[],.inl ⟨rfl,rfl⟩,λx E=>by simp at E,λx E=>by simp at E⟩) (.inl ⟨rfl,rfl⟩) L (by simpa using g5.symm) (λx E=>by simp at E)⟩
  |ge _ _ _ _ _ _ l' vi v g1 g2 g3 L g5=>
   rw[h0]at g2;cases g2;obtain⟨o,o1,o2,o3,w,v1,r1,r2,r3,Q,r5⟩:=hh.at hf g1;rw[L]at r1;cases r1;have p:(v+c).toNat=w.length:=by omega
   have M:=vU w (λt D=>(Q t D).2);have m:(o.cells.drop ((0+0:Int).toNat*8)).take ((v+c).toNat*8)=w.flatMap T.cells:=by
    rw[p,r3,<-M];show List.take _ (List.drop ((0:Nat)*8) _)=_;rw[fX,fD,List.take_length]
   have z:((0+0:Int).toNat+(v+c).toNat)*8<=o.cells.length:=by rw[r3,M,p];simp
   have I:∀t∈w,aNx t:=λt D=>aMk k8 (Q t D).1;obtain⟨t1,t2⟩:=Ey (k:=k) (H:=H) (by omega) I;refine⟨.sl false w,?_,.g7 30 _ _ _ _ w v (((default:gy).fin _).2 ⟨w,.inr (.inl ⟨_,rfl⟩),I,λx E=> ?_⟩) (.inr (.inl ⟨_,rfl⟩)) L r2 λt D=>(Q t D).1⟩;simp only[pM,o1];rw[aJ ⟨by omega,o3.1,z⟩,m,t1];simp only;rw[aH (by omega),p,t2];obtain⟨r,hr⟩:=r5 x E;obtain⟨a,b,c,s,v,i,j,d,rfl⟩:=I x (List.mem_of_getLast? E);cases hr;exact⟨_,rfl⟩
  cases h;cases h;rename_i a_s _;split at h;rename_i bs g;cases h;cases hg with
  |agg _ w q1 q2=>
   obtain⟨B,u1,O⟩:=WW (λa b t J K=>ih a b t J K k hk) a_s bs w g ⟨q1,q2⟩;exact⟨.agg B,by simp only[pM,u1],.agg _ _ O.1 O.2⟩
  cases h;rename_i a_s _;split at h;rename_i bs g;cases h;cases hg with
  |fm _ w q1 q2=>
   obtain⟨B,u1,O⟩:=WW (λa b t J K=>ih a b t J K k hk) a_s bs w g ⟨q1,q2⟩;exact⟨.fm B,by simp only[pM,u1],.fm _ _ O.1 O.2⟩
  cases h;cases h
theorem aIc{V:gN}{U:gE}{a:A}{t:T}(h:GC a=true)(b:Gm V U a t):SY t=true:=by
 cases b<;>first|rfl|(simp[GC]at h)
theorem Hb{V:gN}{U:gE}{p:A->Bool}{q:T->Bool}(c:∀a t,p a=true->Gm V U a t->q t=true){b:List A}{d:gC}(k:b.length=d.length)(f:∀(j:Nat) (a:A) (t:T),b[j]? =some a->d[j]? =some t->Gm V U a t)(h:b.all p=true):d.all q=true:=by
 rw[aP];intro t e;obtain⟨a,g,i⟩:=yU k f e;exact c a t (aP.1 h a g) i
theorem Nh{V:gN}{U:gE}{a:A}{t:T}(h:Vf a=true)(d:Gm V U a t):Eh t=true:=by
 cases d with
 |agg e f c b=>exact Hb (λa t=>aIc) c b h|_ =>first|rfl|(simp[Vf,GC]at h)
theorem aQd{V:gN}{U:gE}{a:A}{t:T}(h:aLe a=true)(e:Gm V U a t):Ai t=true:=by
 cases e with
 |agg d f c b=>exact Hb (λa t=>Nh) c b h|fm d f c b=>exact Hb (λa t=>Nh) c b h|_ =>first|rfl|(simp[aLe,GC]at h)
end Go.Ps
