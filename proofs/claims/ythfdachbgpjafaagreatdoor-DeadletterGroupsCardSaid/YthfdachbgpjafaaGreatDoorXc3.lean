/- Lemmas for the card; no conditions. -/
import Derived.Test.YthfdachbgpjafaaGreatDoorXc2
set_option linter.unusedSimpArgs false
set_option linter.unusedVariables false
set_option linter.unusedSectionVars false
namespace Go.Ps
noncomputable section
structure Mb where
 res:A
 oc:List (Nat×Nat×TA):=[]
structure AX where
 gl:Nat->Option A
 pe:FuncId->List A->Nat->List qV->Option AV
 inl:FuncId->Bool
 top:FuncId->Bool
 own:FuncId->Tmp->Bool
 jr:FuncId->Nat->Bool
 an:FuncId->An
 post:FuncId->Option Mb
 lk:Bool:=false
structure AR where
 a:A
 hp:List (Nat×AO)
 nx:Nat
 nl:Nat
 cs:List qV
def aBx:qV->qV->Bool
 | .le x y c,.le x' y' c'=>Nat.beq x x'&&(Nat.beq y y'&&c==c')| .ne x y c,.ne x' y' c'=>Nat.beq x x'&&(Nat.beq y y'&&c==c')|_,_ =>false
def WG:List qV->List qV->Bool
 |[],[]=>true|a::a_s,b::bs=>aBx a b&&WG a_s bs|_,_ =>false
def aBw:Bo->Bo->Bool
 | .lit a,.lit b=>a==b| .imp p n,.imp p' n'=>WG p p'&&WG n n'|_,_ =>false
def Tu:List UInt8->List UInt8->Bool
 |[],[]=>true|a::a_s,b::bs=>a==b&&Tu a_s bs|_,_ =>false
def BD(f:A->A->Bool):List A->List A->Bool
 |[],[]=>true|a::a_s,b::bs=>f a b&&BD f a_s bs|_,_ =>false
def EC:Nat->A->A->Bool
 |0,_,_ =>false
 |n+1,a,b=>match a,b with
  | .top,.top| .any,.any| .nilp,.nilp| .nils,.nils| .nilf,.nilf| .nili,.nili| .nilm,.nilm| .ifc,.ifc=>true| .int k s c,.int k' s' c'=>k==k'&&(Nat.beq s s'&&c==c')| .ival k s c,.ival k' s' c'=>k==k'&&(s==s'&&c==c')| .bool x,.bool y=>aBw x y| .strc x,.strc y=>Tu x y| .str s c,.str s' c'=>Nat.beq s s'&&c==c'| .strv s c,.strv s' c'=>s==s'&&c==c'| .yl l,.yl l'=>Nat.beq l l'| .ptr l o,.ptr l' o'=>Nat.beq l l'&&Nat.beq o o'| .elp l z s c o,.elp l' z' s' c' o'=>Nat.beq l l'&&(Nat.beq z z'&&(Nat.beq s s'&&(c==c'&&Nat.beq o o')))| .ref x o,.ref y o'=>EC n x y&&Nat.beq o o'| .sl e s c,.sl e' s' c'=>EC n e e'&&(Nat.beq s s'&&c==c')| .sx s c,.sx s' c'=>Nat.beq s s'&&c==c'| .sxv s c,.sxv s' c'=>s==s'&&c==c'| .slv e s c,.slv e' s' c'=>EC n e e'&&(s==s'&&c==c')| .osl l z si ci s c,.osl l' z' si' ci' s' c'=>Nat.beq l l'&&(Nat.beq z z'&&(Nat.beq si si'&&(ci==ci'&&(Nat.beq s s'&&c==c'))))| .fn f a c,.fn f' a' c'=>Nat.beq f f'&&(BD (EC n) a a'&&BD (EC n) c c')| .iface t x,.iface t' y=>Nat.beq t t'&&EC n x y| .or a_s,.or bs| .agg a_s,.agg bs| .tup a_s,.tup bs| .slk a_s,.slk bs=>BD (EC n) a_s bs| .prd q a_s,.prd q' bs=>Nat.beq q q'&&BD (EC n) a_s bs| .mp l,.mp l'=>Nat.beq l l'| .slp q e s c,.slp q' e' s' c'=>Nat.beq q q'&&(EC n e e'&&(Nat.beq s s'&&c==c'))| .slpv q e s c,.slpv q' e' s' c'=>Nat.beq q q'&&(EC n e e'&&(s==s'&&c==c'))|_,_ =>false
def DV(f:A->Bool):List A->Bool
 |[]=>true|a::a_s=>f a&&DV f a_s
def lSm(f:A->Bool):List A->Bool
 |[]=>false|a::a_s=>f a||lSm f a_s
def YV(n:Nat):List qV->Bool
 |[]=>true| .le x y _ ::r=>Nat.blt x n&&(Nat.blt y n&&YV n r)| .ne x y _ ::r=>Nat.blt x n&&(Nat.blt y n&&YV n r)
def vM(n l:Nat):Nat->A->Bool
 |0,_ =>false
 |k+1,a=>match a with
  | .int _ s _ | .str s _ | .sx s _ =>Nat.blt s n| .bool (.lit _)=>true| .bool (.imp p q)=>YV n p&&YV n q| .yl m=>Nat.blt m l| .ptr m _ =>Nat.blt m l| .mp m=>Nat.blt m l| .elp m _ s _ _ =>Nat.blt m l&&Nat.blt s n| .ref x _ =>vM n l k x| .sl e s _ | .slp _ e s _ =>vM n l k e&&Nat.blt s n| .slv e _ _ | .slpv _ e _ _ =>vM n l k e| .osl m _ si _ s _ =>Nat.blt m l&&(Nat.blt si n&&Nat.blt s n)| .fn _ a_s bs=>DV (vM n l k) a_s&&DV (vM n l k) bs| .iface _ x=>vM n l k x| .or a_s| .agg a_s| .tup a_s| .slk a_s| .prd _ a_s=>DV (vM n l k) a_s|_ =>true
def sJ:Nat:=30
def aUk:A->Option (Nat×List A)
 | .prd q a_s=>some (q,a_s)|_ =>none
def aUq:A->Option (Nat×A×Nat×Int)
 | .slp q e s c=>some (q,e,s,c)|_ =>none
def KV(cs:List qV)(n l:Nat):Nat->A->A->Bool
 |0,_,_ =>false
 |k+1,a,t=>match aUk a with
  |some (q,a_s)=>(match t with
   | .prd q' ts=>Nat.beq q q'&&BD (KV cs n l k) a_s ts|t=>KV cs n l k (.agg a_s) t)
  |none=>match aUq a with
  |some (q,e,s,c)=>(match t with
   | .slpv q' e' lo hi=>Nat.beq q q'&&((leq cs s c 0 0||KV cs n l k e e')&&(leq cs 0 lo s c&&leq cs s c 0 hi))| .slp q' e' s' c'=>EC sJ a (.slp q' e' s' c')&&vM n l sJ (.slp q' e' s' c')|t=>KV cs n l k (.sl e s c) t)
  |none=>match t with
  | .top=>true| .any=>a.one
  | .ival q lo hi=>match a with
   | .int q' s c=>q==q'&&(leq cs 0 lo s c&&leq cs s c 0 hi)| .ival q' lo' hi'=>q==q'&&(uX lo lo'&&uX hi' hi)| .or a_s=>DV (λx=>KV cs n l k x t) a_s|_ =>false
  | .strv lo hi=>match a with
   | .strc s=>uX lo s.length&&uX s.length hi| .str s c=>leq cs 0 lo s c&&leq cs s c 0 hi| .strv lo' hi'=>uX lo lo'&&uX hi' hi|_ =>false
  | .slv e lo hi=>match a with
   | .nils=>uX lo 0&&uX 0 hi| .slk es=>uX lo es.length&&(uX es.length hi&&DV (λx=>KV cs n l k x e) es)| .sl e' s c=>(leq cs s c 0 0||KV cs n l k e' e)&&(leq cs 0 lo s c&&leq cs s c 0 hi)| .slv e' lo' hi'=>(uX hi' 0||KV cs n l k e' e)&&(uX lo lo'&&uX hi' hi)|_ =>false
  | .sxv lo hi=>match a with
   | .sx s c=>leq cs 0 lo s c&&leq cs s c 0 hi| .sxv lo' hi'=>uX lo lo'&&uX hi' hi|_ =>false
  | .bool (.imp [] [])=>match a with
   | .bool _ =>true|_ =>false
  | .or ts=>match a with
   | .or a_s=>DV (λx=>lSm (λy=>KV cs n l k x y) ts) a_s|a=>lSm (λy=>KV cs n l k a y) ts
  | .agg ts=>match a with
   | .agg a_s=>BD (KV cs n l k) a_s ts|_ =>false
  | .tup ts=>match a with
   | .tup a_s=>BD (KV cs n l k) a_s ts|_ =>false
  |t=>EC sJ a t&&vM n l sJ t
def aPv(cs:List qV)(s:Nat)(c:Int):Option Int:=
 if leq cs s c 0 100 then some 100 else if leq cs s c 0 1000000 then some 1000000 else if leq cs s c 0 1000000000000000000 then some 1000000000000000000 else if leq cs s c 0 xA then some xA else none
def aFc(cs:List qV)(a:A):Option A:=
 match a with
 | .int k _ _ | .ival k _ _ =>some (.ival k k.min k.max)| .bool _ =>some (.bool sW)| .strc s=>if uX s.length 1000000 then some (.strv 0 1000000)else none
 | .str s c=>match aPv cs s c with
  |some h=>some (.strv 0 h)|none=>none
 | .strv _ h=>some (.strv 0 h)|_ =>none
def DF(a b:Int):Int:=if uX a b then b else a
def sl2(cs:List qV):A->Option (Option A×Int)
 | .nils=>some (none,0)
 | .sl e s c=>match aPv cs s c with
  |some h=>some (some e,h)|none=>none
 | .slv e _ h=>some (some e,h)|_ =>none
def jn(cs:List qV):Nat->A->A->Option A
 |0,_,_ =>none
 |k+1,a,b=>if EC sJ a b then some a else match a,b with
  | .agg a_s,.agg bs=>(jnL (jn cs k) a_s bs).map .agg| .tup a_s,.tup bs=>(jnL (jn cs k) a_s bs).map .tup
  |a,b=>match sl2 cs a,sl2 cs b with
   |some (some e,h),some (some e',h')=>match jn cs k e e' with
    |some x=>some (.slv x 0 (DF (DF h h') 0))|none=>none
   |some (some e,h),some (none,_)=>some (.slv e 0 (DF h 0))|some (none,_),some (some e,h)=>some (.slv e 0 (DF h 0))|_,_ =>match aFc cs a,aFc cs b with
   |some (.ival k1 lo hi),some (.ival k2 _ _)=>if k1==k2 then some (.ival k1 lo hi)else none
   |some (.bool x),some (.bool _)=>some (.bool x)|some (.strv _ h),some (.strv _ h')=>some (.strv 0 (DF h h'))
   |none,none=>match a with
    | .or a_s=>if b.flat&&NC a_s then some (.or (b::a_s))else none
    |a=>if a.flat&&b.flat then some (.or [a,b])else none
   |_,_ =>none
 where
 jnL (f:A->A->Option A):List A->List A->Option (List A)
  |[],[]=>some []
  |a::a_s,b::bs=>match f a b with
   |some x=>match jnL f a_s bs with
    |some xs=>some (x::xs)|none=>none
   |none=>none
  |_,_ =>none
def jnT(cs:List qV)(a b:A):Option A:=if KV cs 0 0 sJ b a then some a else jn cs sJ a b
def Ek(cs:List qV):A->List A->Option A
 |a,[]=>some a
 |a,b::r=>match jnT cs a b with
  |some x=>Ek cs x r|none=>none
def VG(sz:Nat)(ag:Bool)(len:Nat):List (Nat×A)->Bool
 |[]=>true|(i,v)::r=>v.known&&(Nat.beq v.cells.length sz&&(v.isAgg==ag&&(Nat.blt i len&&(wG v.cells&&VG sz ag len r))))
def GB:Nat->List (Nat×A)->Bool
 |_,[]=>true|j,(i,_)::r=>Nat.beq i j&&GB (j+1) r
def Iq(P:fV)(cs:List qV)(t:fS)(len:Nat)(parts:List (Nat×A)):Option (TypeId×Nat×A):=
 match P.underlying t with
 |some (.slice e)=>match vZ P e,KP P e,JN P e with
  | some s,some ag,some z=>if Nat.blt 0 s&&decide (len*s<=65536)&&Nat.beq z.cells.length s&&z.isAgg==ag&&z.known&&wG z.cells&&VG s ag len parts then
    match(match parts with
     |(_,v)::r=>if GB 0 parts&&Nat.beq parts.length len then Ek cs v (r.map Prod.snd)else Ek cs z (parts.map Prod.snd)
     |[]=>some z)with
    |some el=>if el.known&&(Nat.beq el.cells.length s&&(wG el.cells&&el.isAgg==ag))then some (e,s,el)else none
    |none=>none
   else none
  |_,_,_ =>none
 |_ =>none
def aVg(P:fV)(X:AX)(fr:List A)(n:Nat)(cs:List qV)(c:Call):Option AV:=
 match c.callee with
 | .value f=>match PX X.gl fr f with
  |some (.fn g first cap)=>match ET X.gl fr c.args.toList with
   |some ars=>X.pe g (first++ars++cap) n cs
   |none=>none
  |_ =>none
 | .invoke _ _ =>none
 | .builtin b=>match b with
  | .len=>match c.args.toList,c.argTypes.toList with
   |[x],t::_ =>match PX X.gl fr x with
    |some a=>(bFm P cs t a).map λy=>⟨y,n,cs⟩|none=>none
   |_,_ =>none
  | .min=>match ET X.gl fr c.args.toList with
   |some (x::r)=>Ef aXp n cs x r|_ =>none
  | .max=>match ET X.gl fr c.args.toList with
   |some (x::r)=>Ef aXo n cs x r|_ =>none
  |_ =>none
def aKu(ev:Operand->Option A):Option Operand->Option (Option A)
 |none=>some none
 |some x=>match ev x with
  |some t=>some (some t)|none=>none
def Kn(n:Nat)(cs:List qV):Option A->Option AV
 |some a=>some ⟨a,n,cs⟩|none=>none
def qY:Nat->A->Bool
 |0,_ =>false
 |n+1,a=>match a with
  | .prd .. =>Nat.ble 20 (n+1)| .slk es=>DV (qY n) es| .sx .. | .sxv .. | .int .. | .ival .. | .bool _ | .strc _ | .str .. | .strv .. | .nilp| .nils| .nilf| .nili| .nilm=>true| .slv e _ hi=>uX hi 0||qY n e| .sl e _ _ =>qY n e| .slp _ e _ _ | .slpv _ e _ _ =>qY n e| .agg a_s| .tup a_s| .or a_s=>DV (qY n) a_s| .ref x _ =>qY n x| .fn _ a_s bs=>DV (qY n) a_s&&DV (qY n) bs| .iface _ x=>qY n x|_ =>false
def frL(f:A->Option A):List A->Option (List A)
 |[]=>some []
 |a::a_s=>match f a with
  |some b=>match frL f a_s with
   |some bs=>some (b::bs)|none=>none
  |none=>none
def frA(hp:gL):Nat->A->Option A
 |0,_ =>none
 |n+1,a=>if qY (n+1) a then some a else match a with
  | .osl l sz si ci s c=>match pY hp l with
   | some (.row _ sz' e s' c')=>if Nat.beq sz sz'&&(Nat.beq si 0&&(ci==0&&(Nat.beq s s'&&c==c')))then match e with
     | .agg es=>if Nat.blt 1 sz&&Nat.beq es.length sz then match frL (frA hp n) es with
       |some bs=>some (.sl (.agg bs) s c)|none=>none
      else none
     | e=>if Nat.beq sz 1&&e.one then match frA hp n e with
       |some b=>if b.one then some (.sl b s c)else none
       |none=>none
      else none
    else none
   |_ =>none
  | .agg a_s=>match frL (frA hp n) a_s with
   |some bs=>some (.agg bs)|none=>none
  | .tup a_s=>match frL (frA hp n) a_s with
   |some bs=>some (.tup bs)|none=>none
  |_ =>none
def aXb:A->Bool
 | .osl .. =>true|_ =>false
def MK:A->Bool
 | .int .. | .ival .. | .bool _ | .strc _ | .str .. | .strv .. | .nilp| .nils| .nilf| .nili| .nilm=>true|_ =>false
def Wj:A->Bool
 | .agg a_s=>a_s.all MK|a=>MK a
def aLu:A->Bool
 | .tup a_s| .agg a_s=>a_s.all Wj|a=>MK a
def aVh(X:AX)(hp:gL)(fr:List A)(n:Nat)(cs:List qV)(c:Call):Option AV:=
 match c.callee with
 | .value f=>match PX X.gl fr f with
  |some (.fn g first cap)=>match ET X.gl fr c.args.toList with
   | some ars=>if(first++ars++cap).any aXb then(match frL (frA hp sJ) (first++ars++cap)with
     |some bs=>if DV (qY sJ) bs then(match X.pe g bs n cs with
      |some v=>if aLu v.a then some v else none
      |none=>none)else none
     |none=>none)else none
   |none=>none
  |_ =>none
 |_ =>none
def aNs(P:fV)(X:AX)(own:Bool)(hp:gL)(fr:List A)(n:Nat)(cs:List qV)(o:Oper):Option AV:=
 let ev:=PX X.gl fr
 match o.op with
 | .move x| .assign x=>Kn n cs (ev x)
 | .pick c a b=>match ev c with
  |some (.bool (.lit b'))=>Kn n cs (if b' then ev a else ev b)
  |_ =>none
 | .box _ x=>if own then none else match ev x with
  |some y=>if y.known then some ⟨.ref y 0,n,cs⟩else none
  |none=>none
 | .build t parts=>match MD X.gl fr parts.toList with
  |some l=>Kn n cs (Uc P t l)|none=>none
 | .buildSlice t len parts=>if own then none else match MD X.gl fr parts.toList with
  |some l=>match Iq P cs t len l with
   |some (_,_,el)=>some ⟨if X.lk&&(GB 0 l&&Nat.beq l.length len)then .slk (l.map Prod.snd)else .sl el 0 len,n,cs⟩
   |none=>none
  |none=>none
 | .load t a=>match ev a with
  |some p=>Zo P hp n cs t p|none=>none
 | .nilCheck x=>match ev x with
  |some p=>Kn n cs (EZ p)|none=>none
 | .binOp op t x y _ =>match ev x,ev y with
  |some a,some b=>if Jy x y a b then aVo P n cs op t a b else none
  |_,_ =>none
 | .unOp op _ x=>match ev x with
  |some a=>unA n cs op a|none=>none
 | .convert s d x=>match ev x with
  |some a=>aHt P n cs s d a|none=>none
 | .makeFunc f first captured=>match f with
  | .func g=>match ET X.gl fr first.toList,ET X.gl fr captured.toList with
   |some a,some c=>some ⟨.fn g a c,n,cs⟩|_,_ =>none
  |_ =>none
 | .fieldAddr s x f=>match ev x with
  |some a=>Kn n cs (LM P s a f)|none=>none
 | .field t x f=>match ev x with
  |some (.agg a_s)=>match QA P t f with
   |some fd=>Kn n cs (TR P fd.type a_s fd.offset)|none=>none
  |_ =>none
 | .indexAddr t x i=>match ev x,ev i with
  |some a,some b=>XV P n cs t a b|_,_ =>none
 | .index t x i=>match ev x,ev i with
  |some a,some b=>Ve P n cs t a b|_,_ =>none
 | .slice t x lo hi mx=>match mx with
  |some _ =>none
  |none=>match ev x with
   |some a=>match aKu ev lo,aKu ev hi with
    |some l,some h=>Wo P n cs t a l h|_,_ =>none
   |none=>none
 | .extract x i=>match ev x with
  |some (.tup xs)=>Kn n cs xs[i]?|_ =>none
 | .call c=>match aVg P X fr n cs c with
  |some v=>some v|none=>aVh X hp fr n cs c
 | .lookup t x i ok=>match ev x,ev i with
  |some a,some b=>Kn n cs (Js P hp t a b ok)|_,_ =>none
 |_ =>none
def Lj(P:fV)(S:AS)(t:fS)(p x:A):Option AR:=
 match vZ P t with
 | some n=>if x.known&&(Nat.beq x.cells.length n&&wG x.cells)then match p with
   | .ptr l off=>match pY S.hp l with
    |some (.fix e xs)=>if off+n<=xs.length then some ⟨.tup [],CD S.hp l (.fix e (PH xs off x.cells)),S.nx,S.nl,S.cs⟩else none
    |_ =>none
   | .elp l sz s c off=>match pY S.hp l with
    | some (.row e sz' a s' c')=>if Nat.beq sz sz'&&a.known&&Nat.beq a.cells.length sz&&leq S.cs s (c+1) s' c'&&decide (off+n<=sz)then
      match a with
      | .agg a_s=>match jnT S.cs (.agg a_s) (.agg (PH a_s off x.cells))with
       |some b=>if wG b.cells&&b.known&&Nat.beq b.cells.length sz&&b.isAgg then some ⟨.tup [],CD S.hp l (.row e sz b s' c'),S.nx,S.nl,S.cs⟩else none
       |none=>none
      | .prd .. =>none
      |a=>match x.cells with
       |[y]=>match jnT S.cs a y with
        |some b=>if b.one then some ⟨.tup [],CD S.hp l (.row e sz b s' c'),S.nx,S.nl,S.cs⟩else none
        |none=>none
       |_ =>none
     else none
    |_ =>none
   |_ =>none
  else none
 |none=>none
def aYz(P:fV)(hp:gL)(cs:List qV)(tx:fS)(size:Nat)(x:A):Option (A×Nat×Int):=
 match P.underlying tx,x with
 |some (.slice _),.osl l sz si ci s c=>match pY hp l with
  | some (.row _ sz' e s' c')=>if Nat.beq sz sz'&&Nat.beq sz size&&leq cs 0 0 si ci&&leq cs 0 0 s c then match aEw si ci s c with
    |some (q,d)=>if leq cs q d s' c' then some (e,s,c)else none
    |none=>none
   else none
  |_ =>none
 |some (.slice _),.sl e s c=>some (e,s,c)
 |some (.slice e),.nils=>match JN P e with
  |some z=>some (z,0,0)|none=>none
 |some .string,.strc b=>if Nat.beq size 1 then some (.ival .u8 0 255,0,b.length)else none
 |some .string,.str s c=>if Nat.beq size 1 then some (.ival .u8 0 255,s,c)else none
 |_,_ =>none
def aZl(cs:List qV)(s:Nat)(c:Int):Option Int:=
 if leq cs s c 0 0 then some 0 else if leq cs s c 0 1 then some 1 else if leq cs s c 0 6 then some 6 else if leq cs s c 0 100 then some 100 else none
def upC(cs:List qV)(s0:Nat)(c0:Int)(sm:Nat)(cm:Int)(n:Nat)(r:List qV):List qV:=
 match aZl cs sm cm with
 |some u=> .le n s0 (c0+u)::r|none=>r
def Hs(P:fV)(S:AS)(t tx:fS)(s x:A):Option AR:=
 match P.underlying t with
 |some (.slice e)=>match P.info? e with
  |some i=>match aYz P S.hp S.cs tx i.size x with
   |some (el,sm,cm)=>
    if(i.size==0)|| !((i.zero.map λz=>z.cells.size)==some i.size)|| !el.known|| !(Nat.beq el.cells.length i.size)|| !(wG el.cells)then none else
    match s with
    | .nils=>if leq S.cs 0 0 sm cm&&leq S.cs sm cm 0 (70368744177664/(i.bytes+1))then
      some ⟨.osl S.nl i.size 0 0 sm cm,(S.nl,.row e i.size el sm cm)::S.hp,S.nx,S.nl+1,S.cs⟩
     else none
    | .osl l sz si ci s0 c0=>match pY S.hp l with
     | some (.row e' sz' a s' c')=>if Nat.beq sz i.size&&Nat.beq sz' i.size&&Nat.beq e' e&&Nat.beq si 0&&(ci==0)&&Nat.beq s0 s'&&(c0==c')&&a.isAgg==el.isAgg then
       match jnT S.cs a el with
       | some b=>if b.known&&Nat.beq b.cells.length i.size&&wG b.cells&&leq S.cs 0 0 sm cm&&leq S.cs 0 0 s0 c0 then
         match aEw s0 c0 sm cm with
         | some (q,d)=>if leq S.cs q d 0 (70368744177664/(i.bytes+1))then
           some ⟨.osl S.nl i.size 0 0 q d,(S.nl,.row e i.size b q d)::wU S.hp l,S.nx,S.nl+1,S.cs⟩
          else none
         | none=>if leq S.cs s0 c0 0 (35184372088832/(i.bytes+1))&&leq S.cs sm cm 0 (35184372088832/(i.bytes+1))then
           some ⟨.osl S.nl i.size 0 0 S.nx 0,(S.nl,.row e i.size b S.nx 0)::wU S.hp l,S.nx+1,S.nl+1,upC S.cs s0 c0 sm cm S.nx (.le s0 S.nx (-c0):: .le sm S.nx (-cm):: .le 0 S.nx 0:: .le S.nx 0 70368744177664::S.cs)⟩
          else none
        else none
       |none=>none
      else none
     |_ =>none
    |_ =>none
   |none=>none
  |none=>none
 |_ =>none
def LY(P:fV)(S:AS)(t:fS)(l c:A):Option AR:=
 match P.underlying t,l,c with
 |some (.slice e),.int .i64 s c,.int .i64 s' c'=>match vZ P e,(P.info? e).map (·.bytes),JN P e with
  | some sz,some bytes,some z=>if(!(Nat.beq e 5)||leq S.cs 0 1 s c)&&Nat.blt 0 sz&&Nat.beq z.cells.length sz&&z.known&&wG z.cells&&Nat.beq s s'&&c==c'&&leq S.cs 0 0 s c&&leq S.cs s c 0 (70368744177664/(bytes+1))then
    some ⟨.osl S.nl sz 0 0 s c,(S.nl,.row e sz z s c)::S.hp,S.nx,S.nl+1,S.cs⟩
   else none
  |_,_,_ =>none
 |_,_,_ =>none
def HL(P:fV)(S:AS)(t:fS)(len:Nat)(parts:List (Nat×A)):Option AR:=
 match Iq P S.cs t len parts with
 |some (e,s,el)=>if !(Nat.beq e 5)||(Nat.blt 0 len&&Nat.blt 0 s)then some ⟨.osl S.nl s 0 0 0 len,(S.nl,.row e s el 0 len)::S.hp,S.nx,S.nl+1,S.cs⟩else none
 |none=>none
def Jk(P:fV)(S:AS)(t:fS)(m k x:A):Option AR:=
 match m,k with
 | .mp l,.int ik s c=>if ik== .i64&&Nat.beq s 0 then match pY S.hp l with
   |some (.map es)=>match P.underlying t with
    |some (.map kt _)=>match P.underlying kt with
     |some (.int _)=>match XJ c es with
      |none=>some ⟨.tup [],CD S.hp l (.map (es++[(c,x)])),S.nx,S.nl,S.cs⟩|some _ =>none
     |_ =>none
    |_ =>none
   |_ =>none
  else none
 |_,_ =>none
def WC(P:fV)(S:AS)(t tx:fS)(s x:A):Option AR:=
 match P.underlying t,s,x with
 |some (.slice e),.nils,.sl (.agg a_s) 0 c=>match P.underlying tx,P.info? e with
  | some (.slice _),some i=>if Nat.blt 1 i.size&&(Nat.beq a_s.length i.size&&(wG a_s&&((i.zero.map λz=>z.cells.size)==some i.size&&(uX 1 c&&(decide (c*i.bytes<=70368744177664)&&uX c 70368744177664)))))then
    some ⟨.sl (.agg a_s) 0 c,S.hp,S.nx,S.nl,S.cs⟩else none
  |_,_ =>none
 |_,_,_ =>none
def aNq(P:fV)(X:AX)(pa:Bool)(call:FuncId->List A->AS->Option (List AR))(S:AS)(o:Oper):Option (List AR):=
 let ev:=PX X.gl S.fr
 match o.op with
 | .alloc t=>match JN P t with
  |some z=>if z.known then some [⟨.ptr S.nl 0,(S.nl,.fix t z.cells)::S.hp,S.nx,S.nl+1,S.cs⟩]else none
  |none=>none
 | .box t x=>match ev x with
  |some y=>if y.known then some [⟨.ptr S.nl 0,(S.nl,.fix t y.cells)::S.hp,S.nx,S.nl+1,S.cs⟩]else none
  |none=>none
 | .buildSlice t len parts=>match MD X.gl S.fr parts.toList with
  |some l=>(HL P S t len l).map ([·])|none=>none
 | .store t p x=>match ev p,ev x with
  |some q,some y=>(Lj P S t q y).map ([·])|_,_ =>none
 | .makeSlice t l c=>match ev l,ev c with
  |some n,some m=>(LY P S t n m).map ([·])|_,_ =>none
 | .makeMap _ r=>match r with
  |none=>some [⟨.mp S.nl,(S.nl,.map [])::S.hp,S.nx,S.nl+1,S.cs⟩]|some _ =>none
 | .mapUpdate t m k x| .insert t m k x=>match ev m,ev k,ev x with
  |some a,some b,some v=>(Jk P S t a b v).map ([·])|_,_,_ =>none
 | .call c=>match c.callee with
  | .value f=>match ev f with
   | some (.fn g first cap)=>if X.inl g then match ET X.gl S.fr c.args.toList with
     |some ars=>call g (first++ars++cap) S
     |none=>none
    else none
   |_ =>none
  | .builtin .append=>match c.args.toList,c.argTypes.toList with
   |[s,x],[t,t']=>match ev s,ev x with
    |some a,some b=>(if pa then WC P S t t' a b else Hs P S t t' a b).map ([·])
    |_,_ =>none
   |_,_ =>none
  |_ =>none
 |_ =>none
structure Af where
 S:AS
 pend:Option (Tmp×TypeId)
 av:List Oper
def Qf(f:Operand->Operand->Bool):Op->Op->Bool
 | .load t a,.load t' a'=>Nat.beq t t'&&f a a'| .fieldAddr s x i,.fieldAddr s' x' i'=>Nat.beq s s'&&(Nat.beq i i'&&f x x')| .indexAddr t x i,.indexAddr t' x' i'=>Nat.beq t t'&&(f x x'&&f i i')| .move x,.move y=>f x y|_,_ =>false
def VC:Operand->Operand->Bool
 | .tmp a,.tmp b=>Nat.beq a b|_,_ =>false
def Dw(o:Oper)(d:Tmp):Bool:=
 match o.dst with
 |some e=>Nat.beq e d|none=>false
def eqO(av:gW):Nat->Operand->Operand->Bool
 |0,x,y=>VC x y
 |n+1,x,y=>VC x y||(match x,y with
  | .tmp a,.tmp b=>av.any λoa=>Dw oa a&&av.any λob=>Dw ob b&&Qf (eqO av n) oa.op ob.op|_,_ =>false)
def cse(av:gW)(o:Oper):Option Tmp:=
 match av.find? λo1=>Qf (eqO av 6) o1.op o.op with
 |some o1=>o1.dst|none=>none
def Wa(o:Oper):List Tmp:=o.op.operands.toList.filterMap λx=>match x with| .tmp t=>some t|_ =>none
def Ze(o:Oper):Bool:=
 match o.op with
 | .load .. | .fieldAddr .. | .indexAddr .. | .move _ =>true|_ =>false
def aJj(d:Tmp):List Tmp->Bool
 |[]=>false|x::xs=>Nat.beq x d||aJj d xs
def RI(d:Tmp):List Oper->List Oper
 |[]=>[]|o::r=>if Dw o d||aJj d (Wa o)then RI d r else o::RI d r
def Kj(fr:List A)(o:Oper)(av:gW):List Oper:=
 match o.dst with
 |some d=>if Ze o&&(Nat.blt d fr.length&& !(aJj d (Wa o)))then o::RI d av else RI d av
 |none=>av
def MH(fr:List A)(dst:jA)(v:A):List A:=
 match dst with
 |some d=>setS v fr d|none=>fr
def AS.ofR(S:AS)(dst:jA)(r:AR):AS:={fr:=MH S.fr dst r.a,hp:=r.hp,nx:=r.nx,nl:=r.nl,cs:=r.cs}
def IP(X:AX)(own:Bool)(fr:List A)(o:Oper):Bool:=
 match o.op with
 | .alloc _ | .store .. | .makeSlice .. | .makeMap .. | .mapUpdate .. | .insert .. =>true| .box .. | .buildSlice .. =>own
 | .call c=>match c.callee with
  | .builtin .append=>true
  | .value f=>match PX X.gl fr f with
   |some (.fn g _ _)=>X.inl g|_ =>false
  |_ =>false
 |_ =>false
def WJ(own:Bool)(o:Oper):Bool:=
 match o.op with
 | .buildSlice .. =>own|_ =>true
def Ac(S:AS)(i:Tmp)(k:iE)(s:Nat)(c:Int):Nat->List AS
 |0=>[]
 |v+1=>if leq S.cs s c 0 ((v:Int)-1)||leq S.cs 0 ((v:Int)+1) s c then Ac S i k s c v
  else{S with fr:=setS (.int k 0 v) S.fr i,cs:= .le s 0 ((v:Int)-c):: .le 0 s (c-(v:Int))::S.cs}::Ac S i k s c v
def GR(X:AX)(S:AS)(o:Oper):Option (List AS):=
 match o.op with
 | .pick (.tmp c) _ _ =>match BV S.fr c with
  | .bool (.imp p n)=>some ((MN S.cs (.imp p n)).map λq=>{S with fr:=setS (.bool (.lit q.1)) S.fr c,cs:=q.2})
  |_ =>none
 | .call c=>match c.callee with
  | .value (.tmp f)=>match BV S.fr f with
   | .or a_s=>some (a_s.map λa=>{S with fr:=setS a S.fr f})
   |_ =>none
  |_ =>none
 | .indexAddr _ (.tmp a) (.tmp i)=>match BV S.fr a with
  | .ptr .. =>match BV S.fr i with
   | .int k s c=>if Nat.beq s 0 then none else if leq S.cs 0 0 s c&&leq S.cs s c 0 15 then some (Ac S i k s c 16)else none
   |_ =>none
  |_ =>none
 |_ =>none
def BK{Z K:Type}(f:Z->Option (List K)):List Z->Option (List K)
 |[]=>some []
 |a::a_s=>match f a with
  |some l=>match BK f a_s with
   |some r=>some (l++r)|none=>none
  |none=>none
def Jc(S:AS)(d:Tmp)(want:Bool):A->Option (List (Bool×AS))
 | .bool b=>some ((MN S.cs b).map λq=>(q.1==want,{S with cs:=q.2,fr:=setS (.bool (.lit q.1)) S.fr d}))
 | .tup []=>some [(false,{S with fr:=setS (.tup []) S.fr d})]
 |_ =>none
def LQ(ops:fZ)(S:AS)(o:Oper):Option (List (Bool×AS)):=
 match o.guard with
 |none=>some [(true,S)]
 |some (j,want)=>match(ops[j]?).bind (·.dst)with
  |some d=>match BV S.fr d with
   | .or a_s=>BK (Jc S d want) a_s|a=>Jc S d want a
  |none=>none
section
variable(P:fV)(X:AX)(call:FuncId->List A->AS->Option (List AR))(F:hD)
def BG(o:Oper):Bool:=
 match o.dst with
 |some d=>F d|none=>false
def HB(o:Oper):Option (Tmp×TypeId):=
 match o.op with
 | .alloc t=>match o.dst with
  |some d=>if F d then none else some (d,t)
  |none=>none
 |_ =>none
def EQ(s:Af)(o:Oper):Option (List Af):=
 match HB F o with
 |some (d,t)=>if s.pend.isSome then none else match vZ P t,JN P t with
  |some n,some z=>if Nat.beq z.cells.length n&&z.known&&Nat.blt d s.S.fr.length then some [{S:={s.S with fr:=setS (.tup []) s.S.fr d},pend:=some (d,t),av:=[]}]else none
  |_,_ =>none
 | none=>if IP X (BG F o) s.S.fr o then
   if WJ (BG F o) o then match aNq P X (OU F o.dst) call s.S o with
    |some l=>some (l.map λr=>{S:=s.S.ofR o.dst r,pend:=s.pend,av:=[]})|none=>none
   else none
  else match cse s.av o with
   |some d1=>some [{S:={s.S with fr:=MH s.S.fr o.dst (BV s.S.fr d1)},pend:=s.pend,av:=Kj s.S.fr o s.av}]
   |none=>match aNs P X (BG F o) s.S.hp s.S.fr s.S.nx s.S.cs o with
    |some v=>some [{S:={s.S with fr:=MH s.S.fr o.dst v.a,nx:=v.nx,cs:=v.cs},pend:=s.pend,av:=Kj s.S.fr o s.av}]
    |none=>none
def ZA(ops:fZ)(s:Af)(o:Oper):Option (List Af):=
 match LQ ops s.S o with
 |some l=>BK (λq=>if q.1 then(match GR X q.2 o with
    |some ss=>BK (λS'=>EQ P X call F {s with S:=S'} o) ss
    |none=>EQ P X call F {s with S:=q.2} o)
   else some [{S:={q.2 with fr:=MH q.2.fr o.dst (.tup [])},pend:=s.pend,av:=[]}]) l
 |none=>none
def Vu(s:Af)(d:Tmp)(t:fS)(y:A):Af:=
 if F (d+1000)then{S:={s.S with fr:=setS (.ptr s.S.nl 0) s.S.fr d,hp:=(s.S.nl,.fix t y.cells)::s.S.hp,nl:=s.S.nl+1},pend:=none,av:=[]}
 else{S:={s.S with fr:=setS (.ref y 0) s.S.fr d},pend:=none,av:=[]}
def aBc(ops:fZ)(s:Af)(o:Oper):Option (List Af):=
 match s.pend with
 |none=>ZA P X call F ops s o
 |some (d,t)=>
  match o.op,o.dst,o.guard with
  | .store t' (.tmp d') x,none,none=>
   if Nat.beq d' d then
    if t'=t/\GJ x d=true then
     match PX X.gl s.S.fr x,vZ P t with
     |some y,some n=>if y.known&&(Nat.beq y.cells.length n&&wG y.cells)then some [Vu F s d t y]else none
     |_,_ =>none
    else none
   else if uW ops o d then none else ZA P X call F ops s o
  |_,_,_ =>if uW ops o d then none else ZA P X call F ops s o
def Bz(ops:fZ):List Oper->Af->Option (List Af)
 |[],s=>some [s]
 |o::rest,s=>match aBc P X call F ops s o with
  |some l=>BK (Bz ops rest) l|none=>none
def Qj(ops:fZ)(s:Af)(o:Oper):Bool:=
 match s.pend with
 |some (d,_)=>uW ops o d|none=>false
def PV(s:Af)(o:Oper):Bool:=
 match o.dst with
 |some d=>Nat.blt d s.S.fr.length|none=>true
def NS(ops:fZ):List Oper->Nat->Af->Option (List Af)
 |[],_,s=>match s.pend with
  |none=>some [s]|some _ =>none
 |o::rest,m,s=>
  if Qj ops s o then
   if rU (tL ops.toList []) m ops.size then Bz P X call F ops (o::rest) s else none
  else if PV s o=false then none
  else match LQ ops s.S o with
   |some l=>BK (λq=>if q.1 then(match HB F o with
      |some _ =>match EQ P X call F {s with S:=q.2} o with
       |some ss=>BK (NS ops rest (m+1)) ss|none=>none
      |none=>match GR X q.2 o with
       |some ss=>BK (λS'=>if IP X (BG F o) S'.fr o then
          (if WJ (BG F o) o&&rU (tL ops.toList []) m ops.size then Bz P X call F ops (o::rest) {s with S:=S'}else none)
         else match EQ P X call F {s with S:=S'} o with
          |some ss=>BK (NS ops rest (m+1)) ss|none=>none) ss
       |none=>if IP X (BG F o) q.2.fr o then
          (if WJ (BG F o) o&&rU (tL ops.toList []) m ops.size then Bz P X call F ops (o::rest) {s with S:=q.2}else none)
         else match EQ P X call F {s with S:=q.2} o with
          |some ss=>BK (NS ops rest (m+1)) ss|none=>none)
     else NS ops rest (m+1) {S:={q.2 with fr:=MH q.2.fr o.dst (.tup [])},pend:=s.pend,av:=[]}) l
   |none=>none
def aPt(l:Nat)(S:AS)(o:Oper):Bool:=
 match o.op with
 | .load _ a=>match PX X.gl S.fr a with
  |some (.ref ..)=>true|some (.ptr l' _)=> !(Nat.beq l' l)&&((pY S.hp l).isSome&&(pY S.hp l').isSome)|some (.elp l' _ _ _ _)=> !(Nat.beq l' l)&&((pY S.hp l).isSome&&(pY S.hp l').isSome)|_ =>false
 | .call c=>match c.callee with
  | .builtin .len=>c.args.toList.all λx=>match PX X.gl S.fr x with
   |some (.str ..)|some (.strc _)|some (.sl ..)|some (.osl ..)|some .nils|some (.sx ..)|some .nilm=>true|_ =>false
  | .builtin _ =>true|_ =>false
 | .lookup .. =>false|_ =>true
def LJ(ops:fZ)(A:gI)(p l:Nat):List Oper->Nat->Bool->Af->Option (List Af)
 |[],_,af,s=>if af then some [s]else none
 |o::rest,m,af,s=>
  if(af&&rU A m ops.size)=true then Bz P X call F ops (o::rest) s
  else if PV s o=false then none
  else if OD o then(if af then none else match o.op with
   | .store t x y=>match PX X.gl s.S.fr x,PX X.gl s.S.fr y with
    | some (.ptr l' off),some v=>if Nat.beq l' l then match Lj P s.S t (.ptr l' off) v with
      |some R=>LJ ops A p l rest (m+1) true {S:={s.S with hp:=R.hp,nx:=R.nx,nl:=R.nl,cs:=R.cs},pend:=none,av:=[]}
      |none=>none
     else none
    |_,_ =>none
   |_ =>none)
  else match LQ ops s.S o with
   |some gs=>BK (λq=>if q.1 then
      (if((if af then vQ A m p else vQ A p m)||aPt X l q.2 o)&&((HB F o).isNone&& !(IP X (BG F o) q.2.fr o))then match EQ P X call F {s with S:=q.2} o with
       |some ss=>BK (LJ ops A p l rest (m+1) af) ss|none=>none
      else none)
     else LJ ops A p l rest (m+1) af {S:={q.2 with fr:=MH q.2.fr o.dst (.tup [])},pend:=s.pend,av:=[]}) gs
   |none=>none
def Oj(S:AS)(o:Oper):Bool:=
 match o.op with
 | .load _ a=>match PX X.gl S.fr a with
  |some (.ref ..)=>true|_ =>false
 | .call c=>match c.callee with
  | .builtin .len=>c.args.toList.all λx=>match PX X.gl S.fr x with
   |some (.str ..)|some (.strc _)|some (.sl ..)|some (.osl ..)|some .nils|some (.sx ..)|some .nilm|some (.slk _)|some (.slp ..)=>true|_ =>false
  | .builtin _ =>true|_ =>false
 | .lookup .. =>false|_ =>true
def Xw(m:Nat)(e d:Bool)(l:Option (List (AS×List Nat×List Nat))):Option (List (AS×List Nat×List Nat)):=
 match l with
 |some l=>some (l.map λq=>(q.1,(if e then m::q.2.1 else q.2.1),(if d then m::q.2.2 else q.2.2)))
 |none=>none
def WX(ops:fZ):List Oper->Nat->AS->Option (List (AS×List Nat×List Nat))
 |[],_,S=>some [(S,[],[])]
 |o::rest,m,S=>
  if PV ⟨S,none,[]⟩ o=false then none
  else match LQ ops S o with
   |some gs=>BK (λq=>if q.1 then BK (λS'=>
      if IP X (BG F o) S'.fr o then
       (if WJ (BG F o) o then match aNq P X (OU F o.dst) call S' o with
        |some rs=>BK (λR=>Xw m true false (WX ops rest (m+1) (S'.ofR o.dst R))) rs|none=>none
       else none)
      else match aNs P X (BG F o) S'.hp S'.fr S'.nx S'.cs o with
       |some v=>Xw m false (!(Oj X S' o)) (WX ops rest (m+1) {S' with fr:=MH S'.fr o.dst v.a,nx:=v.nx,cs:=v.cs})
       |none=>none) (match GR X q.2 o with
        |some ss=>ss|none=>[q.2])
     else WX ops rest (m+1) {q.2 with fr:=MH q.2.fr o.dst (.tup [])}) gs
   |none=>none
def Ui(ops:fZ)(S:AS):Option (List Af):=
 match WX P X call F ops ops.toList 0 S with
 |some l=>if l.all λq=>Ez (tL ops.toList []) q.2.1 q.2.2 then some (l.map λq=>⟨q.1,none,[]⟩)else none
 |none=>none
def Uj(fl:Bool)(ops:fZ)(S:AS):Option (List Af):=
 if lkp ops|| !fl then Ui P X call F ops S else
 if aQh ops then match Hb ops,vF ops.toList 0 with
  |some b,some p=>match BV S.fr b with
   | .ptr l _ =>LJ P X call F ops (tL ops.toList []) p l ops.toList 0 false ⟨S,none,[]⟩|_ =>none
  |_,_ =>none
 else NS P X call F ops ops.toList 0 ⟨S,none,[]⟩
end
def RT:A->Option (Nat×Int)
 | .int _ s c| .str s c| .sl _ s c| .sx s c| .osl _ _ _ _ s c=>some (s,c)| .slp _ _ s c=>some (s,c)| .strc b=>some (0,b.length)| .nils=>some (0,0)|_ =>none
def Et:Nat->List (Nat×AO)->List A->Nat->Option Nat
 |0,_,_,_ =>none
 | k+1,hp,fr,d=>if Nat.blt d 1000 then match BV fr d with
   | .ptr l _ =>some l|_ =>none
  else match BV fr (Nat.mod d 1000)with
   | .yl l=>match pY hp l with
    |some (.loop _ _ fr' ..)=>Et k hp fr' (Nat.div d 1000-1)|_ =>none
   |_ =>none
def JE(S:AS)(gs:Nat)(gc:Int):Bb->Option (Nat×Int)
 | .slot d=>RT (BV S.fr d)
 | .cell d j=>match Et 5 S.hp S.fr d with
  |some l=>match pY S.hp l with
   |some (.fix _ xs)=>match xs[j]? with
    |some a=>RT a|none=>none
   |_ =>none
  |none=>none
 | .ghost=>some (gs,gc)| .zero=>some (0,0)
def Ye:List Oper->List Tmp
 |[]=>[]
 |o::os=>match o.dst with
  |some d=>d::Ye os|none=>Ye os
def sQ(d:Nat):List Nat->Bool
 |[]=>false|x::xs=>Nat.beq x d||sQ d xs
def aSr(n l:Nat)(w:iR):Nat->List A->List A
 |_,[]=>[]|j,a::a_s=>(if sQ j w|| !vM n l sJ a then .top else a)::aSr n l w (j+1) a_s
abbrev gT:=List (Nat×Nat×TA)
def EO(oc:gT)(l:Nat):Nat->List A->List A
 |_,[]=>[]|j,a::a_s=>(if oc.any λq=>Nat.beq q.1 l&&Nat.beq q.2.1 j then .any else a)::EO oc l (j+1) a_s
def NE(oc:gT):List (Nat×AO)->List (Nat×AO)
 |[]=>[]|(l,.fix e xs)::r=>(l,.fix e (EO oc l 0 xs))::NE oc r|(l,o)::r=>(l,o)::NE oc r
def CO(fr:List A):List (Tmp×TA)->List (Nat×AO)->List (Nat×AO)
 |[],hp=>hp
 |(d,.row ..)::r,hp=>match BV fr d with
  | .osl l .. =>CO fr r (wU hp l)|_ =>CO fr r hp
 |_ ::r,hp=>CO fr r hp
def bBv(hp:gL)(l j:Nat):A:=
 match pY hp l with
 |some (.fix _ xs)=>match xs[j]? with
  |some a=>a|none=> .top
 |_ => .top
def AA(hp0:gL):List (Nat×Nat×TA)->List (Nat×AO)->List (Nat×AO)
 |[],hp=>hp
 |(l,j,.row ..)::r,hp=>match bBv hp0 l j with
  | .osl m .. =>AA hp0 r (wU hp m)|_ =>AA hp0 r hp
 |_ ::r,hp=>AA hp0 r hp
def BA:List (Nat×AO)->List (Nat×AO)->List (Nat×AO)
 |[],hp=>hp|(l,.map _)::r,hp=>BA r (wU hp l)|_ ::r,hp=>BA r hp
abbrev jD:=List (Tmp×TA)
def HI(S:AS)(sp:jD)(oc:gT):List (Nat×AO):=AA S.hp oc (CO S.fr sp (BA S.hp S.hp))
def Xv(S:AS)(w:iR)(sp:jD)(oc:gT)(m0:Int):AS:=
 {fr:=aSr S.nx S.nl w 0 S.fr,hp:=NE oc (HI S sp oc),nx:=S.nx+1,nl:=S.nl,cs:= .le 0 S.nx 0:: .le S.nx 0 m0::S.cs}
def VY:List (Tmp×TA)->AS->AS
 |[],S=>S
 |(d,.a a)::r,S=>match vY a S.nx S.cs with
  |⟨b,n,cs⟩=>VY r {S with fr:=setS b S.fr d,nx:=n,cs:=cs}
 |(d,.row e sz a lo hi)::r,S=>VY r {fr:=setS (.osl S.nl sz 0 0 S.nx 0) S.fr d,hp:=(S.nl,.row e sz a S.nx 0)::S.hp,nx:=S.nx+1,nl:=S.nl+1,cs:= .le 0 S.nx (-lo):: .le S.nx 0 hi::S.cs}
def setCell(l j:Nat)(a:A):List (Nat×AO)->List (Nat×AO)
 |[]=>[]|(m,.fix e xs)::r=>if Nat.beq m l then(m,.fix e (xs.set j a))::setCell l j a r else(m,.fix e xs)::setCell l j a r
 |q::r=>q::setCell l j a r
def Mi:List (Nat×Nat×TA)->AS->AS
 |[],S=>S
 |(l,j,.a a)::r,S=>match vY a S.nx S.cs with
  |⟨b,n,cs⟩=>Mi r {S with hp:=setCell l j b S.hp,nx:=n,cs:=cs}
 |(l,j,.row e sz a lo hi)::r,S=>Mi r {S with hp:=setCell l j (.osl S.nl sz 0 0 S.nx 0) ((S.nl,.row e sz a S.nx 0)::S.hp),nx:=S.nx+1,nl:=S.nl+1,cs:= .le 0 S.nx (-lo):: .le S.nx 0 hi::S.cs}
def NB(gs:Nat):List (Bb×Bb×Int)->AS->Option (List qV)
 |[],S=>some S.cs
 |(p,q,c)::r,S=>match JE S gs 0 p,JE S gs 0 q with
  |some (x,a),some (y,b)=>match NB gs r S with
   |some cs=>some (.le x y (c+b-a)::cs)|none=>none
  |_,_ =>none
abbrev jV:=List (Bb×Bb×Int)
def Om(S:AS)(w:iR)(sp:jD)(oc:gT)(cons:jV)(m0:Int):Option AS:=
 let S1:=Mi oc (VY sp (Xv S w sp oc m0))
 match NB S.nx cons S1 with
 |some cs=>some {S1 with cs:=cs}
 |none=>none
def ZR(n l:Nat)(w:iR):Nat->List A->List A->Bool
 |_,[],[]=>true|j,a::a_s,b::bs=>((sQ j w|| !vM n l sJ a)||EC sJ a b)&&ZR n l w (j+1) a_s bs|_,_,_ =>false
def ZQ(n l:Nat)(oc:gT)(m:Nat):Nat->List A->List A->Bool
 |_,[],[]=>true|j,a::a_s,b::bs=>(if oc.any λq=>Nat.beq q.1 m&&Nat.beq q.2.1 j then b.one else EC sJ a b&&vM n l sJ a)&&ZQ n l oc m (j+1) a_s bs
 |_,_,_ =>false
def Kx:LoopState->LoopState->Bool
 | .ready,.ready| .busy,.busy| .done,.done| .exhausted,.exhausted=>true|_,_ =>false
def Wi:Option (Option Nat)->Option (Option Nat)->Bool
 |none,none|some none,some none=>true|some (some a),some (some b)=>Nat.beq a b|_,_ =>false
def LB(n l:Nat)(oc:gT)(HF:gL):List (Nat×AO)->Bool
 |[]=>true
 |(m,.fix e xs)::r=>Nat.blt m l&&((match pY HF m with
  |some (.fix e' ys)=>Nat.beq e e'&&ZQ n l oc m 0 xs ys|_ =>false)&&LB n l oc HF r)
 |(m,.row e sz a s c)::r=>Nat.blt m l&&((match pY HF m with
  |some (.row e' sz' b s' c')=>Nat.beq e e'&&(Nat.beq sz sz'&&(EC sJ a b&&(vM n l sJ a&&(Nat.beq s s'&&(c==c'&&Nat.blt s n)))))|_ =>false)&&LB n l oc HF r)
 |(_,.map _)::_ =>false
 |(m,.loop st pe ..)::r=>Nat.blt m l&&((match pY HF m with
  |some (.loop st' pe' ..)=>Kx st st'&&Wi pe pe'|_ =>false)&&LB n l oc HF r)
def QB(hp:gL)(m:Nat):Bool:=(pY hp m).isSome
def Qe(n l:Nat)(base:gL)(S1:AS):List (Tmp×TA)->List Nat->Bool
 |[],_ =>true|(d,.a t)::r,used=>KV S1.cs n l sJ (BV S1.fr d) t&&Qe n l base S1 r used
 |(d,.row e sz t lo hi)::r,used=>match BV S1.fr d with
  | .nils=>uX lo 0&&(uX 0 hi&&Qe n l base S1 r used)
  | .osl m sz' si ci s c=>match pY S1.hp m with
   | some (.row e' sz2 a s' c')=>Nat.beq sz sz'&&(Nat.beq sz2 sz&&(Nat.beq e e'&&(Nat.beq si 0&&(ci==0&&(Nat.beq s s'&&(c==c'&&(KV S1.cs n l sJ a t&&(leq S1.cs 0 lo s c&&(leq S1.cs s c 0 hi&&
     (!(sQ m used)&&(!(QB base m)&&Qe n l base S1 r (m::used))))))))))))
   |_ =>false
  |_ =>false
def BO(S1:AS):List (Tmp×TA)->List Nat->List Nat
 |[],u=>u|(_,.a _)::r,u=>BO S1 r u
 |(d,.row ..)::r,u=>match BV S1.fr d with
  | .osl m .. =>BO S1 r (m::u)|_ =>BO S1 r u
def Qd(n l:Nat)(base:gL)(S1:AS):List (Nat×Nat×TA)->List Nat->Bool
 |[],_ =>true
 |(m,j,.a t)::r,used=>(match pY S1.hp m with
  |some (.fix _ xs)=>match xs[j]? with
   |some a=>KV S1.cs n l sJ a t|none=>false
  |_ =>false)&&Qd n l base S1 r used
 |(m,j,.row e sz t lo hi)::r,used=>match pY S1.hp m with
  |some (.fix _ xs)=>match xs[j]? with
   |some .nils=>uX lo 0&&(uX 0 hi&&Qd n l base S1 r used)
   |some (.osl q sz' si ci s c)=>match pY S1.hp q with
    | some (.row e' sz2 a s' c')=>Nat.beq sz sz'&&(Nat.beq sz2 sz&&(Nat.beq e e'&&(Nat.beq si 0&&(ci==0&&(Nat.beq s s'&&(c==c'&&(KV S1.cs n l sJ a t&&(leq S1.cs 0 lo s c&&(leq S1.cs s c 0 hi&&
      (!(sQ q used)&&(!(QB base q)&&Qd n l base S1 r (q::used))))))))))))
    |_ =>false
   |_ =>false
  |_ =>false
def Kc(gs:Nat)(gc:Int)(S1:AS):List (Bb×Bb×Int)->Bool
 |[]=>true
 |(p,q,c)::r=>(match JE S1 gs gc p,JE S1 gs gc q with
  |some (x,a),some (y,b)=>leq S1.cs x a y (b+c)|_,_ =>false)&&Kc gs gc S1 r
def FR:List (Nat×Nat×TA)->Bool
 |[]=>true|(m,j,_)::r=> !(r.any λq=>Nat.beq q.1 m&&Nat.beq q.2.1 j)&&FR r
def WW:List (Tmp×TA)->Bool
 |[]=>true|(d,_)::r=> !(r.any λq=>Nat.beq q.1 d)&&WW r
def inW(w:iR):List (Tmp×TA)->Bool
 |[]=>true|(d,_)::r=>sQ d w&&inW w r
def okS(S:AS)(w:iR)(sp:jD)(oc:gT)(cons:jV)(S1:AS)(gs:Nat)(gc:Int):Bool:=
 ZR S.nx S.nl w 0 S.fr S1.fr&&(LB S.nx S.nl oc S1.hp (HI S sp oc)&&(Qe S.nx S.nl (HI S sp oc) S1 sp []&&(Qd S.nx S.nl (HI S sp oc) S1 oc (BO S1 sp [])&&Kc gs gc S1 cons)))
def IV(S1 Sh S2:AS)(m0:Int):aGt->Bool
 | .down p=>(match JE S1 0 0 p with
   |some (x,a)=>leq S1.cs x a 0 m0|none=>false)&&(match JE Sh 0 0 p,JE S2 0 0 p with
   |some (x,a),some (y,b)=>leq S2.cs y (b+1) x a&&leq S2.cs 0 0 y b|_,_ =>false)
 | .up p q c=>(match JE S1 0 0 p,JE S1 0 0 q with
   |some (x,a),some (y,b)=>leq S1.cs y (b+c-m0) x a|_,_ =>false)&&(match JE Sh 0 0 p,JE Sh 0 0 q,JE S2 0 0 p,JE S2 0 0 q with
   |some (x,a),some (y,b),some (x',a'),some (y',b')=>Nat.beq y y'&&(b==b'&&(leq S2.cs x (a+1) x' a'&&leq S2.cs x' a' y (b+c)))|_,_,_,_ =>false)
def NV:Code->List Tmp
 | .region _ ops _ =>Ye ops.toList| .seq a b=>NV a++NV b| .cond _ a b=>NV a++NV b| .block _ c| .loop c| .scope c=>NV c|_ =>[]
abbrev jB:=List Af
def Zn(l:jB):Option (List (X×AS)):=
 match l with
 |[]=>some []
 |s::r=>match s.pend with
  |none=>match Zn r with
   |some q=>some ((.normal,s.S)::q)|none=>none
  |some _ =>none
def XD(id:Nat):List (X×AS)->List (X×AS)
 |[]=>[]|(.exit id',S)::r=>(if Nat.beq id' id then(.normal,S)else(.exit id',S))::XD id r
 |q::r=>q::XD id r
def BF(S:AS)(w:iR)(la:LA)(oc:gT)(Sh:AS):List (X×AS)->Option (List (X×AS))
 |[]=>some []|(.normal,S2)::r=>if okS S w la.sp oc la.cons S2 S.nx (Int.ofNat la.gk)&&IV S Sh S2 la.m0 la.ms then BF S w la oc Sh r else none
 |q::r=>match BF S w la oc Sh r with
  |some l=>some (q::l)|none=>none
def bIc(n l:Nat)(a:A):A:=
 if vM n l sJ a then a else match a with
 | .bool _ => .bool sW| .or [.bool _,.tup []]=> .or [.bool sW,.tup []]| .int k _ _ | .ival k _ _ => .ival k k.min k.max| .str .. | .strc _ | .strv .. => .strv 0 1000000000000000000|_ => .top
def bRu(n l:Nat)(a b:A):A:=
 if EC sJ a b then a else match a,b with
 | .bool _,.bool _ => .bool sW| .bool _,.tup []| .tup [],.bool _ | .or [.bool _,.tup []],.bool _ | .or [.bool _,.tup []],.tup []=> .or [.bool sW,.tup []]| .int k _ _,.int _ _ _ | .ival k _ _,.int _ _ _ => .ival k k.min k.max| .strv ..,_ => .strv 0 1000000000000000000| .strc _,.strc _ | .str ..,.strc _ | .strc _,.str .. | .str ..,.str .. => .strv 0 1000000000000000000|_,_ => .top
def aUr(n l:Nat)(d:Tmp):A->List Af->A
 |a,[]=>a|a,s::r=>aUr n l d (bRu n l a (bIc n l (BV s.S.fr d))) r
def aEp(n l:Nat)(s:Af)(r:jB):List Tmp->List (Tmp×TA)
 |[]=>[]|d::ds=>if sQ d ds then aEp n l s r ds else(d,.a (aUr n l d (bIc n l (BV s.S.fr d)) r))::aEp n l s r ds
def Mm(S:AS)(w:iR)(sp:jD):List Af->Bool
 |[]=>true|s::r=>s.pend.isNone&&(okS S w sp [] [] s.S 0 0&&Mm S w sp r)
def YC(S:AS)(w:iR):List Af->Option (List Af)
 |[]=>some []|[s]=>some [s]
 | s::r=>if Mm S w (aEp S.nx S.nl s r w) (s::r)then match Om S w (aEp S.nx S.nl s r w) [] [] 0 with
   |some S'=>some [⟨S',none,[]⟩]|none=>none
  else none
def aMn:A->Bool
 | .tup []=>true|_ =>false
def aAy(s t:Af):List Tmp->Bool
 |[]=>true|d::ds=>aMn (BV s.S.fr d)==aMn (BV t.S.fr d)&&aAy s t ds
def El(S:AS)(w:iR):Nat->List Af->Option (List Af)
 |0,l=>some l|_ +1,[]=>some []
 |n+1,s::r=>match YC S w (s::r.filter λt=>aAy s t w)with
  |some a=>match El S w n (r.filter λt=> !aAy s t w)with
   |some b=>some (a++b)|none=>none
  |none=>none
def aXc(o:Oper):Bool:=
 match o.op with
 | .pick .. =>true|_ =>false
def yOf(gl:Nat->Option A)(fr:List A)(o:Oper):Option (Nat×List Operand):=
 match o.op with
 | .call c=>match c.callee with
  | .value f=>match PX gl fr f with
   |some (.yl l)=>some (l,c.args.toList)|_ =>none
  |_ =>none
 |_ =>none
def Vq(S:AS):List (Tmp×Nat×TA)->Option (List (Nat×Nat×TA))
 |[]=>some []
 |(d,j,a)::r=>match Et 5 S.hp S.fr d with
  |some l=>match Vq S r with
   |some q=>some ((l,j,a)::q)|none=>none
  |none=>none
def aXf:Option (Option Nat)->X
 |none=> .normal|some (some id)=> .exit id|some none=> .ret
def aPd(S:AS)(l:Nat):List AR->Option (List (X×AS))
 |[]=>some []
 |R::rs=>match pY R.hp l with
  |some (.loop st pe ..)=>if Kx st .busy then none else match aPd S l rs with
   |some q=>some ((aXf pe,{fr:=S.fr,hp:=wU R.hp l,nx:=R.nx,nl:=R.nl,cs:=R.cs})::q)|none=>none
  |_ =>none
def roA(S:AS):Option Nat->Bool
 |none=>true
 |some l=>match pY S.hp l with
  |some (.loop ..)=>true|_ =>false
section
variable(P:fV)(Y:AX)(call:FuncId->List A->AS->Option (List AR))(yld:Nat->List A->AS->Option (List AR))(F:hD)
def bGf(S:AS)(o:Oper):Option (List Af):=
 match yOf Y.gl S.fr o with
 |some (l,xs)=>match ET Y.gl S.fr xs with
  |some ars=>match yld l ars S with
   |some rs=>some (rs.map λR=>{S:=S.ofR o.dst R,pend:=none,av:=[]})|none=>none
  |none=>none
 |none=>none
def aBe(ops:fZ)(s:Af)(o:Oper):Option (List Af):=
 match yOf Y.gl s.S.fr o with
 |some _ =>if s.pend.isSome then none else match LQ ops s.S o with
  |some gs=>BK (λq=>if q.1 then bGf Y yld q.2 o else some [{S:={q.2 with fr:=MH q.2.fr o.dst (.tup [])},pend:=none,av:=[]}]) gs
  |none=>none
 |none=>aBc P Y call F ops s o
def aLx(ops:fZ):List Oper->Af->Option (List Af)
 |[],s=>some [s]
 |o::rest,s=>match aBe P Y call yld F ops s o with
  |some l=>BK (aLx ops rest) l|none=>none
def aLw(S:AS)(ops:fZ):List Tmp->List Oper->List Af->Option (List Af)
 |_,[],l=>some l
 |w,o::rest,l=>match BK (λs=>aBe P Y call yld F ops s o) l with
  |some l'=>match(if aXc o then El S (o.dst.toList++w) 40 l' else some l')with
   |some l2=>aLw S ops (o.dst.toList++w) rest l2|none=>none
  |none=>none
def Lk:Nat->Nat->A->Nat
 |0,m,_ =>m
 |k+1,m,a=>match a with
  | .int _ s _ | .str s _ | .sx s _ =>Nat.lor m (Nat.shiftLeft 1 s)| .elp _ _ s _ _ =>Nat.lor m (Nat.shiftLeft 1 s)| .bool (.imp p q)=>symC (symC m p) q| .ref x _ | .iface _ x=>Lk k m x| .sl e s _ | .slp _ e s _ =>Lk k (Nat.lor m (Nat.shiftLeft 1 s)) e| .osl _ _ si _ s _ =>Nat.lor (Nat.lor m (Nat.shiftLeft 1 si)) (Nat.shiftLeft 1 s)| .fn _ a_s bs=>(a_s++bs).foldl (Lk k) m| .or a_s| .agg a_s| .tup a_s| .slk a_s| .prd _ a_s=>a_s.foldl (Lk k) m|_ =>m
 where
 symC:Nat->List qV->Nat
  |m,[]=>m|m,.le x y _ ::r=>symC (Nat.lor (Nat.lor m (Nat.shiftLeft 1 x)) (Nat.shiftLeft 1 y)) r|m,.ne x y _ ::r=>symC (Nat.lor (Nat.lor m (Nat.shiftLeft 1 x)) (Nat.shiftLeft 1 y)) r
def bRt(m:Nat):AO->Nat
 | .fix _ xs=>xs.foldl (Lk 8) m| .row _ _ e s _ =>Lk 8 (Nat.lor m (Nat.shiftLeft 1 s)) e| .map es=>es.foldl (λm q=>Lk 8 m q.2) m| .loop _ _ fr .. =>fr.foldl (Lk 8) m
def TL(m:Nat):List qV->List qV
 |[]=>[]| .le x y c::r=>if Nat.testBit m x&&Nat.testBit m y then .le x y c::TL m r else TL m r
 | .ne x y c::r=>if Nat.testBit m x&&Nat.testBit m y then .ne x y c::TL m r else TL m r
def gcS(S:AS):AS:={S with cs:=TL (S.hp.foldl (λm q=>bRt m q.2) (S.fr.foldl (Lk 8) 1)) S.cs}
def aMo(f:An->AS->Option (List (X×AS))):List An->AS->Option (List (X×AS))
 |[],_ =>none
 |b::k,S=>match f b S with
  |some l=>BK (λq=>match q with
   |(.normal,S')=>aMo f k (gcS S')|q=>some [(q.1,gcS q.2)]) l
  |none=>none
def wT(J:jM)(ro:iB):Code->An->AS->Option (List (X×AS))
 | .skip,_,S| .label _,_,S=>some [(.normal,S)]
 | .region id ops draw,_,S=>match(if draw then Uj P Y call F (F (9000000+id)) ops S else if J id then(match aLw P Y call yld F S ops [] ops.toList [⟨S,none,[]⟩]with
    |some l=>YC S (Ye ops.toList) l|none=>none)else aLx P Y call yld F ops ops.toList ⟨S,none,[]⟩)with
  |some l=>Zn l|none=>none
 | .seq a b,an,S=>match wT J ro a an.l S with
  |some l=>BK (λq=>match q with
   |(.normal,S')=>wT J ro b an.r S'|q=>some [q]) l
  |none=>none
 | .cond c a b,an,S=>match PX Y.gl S.fr c with
  |some (.bool t)=>BK (λq=>if q.1 then wT J ro a an.l {S with cs:=q.2}else wT J ro b an.r {S with cs:=q.2}) (MN S.cs t)
  |_ =>none
 | .block id c,an,S=>match wT J ro c an S with
  |some l=>some (XD id l)|none=>none
 | .loop c,an,S=>match an with
  | .unl bs=>aMo (λb S=>wT J ro c b S) bs S
  | .loop la b=>match Vq S la.oc with
   | some oc=>if uX 0 la.m0&&FR oc&&WW la.sp&&inW (NV c) la.sp&&okS S (NV c) la.sp oc la.cons S 0 0 then match Om S (NV c) la.sp oc la.cons (Int.ofNat la.gk*la.m0)with
     |some Sh=>match wT J ro c b Sh with
      |some l=>BF S (NV c) la oc Sh l|none=>none
     |none=>none
    else none
   |none=>none
  |_ =>none
 | .rangeFunc g ps asg bd,an,S=>match PX Y.gl S.fr g with
  | some (.fn gf [] cap)=>if roA S ro then match call gf (.yl S.nl::cap) {S with hp:=(S.nl,.loop .ready none S.fr ps asg bd F an.l an.r)::S.hp,nl:=S.nl+1}with
    |some rs=>aPd S S.nl rs|none=>none
   else none
  |_ =>none
 | .exit id,_,S=>some [(.exit id,S)]| .ret,_,S=>some [(.ret,S)]|_,_,_ =>none
end
def Wy(S:AS)(l:Nat)(st:LoopState)(pe:jO):Option AS:=
 match pY S.hp l with
 |some (.loop st' pe' fr ps asg bd ow aa ab)=>some {S with hp:=CD S.hp l (.loop st pe fr ps asg bd ow aa ab)}
 |_ =>none
def peX:X->Option (Option Nat)
 | .normal=>none| .exit id=>some (some id)| .ret=>some none
def YK:X->Bool
 | .normal=>true|_ =>false
def VB(l:Nat):List (X×AS)->Option (List AR)
 |[]=>some []
 |(x,S)::r=>match Wy S l (if YK x then .ready else .done) (peX x)with
  |some S'=>match VB l r with
   |some q=>some (⟨.bool (.lit (YK x)),S'.hp,S'.nx,S'.nl,S'.cs⟩::q)|none=>none
  |none=>none
def Wl(ps:iR)(x:List A)(fr:List A):List A:=(ps.zip x).foldl (λf p=>f.set p.1 p.2) fr
def Zf(S:AS)(l:Nat):Bool:=
 match pY S.hp l with
 |some (.loop st ..)=>Kx st .ready|_ =>false
def aYa(S:AS)(l:Nat):Option (Option Nat):=
 match pY S.hp l with
 |some (.loop _ pe ..)=>pe|_ =>none
def aUp:X->X->Bool
 | .normal,.normal| .ret,.ret=>true| .exit a,.exit b=>Nat.beq a b|_,_ =>false
def aRa(x:X):List (X×AS)->Bool
 |[]=>false|(y,_)::r=>aUp y x||aRa x r
def Kd(S:AS)(oc:gT):List (X×AS)->Bool
 |[]=>true|(_,S1)::r=>okS {S with fr:=[.top]} [0] [] oc [] {S1 with fr:=[.top]} 0 0&&Kd S oc r
def NI(S':AS):List (X×AS)->List (X×AS)
 |[]=>[]|(x,_)::r=>if aRa x r then NI S' r else(x,S')::NI S' r
def Ia(S:AS)(ab:An)(r:List (X×AS)):Option (List (X×AS)):=
 match ab with
 | .loop la _ =>match Vq S la.oc with
  | some oc=>if FR oc&&Kd S oc r then match Om {S with fr:=[.top]} [0] [] oc [] 0 with
    |some S'=>some (NI S' r)|none=>none
   else none
  |none=>none
 |_ =>some r
def An.body:An->An
 | .loop _ b=>b|a=>a
section
variable(P:fV)(Y:AX)(call:FuncId->List A->AS->Option (List AR))(yld:Nat->List A->AS->Option (List AR))
def aUm(l:Nat)(bd:Code)(ow:hD)(ab:An)(q:X×AS):Option (List AR):=
 if YK q.1&&Zf q.2 l then match Wy q.2 l .busy (aYa q.2 l)with
  |some S2=>match wT P Y call yld ow (Y.jr 100000) (some l) bd ab.body S2 with
   |some r=>match Ia S2 ab r with
    |some r'=>VB l r'|none=>none
   |none=>none
  |none=>none
 else none
def aYj(l:Nat)(args:List A)(S:AS):Option (List AR):=
 match pY S.hp l with
 | some (.loop _ _ fr ps asg bd ow aa ab)=>if Nat.beq args.length ps.size&&(uN asg&&uN bd)then match wT P Y call yld ow (Y.jr 100000) (some l) asg aa {S with fr:=Wl ps.toList args fr}with
   |some r=>BK (aUm P Y call yld l bd ow ab) r|none=>none
  else none
 |_ =>none
end
def bHk(P:fV)(fr:List A)(S:AS):ResultVar->Option AV
 | .tmp t=>some ⟨BV fr t,S.nx,S.cs⟩| .cell a t=>Zo P S.hp S.nx S.cs t (BV fr a)
def OY(P:fV)(fr:List A):List ResultVar->AS->Option (List A×AS)
 |[],S=>some ([],S)
 |r::rs,S=>match bHk P fr S r with
  |some v=>match OY P fr rs {S with nx:=v.nx,cs:=v.cs}with
   |some (l,S')=>some (v.a::l,S')|none=>none
  |none=>none
def bIe:List A->A
 |[a]=>a|l=> .tup l
def Yh(P:fV)(rs:jH):List (X×AS)->Option (List AR)
 |[]=>some []
 |(x,S)::r=>match x with
  | .exit _ =>none
  |_ =>match OY P S.fr rs S with
   |some (l,S')=>match Yh P rs r with
    |some q=>some (⟨bIe l,S'.hp,S'.nx,S'.nl,S'.cs⟩::q)|none=>none
   |none=>none
def aLf(args:List A):List (Nat×Nat×TA)->Option (List (Nat×Nat×TA))
 |[]=>some []
 |(d,j,a)::r=>match args[d]? with
  |some (.ptr l _)=>match aLf args r with
   |some q=>some ((l,j,a)::q)|none=>none
  |_ =>none
def aAh(S:AS)(oc:gT)(res:A):List AR->Bool
 |[]=>true|r::rs=>okS {S with fr:=[.top]} [0] [(0,.a res)] oc [] {fr:=[r.a],hp:=r.hp,nx:=r.nx,nl:=r.nl,cs:=r.cs} 0 0&&aAh S oc res rs
def Ty(S:AS)(args:List A)(p:Mb)(l:List AR):Option (List AR):=
 match aLf args p.oc with
 | some oc=>if FR oc&&aAh S oc p.res l then match Om {S with fr:=[.top]} [0] [(0,.a p.res)] oc [] 0 with
   |some S'=>some [⟨BV S'.fr 0,S'.hp,S'.nx,S'.nl,S'.cs⟩]|none=>none
  else none
 |none=>none
structure bJv where
 fn:FuncId->List A->AS->Option (List AR)
 yd:Nat->List A->AS->Option (List AR)
def aIz(P:fV)(Y:AX)(call:FuncId->List A->AS->Option (List AR))(yld:Nat->List A->AS->Option (List AR))(f:gV)(args:List A)(S:AS):Option (List AR):=
 if !(Y.top f)then none else match P.funcs[f]? with
  |some fn=>match fn.body with
   |some c=>match wT P Y call yld (Y.own f) (Y.jr f) none c (Y.an f) {S with fr:=args++List.replicate (fn.ntmps-args.length) (.tup [])}with
    |some l=>match Yh P fn.results.toList l with
     |some rs=>match Y.post f with
      |some p=>Ty S args p rs|none=>some rs
     |none=>none
    |none=>none
   |none=>none
  |none=>none
end
def HG(k:iE)(n:Int):Prop:=k.min<=n/\n<=k.max
def Cf(U:gJ):qV->Prop
 | .le x y c=>∃vx vy,U[x]? =some vx/\U[y]? =some vy/\vx<=vy+c| .ne x y c=>∃vx vy,U[x]? =some vx/\U[y]? =some vy/\vx≠vy+c
def qM(U:gJ)(cs:List qV):Prop:=∀q∈cs,Cf U q
def vK(U:gJ):Bo->Bool->Prop
 | .lit b,x=>x=b| .imp p n,x=>(x=true->qM U p)/\(x=false->qM U n)
def CK(t:T)(xs:fU):Prop:=(t= .nils/\xs=[])\/(∃f,t= .sl f xs)\/(∃full n f,t= .slf full n f/\xs=(List.range n).map f)
structure Prd where
 q:Nat->T->Prop
 pure:∀(j:Nat) (t:T),q j t->∀(k:Nat) (H:Hp),20<=k->qJ k H t=some t
variable[Inhabited Prd]
abbrev fW:=List (Option Nat)
inductive Gm(U:gJ)(O:fW):A->T->Prop
 |top (t):Gm U O .top t
 |any (t):t.one=true->Gm U O .any t
 |int (k s c v):U[s]? =some v->HG k (v+c)->Gm U O (.int k s c) (.int k (v+c))
 |ival (k:iE) (lo hi n:Int):lo<=n->n<=hi->HG k n->Gm U O (.ival k lo hi) (.int k n)
 |bool (B b):vK U B b->Gm U O (.bool B) (.bool b)
 |strc (s):Gm U O (.strc s) (.str s)
 |str (s c v l):U[s]? =some v->(l.length:Int)=v+c->Gm U O (.str s c) (.str l)
 |strv (lo hi:Int) (l:gU):lo<=(l.length:Int)->(l.length:Int)<=hi->Gm U O (.strv lo hi) (.str l)
 |nilp:Gm U O .nilp .nilp
 |nils:Gm U O .nils .nils
 |nilf:Gm U O .nilf .nilf
 |nili:Gm U O .nili .nili
 |nilm:Gm U O .nilm .nilm
 |mp (l l'):O[l]? =some (some l')->Gm U O (.mp l) (.mp l')
 |yl (l l'):O[l]? =some (some l')->Gm U O (.yl l) (.yl l')
 |ptr (l off l'):O[l]? =some (some l')->Gm U O (.ptr l off) (.ptr l' off)
 |elp (l sz s c off l' v):O[l]? =some (some l')->U[s]? =some v->0<=v+c->Gm U O (.elp l sz s c off) (.ptr l' ((v+c).toNat*sz+off))
 |ref (x t off):x.known=true->Gm U O x t->Gm U O (.ref x off) (.ref t off)
 |sl (e s c t xs v):CK t xs->U[s]? =some v->(xs.length:Int)=v+c->(∀x∈xs,Gm U O e x)->Gm U O (.sl e s c) t
 |slv (e:A) (lo hi:Int) (t:T) (xs:fU):CK t xs->lo<=(xs.length:Int)->(xs.length:Int)<=hi->(∀x∈xs,Gm U O e x)->Gm U O (.slv e lo hi) t
 |slk (es t xs):CK t xs->es.length=xs.length->(∀(j:Nat) (a:A) (t:T),es[j]? =some a->xs[j]? =some t->Gm U O a t)->Gm U O (.slk es) t
 |slp (q e s c t xs v):(default:Prd).q q t->CK t xs->U[s]? =some v->(xs.length:Int)=v+c->(∀x∈xs,Gm U O e x)->Gm U O (.slp q e s c) t
 |slpv (q:Nat) (e:A) (lo hi:Int) (t:T) (xs:fU):(default:Prd).q q t->CK t xs->lo<=(xs.length:Int)->(xs.length:Int)<=hi->(∀x∈xs,Gm U O e x)->Gm U O (.slpv q e lo hi) t
 |sx (s c full n f v):U[s]? =some v->((n:Nat):Int)=v+c->Gm U O (.sx s c) (.slf full n f)
 |sxv (lo hi:Int) (full:Bool) (n:Nat) (f:gZ):lo<=(n:Int)->(n:Int)<=hi->Gm U O (.sxv lo hi) (.slf full n f)
 |osl (l sz si ci s c l' vi v):O[l]? =some (some l')->U[si]? =some vi->0<=vi+ci->U[s]? =some v->0<=v+c->Gm U O (.osl l sz si ci s c) (.osl l' sz (vi+ci).toNat (v+c).toNat)
 |osl0 (l sz si ci s c vi v):O[l]? =some none->U[si]? =some vi->vi+ci=0->U[s]? =some v->v+c=0->Gm U O (.osl l sz si ci s c) .nils
 | fn (f a_s bs as' bs'):a_s.length=as'.length->(∀(j:Nat) (a:A) (t:T),a_s[j]? =some a->as'[j]? =some t->Gm U O a t)->
   bs.length=bs'.length->(∀(j:Nat) (a:A) (t:T),bs[j]? =some a->bs'[j]? =some t->Gm U O a t)->Gm U O (.fn f a_s bs) (.fn (.func f) as' bs')
 |iface (t x y):Gm U O x y->Gm U O (.iface t x) (.iface t y)
 |ifc (t x):Gm U O .ifc (.iface t x)
 |or (a_s a t):a∈a_s->Gm U O a t->Gm U O (.or a_s) t
 |agg (a_s ts):a_s.length=ts.length->(∀(j:Nat) (a:A) (t:T),a_s[j]? =some a->ts[j]? =some t->Gm U O a t)->Gm U O (.agg a_s) (.agg ts)
 |prd (q a_s ts):(default:Prd).q q (.agg ts)->a_s.length=ts.length->(∀(j:Nat) (a:A) (t:T),a_s[j]? =some a->ts[j]? =some t->Gm U O a t)->Gm U O (.prd q a_s) (.agg ts)
 |tup (a_s ts):a_s.length=ts.length->(∀(j:Nat) (a:A) (t:T),a_s[j]? =some a->ts[j]? =some t->Gm U O a t)->Gm U O (.tup a_s) (.tup ts)
def qO(U:gJ)(O:fW)(a_s:List A)(ts:fU):Prop:=a_s.length=ts.length/\∀(j:Nat) (a:A) (t:T),a_s[j]? =some a->ts[j]? =some t->Gm U O a t
def uA{Z:Type}(r r':List Z):Prop:=∀(j:Nat) (v:Z),r[j]? =some v->r'[j]? =some v
theorem uA.refl{Z:Type}(r:List Z):uA r r:=λ_ _ h=>h
theorem uA.trans{Z:Type}{a b c:List Z}(h:uA a b)(h':uA b c):uA a c:=λj v q=>h' j v (h j v q)
theorem uA.app{Z:Type}(r s:List Z):uA r (r++s):=λj v h=>by
 have:=(aO.1 h).1;rw[dL this];exact h
section
variable{U ρ':gJ}{O μ':fW}
theorem Cf.ext(h:uA U ρ'){q:qV}(hq:Cf U q):Cf ρ' q:=by
 cases q<;>(obtain⟨a,b,h1,h2,h3⟩:=hq;exact⟨a,b,h _ _ h1,h _ _ h2,h3⟩)
theorem qM.ext(h:uA U ρ'){cs:List qV}(hq:qM U cs):qM ρ' cs:=λq m=>(hq q m).ext h
theorem vK.ext(h:uA U ρ'){B:Bo}{b:Bool}(hq:vK U B b):vK ρ' B b:=by
 cases B with
 |lit x=>exact hq|imp p n=>exact⟨λe=>(hq.1 e).ext h,λe=>(hq.2 e).ext h⟩
theorem Gm.ext(h:uA U ρ')(h':uA O μ'){a:A}{t:T}(hg:Gm U O a t):Gm ρ' μ' a t:=by
 induction hg with
 |top t=>exact .top t|any t h=>exact .any t h|int k s c v h1 h2=>exact .int k s c v (h _ _ h1) h2|ival k lo hi n h1 h2 h3=>exact .ival k lo hi n h1 h2 h3|bool B b hb=>exact .bool B b (hb.ext h)|strc s=>exact .strc s|str s c v l h1 h2=>exact .str s c v l (h _ _ h1) h2|strv lo hi l h1 h2=>exact .strv lo hi l h1 h2|nilp=>exact .nilp|nils=>exact .nils|nilf=>exact .nilf|nili=>exact .nili|nilm=>exact .nilm|mp l l' h1=>exact .mp l l' (h' _ _ h1)|yl l l' h1=>exact .yl l l' (h' _ _ h1)|ptr l off l' h1=>exact .ptr l off l' (h' _ _ h1)|elp l sz s c off l' v h1 h2 h3=>exact .elp l sz s c off l' v (h' _ _ h1) (h _ _ h2) h3|ref x t off h1 _ ih=>exact .ref x t off h1 ih|sl e s c t xs v h1 h2 h3 _ ih=>exact .sl e s c t xs v h1 (h _ _ h2) h3 ih|slv e lo hi t xs h1 h2 h3 _ ih=>exact .slv e lo hi t xs h1 h2 h3 ih|slk es t xs h1 h2 _ ih=>exact .slk es t xs h1 h2 ih|slp q e s c t xs v h0 h1 h2 h3 _ ih=>exact .slp q e s c t xs v h0 h1 (h _ _ h2) h3 ih|slpv q e lo hi t xs h0 h1 h2 h3 _ ih=>exact .slpv q e lo hi t xs h0 h1 h2 h3 ih|sx s c full n f v h1 h2=>exact .sx s c full n f v (h _ _ h1) h2|sxv lo hi full n f h1 h2=>exact .sxv lo hi full n f h1 h2|osl l sz si ci s c l' vi v h1 h2 h3 h4 h5=>exact .osl l sz si ci s c l' vi v (h' _ _ h1) (h _ _ h2) h3 (h _ _ h4) h5|osl0 l sz si ci s c vi v h1 h2 h3 h4 h5=>exact .osl0 l sz si ci s c vi v (h' _ _ h1) (h _ _ h2) h3 (h _ _ h4) h5|fn f a_s bs as' bs' h1 _ h3 _ ih1 ih2=>exact .fn f a_s bs as' bs' h1 ih1 h3 ih2|iface t x y _ ih=>exact .iface t x y ih|ifc t x=>exact .ifc t x|or a_s a t hm _ ih=>exact .or a_s a t hm ih|agg a_s ts h1 _ ih=>exact .agg a_s ts h1 ih|prd q a_s ts h0 h1 _ ih=>exact .prd q a_s ts h0 h1 ih|tup a_s ts h1 _ ih=>exact .tup a_s ts h1 ih
theorem Gm.unp{a:A}{t:T}(hg:Gm U O a t):Gm U O a.unp t:=by
 cases hg with
 |slp q e s c t xs v h0 h1 h2 h3 h4=>exact .sl e s c t xs v h1 h2 h3 h4|_ =>simp only[A.unp];constructor<;>assumption
theorem qO.ext(h:uA U ρ')(h':uA O μ'){a_s:List A}{ts:fU}(hg:qO U O a_s ts):qO ρ' μ' a_s ts:=⟨hg.1,λj a t ha ht=>(hg.2 j a t ha ht).ext h h'⟩
theorem qO.nil:qO U O [] []:=⟨rfl,λj a t h=>by simp at h⟩
theorem qO.cons{a:A}{t:T}{a_s:List A}{ts:fU}(h:Gm U O a t)(hs:qO U O a_s ts):qO U O (a::a_s) (t::ts):=by
 refine⟨by simp[hs.1],λj b u hb hu=> ?_⟩;cases j with
 |zero=>simp at hb hu;subst hb hu;exact h|succ j=>exact hs.2 j b u (by simpa using hb) (by simpa using hu)
theorem qO.head{a:A}{t:T}{a_s:List A}{ts:fU}(h:qO U O (a::a_s) (t::ts)):Gm U O a t:=h.2 0 a t rfl rfl
theorem qO.tail{a:A}{t:T}{a_s:List A}{ts:fU}(h:qO U O (a::a_s) (t::ts)):qO U O a_s ts:=⟨by simpa using h.1,λj b u hb hu=>h.2 (j+1) b u (by simpa using hb) (by simpa using hu)⟩
theorem qO.inv_nil{ts:fU}(h:qO U O [] ts):ts=[]:=by have:=h.1;simp at this;cases ts<;>simp_all
theorem qO.inv_cons{a:A}{a_s:List A}{ts:fU}(h:qO U O (a::a_s) ts):∃t r,ts=t::r/\Gm U O a t/\qO U O a_s r:=by
 cases ts with
 |nil=>have:=h.1;simp at this|cons t r=>exact⟨t,r,rfl,h.head,h.tail⟩
theorem qO.app{a_s bs:List A}{ts us:fU}(h:qO U O a_s ts)(h':qO U O bs us):qO U O (a_s++bs) (ts++us):=by
 induction a_s generalizing ts with
 |nil=>rw[h.inv_nil];exact h'|cons a a_s ih=>obtain⟨t,r,rfl,h1,h2⟩:=h.inv_cons;exact(ih h2).cons h1
theorem qO.at{a_s:List A}{ts:fU}(h:qO U O a_s ts){j:Nat}{a:A}(ha:a_s[j]? =some a):∃t,ts[j]? =some t/\Gm U O a t:=by
 have hj:=(aO.1 ha).1;have hj':j<ts.length:=by rw[<-h.1];exact hj
 exact⟨ts[j],aB hj',h.2 j a _ ha (aB hj')⟩
theorem qO.at'{a_s:List A}{ts:fU}(h:qO U O a_s ts){j:Nat}{t:T}(ht:ts[j]? =some t):∃a,a_s[j]? =some a/\Gm U O a t:=by
 have hj:=(aO.1 ht).1;have hj':j<a_s.length:=by rw[h.1];exact hj
 exact⟨a_s[j],aB hj',h.2 j _ t (aB hj') ht⟩
theorem qO.drop{a_s:List A}{ts:fU}(h:qO U O a_s ts)(n:Nat):qO U O (a_s.drop n) (ts.drop n):=
 ⟨by simp[h.1],λj a t ha ht=>h.2 (n+j) a t (by rw[bZ]at ha;exact ha) (by rw[bZ]at ht;exact ht)⟩
theorem qO.take{a_s:List A}{ts:fU}(h:qO U O a_s ts)(n:Nat):qO U O (a_s.take n) (ts.take n):=by
 refine⟨by simp[h.1],λj a t ha ht=> ?_⟩;rw[bD]at ha ht;split at ha
 .rw[if_pos ‹_›]at ht;exact h.2 j a t ha ht
 .cases ha
theorem qO.set{a_s:List A}{ts:fU}(h:qO U O a_s ts){a:A}{t:T}(ha:Gm U O a t)(d:Nat):qO U O (a_s.set d a) (ts.set d t):=by
 refine⟨by simp[h.1],λj b u hb hu=> ?_⟩;rw[eC]at hb hu;split at hb
 .rename_i hd;rw[if_pos hd]at hu;split at hb
  .cases hb;split at hu
   .cases hu;exact ha
   .cases hu
  .cases hb
 .rename_i hd;rw[if_neg hd]at hu;exact h.2 j b u hb hu
theorem qO.replicate{a:A}{t:T}(h:Gm U O a t)(n:Nat):qO U O (List.replicate n a) (List.replicate n t):=by
 refine⟨by simp,λj b u hb hu=> ?_⟩;rw[List.getElem?_replicate]at hb hu;split at hb
 .rename_i hj;rw[if_pos hj]at hu;cases hb;cases hu;exact h
 .cases hb
theorem Yy:∀(fr:List A) (t:Tmp),BV fr t=fr.getD t (.tup [])
 |[],_ =>rfl|_ ::_,0=>rfl|_ ::xs,n+1=>(Yy xs n).trans rfl
theorem VF(v:A):∀(fr:List A) (t:Nat),setS v fr t=fr.set t v
 |[],_ =>rfl|_ ::_,0=>rfl|x::xs,n+1=>congrArg (x:: ·) (VF v xs n)
theorem uU:Gm U O (.tup []) pV:= .tup [] [] rfl (λj a t h=>by simp at h)
theorem qO.get{a_s:List A}{ts:fU}(h:qO U O a_s ts)(d:Tmp):Gm U O (BV a_s d) (qR ts d):=by
 rw[Yy,uR];simp only[aW];cases ha:a_s[d]? with
 |none=>
  have:ts[d]? =none:=by rw[List.getElem?_eq_none_iff]at ha⊢;rw[<-h.1];exact ha
  rw[this];exact uU
 |some a=>obtain⟨t,ht,hg⟩:=h.at ha;rw[ht];exact hg
theorem Yx{cs:List qV}(h:qM U cs):∀(n x y:Nat) (c:Int),aJd cs n x y c=true->∀vx vy,U[x]? =some vx->U[y]? =some vy->vx<=vy+c
 |0,x,y,c,hp,vx,vy,hx,hy=>by
  simp only[aJd,aA,uX,aJ]at hp;have:x=y:=aF hp.1;subst this;rw[hx]at hy;cases hy;omega
 |n+1,x,y,c,hp,vx,vy,hx,hy=>by
  simp only[aJd]at hp;split at hp
  .rename_i e;have:x=y:=aF e;subst this;simp only[uX,aJ]at hp;rw[hx]at hy;cases hy;omega
  .split at hp
   .rename_i e;have:x=0:=aF e;subst this;rw[fM]at hp;obtain⟨q,hq,hp⟩:=hp;cases q with
    |ne a b d=>simp at hp
    |le a b d=>
     simp only[aA,uX,aJ]at hp;have h1:a=0:=aF hp.1;have h2:b=y:=aF hp.2.1;subst h1 h2;obtain⟨va,vb,ha,hb,hle⟩:=h _ hq;rw[hx]at ha;cases ha;rw[hy]at hb;cases hb;omega
   .rw[fM]at hp;obtain⟨q,hq,hp⟩:=hp;cases q with
    |ne a b d=>simp at hp
    |le a b d=>
     simp only[aA]at hp;have:a=x:=aF hp.1;subst this;obtain⟨va,vb,ha,hb,hle⟩:=h _ hq;rw[hx]at ha;cases ha;have:=Yx h n b y (c-d) hp.2 vb vy hb hy;omega
theorem Xz{cs:List qV}(h:qM U cs):∀(n y:Nat) (c:Int),aHh cs n y c=true->∀vx vy,U[0]? =some vx->U[y]? =some vy->vx<=vy+c
 |0,y,c,hp,vx,vy,hx,hy=>by
  simp only[aHh,aA,uX,aJ]at hp;have:0=y:=aF hp.1;subst this;rw[hx]at hy;cases hy;omega
 |n+1,y,c,hp,vx,vy,hx,hy=>by
  simp only[aHh]at hp;split at hp
  .rename_i e;have:0=y:=aF e;subst this;simp only[uX,aJ]at hp;rw[hx]at hy;cases hy;omega
  .rw[fM]at hp;obtain⟨q,hq,hp⟩:=hp;cases q with
   |ne a b d=>simp at hp
   |le a b d=>
    simp only[aA]at hp;have:b=y:=aF hp.1;subst this;obtain⟨va,vb,ha,hb,hle⟩:=h _ hq;rw[hy]at hb;cases hb;have:=Xz h n a (c-d) hp.2 vx va hx ha;omega
theorem CV{cs:List qV}(h:qM U cs)(n x y:Nat)(c:Int)(hp:prv cs n x y c=true)(vx vy:Int)(hx:U[x]? =some vx)(hy:U[y]? =some vy):vx<=vy+c:=by
 unfold prv at hp;split at hp
 .rename_i e;have:x=0:=aF e;subst this;exact Xz h n y c hp vx vy hx hy
 .exact Yx h n x y c hp vx vy hx hy
theorem qB{cs:List qV}(h:qM U cs){x y:Nat}{a b:Int}(hp:leq cs x a y b=true){vx vy:Int}(hx:U[x]? =some vx)(hy:U[y]? =some vy):vx+a<=vy+b:=by
 have:=CV h pf x y (b-a) hp vx vy hx hy;omega
theorem XU{cs:List qV}(h:qM U cs)(h0:U[0]? =some 0){k:iE}{s:Nat}{c v:Int}(hp:inK cs k s c=true)(hs:U[s]? =some v):HG k (v+c):=by
 simp only[inK,aA]at hp;have h1:=qB h hp.1 h0 hs;have h2:=qB h hp.2 hs h0;exact⟨by omega,by omega⟩
theorem CH:∀(q cs:List qV),qM U cs->qM U q->∃cs',FN cs q=some cs'/\qM U cs'
 |[],cs,h,_ =>⟨cs,rfl,h⟩
 | .le x y c::r,cs,h,hq=>by
  obtain⟨vx,vy,hx,hy,hle⟩:=hq _ aL;simp only[FN];split
  .rename_i hp;have:=CV h _ _ _ _ hp vy vx hy hx;omega
  .refine CH r _ (λq hm=> ?_) (λq hm=>hq q (aG _ hm));rcases aR.1 hm with rfl|hm
   .exact⟨vx,vy,hx,hy,hle⟩
   .exact h q hm
 | .ne x y c::r,cs,h,hq=>by
  obtain⟨vx,vy,hx,hy,hne⟩:=hq _ aL;have hr:qM U r:=λq hm=>hq q (aG _ hm);simp only[FN];split
  .rename_i h1;have g1:=CV h _ _ _ _ h1 vx vy hx hy;split
   .rename_i h2;have g2:=CV h _ _ _ _ h2 vy vx hy hx;omega
   .refine CH r _ (λq hm=> ?_) hr;rcases aR.1 hm with rfl|hm
    .exact⟨vx,vy,hx,hy,by omega⟩
    .exact h q hm
  .split
   .rename_i h2;have g2:=CV h _ _ _ _ h2 vy vx hy hx;refine CH r _ (λq hm=> ?_) hr;rcases aR.1 hm with rfl|hm
    .exact⟨vy,vx,hy,hx,by omega⟩
    .exact h q hm
   .exact CH r _ h hr
theorem Jz{B:Bo}{b:Bool}(h:vK U B b):vK U B.not (!b):=by
 cases B with
 |lit x=>simp only[vK,Bo.not]at h⊢;rw[h]|imp p n=>exact⟨λe=>h.2 (by simpa using e),λe=>h.1 (by simpa using e)⟩
theorem SM{cs:List qV}(h:qM U cs){B:Bo}{b:Bool}(hb:vK U B b):∃cs',(b,cs')∈MN cs B/\qM U cs':=by
 cases B with
 |lit x=>simp only[vK]at hb;subst hb;exact⟨cs,by simp[MN],h⟩
 |imp p n=>
  cases b with
  |true=>
   obtain⟨c,h1,h2⟩:=CH p cs h (hb.1 rfl);exact⟨c,by simp[MN,h1],h2⟩
  |false=>
   obtain⟨c,h1,h2⟩:=CH n cs h (hb.2 rfl);exact⟨c,by simp[MN,h1],h2⟩
theorem aOc{cs:List qV}(h:qM U cs){x y:Nat}{c vx vy:Int}(hx:U[x]? =some vx)(hy:U[y]? =some vy):vK U (Tx cs x y c) (decide (vx<=vy+c)):=by
 unfold Tx;split
 .rename_i hp;have:=CV h _ _ _ _ hp vx vy hx hy;simpa [vK]using this
 .split
  .rename_i hp;have:=CV h _ _ _ _ hp vy vx hy hx;simp only[vK,decide_eq_false_iff_not];omega
  .refine⟨λe q hq=> ?_,λe q hq=> ?_⟩
   .simp only[bV]at hq;subst hq;exact⟨vx,vy,hx,hy,by simpa using e⟩
   .simp only[bV]at hq;subst hq;have:¬vx<=vy+c:=by simpa using e
    exact⟨vy,vx,hy,hx,by omega⟩
theorem Xx{cs:List qV}(h:qM U cs){x y:Nat}{c vx vy:Int}(hx:U[x]? =some vx)(hy:U[y]? =some vy):vK U (aBy cs x y c) (decide (vx=vy+c)):=by
 unfold aBy;split
 .rename_i hp;simp only[aA]at hp;have h1:=CV h _ _ _ _ hp.1 vx vy hx hy;have h2:=CV h _ _ _ _ hp.2 vy vx hy hx;simp only[vK,aJ];omega
 .split
  .rename_i hp;simp only[bF]at hp;simp only[vK,decide_eq_false_iff_not];rcases hp with hp|hp
   .have:=CV h _ _ _ _ hp vx vy hx hy;omega
   .have:=CV h _ _ _ _ hp vy vx hy hx;omega
  .refine⟨λe q hq=> ?_,λe q hq=> ?_⟩
   .have e:vx=vy+c:=by simpa using e
    simp only[aR,bR,or_false]at hq;rcases hq with rfl|rfl
    .exact⟨vx,vy,hx,hy,by omega⟩
    .exact⟨vy,vx,hy,hx,by omega⟩
   .have e:¬vx=vy+c:=by simpa using e
    simp only[bV]at hq;subst hq;exact⟨vx,vy,hx,hy,by omega⟩
theorem sY(b:Bool):vK U sW b:=⟨λ_ q h=>by simp at h,λ_ q h=>by simp at h⟩
end
section
variable{U ρ':gJ}{O μ':fW}{n:Nat}{cs:List qV}
structure Sy(U:gJ)(n:Nat)(cs:List qV):Prop where
 len:U.length=n
 zero:U[0]? =some 0
 cs:qM U cs
def VOk(U:gJ)(O:fW)(v:AV)(t:T):Prop:=∃ρ',uA U ρ'/\Sy ρ' v.nx v.cs/\Gm ρ' O v.a t
theorem VOk.here(hs:Sy U n cs){a:A}{t:T}(h:Gm U O a t):VOk U O ⟨a,n,cs⟩ t:=⟨U,.refl _,hs,h⟩
theorem Sy.new(hs:Sy U n cs)(v:Int):uA U (U++[v])/\(U++[v])[n]? =some v/\(U++[v]).length=n+1/\(U++[v])[0]? =some 0:=by
 refine⟨.app _ _,?_,by simp[hs.len],(uA.app U [v]) _ _ hs.zero⟩;rw[<-hs.len];simp
theorem Sy.push(hs:Sy U n cs)(v:Int)(qs:List qV)(h:qM (U++[v]) qs):Sy (U++[v]) (n+1) (qs++cs):=by
 obtain⟨h1,h2,h3,h4⟩:=hs.new v;refine⟨h3,h4,λq hq=> ?_⟩;rcases bH.1 hq with hq|hq
 .exact h q hq
 .exact(hs.cs q hq).ext h1
theorem qM.cons{q:qV}{r:List qV}(h:Cf U q)(hr:qM U r):qM U (q::r):=λx hx=>by
 rcases aR.1 hx with rfl|hx
 .exact h
 .exact hr x hx
theorem qM.nil:qM U []:=λq h=>by simp at h
theorem XT{b:Bool}{q:qV}(h:b=true->Cf U q)(hc:qM U cs):qM U (WT b q cs):=by
 unfold WT;split
 .exact .cons (h ‹_›) hc
 .exact hc
theorem Sy.fresh(hs:Sy U n cs){v lo hi:Int}(h1:lo<=v)(h2:v<=hi):Sy (U++[v]) (n+1) (.le 0 n (-lo):: .le n 0 hi::cs):=by
 obtain⟨e1,e2,e3,e4⟩:=hs.new v;exact hs.push v [.le 0 n (-lo),.le n 0 hi] (.cons ⟨0,v,e4,e2,by omega⟩ (.cons ⟨v,0,e2,e4,by omega⟩ .nil))
theorem vN(k:iE)(n:Int):HG k (k.wrap n):=by
 cases k<;>simp[HG,IntKind.wrap,IntKind.min,IntKind.max,IntKind.bits,IntKind.signed]<;>omega
theorem KO{k:iE}{n:Int}(h:HG k n):k.wrap n=n:=by
 revert h;cases k<;>simp[HG,IntKind.wrap,IntKind.min,IntKind.max,IntKind.bits,IntKind.signed]<;>omega
theorem Zt(hs:Sy U n cs):∀(a:A) (t:T),Gm U O a t->∃ρ',uA U ρ'/\Sy ρ' (Jv a n cs).2.1 (Jv a n cs).2.2/\Gm ρ' O (Jv a n cs).1 t:=by
 intro a t h;cases h with
 |ival k lo hi m h1 h2 h3=>
  simp only[Jv];split
  .rename_i hle;simp only[uX,aJ]at hle;obtain rfl:m=lo:=by omega
   have e:=Gm.int (U:=U) (O:=O) k 0 m 0 hs.zero (by rw[fO];exact h3);rw[fO]at e;exact⟨U,.refl _,hs,e⟩
  .refine⟨U++[m],.app _ _,hs.fresh h1 h2,?_⟩;have:=(hs.new m).2.1;have e:=Gm.int (U:=U++[m]) (O:=O) k n 0 m this (by simpa using h3);rw[Int.add_zero]at e;exact e
 |strv lo hi l h1 h2=>
  exact⟨U++[(l.length:Int)],.app _ _,hs.fresh h1 h2,.str n 0 _ l (hs.new _).2.1 (by simp)⟩
 |slv e lo hi t xs h1 h2 h3 h4=>
  exact⟨U++[(xs.length:Int)],.app _ _,hs.fresh h2 h3,.sl e n 0 t xs _ h1 (hs.new _).2.1 (by simp) (λx hx=>(h4 x hx).ext (.app _ _) (.refl _))⟩
 |slpv q e lo hi t xs h0 h1 h2 h3 h4=>
  exact⟨U++[(xs.length:Int)],.app _ _,hs.fresh h2 h3,.slp q e n 0 t xs _ h0 h1 (hs.new _).2.1 (by simp) (λx hx=>(h4 x hx).ext (.app _ _) (.refl _))⟩
 |sxv lo hi full m f h1 h2=>
  exact⟨U++[(m:Int)],.app _ _,hs.fresh h1 h2,.sx n 0 full m f _ (hs.new _).2.1 (by simp)⟩
 |_ =>exact⟨U,.refl _,hs,by first|(constructor<;>assumption)|(simp only[Jv];first|constructor;assumption|skip)⟩
theorem Zu:∀(a_s:List A) (n:Nat) (cs:List qV) (U:gJ) (ts:fU),Sy U n cs->qO U O a_s ts->∃ρ',uA U ρ'/\Sy ρ' (aKg a_s n cs).2.1 (aKg a_s n cs).2.2/\qO ρ' O (aKg a_s n cs).1 ts
 |[],n,cs,U,ts,hs,h=>⟨U,.refl _,hs,h⟩
 |a::a_s,n,cs,U,ts,hs,h=>by
  obtain⟨t,r,rfl,h1,h2⟩:=h.inv_cons;obtain⟨ρ1,e1,s1,g1⟩:=Zt hs a t h1;obtain⟨ρ2,e2,s2,g2⟩:=Zu a_s _ _ ρ1 r s1 (h2.ext e1 (.refl _));exact⟨ρ2,e1.trans e2,s2,qO.cons (g1.ext e2 (.refl _)) g2⟩
theorem Zs(hs:Sy U n cs){a:A}{t:T}(h:Gm U O a t):∃ρ',uA U ρ'/\Sy ρ' (Pr a n cs).2.1 (Pr a n cs).2.2/\Gm ρ' O (Pr a n cs).1 t:=by
 by_cases h1:∃a_s,a= .agg a_s
 .obtain⟨a_s,rfl⟩:=h1;cases h with
  |agg _ ts hl hg=>
   obtain⟨ρ',e1,s1,g1⟩:=Zu a_s n cs U ts hs ⟨hl,hg⟩;exact⟨ρ',e1,s1,.agg _ _ g1.1 g1.2⟩
 .have e:Pr a n cs=Jv a n cs:=by cases a<;>first|rfl|exact absurd ⟨_,rfl⟩ h1
  rw[e];exact Zt hs a t h
theorem Pu:∀(a_s:List A) (n:Nat) (cs:List qV) (U:gJ) (ts:fU),Sy U n cs->qO U O a_s ts->∃ρ',uA U ρ'/\Sy ρ' (Pt a_s n cs).2.1 (Pt a_s n cs).2.2/\qO ρ' O (Pt a_s n cs).1 ts
 |[],n,cs,U,ts,hs,h=>⟨U,.refl _,hs,h⟩
 |a::a_s,n,cs,U,ts,hs,h=>by
  obtain⟨t,r,rfl,h1,h2⟩:=h.inv_cons;obtain⟨ρ1,e1,s1,g1⟩:=Zs hs h1;obtain⟨ρ2,e2,s2,g2⟩:=Pu a_s _ _ ρ1 r s1 (h2.ext e1 (.refl _));exact⟨ρ2,e1.trans e2,s2,qO.cons (g1.ext e2 (.refl _)) g2⟩
theorem tT(hs:Sy U n cs){a:A}{t:T}(h:Gm U O a t):VOk U O (vY a n cs) t:=by
 by_cases h2:∃a_s,a= .tup a_s
 .obtain⟨a_s,rfl⟩:=h2;cases h with
  |tup _ ts hl hg=>
   obtain⟨ρ',e1,s1,g1⟩:=Pu a_s n cs U ts hs ⟨hl,hg⟩;exact⟨ρ',e1,s1,.tup _ _ g1.1 g1.2⟩
 .have e:mat a n cs=Pr a n cs:=by cases a<;>first|rfl|exact absurd ⟨_,rfl⟩ h2
  unfold vY VOk;rw[e];exact Zs hs h
theorem YO(h0:U[0]? =some 0){v:gQ}{a:A}(h:KI v=some a):∃t,YN v=some t/\Gm U O a t/\IY v=some a/\TQ v=some t:=by
 unfold KI at h;split at h
 .rename_i k m;split at h
  .rename_i hk;cases h;simp only[aA,uX,aJ]at hk;have e:=Gm.int (U:=U) (O:=O) k 0 m 0 h0 (by rw[fO];exact hk);rw[fO]at e;exact⟨_,rfl,e,by simp[IY,KI,uX,hk],rfl⟩
  .cases h
 all_goals first|(cases h;done)|skip
 .cases h;exact⟨_,rfl,.bool _ _ rfl,rfl,rfl⟩
 .cases h;exact⟨_,rfl,.strc _,rfl,rfl⟩
 .cases h;exact⟨_,rfl,.nilp,rfl,rfl⟩
 .cases h;exact⟨_,rfl,.nils,rfl,rfl⟩
 .cases h;exact⟨_,rfl,.nilf,rfl,rfl⟩
 .cases h;exact⟨_,rfl,.nili,rfl,rfl⟩
 .cases h;exact⟨_,rfl,.nilm,rfl,rfl⟩
theorem TP(h0:U[0]? =some 0):∀(vs:gM) (a_s:List A),IX vs=some a_s->∃ts,GL vs=some ts/\qO U O a_s ts
 |[],a_s,h=>by simp[IX]at h;subst h;exact⟨[],rfl,.nil⟩
 |v::vs,a_s,h=>by
  simp only[IX]at h;split at h
  .rename_i a ha;split at h
   .rename_i r hr;cases h;obtain⟨t,h1,h2,_⟩:=YO (O:=O) h0 ha;obtain⟨ts,h3,h4⟩:=TP h0 vs r hr;exact⟨t::ts,by simp[GL,h1,h3],qO.cons h2 h4⟩
   .cases h
  .cases h
theorem Ew(h0:U[0]? =some 0){v:gQ}{a:A}(h:IY v=some a):∃t,TQ v=some t/\Gm U O a t:=by
 unfold IY at h;split at h
 .split at h
  .rename_i cs ts hts;cases h;obtain⟨us,h1,h2⟩:=TP (O:=O) h0 _ _ hts;exact⟨.agg us,by simp[TQ,h1],.agg _ _ h2.1 h2.2⟩
  .cases h
 .split at h
  .rename_i vs hvs;cases h;exact⟨.tup [],by simp[TQ,hvs],uU⟩
  .cases h
 .obtain⟨t,_,h2,_,h4⟩:=YO (O:=O) h0 h;exact⟨t,h4,h2⟩
def GlA(gl:fY)(ga:Nat->Option A):Prop:=∀g a,ga g=some a->∃t,gl g=some t/\∀(U:gJ) (O:fW),U[0]? =some 0->Gm U O a t
section
variable{gl:fY}{ga:Nat->Option A}{fa:List A}{fr:fU}
theorem uZ(hg:GlA gl ga)(h0:U[0]? =some 0)(hf:qO U O fa fr){x:jF}{a:A}(h:PX ga fa x=some a):∃t,qG gl fr x=some t/\Gm U O a t:=by
 cases x with
 |tmp t=>simp only[PX]at h;cases h;exact⟨_,rfl,hf.get t⟩|const v=>exact Ew h0 h|global g=>obtain⟨t,h1,h2⟩:=hg g a h;exact⟨t,h1,h2 U O h0⟩
 |func f=>simp only[PX]at h;cases h;exact⟨_,rfl,.fn f [] [] [] [] rfl (λj a t h=>by simp at h) rfl (λj a t h=>by simp at h)⟩
theorem yZ(hg:GlA gl ga)(h0:U[0]? =some 0)(hf:qO U O fa fr):∀{xs:List Operand} {a_s:List A},ET ga fa xs=some a_s->∃ts,uO gl fr xs=some ts/\qO U O a_s ts
 |[],a_s,h=>by simp[ET]at h;subst h;exact⟨[],rfl,.nil⟩
 |x::xs,a_s,h=>by
  simp only[ET]at h;split at h
  .rename_i a ha;split at h
   .rename_i r hr;cases h;obtain⟨t,h1,h2⟩:=uZ hg h0 hf ha;obtain⟨ts,h3,h4⟩:=yZ hg h0 hf hr;exact⟨t::ts,by simp[uO,h1,h3],qO.cons h2 h4⟩
   .cases h
  .cases h
theorem KJ(hg:GlA gl ga)(h0:U[0]? =some 0)(hf:qO U O fa fr):∀{xs:List (Nat×Operand)} {a_s:List (Nat×A)},MD ga fa xs=some a_s->
  ∃ts,GN gl fr xs=some ts/\a_s.map Prod.fst=ts.map Prod.fst/\qO U O (a_s.map Prod.snd) (ts.map Prod.snd)
 |[],a_s,h=>by simp[MD]at h;subst h;exact⟨[],rfl,rfl,.nil⟩
 |(i,x)::xs,a_s,h=>by
  simp only[MD]at h;split at h
  .rename_i a ha;split at h
   .rename_i r hr;cases h;obtain⟨t,h1,h2⟩:=uZ hg h0 hf ha;obtain⟨ts,h3,h4,h5⟩:=KJ hg h0 hf hr;exact⟨(i,t)::ts,by simp[GN,h1,h3],by simp[h4],qO.cons h2 h5⟩
   .cases h
  .cases h
theorem aAc(hg:GlA gl ga)(h0:U[0]? =some 0)(hf:qO U O fa fr){x:Option Operand}{a:Option A}(h:aKu (PX ga fa) x=some a):
  ∃t,OO (qG gl fr) x=some t/\(match a,t with|none,none=>True|some a,some t=>Gm U O a t|_,_ =>False):=by
 cases x with
 |none=>simp only[aKu]at h;cases h;exact⟨none,rfl,trivial⟩
 |some x=>
  simp only[aKu]at h;split at h
  .rename_i b hb;cases h;obtain⟨t,h1,h2⟩:=uZ hg h0 hf hb;exact⟨some t,by simp[OO,h1],h2⟩
  .cases h
end
theorem CX(h0:U[0]? =some 0){P:fV}{t:fS}{a:A}(h:JN P t=some a):∃z,yA P t=some z/\Gm U O a z:=by
 unfold JN at h;unfold yA;split at h
 .rename_i i hi;split at h
  .rename_i v hv;rw[hi];simp only[hv];exact Ew h0 h
  .cases h
 .cases h
theorem Yt{a:A}{t:T}(h:Gm U O a t)(hf:a.flat=true):t.one=true/\t.isAgg=false:=by
 cases h with
 |top=>simp[A.flat]at hf|or=>simp[A.flat]at hf|agg=>simp[A.flat]at hf|tup=>simp[A.flat]at hf|prd=>simp[A.flat]at hf|slp q e s c _ xs v h0 h1=>rcases h1 with⟨rfl,_⟩|⟨_,rfl⟩|⟨_,_,_,rfl,_⟩<;>exact⟨rfl,rfl⟩
 |slpv q e lo hi _ xs h0 h1=>rcases h1 with⟨rfl,_⟩|⟨_,rfl⟩|⟨_,_,_,rfl,_⟩<;>exact⟨rfl,rfl⟩
 |slk es _ xs h1=>rcases h1 with⟨rfl,_⟩|⟨_,rfl⟩|⟨_,_,_,rfl,_⟩<;>exact⟨rfl,rfl⟩
 |any _ h=>exact⟨h,by cases t<;>simp_all [T.one,T.isAgg]⟩|sl e s c _ xs v h1=>rcases h1 with⟨rfl,_⟩|⟨_,rfl⟩|⟨_,_,_,rfl,_⟩<;>exact⟨rfl,rfl⟩
 |slv e lo hi _ xs h1=>rcases h1 with⟨rfl,_⟩|⟨_,rfl⟩|⟨_,_,_,rfl,_⟩<;>exact⟨rfl,rfl⟩
 |_ =>exact⟨rfl,rfl⟩
theorem SW:∀{a_s:List A} {a:A},NC a_s=true->a∈a_s->a.flat=true
 |b::bs,a,h,hm=>by
  simp only[NC,aA]at h;rcases aR.1 hm with rfl|hm
  .exact h.1
  .exact SW h.2 hm
theorem RU{a:A}{t:T}(h:Gm U O a t)(hf:a.one=true):t.one=true/\t.isAgg=false:=by
 by_cases ho:∃a_s,a= .or a_s
 .obtain⟨a_s,rfl⟩:=ho;cases h with
  |or _ b _ hm hb=>exact Yt hb (SW hf hm)
 .refine Yt h ?_;cases a<;>first|exact hf|exact absurd ⟨_,rfl⟩ ho
theorem FP{t:T}(h:t.isAgg=false):t.cells=[t]:=by cases t<;>simp_all [T.isAgg,T.cells]
theorem aDn{a:A}(h:a.one=true):a.isAgg=false/\a.cells=[a]:=by
 cases a<;>simp_all [A.one,A.isAgg,A.cells,A.flat]
theorem rX{a:A}{t:T}(h:Gm U O a t)(hk:a.known=true):t.isAgg=a.isAgg/\qO U O a.cells t.cells:=by
 by_cases h1:∃a_s,a= .agg a_s
 .obtain⟨a_s,rfl⟩:=h1;cases h with
  |agg _ ts hl hg=>exact⟨rfl,hl,hg⟩
 .by_cases h2:∃a_s,a= .tup a_s
  .obtain⟨a_s,rfl⟩:=h2;cases h with
   |tup _ ts hl hg=>exact⟨rfl,qO.nil.cons (.tup _ _ hl hg)⟩
  .by_cases h3:∃q a_s,a= .prd q a_s
   .obtain⟨q,a_s,rfl⟩:=h3;cases h with
    |prd _ _ ts _ hl hg=>exact⟨rfl,hl,hg⟩
   have ho:a.one=true:=by cases a<;>first|exact hk|exact absurd ⟨_,rfl⟩ h1|exact absurd ⟨_,rfl⟩ h2|exact absurd ⟨_,_,rfl⟩ h3
   obtain⟨_,q⟩:=RU h ho;obtain⟨q1,q2⟩:=aDn ho;rw[q2,FP q];exact⟨q.trans q1.symm,qO.nil.cons h⟩
theorem CL{a_s:List A}{ts:fU}(h:qO U O a_s ts)(ho:wG a_s=true):rM ts=true:=by
 induction a_s generalizing ts with
 |nil=>rw[h.inv_nil];rfl
 |cons a a_s ih=>
  obtain⟨t,r,rfl,h1,h2⟩:=h.inv_cons;simp only[wG,aA]at ho;simp only[rM,aA];exact⟨(RU h1 ho.1).1,ih h2 ho.2⟩
theorem FB{P:fV}{t:fS}{a_s:List A}{ts:fU}(h:qO U O a_s ts){off:Nat}{a:A}(hp:TR P t a_s off=some a):∃r,wN P t ts off=some r/\Gm U O a r:=by
 unfold TR at hp;unfold wN;split at hp
 .rename_i hg;rw[hg];split at hp
  .rename_i m hm;simp only[hm];split at hp
   .rename_i hle;cases hp;rw[if_pos (by rw[<-h.1];exact hle)];have:=(h.drop off).take m;exact⟨_,rfl,.agg _ _ this.1 this.2⟩
   .cases hp
  .cases hp
 .rename_i hg;rw[hg];exact h.at hp
 .cases hp
theorem aLa{P:fV}{t:fS}{x:A}{u:T}(h:Gm U O x u)(hk:x.known=true){off:Nat}{a:A}(hp:aKz P t x off=some a):∃r,wN P t u.cells off=some r/\Gm U O a r:=by
 unfold aKz at hp;split at hp
 .rename_i q cs;split at hp
  .rename_i hc;cases hp;cases h with
   |prd _ _ ts h0 hl hg=>
   simp only[aA,beq_iff_eq]at hc;obtain⟨⟨c1,c2⟩,c3⟩:=hc;have c1:=aF c1;subst c1;refine⟨.agg ts,?_,.prd q cs ts h0 hl hg⟩;simp only[wN,c2,c3,T.cells,hl,bP,aZ,if_true,fK,List.take_length]
  .exact FB (rX h hk).2 hp
 .exact FB (rX h hk).2 hp
end
section
variable{U:gJ}{O:fW}{n:Nat}{cs:List qV}
theorem vG{k:iE}{s:Nat}{c v x:Int}(h:U[s]? =some v)(hx:x=v+c)(hi:HG k x):Gm U O (.int k s c) (.int k x):=by
 subst hx;exact .int k s c v h hi
theorem wL(hs:Sy U n cs){k:iE}{x:Int}(h:HG k x):VOk U O (vY (.ival k k.min k.max) n cs) (.int k x):=
 tT hs (.ival k _ _ x h.1 h.2 h)
theorem KE(hs:Sy U n cs){k:iE}{s:Nat}{c v x:Int}(h:U[s]? =some v)(hx:x=v+c):VOk U O (Pl n cs k s c) (.int k (k.wrap x)):=by
 unfold Pl;split
 .rename_i hk;have:=XU hs.cs hs.zero hk h;rw[<-hx]at this;rw[KO this];exact .here hs (vG h hx this)
 .exact wL hs (vN k x)
theorem GG(hs:Sy U n cs){k:iE}{x:Int}(hi:HG k x){qs:List qV}(hq:qM (U++[x]) qs):VOk U O ⟨.int k n 0,n+1,qs⟩ (.int k x):=by
 obtain⟨h1,h2,h3,h4⟩:=hs.new x;exact⟨U++[x],h1,⟨h3,h4,hq⟩,vG h2 (by omega) hi⟩
theorem PG(hs:Sy U n cs){s:Nat}{c v:Int}(h:SL cs s c=true)(hv:U[s]? =some v):-1000000000000000000<=v+c/\v+c<=1000000000000000000:=by
 simp only[SL,aA]at h;have h1:=qB hs.cs h.1 hs.zero hv;have h2:=qB hs.cs h.2 hv hs.zero;omega
theorem wY{x:Int}(h:-9223372036854775808<=x/\x<=9223372036854775807):HG .i64 x:=by
 simp only[HG,IntKind.min,IntKind.max,IntKind.bits,IntKind.signed];simp;omega
theorem EI{s:Nat}{v:Int}(h0:U[0]? =some 0)(hv:U[s]? =some v):∀{cs:List qV},qM U cs->∀{u:Int},ubS s cs=some u->v<=u
 |[],_,u,h=>by
  simp only[ubS]at h;split at h
  .rename_i e;have:=aF e;subst this;rw[h0]at hv;cases hv;cases h;omega
  .cases h
 | .le x y d::r,hc,u,h=>by
  have hr:qM U r:=λq hm=>hc q (aG _ hm);simp only[ubS]at h;split at h
  .rename_i e;simp only[aA]at e;have e1:=aF e.1;have e2:=aF e.2;subst e1 e2;obtain⟨vx,vy,q1,q2,q3⟩:=hc _ aL;rw[hv]at q1;cases q1;rw[h0]at q2;cases q2;split at h
   .rename_i hu;have:=EI h0 hv hr hu;cases h;split<;>omega
   .cases h;omega
  .exact EI h0 hv hr h
 | .ne x y d::r,hc,u,h=>EI h0 hv (λq hm=>hc q (aG _ hm)) h
theorem Ap{s:Nat}{v:Int}(h0:U[0]? =some 0)(hv:U[s]? =some v){c0:List qV}(hc0:qM U c0):∀{cs:List qV},qM U cs->∀{u:Int},ub2 c0 s cs=some u->v<=u
 |[],_,u,h=>by
  simp only[ub2]at h;split at h
  .rename_i e;have:=aF e;subst this;rw[h0]at hv;cases hv;cases h;omega
  .cases h
 | .le x y d::r,hc,u,h=>by
  have hr:qM U r:=λq hm=>hc q (aG _ hm);simp only[ub2]at h;split at h
  .rename_i e;have e1:=aF e;subst e1;obtain⟨vx,vy,q1,q2,q3⟩:=hc _ aL;rw[hv]at q1;cases q1;split at h
   .rename_i w hw;have hyw:vy<=w:=by
     split at hw
     .rename_i e2;have e2:=aF e2;subst e2;rw[h0]at q2;cases q2;cases hw;omega
     .exact EI h0 q2 hc0 hw
    split at h
    .rename_i hu;have:=Ap h0 hv hc0 hr hu;cases h;split<;>omega
    .cases h;omega
   .exact Ap h0 hv hc0 hr h
  .exact Ap h0 hv hc0 hr h
 | .ne x y d::r,hc,u,h=>Ap h0 hv hc0 (λq hm=>hc q (aG _ hm)) h
theorem UA{s:Nat}{v:Int}{cs:List qV}(h0:U[0]? =some 0)(hv:U[s]? =some v)(hc:qM U cs){u:Int}(h:ub s cs=some u):v<=u:=Ap h0 hv hc hc h
theorem EF{s:Nat}{v:Int}(h0:U[0]? =some 0)(hv:U[s]? =some v):∀{cs:List qV},qM U cs->∀{u:Int},lbS s cs=some u->u<=v
 |[],_,u,h=>by
  simp only[lbS]at h;split at h
  .rename_i e;have:=aF e;subst this;rw[h0]at hv;cases hv;cases h;omega
  .cases h
 | .le x y d::r,hc,u,h=>by
  have hr:qM U r:=λq hm=>hc q (aG _ hm);simp only[lbS]at h;split at h
  .rename_i e;simp only[aA]at e;have e1:=aF e.1;have e2:=aF e.2;subst e1 e2;obtain⟨vx,vy,q1,q2,q3⟩:=hc _ aL;rw[h0]at q1;cases q1;rw[hv]at q2;cases q2;split at h
   .rename_i hu;have:=EF h0 hv hr hu;cases h;split<;>omega
   .cases h;omega
  .exact EF h0 hv hr h
 | .ne x y d::r,hc,u,h=>EF h0 hv (λq hm=>hc q (aG _ hm)) h
theorem Wx{m:Int}(h:U[n]? =some m)(h0:U[0]? =some 0){r:List qV}(hr:qM U r){o:Option Int}(hm:m<=2000000000000000000)(ho:∀u,o=some u->m<=u):qM U (upN n r o):=by
 cases o with
 |none=>exact .cons ⟨_,_,h,h0,by omega⟩ hr|some u=>exact .cons ⟨_,_,h,h0,by have:=ho u rfl;omega⟩ hr
theorem aKb{m:Int}(h:U[n]? =some m)(h0:U[0]? =some 0){r:List qV}(hr:qM U r){o:Option Int}(hm:-2000000000000000000<=m)(ho:∀u,o=some u->u<=m):qM U (loN n r o):=by
 cases o with
 |none=>exact .cons ⟨_,_,h0,h,by omega⟩ hr|some u=>exact .cons ⟨_,_,h0,h,by have:=ho u rfl;omega⟩ hr
theorem Hq{a b:Option Int}{c u:Int}(h:aGx a b c=some u):∃x y,a=some x/\b=some y/\u=x+y+c:=by
 cases a<;>cases b<;>simp only[aGx]at h<;>cases h;exact⟨_,_,rfl,rfl,rfl⟩
theorem aBf{a b:Option Int}{c u:Int}(h:aSn a b c=some u):∃x y,a=some x/\b=some y/\u=x-y+c:=by
 cases a<;>cases b<;>simp only[aSn]at h<;>cases h;exact⟨_,_,rfl,rfl,rfl⟩
theorem Yn{m w:Int}{s:Nat}{c:Int}(h:U[n]? =some m)(h1:U[s]? =some w){r:List qV}(hr:qM U r){o:Option Int}(ho:∀u,o=some u->m<=w+(u+c)):qM U (aPi n s c r o):=by
 cases o with
 |none=>exact hr
 |some u=>
  simp only[aPi];split
  .exact .cons ⟨_,_,h,h1,ho u rfl⟩ hr
  .exact hr
theorem aNt(hs:Sy U n cs){k:iE}{s1 s2:Nat}{c1 c2 v1 v2:Int}(h1:U[s1]? =some v1)(h2:U[s2]? =some v2):
  VOk U O (aVj n cs k s1 c1 s2 c2) (.int k (k.wrap (v1+c1+(v2+c2)))):=by
 unfold aVj;split
 .rename_i e;have:s2=0:=aF e;subst this;rw[hs.zero]at h2;cases h2;exact KE hs h1 (by omega)
 .split
  .rename_i _ e;have:s1=0:=aF e;subst this;rw[hs.zero]at h1;cases h1;exact KE hs h2 (by omega)
  .split
   .rename_i hc;simp only[aA,beq_iff_eq]at hc;obtain⟨⟨rfl,b1⟩,b2⟩:=hc;have b1:=PG hs b1 h1;have b2:=PG hs b2 h2;have hi:HG .i64 (v1+c1+(v2+c2)):=wY (by omega);rw[KO hi];obtain⟨e1,e2,e3,e4⟩:=hs.new (v1+c1+(v2+c2));refine GG hs hi (XT (λh=>⟨v2,_,e1 _ _ h2,e2,?_⟩) (XT (λh=>⟨v1,_,e1 _ _ h1,e2,?_⟩) (aKb e2 e4 (Wx e2 e4 (Yn e2 (e1 _ _ h1) (Yn e2 (e1 _ _ h2) (hs.cs.ext e1) λu hu=> ?_) λu hu=> ?_) (by omega) λu hu=> ?_) (by omega) λu hu=> ?_)))
    .have:=qB hs.cs h hs.zero h1;split
     .rename_i h;have:=qB hs.cs h hs.zero h1;omega
     .omega
    .have:=qB hs.cs h hs.zero h2;split
     .rename_i h;have:=qB hs.cs h hs.zero h2;omega
     .omega
    .have:=UA hs.zero h1 hs.cs hu;omega
    .have:=UA hs.zero h2 hs.cs hu;omega
    .obtain⟨x,y,q1,q2,rfl⟩:=Hq hu;have:=UA hs.zero h1 hs.cs q1;have:=UA hs.zero h2 hs.cs q2;omega
    .obtain⟨x,y,q1,q2,rfl⟩:=Hq hu;have:=EF hs.zero h1 hs.cs q1;have:=EF hs.zero h2 hs.cs q2;omega
   .exact wL hs (vN k _)
theorem aSm(hs:Sy U n cs){k:iE}{s1 s2:Nat}{c1 c2 v1 v2:Int}(h1:U[s1]? =some v1)(h2:U[s2]? =some v2):
  VOk U O (aZe n cs k s1 c1 s2 c2) (.int k (k.wrap (v1+c1-(v2+c2)))):=by
 unfold aZe;split
 .rename_i e;have:s2=0:=aF e;subst this;rw[hs.zero]at h2;cases h2;exact KE hs h1 (by omega)
 .split
  .rename_i _ e;have:s1=s2:=aF e;subst this;rw[h1]at h2;cases h2;exact KE hs hs.zero (by omega)
  .split
   .rename_i hc;simp only[aA,beq_iff_eq]at hc;obtain⟨⟨rfl,b1⟩,b2⟩:=hc;have b1:=PG hs b1 h1;have b2:=PG hs b2 h2;have hi:HG .i64 (v1+c1-(v2+c2)):=wY (by omega);rw[KO hi];obtain⟨e1,e2,e3,e4⟩:=hs.new (v1+c1-(v2+c2));refine GG hs hi (XT (λh=>⟨_,v1,e2,e1 _ _ h1,?_⟩) (XT (λh=>⟨0,_,e4,e2,?_⟩) (aKb e2 e4 (Wx e2 e4 (hs.cs.ext e1) (by omega) λu hu=> ?_) (by omega) λu hu=> ?_)))
    .have:=qB hs.cs h hs.zero h2;omega
    .have:=qB hs.cs h h2 h1;omega
    .obtain⟨x,y,q1,q2,rfl⟩:=aBf hu;have:=UA hs.zero h1 hs.cs q1;have:=EF hs.zero h2 hs.cs q2;omega
    .obtain⟨x,y,q1,q2,rfl⟩:=aBf hu;have:=EF hs.zero h1 hs.cs q1;have:=UA hs.zero h2 hs.cs q2;omega
   .exact wL hs (vN k _)
theorem Eu(h0:U[0]? =some 0){o:jJ}{a:A}(h:YQ o=some a):∃t,o=some t/\Gm U O a t:=by
 unfold YQ at h;split at h
 .rename_i k m;split at h
  .rename_i hk;cases h;simp only[aA,uX,aJ]at hk;exact⟨_,rfl,vG h0 (by omega) hk⟩
  .cases h
 .cases h;exact⟨_,rfl,.bool _ _ rfl⟩
 .cases h
theorem Sd{k:iE}{a:Int}(b:Int)(h:HG k a):HG k (a.tmod b):=by
 have hm:k.min<=0:=by cases k<;>simp[IntKind.min,IntKind.bits,IntKind.signed]
 have hM:0<=k.max:=by cases k<;>simp[IntKind.max,IntKind.bits,IntKind.signed]
 rcases Int.le_total 0 a with ha|ha
 .have h1:0<=a.tmod b:=Int.tmod_nonneg b ha;have h2:a.tmod b<=a:=by
   have:=Int.natAbs_tmod a b;have h3:(a.natAbs%b.natAbs)<=a.natAbs:=Nat.mod_le _ _;omega
  exact⟨by omega,by have:=h.2;omega⟩
 .have h1:0<=(-a).tmod b:=Int.tmod_nonneg b (by omega);rw[Int.neg_tmod]at h1;have h2:a<=a.tmod b:=by
   have:=Int.natAbs_tmod a b;have h3:(a.natAbs%b.natAbs)<=a.natAbs:=Nat.mod_le _ _;omega
  exact⟨by have:=h.1;omega,by omega⟩
theorem aRe(hs:Sy U n cs){k:iE}{s1 s2:Nat}{c1 c2 v1 v2:Int}(h1:U[s1]? =some v1)(h2:U[s2]? =some v2):VOk U O (aXs n cs k s1 c1 s2 c2) (.int k (k.wrap ((v1+c1)*(v2+c2)))):=by
 unfold aXs;split
 .rename_i l1 u1 l2 u2 e1 e2 e3 e4;have a1:=EF hs.zero h1 hs.cs e1;have a2:=EI hs.zero h1 hs.cs e2;have a3:=EF hs.zero h2 hs.cs e3;have a4:=EI hs.zero h2 hs.cs e4;split
  .rename_i hc;simp only[aA,uX,aJ]at hc;obtain⟨b1,b2,b3⟩:=hc;have q1:(l1+c1)*(l2+c2)<=(v1+c1)*(v2+c2):=Int.mul_le_mul (by omega) (by omega) b2 (by omega);have q2:(v1+c1)*(v2+c2)<=(u1+c1)*(u2+c2):=Int.mul_le_mul (by omega) (by omega) (by omega) (by omega);have q3:0<=(l1+c1)*(l2+c2):=Int.mul_nonneg b1 b2;have hi:HG k ((v1+c1)*(v2+c2)):=by
    refine⟨?_,by omega⟩;have:k.min<=0:=by(cases k<;>simp[IntKind.min,IntKind.bits,IntKind.signed])
    omega
   rw[KO hi];exact tT hs (.ival _ _ _ _ q1 q2 hi)
  .exact wL hs (vN k _)
 .exact wL hs (vN k _)
theorem aRf(hs:Sy U n cs){k:iE}{s:Nat}{c v:Int}(h:U[s]? =some v)(hin:HG k (v+c)):VOk U O (aXv n cs k s c) (.int k (k.wrap (0-(v+c)))):=by
 unfold aXv;split
 .rename_i l e1;have a1:=EF hs.zero h hs.cs e1;split
  .rename_i hc;simp only[aA,uX,aJ]at hc;obtain⟨hk,b1⟩:=hc;have hk:k= .i64:=by simpa using hk
   subst hk;have hv:v+c<=9223372036854775807:=hin.2
   .have hi:HG .i64 (0-(v+c)):=wY (by omega);rw[KO hi];refine tT hs (.ival _ _ _ _ ?_ (by omega) hi);split
    .rename_i u e2;have:=EI hs.zero h hs.cs e2;omega
    .omega
  .exact wL hs (vN k _)
 .exact wL hs (vN k _)
theorem aOx(hs:Sy U n cs){op:jX}{k:iE}{s1 s2:Nat}{c1 c2 v1 v2:Int}(h1:U[s1]? =some v1)(h2:U[s2]? =some v2)(i1:HG k (v1+c1)){v:AV}
  (h:aOw n cs op k s1 c1 s2 c2=some v):∃t,xR op k (v1+c1) (v2+c2)=some t/\VOk U O v t:=by
 have nz:∀{b:Bool},(b=true->True)->(leq cs 0 1 s2 c2||leq cs s2 c2 0 (-1))=true->v2+c2≠0:=by
  intro _ _ hh;simp only[bF]at hh;rcases hh with hh|hh
  .have:=qB hs.cs hh hs.zero h2;omega
  .have:=qB hs.cs hh h2 hs.zero;omega
 cases op<;>simp only[aOw]at h<;>try(cases h;done)
 case mul=>cases h;exact⟨_,rfl,aRe hs h1 h2⟩
 case and=>cases h;exact⟨_,rfl,wL hs (vN k _)⟩
 case or=>cases h;exact⟨_,rfl,wL hs (vN k _)⟩
 case xor=>cases h;exact⟨_,rfl,wL hs (vN k _)⟩
 case andNot=>cases h;exact⟨_,rfl,wL hs (vN k _)⟩
 case quo=>
  split at h
  .rename_i hc;cases h;simp only[aA,uX,aJ]at hc;have e:s2=0:=aF hc.1.1;subst e;rw[hs.zero]at h2;cases h2;have ha:=qB hs.cs hc.2 hs.zero h1;have hb:0+c2≠0:=by omega
   have q1:0<=(v1+c1).tdiv (0+c2):=Int.tdiv_nonneg (by omega) (by omega);have q2:(v1+c1).tdiv (0+c2)<=v1+c1:=by
    rw[Int.tdiv_eq_ediv_of_nonneg (by omega)];exact Int.ediv_le_self _ (by omega)
   have hi : HG k ((v1 + c1).tdiv (0 + c2)) := ⟨by have:k.min<=0:=by(cases k<;>simp[IntKind.min,IntKind.bits,IntKind.signed])
                                                   omega,by have:=i1.2;omega⟩
   refine⟨.int k ((v1+c1).tdiv (0+c2)),by simp only[xR];rw[if_neg hb,KO hi],?_⟩;obtain⟨e1,e2,e3,e4⟩:=hs.new ((v1+c1).tdiv (0+c2));refine GG hs hi (.cons ⟨0,_,e4,e2,by omega⟩ (.cons ⟨_,v1,e2,e1 _ _ h1,by omega⟩ (.cons ⟨_,0,e2,e4,?_⟩ (hs.cs.ext e1))));split
   .rename_i u hu;have q3:=EI hs.zero h1 hs.cs hu;have q4:(v1+c1).tdiv (0+c2)<=(u+c1)/(0+c2):=by
     rw[Int.tdiv_eq_ediv_of_nonneg (by omega)];exact Int.ediv_le_ediv (by omega) (by omega)
    rw[fO]at q4⊢;omega
   .have:=hi.2;omega
  .split at h
   .rename_i hc;cases h;have hb:=nz (b:=true) (λ_ =>trivial) hc;exact⟨_,by simp only[xR];rw[if_neg hb],wL hs (vN k _)⟩
   .cases h
 case rem=>
  split at h
  .rename_i hc;simp only[aA,uX,aJ]at hc;have e:s2=0:=aF hc.1;subst e;rw[hs.zero]at h2;cases h2;have hb:0+c2≠0:=by omega
   have hi:=Sd (0+c2) i1;obtain⟨e1,e2,e3,e4⟩:=hs.new ((v1+c1).tmod (0+c2));refine⟨.int k ((v1+c1).tmod (0+c2)),by simp only[xR];rw[if_neg hb],?_⟩;have hlt:(v1+c1).tmod (0+c2)<0+c2:=Int.tmod_lt_of_pos _ (by omega);split at h
   .rename_i hp;cases h;have ha:=qB hs.cs hp hs.zero h1;have q1:0<=(v1+c1).tmod (0+c2):=Int.tmod_nonneg _ (by omega);have q2:(v1+c1).tmod (0+c2)<=v1+c1:=by
     have:=Int.natAbs_tmod (v1+c1) (0+c2);have h3:((v1+c1).natAbs%(0+c2).natAbs)<=(v1+c1).natAbs:=Nat.mod_le _ _;omega
    exact GG hs hi (.cons ⟨0,_,e4,e2,by omega⟩ (.cons ⟨_,v1,e2,e1 _ _ h1,by omega⟩ (.cons ⟨_,0,e2,e4,by omega⟩ (hs.cs.ext e1))))
   .cases h;have q1:-(0+c2)<(v1+c1).tmod (0+c2):=by
     have:=Int.natAbs_tmod (v1+c1) (0+c2);have h3:((v1+c1).natAbs%(0+c2).natAbs)<(0+c2).natAbs:=Nat.mod_lt _ (by omega);omega
    exact GG hs hi (.cons ⟨0,_,e4,e2,by omega⟩ (.cons ⟨_,0,e2,e4,by omega⟩ (hs.cs.ext e1)))
  .split at h
   .rename_i hc;cases h;have hb:=nz (b:=true) (λ_ =>trivial) hc;exact⟨_,by simp only[xR];rw[if_neg hb],wL hs (Sd _ i1)⟩
   .cases h
theorem aPx(hs:Sy U n cs){op:jX}{k:iE}{s1 s2:Nat}{c1 c2 v1 v2:Int}(h1:U[s1]? =some v1)(h2:U[s2]? =some v2)(i1:HG k (v1+c1)){v:AV}
  (h:aWz n cs op k s1 c1 s2 c2=some v):∃t,xR op k (v1+c1) (v2+c2)=some t/\VOk U O v t:=by
 have eqB:∀{x y:Nat} {c vx vy:Int} {b:Bool},U[x]? =some vx->U[y]? =some vy->b=decide (vx=vy+c)->vK U (aBy cs x y c) b:=λhx hy e=>e▸Xx hs.cs hx hy;have leB:∀{x y:Nat} {c vx vy:Int} {b:Bool},U[x]? =some vx->U[y]? =some vy->b=decide (vx<=vy+c)->vK U (Tx cs x y c) b:=λhx hy e=>e▸aOc hs.cs hx hy;have oth:∀{op:jX},(match(if Nat.beq s1 0&&Nat.beq s2 0 then YQ (xR op k c1 c2)else none)with|some a=>some ⟨a,n,cs⟩|none=>aOw n cs op k s1 c1 s2 c2)=some v->
   ∃t,xR op k (v1+c1) (v2+c2)=some t/\VOk U O v t:=by
  intro op h;split at h
  .rename_i a ha;cases h;split at ha
   .rename_i hc;simp only[aA]at hc;have e1:s1=0:=aF hc.1;have e2:s2=0:=aF hc.2;subst e1 e2;rw[hs.zero]at h1 h2;cases h1;cases h2;obtain⟨t,q1,q2⟩:=Eu (O:=O) hs.zero ha;exact⟨t,by simpa using q1,.here hs q2⟩
   .cases ha
  .exact aOx hs h1 h2 i1 h
 cases op<;>simp only[aWz]at h<;>try(exact oth h)
 case add=>cases h;exact⟨_,rfl,aNt hs h1 h2⟩
 case sub=>cases h;exact⟨_,rfl,aSm hs h1 h2⟩
 case eql=>cases h;exact⟨_,rfl,.here hs (.bool _ _ (eqB h1 h2 (by rw[eR];simp;omega)))⟩
 case neq=>
  cases h;refine⟨_,rfl,.here hs (.bool _ _ ?_)⟩;have:=Jz (eqB (c:=c2-c1) h1 h2 rfl);have e:(v1+c1 !=v2+c2)= !(decide (v1=v2+(c2-c1))):=by
   rw[eR];simp;omega
  rw[e];exact this
 case lss=>cases h;exact⟨_,rfl,.here hs (.bool _ _ (leB h1 h2 (by rw[eR];simp;omega)))⟩
 case leq=>cases h;exact⟨_,rfl,.here hs (.bool _ _ (leB h1 h2 (by rw[eR];simp;omega)))⟩
 case gtr=>cases h;exact⟨_,rfl,.here hs (.bool _ _ (leB h2 h1 (by rw[eR];simp;omega)))⟩
 case geq=>cases h;exact⟨_,rfl,.here hs (.bool _ _ (leB h2 h1 (by rw[eR];simp;omega)))⟩
end
section
variable{U:gJ}{O:fW}{n:Nat}{cs:List qV}
theorem Gs(hs:Sy U n cs){op:jX}{k:iE}{s1 s2:Nat}{c1 c2 v1 v2:Int}(h1:U[s1]? =some v1)(h2:U[s2]? =some v2)(i1:HG k (v1+c1)){v:AV}
  (h:Lf n cs op k s1 c1 s2 c2=some v):∃t,zQ op k (v1+c1) (v2+c2)=some t/\VOk U O v t:=by
 unfold Lf at h;split at h
 .rename_i a ha;cases h;split at ha
  .rename_i hc;simp only[aA]at hc;have e1:s1=0:=aF hc.1;have e2:s2=0:=aF hc.2;subst e1 e2;rw[hs.zero]at h1 h2;cases h1;cases h2;obtain⟨t,q1,q2⟩:=Eu (O:=O) hs.zero ha;exact⟨t,by simpa using q1,.here hs q2⟩
  .cases ha
 .split at h
  .rename_i hb;have hb:=qB hs.cs hb hs.zero h2;have hn:¬(v2+c2<0):=by omega
   cases op<;>simp only at h<;>try(cases h;done)
   .cases h;exact⟨_,by simp only[zQ];rw[if_neg hn],wL hs (vN k _)⟩
   .split at h
    .rename_i ha;cases h;have ha:=qB hs.cs ha hs.zero h1;have hp:(0:Int)<2^(min (v2+c2).toNat k.bits):=Int.pow_pos (by omega);have q1:0<=(v1+c1).fdiv (2^(min (v2+c2).toNat k.bits)):=by
      rw[Int.fdiv_eq_ediv_of_nonneg _ (by omega)];exact Int.ediv_nonneg (by omega) (by omega)
     have q2:(v1+c1).fdiv (2^(min (v2+c2).toNat k.bits))<=v1+c1:=by
      rw[Int.fdiv_eq_ediv_of_nonneg _ (by omega)];exact Int.ediv_le_self _ (by omega)
     have hm:k.min<=0:=by cases k<;>simp[IntKind.min,IntKind.bits,IntKind.signed]
     have hi:HG k ((v1+c1).fdiv (2^(min (v2+c2).toNat k.bits))):=⟨by omega,by have:=i1.2;omega⟩;refine⟨_,by simp only[zQ];rw[if_neg hn],?_⟩;obtain⟨e1,e2,e3,e4⟩:=hs.new ((v1+c1).fdiv (2^(min (v2+c2).toNat k.bits)));exact GG hs hi (.cons ⟨0,_,e4,e2,by omega⟩ (.cons ⟨_,v1,e2,e1 _ _ h1,by omega⟩ (.cons ⟨_,0,e2,e4,by have:=hi.2;omega⟩ (hs.cs.ext e1))))
    .cases h
  .cases h
theorem xK(h0:U[0]? =some 0){a:A}{t:T}(h:Gm U O a t){s:Nat}{c:Int}(hl:LV a=some (s,c)):∃l v,t= .str l/\U[s]? =some v/\(l.length:Int)=v+c:=by
 cases h<;>simp[LV]at hl
 .rename_i l;obtain⟨rfl,rfl⟩:=hl;exact⟨l,0,rfl,h0,by omega⟩
 .rename_i c l v h1 h2;obtain⟨rfl,rfl⟩:=hl;exact⟨_,_,rfl,h1,h2⟩
theorem Dy{a:A}{l:gU}(h:Gm U O a (.str l))(he:HO a=true):l=[]:=by
 cases h<;>simp[HO]at he
 .split at he
  .rename_i h;cases h;rfl
  .cases he
theorem NG(l m:gU):(l==m)=true↔l=m:=by simp
theorem aHf(hs:Sy U n cs){a b:A}{l m:gU}{s1 s2:Nat}{c1 c2:Int}(ha:Gm U O a (.str l))(hb:Gm U O b (.str m))(h1:LV a=some (s1,c1))(h2:LV b=some (s2,c2)):
  vK U (Xy cs a b s1 c1 s2 c2) (l==m):=by
 unfold Xy;split
 .cases ha;cases hb;rfl
 .obtain⟨l',v1,e1,q1,w1⟩:=xK hs.zero ha h1;obtain⟨m',v2,e2,q2,w2⟩:=xK hs.zero hb h2;cases e1;cases e2;have key:=Xx hs.cs (c:=c2-c1) q1 q2;have hlen:l=m->v1=v2+(c2-c1):=λe=>by subst e;omega
  have hemp:(HO a||HO b)=true->v1=v2+(c2-c1)->l=m:=by
   intro he hv;have hll:l.length=m.length:=by omega
   simp only[bF]at he;rcases he with he|he
   .have:=Dy ha he;subst this;simp at hll;exact(cA hll.symm).symm
   .have:=Dy hb he;subst this;simp at hll;exact hll
  split
  .rename_i hq;rw[hq]at key;simp only[vK,decide_eq_false_iff_not]at key;simp only[vK];exact Bool.eq_false_iff.2 λhh=>key (hlen ((NG l m).1 hh))
  .rename_i hq;rw[hq]at key;simp only[vK,aJ]at key;split
   .rename_i he;simp only[vK];exact(NG l m).2 (hemp he key)
   .exact sY _
  .rename_i p q hq;rw[hq]at key;split
   .rename_i he;refine⟨λhh=>key.1 ?_,λhh=>key.2 ?_⟩
    .simpa using hlen ((NG l m).1 hh)
    .simp only[decide_eq_false_iff_not];intro hv;have:=(NG l m).2 (hemp he hv);rw[this]at hh;cases hh
   .refine⟨λhh=>key.1 ?_,λ_ q h=>by simp at h⟩;simpa using hlen ((NG l m).1 hh)
theorem aSk(hs:Sy U n cs){op:jX}{a b:A}{x y:T}(ha:Gm U O a x)(hb:Gm U O b y){v:AV}(h:aZc n cs op a b=some v):
  ∃l m t,x= .str l/\y= .str m/\GT op l m=some t/\VOk U O v t:=by
 unfold aZc at h;split at h
 .rename_i s1 c1 s2 c2 h1 h2;obtain⟨l,v1,rfl,q1,w1⟩:=xK hs.zero ha h1;obtain⟨m,v2,rfl,q2,w2⟩:=xK hs.zero hb h2;have key:=aHf hs ha hb h1 h2;refine⟨l,m,?_⟩;cases op<;>simp only at h<;>try(cases h;done)
  case add=>
   split at h
   .cases ha;cases hb;split at h
    .rename_i hm;cases h;simp only[uX,aJ]at hm;exact⟨_,rfl,rfl,by simp only[GT];rw[if_pos (by omega)],.here hs (.strc _)⟩
    .cases h
   .split at h
    .rename_i hc;simp only[aA]at hc;obtain⟨⟨⟨b1,b2⟩,b3⟩,b4⟩:=hc;have b3:=qB hs.cs b3 q1 hs.zero;have b4:=qB hs.cs b4 q2 hs.zero;have hle:l.length+m.length<=xA:=by unfold xA;omega
     have hst:GT .add l m=some (.str (l++m)):=by simp only[GT];rw[if_pos hle]
     split at h
     .rename_i e;have:s2=0:=aF e;subst this;rw[hs.zero]at q2;cases q2;cases h;exact⟨_,rfl,rfl,hst,.here hs (.str s1 _ v1 _ q1 (by simp;omega))⟩
     .split at h
      .rename_i e;have:s1=0:=aF e;subst this;rw[hs.zero]at q1;cases q1;cases h;exact⟨_,rfl,rfl,hst,.here hs (.str s2 _ v2 _ q2 (by simp;omega))⟩
      .cases h;obtain⟨e1,e2,e3,e4⟩:=hs.new ((l++m).length:Int);refine⟨_,rfl,rfl,hst,U++[((l++m).length:Int)],e1,⟨e3,e4,?_⟩,.str n 0 _ _ e2 (by simp)⟩;have hll:((l++m).length:Int)=l.length+m.length:=by simp
       exact .cons ⟨v1,_,e1 _ _ q1,e2,by omega⟩ (.cons ⟨v2,_,e1 _ _ q2,e2,by omega⟩ (.cons ⟨0,_,e4,e2,by omega⟩ (Wx e2 e4 (hs.cs.ext e1) (by omega) λu hu=>by
        obtain⟨x,y,p1,p2,rfl⟩:=Hq hu;have:=UA hs.zero q1 hs.cs p1;have:=UA hs.zero q2 hs.cs p2
        omega)))
    .cases h
  case eql=>cases h;exact⟨_,rfl,rfl,rfl,.here hs (.bool _ _ key)⟩
  case neq=>cases h;exact⟨_,rfl,rfl,rfl,.here hs (.bool _ _ (Jz key))⟩
  case lss=>cases h;exact⟨_,rfl,rfl,rfl,.here hs (.bool _ _ (sY _))⟩
  case leq=>cases h;exact⟨_,rfl,rfl,rfl,.here hs (.bool _ _ (sY _))⟩
  case gtr=>cases h;exact⟨_,rfl,rfl,rfl,.here hs (.bool _ _ (sY _))⟩
  case geq=>cases h;exact⟨_,rfl,rfl,rfl,.here hs (.bool _ _ (sY _))⟩
 .cases h
theorem Zx{a:A}{t:T}(h:Gm U O a t){b:Bool}(hb:eqA.nilP a=some b):(t= .nilp/\b=true)\/(((∃l o,t= .ptr l o)\/∃x o,t= .ref x o)/\b=false):=by
 cases h<;>simp[eqA.nilP]at hb<;>subst hb
 .exact .inl ⟨rfl,rfl⟩
 .exact .inr ⟨.inl ⟨_,_,rfl⟩,rfl⟩
 .exact .inr ⟨.inl ⟨_,_,rfl⟩,rfl⟩
 .exact .inr ⟨.inr ⟨_,_,rfl⟩,rfl⟩
theorem UX{a:A}{t:T}(h:Gm U O a t){b:Bool}(hb:eqA.nilI a=some b):(t= .nili/\b=true)\/((∃u x,t= .iface u x)/\b=false):=by
 cases h<;>simp[eqA.nilI]at hb<;>subst hb
 .exact .inl ⟨rfl,rfl⟩
 .exact .inr ⟨⟨_,_,rfl⟩,rfl⟩
 .exact .inr ⟨⟨_,_,rfl⟩,rfl⟩
theorem Zw{a:A}{t:T}(h:Gm U O a t){b:Bool}(hb:eqA.nilF a=some b):(t= .nilf/\b=true)\/((∃f x y,t= .fn f x y)/\b=false):=by
 cases h<;>simp[eqA.nilF]at hb<;>subst hb
 .exact .inl ⟨rfl,rfl⟩
 .exact .inr ⟨⟨_,_,_,rfl⟩,rfl⟩
theorem LS:∀{a_s:List A} {a:A},eqA.ifaces a_s=true->a∈a_s->∃b,eqA.nilI a=some b
 |c::r,a,h,hm=>by
  simp only[eqA.ifaces,aA]at h;rcases aR.1 hm with rfl|hm
  .exact Option.isSome_iff_exists.1 h.1
  .exact LS h.2 hm
def Vr:T->T->Bool
 | .int ..,_ |_,.int .. | .str _,_ |_,.str _ | .agg _,_ |_,.agg _ =>false|_,_ =>true
theorem aIi{P:fV}{ty:fS}{a b:A}{x y:T}(ha:Gm U O a x)(hb:Gm U O b y){B:Bo}(h:eqA P ty a b=some B):∃r,PW P ty x y=some r/\vK U B r/\Vr x y=true:=by
 unfold eqA at h;split at h
 .have hu:=‹P.underlying ty=_›;cases h;cases ha;rename_i h1;cases hb;rename_i h2;simp only[vK]at h1 h2;subst h1 h2;exact⟨_,by simp[PW,hu],rfl,rfl⟩
 .have hu:=‹P.underlying ty=_›;cases h;cases ha with
  |bool _ b1=>cases hb with
   |bool _ b2=>exact⟨b1==b2,by simp[PW,hu],sY _,rfl⟩
 .have hu:=‹P.underlying ty=_›;cases ha;obtain⟨r,hr,rfl⟩:=aD.1 h;rcases Zx hb hr with⟨rfl,rfl⟩|⟨⟨_,_,rfl⟩|⟨_,_,rfl⟩,rfl⟩<;>exact⟨_,by simp[PW,hu],rfl,rfl⟩
 .have hu:=‹P.underlying ty=_›;cases hb;obtain⟨r,hr,rfl⟩:=aD.1 h;rcases Zx ha hr with⟨rfl,rfl⟩|⟨⟨_,_,rfl⟩|⟨_,_,rfl⟩,rfl⟩<;>exact⟨_,by simp[PW,hu],rfl,rfl⟩
 .have hu:=‹P.underlying ty=_›;split at h
  .rename_i hi;cases h;cases ha;cases hb with
   |or _ c _ hm hc=>
    obtain⟨r,hr⟩:=LS hi hm;rcases UX hc hr with⟨rfl,rfl⟩|⟨⟨_,_,rfl⟩,rfl⟩
    .exact⟨true,by simp[PW,hu],sY _,rfl⟩
    .exact⟨false,by simp[PW,hu],sY _,rfl⟩
  .cases h
 .have hu:=‹P.underlying ty=_›;split at h
  .rename_i hi;cases h;cases hb;cases ha with
   |or _ c _ hm hc=>
    obtain⟨r,hr⟩:=LS hi hm;rcases UX hc hr with⟨rfl,rfl⟩|⟨⟨_,_,rfl⟩,rfl⟩
    .exact⟨true,by simp[PW,hu],sY _,rfl⟩
    .exact⟨false,by simp[PW,hu],sY _,rfl⟩
  .cases h
 .have hu:=‹P.underlying ty=_›;cases ha;obtain⟨r,hr,rfl⟩:=aD.1 h;rcases UX hb hr with⟨rfl,rfl⟩|⟨⟨_,_,rfl⟩,rfl⟩<;>exact⟨_,by simp[PW,hu],rfl,rfl⟩
 .have hu:=‹P.underlying ty=_›;cases hb;obtain⟨r,hr,rfl⟩:=aD.1 h;rcases UX ha hr with⟨rfl,rfl⟩|⟨⟨_,_,rfl⟩,rfl⟩<;>exact⟨_,by simp[PW,hu],rfl,rfl⟩
 .have hu:=‹P.underlying ty=_›;cases ha;obtain⟨r,hr,rfl⟩:=aD.1 h;rcases Zw hb hr with⟨rfl,rfl⟩|⟨⟨_,_,_,rfl⟩,rfl⟩<;>exact⟨_,by simp[PW,hu],rfl,rfl⟩
 .have hu:=‹P.underlying ty=_›;cases hb;obtain⟨r,hr,rfl⟩:=aD.1 h;rcases Zw ha hr with⟨rfl,rfl⟩|⟨⟨_,_,_,rfl⟩,rfl⟩<;>exact⟨_,by simp[PW,hu],rfl,rfl⟩
 .cases h
theorem aDl{X Y:jF}{a b:A}{x y:T}(ha:Gm U O a x)(hb:Gm U O b y)(h:Jy X Y a b=true):MA X Y x y=true:=by
 unfold Jy at h;unfold MA;cases hx:HM X<;>cases hy:HM Y<;>simp[hx,hy]at h⊢;split at h<;>first|(cases ha<;>simp[UI];done)|(cases hb<;>cases x<;>simp[UI];done)|cases h
theorem aHc{P:fV}{ty:fS}{op:jX}{k:iE}{a b:Int}(h1:op≠ .shl)(h2:op≠ .shr):BR P op ty (.int k a) (.int k b)=xR op k a b:=by
 cases op<;>simp[BR]at*
theorem Yl{P:fV}{ty:fS}{x y:T}(h:Vr x y=true):eqS P ty x y=PW P ty x y:=by
 unfold eqS;split
 .simp[Vr]at h
 .rfl
theorem aHb{P:fV}{ty:fS}{x y:T}(h:Vr x y=true):BR P .eql ty x y=(PW P ty x y).map .bool:=by
 unfold BR;split<;>first|rfl|(simp[Vr]at h;done)|(simp_all;done)|(rw[Yl h])
theorem aHd{P:fV}{ty:fS}{x y:T}(h:Vr x y=true):BR P .neq ty x y=(PW P ty x y).map λb=> .bool (!b):=by
 unfold BR;split<;>first|rfl|(simp[Vr]at h;done)|(simp_all;done)|(rw[Yl h])
theorem aHe{P:fV}{ty:fS}{op:jX}{a b:gU}:BR P op ty (.str a) (.str b)=GT op a b:=by
 cases op<;>rfl
theorem aOa(hs:Sy U n cs){P:fV}{op:jX}{ty:fS}{a b:A}{x y:T}(ha:Gm U O a x)(hb:Gm U O b y){v:AV}(h:aVo P n cs op ty a b=some v):
  ∃t,BR P op ty x y=some t/\VOk U O v t:=by
 unfold aVo at h;split at h
 .rename_i k s1 c1 k' s2 c2;cases ha with
  |int _ _ _ v1 q1 i1=>
  cases hb with
  |int _ _ _ v2 q2 i2=>
  split at h
  .obtain⟨t,e1,e2⟩:=Gs (O:=O) hs q1 q2 i1 h;exact⟨t,by simpa [BR]using e1,e2⟩
  .obtain⟨t,e1,e2⟩:=Gs (O:=O) hs q1 q2 i1 h;exact⟨t,by simpa [BR]using e1,e2⟩
  .rename_i n1 n2;split at h
   .rename_i hk;have hk:k=k':=by simpa using hk
    obtain⟨t,e1,e2⟩:=aPx (O:=O) hs q1 q2 i1 h;exact⟨t,by rw[<-hk,aHc (λh=>n1 h) (λh=>n2 h)];exact e1,e2⟩
   .cases h
 .rename_i n1;split at h
  .rename_i B hB;cases h;split at hB
   .obtain⟨r,e1,e2,e3⟩:=aIi ha hb hB;exact⟨.bool r,by rw[aHb e3,e1];rfl,.here hs (.bool _ _ e2)⟩
   .obtain⟨B',hB',rfl⟩:=aD.1 hB;obtain⟨r,e1,e2,e3⟩:=aIi ha hb hB';exact⟨.bool (!r),by rw[aHd e3,e1];rfl,.here hs (.bool _ _ (Jz e2))⟩
   .cases hB
  .obtain⟨l,m,t,rfl,rfl,e1,e2⟩:=aSk hs ha hb h;exact⟨t,by rw[aHe];exact e1,e2⟩
theorem aZk(hs:Sy U n cs){op:UnOp}{a:A}{x:T}(ha:Gm U O a x){v:AV}(h:unA n cs op a=some v):∃t,unT op x=some t/\VOk U O v t:=by
 unfold unA at h;split at h
 .cases ha with
  |int _ _ _ v1 q1 i1=>
   split at h
   .rename_i e;rename_i s c;cases h;have e0:s=0:=aF e;rw[e0,hs.zero]at q1;cases q1;exact⟨_,rfl,KE hs hs.zero (by omega)⟩
   .cases h;exact⟨_,rfl,aRf hs q1 i1⟩
 .cases h;cases ha with
  |bool _ b hb=>exact⟨_,rfl,.here hs (.bool _ _ (Jz hb))⟩
 .cases h
theorem aHu(hs:Sy U n cs){P:fV}{src dst:fS}{a:A}{x:T}(ha:Gm U O a x){v:AV}(h:aHt P n cs src dst a=some v):∃t,Ds P src dst x=some t/\VOk U O v t:=by
 have conv:∀{t:T},NQ P src dst x=some t->Ds P src dst x=some t:=λh=>by unfold Ds;rw[h]
 unfold aHt at h;split at h
 .rename_i hu1 hu2;cases h;cases ha with
  |int _ _ _ v1 q1 i1=>exact⟨_,conv (by simp[NQ,hu1,hu2]),KE hs q1 rfl⟩
 .rename_i hu1 hu2;cases h;cases ha with
  |str _ _ v1 l q1 i1=>exact⟨.str l,conv (by simp[NQ,hu1,hu2]),.here hs (.str _ _ v1 l q1 i1)⟩
 .rename_i hu1 hu2;cases h;cases ha;exact⟨_,conv (by simp[NQ,hu1,hu2]),.here hs (.strc _)⟩
 .rename_i hu1 hu2;split at h
  .rename_i s c hl he;split at h
   .rename_i hle;cases h;obtain⟨l,w,rfl,q1,w1⟩:=xK hs.zero ha hl;have:=qB hs.cs hle q1 hs.zero;refine⟨.sl false (l.map λb=> .int .u8 b.toNat),?_,.here hs (.sl _ _ _ _ _ w (.inr (.inl ⟨_,rfl⟩)) q1 (by simpa using w1) (λy hy=> ?_))⟩
    .have hn:NQ P src dst (.str l)=none:=by simp[NQ,hu1,hu2]
     unfold Ds;rw[hn];simp only[Ib,hu1,hu2,he];rw[if_pos (by omega)]
    .obtain⟨b,_,rfl⟩:=bQ.1 hy;have:=UInt8.toNat_lt b;exact .ival _ _ _ _ (by omega) (by omega) (by simp only[HG,IntKind.min,IntKind.max,IntKind.bits,IntKind.signed];simp;omega)
   .cases h
  .cases h
 .cases h
end
def peC:Option (Option Nat)->Option Code
 |none=>none|some (some id)=>some (.exit id)|some none=>some .ret
def Ti(U:gJ)(O:fW):AO->Ob->Prop
 | .fix e xs,o=>(o.elem=e/\o.sz=0)/\qO U O xs o.cells| .map es,o=>∃(c:Nat) (ms:gS),o.me=some (.map c ms)/\es.length=ms.length/\∀(j:Nat) (k:Int) (a:A),es[j]? =some (k,a)->∃c' v,ms[j]? =some (c',.int .i64 k,v)/\Gm U O a v| .loop st pe fr ps asg bd ow _ _,o=>∃r:Lr,o.me=some (.loop r)/\r.st=st/\r.pe=peC pe/\r.ps=ps/\r.asg=asg/\r.bd=bd/\r.ow=ow/\qO U O fr (r.fr.view r.n)| .row e sz a s c,o=>o.elem=e/\(o.sz=sz/\(e=5->o.cells≠[]))/\∃(ts:fU) (v:Int),U[s]? =some v/\(ts.length:Int)=v+c/\o.cells=ts.flatMap T.cells/\∀t∈ts,Gm U O a t/\t.cells.length=sz
theorem Yq{H:Hp}(h:∀(m:Nat) (o:Ob),H.any m=some o->m<H.next)(b:Ob):∀(m:Nat) (o:Ob),(H.new b).any m=some o->m<(H.new b).next:=by
 intro m o e;rw[sB]at e;split at e
 .rename_i q;rw[<-q];exact Nat.lt_succ_self _
 .exact Nat.lt_succ_of_lt (h m o e)
theorem Yr{H:Hp}(h:∀(m:Nat) (o:Ob),H.any m=some o->m<H.next){x:Nat}(hx:x<H.next)(b:Ob):∀(m:Nat) (o:Ob),(H.put x b).any m=some o->m<(H.put x b).next:=by
 intro m o e;rw[sH]at e;split at e
 .rename_i q;rw[q];exact hx
 .exact h m o e
theorem aIs{H:Hp}(h:∀(m:Nat) (o:Ob),H.any m=some o->m<H.next)(x:Nat):∀(m:Nat) (o:Ob),(H.drop x).any m=some o->m<(H.drop x).next:=by
 intro m o e;rw[sA]at e;split at e
 .cases e
 .exact h m o e
noncomputable def Ka:AO->Hp->Nat->Option Ob
 | .loop ..,H,x=>H.any x| .map _,H,x=>H.any x|_,H,x=>H.get x
structure GH(hp:gL)(nl:Nat)(U:gJ)(O:fW)(H:Hp):Prop where
 len:O.length=nl
 obj:∀(l:Nat) (o:AO),pY hp l=some o->∃y,O[l]? =some y/\∀x,y=some x->∃b,Ka o H x=some b/\Ti U O o b
 inj:∀(l l':Nat) (o o':AO) (x:Nat),pY hp l=some o->pY hp l'=some o'->O[l]? =some (some x)->O[l']? =some (some x)->l=l'
 lt:∀(l x:Nat),O[l]? =some (some x)->x<H.next
 fixp:∀(l:Nat) (e:fS) (xs:List A),pY hp l=some (.fix e xs)->∃x,O[l]? =some (some x)
 fin:∀(m:Nat) (o:Ob),H.any m=some o->m<H.next
section
variable{U ρ':gJ}{O μ':fW}{n:Nat}{cs:List qV}
theorem Ti.ext(h:uA U ρ')(h':uA O μ'){a:AO}{o:Ob}(hg:Ti U O a o):Ti ρ' μ' a o:=by
 cases a with
 |fix e xs=>exact⟨hg.1,hg.2.ext h h'⟩
 |row e sz a s c=>
  obtain⟨h1,h2,ts,v,h3,h4,h5,h6⟩:=hg;exact⟨h1,h2,ts,v,h _ _ h3,h4,h5,λt ht=>⟨(h6 t ht).1.ext h h',(h6 t ht).2⟩⟩
 |map es=>
  obtain⟨c,ms,h1,h2,h3⟩:=hg;exact⟨c,ms,h1,h2,λj k a hj=>by obtain⟨c',v,h4,h5⟩:=h3 j k a hj;exact⟨c',v,h4,h5.ext h h'⟩⟩
 |loop st pe fr ps asg bd ow aa ab=>
  obtain⟨r,h1,h2,h3,h4,h5,h6,h7,h8⟩:=hg;exact⟨r,h1,h2,h3,h4,h5,h6,h7,h8.ext h h'⟩
theorem GH.ext{hp:gL}{nl:Nat}{H:Hp}(h:uA U ρ')(hg:GH hp nl U O H):GH hp nl ρ' O H:=
 ⟨hg.len,λl o hl=>by
  obtain⟨y,h1,h2⟩:=hg.obj l o hl
  exact⟨y,h1,λx hx=>by obtain⟨b,h3,h4⟩:=h2 x hx;exact⟨b,h3,h4.ext h (.refl _)⟩⟩,hg.inj,hg.lt,hg.fixp,hg.fin⟩
def AO.plain:AO->Bool
 | .loop .. | .map _ =>false|_ =>true
theorem GK{o:AO}(h:o.plain=true)(H:Hp)(x:Nat):Ka o H x=H.get x:=by cases o<;>first|rfl|cases h
theorem GH.at{hp:gL}{nl:Nat}{H:Hp}(hg:GH hp nl U O H){l x:Nat}{o:AO}(h:pY hp l=some o)(hx:O[l]? =some (some x))(ho:o.plain=true:=by rfl):∃b,H.get x=some b/\Ti U O o b:=by
 obtain⟨y,h1,h2⟩:=hg.obj l o h;rw[hx]at h1;cases h1;have:=h2 x rfl
 rwa [GK ho]at this
theorem FX{sz:Nat}:∀(ts:fU) (i:Nat),(∀t∈ts,t.cells.length=sz)->i<=ts.length->(ts.flatMap T.cells).drop (i*sz)=(ts.drop i).flatMap T.cells
 |ts,0,_,_ =>by simp|[],i+1,_,h=>by simp at h
 |t::ts,i+1,hs,h=>by
  rw[bG,List.drop_succ_cons,<-FX ts i (λx hx=>hs x (by simp[hx])) (by simpa using h)];have:t.cells.length=sz:=hs t (by simp);rw[cW,Nat.add_comm,<-List.drop_drop,<-this,List.drop_left]
theorem wW{sz:Nat}:∀(ts:fU),(∀t∈ts,t.cells.length=sz)->(ts.flatMap T.cells).length=ts.length*sz
 |[],_ =>by simp
 |t::ts,hs=>by
  rw[bG,bI,wW ts (λx hx=>hs x (by simp[hx])),hs t (by simp),bL,cW];omega
theorem aLb{P:fV}{t:fS}{sz:Nat}{ts:fU}(hs:∀t∈ts,t.cells.length=sz){i off:Nat}{x r:T}(hi:ts[i]? =some x)(hp:wN P t x.cells off=some r):
  wN P t (ts.flatMap T.cells) (i*sz+off)=some r:=by
 have hil:=(aO.1 hi).1;have hd:=FX ts i hs (by omega);have hx:ts.drop i=x::ts.drop (i+1):=by
  rw[eT hil];congr 1;exact(aO.1 hi).2
 rw[hx,bG]at hd;have hxl:=hs x (bB hi);have hfl:=wW ts hs;have hmul:(i+1)*sz<=ts.length*sz:=cU _ hil;rw[cW]at hmul;unfold wN at hp⊢;split at hp
 .split at hp
  .rename_i m hm;split at hp
   .rename_i hle;cases hp;rw[if_pos (by rw[hfl];omega),<-List.drop_drop,hd,List.drop_append_of_le_length (by omega),List.take_append_of_le_length (by rw[cY];omega)]
   .cases hp
  .cases hp
 .have ho:=(aO.1 hp).1;rw[<-bZ,hd,dL ho];exact hp
 .cases hp
theorem YI{a:A}(h:a.known=true):(vY a n cs).a.known=true:=by
 cases a<;>first|exact h|rfl|(simp only[vY,mat,Pr,Jv];split<;>rfl)
theorem Pm{P:fV}{hp:gL}{nl:Nat}{H:Hp}(hs:Sy U n cs)(hh:GH hp nl U O H){t:fS}{a:A}{x:T}(ha:Gm U O a x){v:AV}(h:Zo P hp n cs t a=some v):
  ∃r,wZ P H t x=some r/\VOk U O v r:=by
 unfold Zo at h;split at h
 .split at h
  .rename_i hk;obtain⟨y,hy,rfl⟩:=aD.1 h;cases ha with
   |ref _ u off _ hu=>
    obtain⟨r,h1,h2⟩:=aLa hu hk hy;exact⟨r,h1,tT hs h2⟩
  .cases h
 .split at h
  .rename_i l off e xs hl;obtain⟨y,hy,rfl⟩:=aD.1 h;cases ha with
   |ptr _ _ l' hl'=>
    obtain⟨b,h1,h2⟩:=hh.at hl hl';obtain⟨r,h3,h4⟩:=FB h2.2 hy;exact⟨r,by simp only[wZ,wI,h1];exact h3,tT hs h4⟩
  .cases h
 .rename_i l sz s c off;split at h
  .rename_i sz' e s' c' hl;split at h
   .rename_i hc;obtain⟨y,hy,rfl⟩:=aD.1 h;simp only[aA]at hc;obtain⟨⟨⟨c1,c2⟩,c3⟩,c4⟩:=hc;have c1:=aF c1;subst c1;cases ha with
    |elp _ _ _ _ _ l' w hl' hw hw0=>
     obtain⟨b,h1,h2,h3,ts,v',g1,g2,g3,g4⟩:=hh.at hl hl';have hlt:=qB hs.cs c4 hw g1;have hi:(w+c).toNat<ts.length:=by omega
     have hx:=aB hi;have hg:=g4 _ (cK hi);obtain⟨r,h5,h6⟩:=FB (rX hg.1 c2).2 hy;refine⟨r,?_,tT hs h6⟩;simp only[wZ,wI,h1,g3];exact aLb (λt ht=>(g4 t ht).2) hx h5
   .cases h
  .cases h
 .cases h
theorem GH.atN{hp:gL}{nl:Nat}{H:Hp}(hg:GH hp nl U O H){l x:Nat}{o:AO}(h:pY hp l=some o)(hx:O[l]? =some (some x))(ho:o.plain=false:=by rfl):∃b,H.any x=some b/\Ti U O o b:=by
 obtain⟨y,h1,h2⟩:=hg.obj l o h;rw[hx]at h1;cases h1;have:=h2 x rfl;cases o<;>first|exact this|cases ho
theorem XK{P:fV}{kt:fS}{ik:iE}(hk:P.underlying kt=some (.int ik)){k:Int}:∀(es:List (Int×A)) (ms:gS) (i:Nat),es.length=ms.length->
  (∀(j:Nat) (k:Int) (a:A),es[j]? =some (k,a)->∃c' v,ms[j]? =some (c',.int .i64 k,v)/\Gm U O a v)->
  (∀a,XJ k es=some a->∃j b v,CT P kt (.int .i64 k) ms i=some (some (j,b,v))/\Gm U O a v)/\(XJ k es=none->CT P kt (.int .i64 k) ms i=some none)
 |[],[],_,_,_ =>⟨λa h=>by simp[XJ]at h,λ_ =>rfl⟩|[],_ ::_,_,h,_ =>by simp at h|_ ::_,[],_,h,_ =>by simp at h
 |(k',a')::es,(c0,k0,v0)::ms,i,hl,h=>by
  obtain⟨c',v,h1,h2⟩:=h 0 k' a' rfl;simp only[cQ,aC,aU]at h1;obtain⟨rfl,rfl,rfl⟩:=h1;have ih:=XK hk (k:=k) es ms (i+1) (by simpa using hl) (λj k a hj=>h (j+1) k a (by simpa using hj));have he:eqK P kt (.int .i64 k) (.int .i64 k')=some (k==k'):=by simp[eqK,eq1,hk]
  simp only[XJ,CT,he];by_cases hkk:k'=k
  .subst hkk;simp only[beq_self_eq_true,if_true];exact⟨λa h=>by cases h;exact⟨_,_,_,rfl,h2⟩,λh=>by cases h⟩
  .have h1:(k'==k)=false:=by simpa using hkk
   have h2:(k==k')=false:=by simp;exactλe=>hkk e.symm
   simp only[h1,h2,aY,if_false];exact ih
theorem Vm{P:fV}{hp:gL}{nl:Nat}{H:Hp}(h0:U[0]? =some 0)(hh:GH hp nl U O H){t:fS}{x k:A}{y z:T}(hx:Gm U O x y)(hk:Gm U O k z){ok:Bool}{b:A}(h:Js P hp t x k ok=some b):
  ∃r,zH P H t y z ok=some r/\Gm U O b r:=by
 unfold Js at h;split at h
 .rename_i l ik s c;split at h
  .rename_i hc;simp only[aA,beq_iff_eq]at hc;obtain⟨rfl,hc⟩:=hc;have hc:s=0:=aF hc;subst hc;cases hx with
   |mp _ l' hl'=>
   cases hk with
   |int _ _ _ v hv hin=>
   rw[h0]at hv;cases hv;simp only[fO]at*;split at h
   .rename_i es hf;split at h
    .rename_i kt et hu;split at h
     .rename_i ik hik;obtain⟨o,o1,c0,ms,o2,o3,o4⟩:=hh.atN hf hl';have hkey:IR P kt (.int .i64 c)=true:=by simp[IR,GE,hik]
      have hent:HQ H (.mp l')=some ms:=by simp only[HQ,o1,o2]
      have:=XK (U:=U) (O:=O) hik (k:=c) es ms 0 o3 o4;simp only[zH,hu,hkey,hent,if_true];split at h
      .rename_i a ha;cases h;obtain⟨j,b,v,q1,q2⟩:=this.1 a ha;simp only[q1];cases ok with
       |true=>exact⟨_,rfl,.tup _ _ rfl λj a t h1 h2=>(qO.cons q2 (qO.cons (show Gm U O (.bool (.lit _)) (.bool _)from .bool (.lit _) _ (by simp[vK])) .nil)).2 j a t h1 h2⟩|false=>exact⟨_,rfl,q2⟩
      .rename_i ha;have q1:=this.2 ha;simp only[q1];split at h
       .rename_i z hz;cases h;obtain⟨z',e1,e2⟩:=CX (U:=U) (O:=O) h0 hz;simp only[e1];cases ok with
        |true=>exact⟨_,rfl,.tup _ _ rfl λj a t h1 h2=>(qO.cons e2 (qO.cons (show Gm U O (.bool (.lit _)) (.bool _)from .bool (.lit _) _ (by simp[vK])) .nil)).2 j a t h1 h2⟩|false=>exact⟨_,rfl,e2⟩
       .cases h
     .cases h
    .cases h
   .cases h
  .cases h
 .cases h
theorem Ml{a:A}{x:T}(ha:Gm U O a x){m:Nat}{b:A}(h:Xt a m=some b):∃y,aBr x m=some y/\Gm U O b y:=by
 unfold Xt at h;split at h
 .cases h;cases ha with
  |ref _ u off hk hu=>exact⟨_,rfl,.ref _ _ _ hk hu⟩
 .cases h;cases ha with
  |ptr _ _ l' hl'=>exact⟨_,rfl,.ptr _ _ l' hl'⟩
 .cases h;cases ha with
  |elp _ _ _ _ _ l' w hl' hw hw0=>exact⟨_,rfl,by rw[dW];exact .elp _ _ _ _ _ l' w hl' hw hw0⟩
 .cases h
theorem Bi{P:fV}{s:fS}{a:A}{x:T}(ha:Gm U O a x){f:Nat}{b:A}(h:LM P s a f=some b):∃y,CR P s x f=some y/\Gm U O b y:=by
 unfold LM at h;unfold CR;split at h
 .rename_i fd hfd;rw[hfd];simp only;split at h
  .rename_i m hm;rw[hm];simp only;split at h
   .cases h
   .rename_i h0;rw[if_neg h0];exact Ml ha h
  .cases h
 .cases h
theorem PL(h0:U[0]? =some 0){s1 s2:Nat}{c1 c2 v1 v2:Int}(h1:U[s1]? =some v1)(h2:U[s2]? =some v2){q:Nat}{d:Int}(h:aEw s1 c1 s2 c2=some (q,d)):
  ∃v,U[q]? =some v/\v+d=v1+c1+(v2+c2):=by
 unfold aEw at h;split at h
 .rename_i e;cases h;have:s2=0:=aF e;subst this;rw[h0]at h2;cases h2;exact⟨v1,h1,by omega⟩
 .split at h
  .rename_i e;cases h;have:s1=0:=aF e;subst this;rw[h0]at h1;cases h1;exact⟨v2,h2,by omega⟩
  .cases h
theorem XW{P:fV}(hs:Sy U n cs){t:fS}{a b:A}{x i:T}(ha:Gm U O a x)(hb:Gm U O b i){v:AV}(h:IK P n cs t a b=some v):
  ∃r,sP P t x i=some r/\VOk U O v r:=by
 unfold IK at h;split at h
 .rename_i k s c;cases hb with
  |int _ _ _ w hw hin=>
  split at h
  .rename_i e el s' c' hu;split at h
   .rename_i z hz;split at h
    .rename_i hc;simp only[aA]at hc;obtain⟨⟨⟨k1,k2⟩,k3⟩,k4⟩:=hc;have k3:=qB hs.cs k3 hs.zero hw;cases ha with
     |sl _ _ _ _ xs v' h1 h2 h3 h4=>
      have k4:=qB hs.cs k4 hw h2;have hi:(w+c).toNat<xs.length:=by omega
      have hg:=h4 _ (cK hi);have hlen:(xs[(w+c).toNat]).cells.length=z:=by rw[<-(rX hg k1).2.1];exact aF k2
      obtain⟨ρ',e1,e2,e3⟩:=tT hs hg;have hk:=YI (n:=n) (cs:=cs) k1;cases h;refine⟨.ref xs[(w+c).toNat] 0,?_,ρ',e1,e2,.ref _ _ _ hk e3⟩;rcases h1 with⟨rfl,rfl⟩|⟨f,rfl⟩|⟨full,m,f,rfl,rfl⟩
      .simp at hi
      .simp only[sP,hu];rw[if_pos (by omega),aB hi];simp only[hz];rw[if_pos hlen]
      .simp only[dV,fA]at hi h3;simp only[List.getElem_map,List.getElem_range]at hlen⊢;simp only[sP,hu];rw[if_pos (by omega)];simp only[hz];rw[if_pos hlen]
    .cases h
   .cases h
  .rename_i e es hu;split at h
   .rename_i z hz;split at h
    .rename_i hc;simp only[aA,uX,aJ]at hc;obtain⟨k1,k2⟩:=hc;have k1:s=0:=aF k1;subst k1;rw[hs.zero]at hw;cases hw;split at h
     .rename_i a0 ha0;split at h
      .rename_i hc2;simp only[aA]at hc2;obtain⟨m1,m2⟩:=hc2;cases ha with
       |slk _ _ xs g1 g2 g3=>
        have hi:c.toNat<xs.length:=by rw[<-g2];exact(aO.1 ha0).1
        have hx:=aB hi;have hg:=g3 _ _ _ ha0 hx;have hlen:(xs[c.toNat]).cells.length=z:=by rw[<-(rX hg m1).2.1];exact aF m2
        obtain⟨ρ',e1,e2,e3⟩:=tT hs hg;have hk:=YI (n:=n) (cs:=cs) m1;cases h;refine⟨.ref xs[c.toNat] 0,?_,ρ',e1,e2,.ref _ _ _ hk e3⟩;simp only[fO];rcases g1 with⟨rfl,rfl⟩|⟨f,rfl⟩|⟨full,m,f,rfl,rfl⟩
        .simp at hi
        .simp only[sP,hu];rw[if_pos k2,hx];simp only[hz];rw[if_pos hlen]
        .simp only[dV,fA]at hi;simp only[List.getElem_map,List.getElem_range]at hlen⊢;simp only[sP,hu];rw[if_pos (by omega)];simp only[hz];rw[if_pos hlen]
      .cases h
     .cases h
    .cases h
   .cases h
  .rename_i e l sz si ci s' c' hu;split at h
   .rename_i z hz;split at h
    .rename_i hc;simp only[aA]at hc;obtain⟨⟨⟨k1,k2⟩,k3⟩,k4⟩:=hc;have k1:sz=z:=aF k1;have k2:=qB hs.cs k2 hs.zero hw;split at h
     .rename_i q d hq;cases h;cases ha with
      |osl _ _ _ _ _ _ l' vi v' g1 g2 g3 g4 g5=>
       have k3:=qB hs.cs k3 hw g4;obtain⟨u,u1,u2⟩:=PL hs.zero g2 hw hq;have e:=Gm.elp (U:=U) (O:=O) l sz q d 0 l' u g1 u1 (by omega);refine⟨.ptr l' ((u+d).toNat*sz+0),?_,.here hs e⟩;simp only[sP,hu];rw[if_pos (by omega)];simp only[hz];rw[if_pos k1];have:(vi+ci).toNat+(w+c).toNat=(u+d).toNat:=by omega
       rw[this,Nat.add_zero]
      |osl0 _ _ _ _ _ _ vi v' g1 g2 g3 g4 g5=>
       have k3:=qB hs.cs k3 hw g4;omega
     .cases h
    .cases h
   .cases h
  .rename_i len e _ hu;split at h
   .rename_i z hz;split at h
    .rename_i hc;simp only[aA,uX,aJ]at hc;obtain⟨⟨k1,k2⟩,k3⟩:=hc;have k1:s=0:=aF k1;subst k1;rw[hs.zero]at hw;cases hw;obtain⟨y,hy,rfl⟩:=aD.1 h;obtain⟨r,r1,r2⟩:=Ml ha hy;refine⟨r,?_,.here hs r2⟩;simp only[sP,hu];rw[if_pos (by omega)];simp only[hz];rw[<-r1];congr 2;simp
    .cases h
   .cases h
  .cases h
 .cases h
theorem Bk{P:fV}(hs:Sy U n cs){t:fS}{a b:A}{x i:T}(ha:Gm U O a x)(hb:Gm U O b i){v:AV}(h:XV P n cs t a b=some v):
  ∃r,sP P t x i=some r/\VOk U O v r:=XW hs ha.unp hb h
theorem Fb(hs:Sy U n cs){s:Nat}{c w:Int}(hw:U[s]? =some w):∀(a_s:List A) (j:Nat) (a:A) (i:Nat),a_s[i]? =some a->((j+i:Nat):Int)=w+c->a∈Fa cs s c j a_s
 |b::bs,j,a,0,ha,he=>by
  simp at ha;subst ha;have he:(j:Int)=w+c:=by simpa using he
  simp only[Fa];split
  .rename_i hc;simp only[bF]at hc;rcases hc with hc|hc
   .have:=qB hs.cs hc hw hs.zero;omega
   .have q:=qB hs.cs hc hs.zero hw;omega
  .exact aL
 |b::bs,j,a,i+1,ha,he=>by
  have:=Fb (c:=c) hs hw bs (j+1) a i (by simpa using ha) (by omega);simp only[Fa];split
  .exact this
  .exact aG _ this
theorem aCr{P:fV}(hs:Sy U n cs){t:fS}{a b:A}{x i:T}(ha:Gm U O a x)(hb:Gm U O b i){v:AV}(h:Ve P n cs t a b=some v):
  ∃r,GC P t x i=some r/\VOk U O v r:=by
 unfold Ve at h;split at h
 .rename_i k s c;cases hb with
  |int _ _ _ w hw hin=>
  split at h
  .rename_i len e a_s hu;split at h
   .rename_i z hz;split at h
    .rename_i hc;simp only[aA]at hc;have k1:=qB hs.cs hc.1 hs.zero hw;have k2:=qB hs.cs hc.2 hw hs.zero;cases ha with
     |agg _ ts hl hg=>
     split at h
     .rename_i e0;have e0:s=0:=aF e0;subst e0;rw[hs.zero]at hw;cases hw;obtain⟨y,hy,rfl⟩:=aD.1 h;obtain⟨r,r1,r2⟩:=FB ⟨hl,hg⟩ hy;refine⟨r,?_,.here hs r2⟩;simp only[GC,hu];rw[if_pos (by omega)];simp only[hz];rw[<-r1];congr 2;simp
     .split at h
      .rename_i hag;split at h
       .rename_i hc2;cases h;simp only[aA]at hc2;have z1:z=1:=aF hc2.1;have hlen:a_s.length=len:=aF hc2.2;subst z1;have hi:(w+c).toNat<a_s.length:=by omega
        have hget:=aB hi;obtain⟨r,r1,r2⟩:=qO.at (U:=U) (O:=O) ⟨hl,hg⟩ hget;refine⟨r,?_,.here hs (.or _ _ r (Fb hs hw a_s 0 _ _ hget (by omega)) r2)⟩;simp only[GC,hu];rw[if_pos (by omega)];simp only[hz,wN,hag,Nat.mul_one];exact r1
       .cases h
      .cases h
    .cases h
   .cases h
  .rename_i hu;split at h
   .rename_i s' c' hl;obtain⟨l,v',rfl,q1,w1⟩:=xK hs.zero ha hl;split at h
    .rename_i hc;cases h;simp only[aA]at hc;have k1:=qB hs.cs hc.1 hs.zero hw;have k2:=qB hs.cs hc.2 hw q1;have hi:(w+c).toNat<l.length:=by omega
     refine⟨.int .u8 l[(w+c).toNat].toNat,?_,tT hs (.ival _ _ _ _ (by omega) ?_ ?_)⟩
     .simp only[GC,hu];rw[if_pos (by omega),aB hi];rfl
     .have:=UInt8.toNat_lt l[(w+c).toNat];omega
     .have:=UInt8.toNat_lt l[(w+c).toNat];simp only[HG,IntKind.min,IntKind.max,IntKind.bits,IntKind.signed];simp;omega
    .cases h
   .cases h
  .cases h
 .cases h
end
section
variable{U ρ':gJ}{O μ':fW}{n:Nat}{cs:List qV}
def aVc(U:gJ)(O:fW):Option A->Option T->Prop
 |none,none=>True|some a,some t=>Gm U O a t|_,_ =>False
theorem yJ{x:Option A}{y:jJ}(hr:aVc U O x y){s:Nat}{c w:Int}(hw:U[s]? =some w){s':Nat}{c':Int}(h:HJ x s c=some (s',c')):
  ∃w',U[s']? =some w'/\∀(d top:Nat),(d:Int)=w+c->0<=w'+c'->w'+c'<=top->vU y d top=some (w'+c').toNat:=by
 unfold HJ at h;split at h
 .cases h;cases y with
  |some y=>exact hr.elim|none=>exact⟨w,hw,λd top hd h0 ht=>by simp only[vU];rw[<-hd];simp⟩
 .cases h;cases y with
  |none=>exact hr.elim
  |some y=>
   cases hr with
   |int _ _ _ w' hw' _ =>exact⟨w',hw',λd top hd h0 ht=>by simp only[vU];rw[if_pos ⟨h0,ht⟩]⟩
 .cases h
theorem NH(hs:Sy U n cs){sl sh:Nat}{cl ch l h:Int}(hl:U[sl]? =some l)(hh:U[sh]? =some h)(h0:0<=l+cl)(hlh:l+cl<=h+ch):
  ∃ρ',uA U ρ'/\Sy ρ' (GX n cs sl cl sh ch).2.2.1 (GX n cs sl cl sh ch).2.2.2/\∃v,ρ'[(GX n cs sl cl sh ch).1]? =some v/\v+(GX n cs sl cl sh ch).2.1=h+ch-(l+cl):=by
 unfold GX;split
 .rename_i e;have:sl=0:=aF e;subst this;rw[hs.zero]at hl;cases hl;exact⟨U,.refl _,hs,h,hh,by simp;omega⟩
 .split
  .rename_i e;have:sl=sh:=aF e;subst this;rw[hl]at hh;cases hh;exact⟨U,.refl _,hs,0,hs.zero,by simp;omega⟩
  .obtain⟨e1,e2,e3,e4⟩:=hs.new (h+ch-(l+cl));refine⟨_,e1,⟨e3,e4,XT (λq=>⟨_,h,e2,e1 _ _ hh,?_⟩) (.cons ⟨0,_,e4,e2,?_⟩ (.cons ⟨_,h,e2,e1 _ _ hh,by omega⟩ (hs.cs.ext e1)))⟩,_,e2,by simp⟩
   .have:=qB hs.cs q hs.zero hl;omega
   .split
    .rename_i q;have:=qB hs.cs q hl hh;omega
    .omega
theorem Vh{t:T}{xs:fU}(h:CK t xs){P:fV}{ty e:fS}(hu:P.underlying ty=some (.slice e)){z:Nat}(hz:vZ P e=some z)(hc:∀x∈xs,x.cells.length=z)
  {lo hi:jJ} {l h':Nat} (hlo:vU lo 0 h'=some l) (hhi:vU hi xs.length xs.length=some h') (hle:l<=h') (hh:h'<=xs.length):
  ∃r,AJ P ty t lo hi=some r/\CK r ((xs.take h').drop l):=by
 rcases h with⟨rfl,rfl⟩|⟨f,rfl⟩|⟨full,m,f,rfl,rfl⟩
 .simp at hhi hh;subst hh;have:l=0:=by omega
  subst this;exact⟨.nils,by simp[AJ,hu,hhi,hlo,hz],.inl ⟨rfl,by simp⟩⟩
 .refine⟨.sl (f&&h'==xs.length) ((xs.take h').drop l),?_,.inr (.inl ⟨_,rfl⟩)⟩;have hk:IJ z xs=true:=by
   cases xs with
   |nil=>rfl|cons x r=>simp only[IJ,beq_iff_eq];exact hc x (by simp)
  simp only[AJ,hu,hhi,hlo,hz];rw[if_pos hk]
 .simp only[dV,fA]at hhi hh;refine⟨.slf (full&&h'==m) (h'-l) (λi=>f (l+i)),?_,.inr (.inr ⟨_,_,_,rfl,?_⟩)⟩
  .simp only[AJ,hu,hhi,hlo,hz];rw[if_neg];intro⟨q1,q2⟩;exact q2 (hc (f l) (bQ.2 ⟨l,by simp;omega,rfl⟩))
  .apply fI;intro j;rw[bZ,bD,bA,bA];by_cases hj:l+j<h'
   .rw[if_pos hj,dP (by omega),dP (by omega)];rfl
   .rw[if_neg hj,bU (by simp;omega)];rfl
theorem aEl{P:fV}(hs:Sy U n cs){t:fS}{a:A}{x:T}{lo hi:Option A}{lo' hi':jJ}(ha:Gm U O a x)(hlo:aVc U O lo lo')(hhi:aVc U O hi hi'){v:AV}
  (h:Wo P n cs t a lo hi=some v):∃r,AJ P t x lo' hi'=some r/\VOk U O v r:=by
 unfold Wo at h;split at h
 .rename_i hu;split at h
  .rename_i s c hl;obtain⟨l,w,rfl,q1,w1⟩:=xK hs.zero ha hl;split at h
   .rename_i sh ch hbh;obtain⟨h',r1,r2⟩:=yJ hhi q1 hbh;split at h
    .rename_i s0 c0 hbl;obtain⟨l',r3,r4⟩:=yJ hlo hs.zero hbl;split at h
     .rename_i hc;simp only[aA]at hc;have k1:=qB hs.cs hc.1.1 hs.zero r3;have k2:=qB hs.cs hc.1.2 r3 r1;have k3:=qB hs.cs hc.2 r1 q1;obtain⟨ρ',b1,b2,u,b3,b4⟩:=NH hs r3 r1 (by omega) k2;generalize GX n cs s0 c0 sh ch=bw at h b2 b3 b4;obtain⟨s1,c1,n1,cs1⟩:=bw;simp only at b2 b3 b4 h;cases h;have e1:=r2 l.length l.length (by omega) (by omega) (by omega);have e2:=r4 0 (h'+ch).toNat (by omega) (by omega) (by omega);refine⟨.str ((l.take (h'+ch).toNat).drop (l'+c0).toNat),by simp only[AJ,hu,e1,e2],ρ',b1,b2,.str _ _ u _ b3 ?_⟩;rw[cY,dX];omega
     .cases h
    .cases h
   .cases h
  .cases h
 .rename_i e hu;split at h
  .rename_i el s c;cases ha with
   |sl _ _ _ _ xs w h1 h2 h3 h4=>
   split at h
   .rename_i sh ch hbh;obtain⟨h',r1,r2⟩:=yJ hhi h2 hbh;split at h
    .rename_i s0 c0 hbl;obtain⟨l',r3,r4⟩:=yJ hlo hs.zero hbl;split at h
     .rename_i z hz;split at h
      .rename_i hc;simp only[aA]at hc;obtain⟨⟨⟨⟨k0,k0'⟩,k1⟩,k2⟩,k3⟩:=hc;have k1:=qB hs.cs k1 hs.zero r3;have k2:=qB hs.cs k2 r3 r1;have k3:=qB hs.cs k3 r1 h2;obtain⟨ρ',b1,b2,u,b3,b4⟩:=NH hs r3 r1 (by omega) k2;generalize GX n cs s0 c0 sh ch=bw at h b2 b3 b4;obtain⟨s1,c1,n1,cs1⟩:=bw;simp only at b2 b3 b4 h;cases h;have e1:=r2 xs.length xs.length (by omega) (by omega) (by omega);have e2:=r4 0 (h'+ch).toNat (by omega) (by omega) (by omega);have hcl:∀x∈xs,x.cells.length=z:=λx hx=>by
        rw[<-(rX (h4 x hx) k0).2.1];exact aF k0'
       obtain⟨r,g1,g2⟩:=Vh h1 hu hz hcl e2 e1 (by omega) (by omega);refine⟨r,g1,ρ',b1,b2,.sl _ _ _ r _ u g2 b3 (by rw[cY,dX];omega) (λx hx=> ?_)⟩;exact(h4 x (eX (fH hx))).ext b1 (.refl _)
      .cases h
     .cases h
    .cases h
   .cases h
  .rename_i l sz si ci s c;split at h
   .rename_i sh ch hbh;split at h
    .rename_i s0 c0 hbl;split at h
     .rename_i z hz;split at h
      .rename_i hc;simp only[aA]at hc;obtain⟨⟨⟨⟨k0,k0'⟩,k1⟩,k2⟩,k3⟩:=hc;have k0:sz=z:=aF k0;split at h
       .rename_i q d hq;cases ha with
        |osl _ _ _ _ _ _ l' vi w g1 g2 g3 g4 g5=>
         obtain⟨h',r1,r2⟩:=yJ hhi g4 hbh;obtain⟨l0,r3,r4⟩:=yJ hlo hs.zero hbl;have k1:=qB hs.cs k1 hs.zero r3;have k2:=qB hs.cs k2 r3 r1;have k3:=qB hs.cs k3 r1 g4;obtain⟨ρ',b1,b2,u,b3,b4⟩:=NH hs r3 r1 (by omega) k2;generalize GX n cs s0 c0 sh ch=bw at h b2 b3 b4;obtain⟨s1,c1,n1,cs1⟩:=bw;simp only at b2 b3 b4 h;have e1:=r2 (w+c).toNat (w+c).toNat (by omega) (by omega) (by omega);have e2:=r4 0 (h'+ch).toNat (by omega) (by omega) (by omega);obtain⟨m,u1,u2⟩:=PL hs.zero g2 r3 hq;cases h;refine⟨.osl l' sz ((vi+ci).toNat+(l0+c0).toNat) ((h'+ch).toNat-(l0+c0).toNat),?_,ρ',b1,b2,?_⟩
         .simp only[AJ,hu,e1,e2,hz];rw[if_pos k0.symm]
         .have a1:(vi+ci).toNat+(l0+c0).toNat=(m+d).toNat:=by omega
          have a2:(h'+ch).toNat-(l0+c0).toNat=(u+c1).toNat:=by omega
          rw[a1,a2];exact .osl _ _ _ _ _ _ l' m u g1 (b1 _ _ u1) (by omega) b3 (by omega)
        |osl0 _ _ _ _ _ _ vi w g1 g2 g3 g4 g5=>
         obtain⟨h',r1,r2⟩:=yJ hhi g4 hbh;obtain⟨l0,r3,r4⟩:=yJ hlo hs.zero hbl;have k1:=qB hs.cs k1 hs.zero r3;have k2:=qB hs.cs k2 r3 r1;have k3:=qB hs.cs k3 r1 g4;obtain⟨ρ',b1,b2,u,b3,b4⟩:=NH hs r3 r1 (by omega) k2;generalize GX n cs s0 c0 sh ch=bw at h b2 b3 b4;obtain⟨s1,c1,n1,cs1⟩:=bw;simp only at b2 b3 b4 h;have e1:=r2 0 0 (by omega) (by omega) (by omega);have e2:=r4 0 0 (by omega) (by omega) (by omega);obtain⟨m,u1,u2⟩:=PL hs.zero g2 r3 hq;cases h;refine⟨.nils,?_,ρ',b1,b2,.osl0 _ _ _ _ _ _ m u g1 (b1 _ _ u1) (by omega) b3 (by omega)⟩;simp only[AJ,hu,e1,e2,hz];rfl
       .cases h
      .cases h
     .cases h
    .cases h
   .cases h
  .cases h
 .cases h
theorem Jh{m:Nat}(h:(m:Int)<=9000000000000000000):HG .i64 (m:Int):=wY (by omega)
theorem aKa{P:fV}(hs:Sy U n cs){t:fS}{a:A}{x:T}(ha:Gm U O a x){b:A}(h:aJz P cs t a=some b):∃r,CU P t x=some r/\Gm U O b r:=by
 unfold aJz at h;split at h
 .have hu:=‹P.underlying t=_›;split at h
  .rename_i hl;cases h;cases ha;simp only[uX,aJ]at hl;exact⟨_,by simp only[CU,hu],vG hs.zero (by omega) (Jh hl)⟩
  .cases h
 .have hu:=‹P.underlying t=_›;split at h
  .rename_i hk;cases h;cases ha with
   |str _ _ w l q1 q2=>
    have:=XU hs.cs hs.zero hk q1;rw[<-q2]at this;exact⟨_,by simp only[CU,hu],vG q1 q2 this⟩
  .cases h
 .have hu:=‹P.underlying t=_›;cases h;cases ha;exact⟨.int .i64 0,by simp only[CU,hu],vG hs.zero (by omega) (wY (by omega))⟩
 .have hu:=‹P.underlying t=_›;split at h
  .rename_i hk;cases h;simp only[uX,aJ]at hk;cases ha with
   |slk es _ xs h1 h2 h3=>
    have hi:=Jh hk;rw[h2]at hi;rcases h1 with⟨rfl,rfl⟩|⟨f,rfl⟩|⟨full,m,f,rfl,rfl⟩
    .exact⟨.int .i64 0,by simp only[CU,hu],vG hs.zero (by rw[h2];simp) (wY (by omega))⟩
    .exact⟨_,by simp only[CU,hu],vG hs.zero (by rw[h2];simp) hi⟩
    .simp only[dV,fA]at hi h2;exact⟨_,by simp only[CU,hu],vG hs.zero (by rw[h2];simp) hi⟩
  .cases h
 .have hu:=‹P.underlying t=_›;split at h
  .rename_i hk;cases h;cases ha with
   |sl _ _ _ _ xs w h1 q1 q2 _ =>
    have hi:=XU hs.cs hs.zero hk q1;rw[<-q2]at hi;rcases h1 with⟨rfl,rfl⟩|⟨f,rfl⟩|⟨full,m,f,rfl,rfl⟩
    .exact⟨.int .i64 0,by simp only[CU,hu],vG q1 (by simpa using q2) (wY (by omega))⟩
    .exact⟨_,by simp only[CU,hu],vG q1 q2 hi⟩
    .simp only[dV,fA]at q2 hi;exact⟨_,by simp only[CU,hu],vG q1 q2 hi⟩
  .cases h
 .have hu:=‹P.underlying t=_›;split at h
  .rename_i hk;cases h;cases ha with
   |osl _ _ _ _ _ _ l' vi w g1 g2 g3 g4 g5=>
    have hi:=XU hs.cs hs.zero hk g4;refine⟨_,by simp only[CU,hu];rfl,?_⟩;rw[Int.toNat_of_nonneg g5];exact vG g4 rfl hi
   |osl0 _ _ _ _ _ _ vi w g1 g2 g3 g4 g5=>
    exact⟨.int .i64 0,by simp only[CU,hu],vG g4 g5.symm (wY (by omega))⟩
  .cases h
 .have hu:=‹P.underlying t=_›;split at h
  .rename_i hk;cases h;cases ha with
   |sx _ _ full m f w q1 q2=>
    have hi:=XU hs.cs hs.zero hk q1;rw[<-q2]at hi;exact⟨.int .i64 m,by simp only[CU,hu],vG q1 q2 hi⟩
  .cases h
 .have hu:=‹P.underlying t=_›;split at h
  .rename_i hl;cases h;simp only[uX,aJ]at hl;exact⟨_,by simp only[CU,hu],vG hs.zero (by omega) (Jh hl)⟩
  .cases h
 .have hu:=‹P.underlying t=_›;cases h;cases ha;exact⟨.int .i64 0,by simp only[CU,hu],vG hs.zero (by omega) (wY (by omega))⟩
 .cases h
theorem aQp{P:fV}(hs:Sy U n cs){t:fS}{a:A}{x:T}(ha:Gm U O a x){b:A}(h:bFm P cs t a=some b):∃r,CU P t x=some r/\Gm U O b r:=aKa hs ha.unp h
theorem Lo{s s':Nat}{c c' m w w':Int}{ρ':gJ}(hs:Sy U n cs)(hw:U[s]? =some w)(hw':U[s']? =some w')(hm:m=w+c\/m=w'+c')(e1:uA U ρ')(e2:ρ'[n]? =some m){r:List qV}(hr:qM ρ' r):∀k,k<=n->qM ρ' (aMm n cs s c s' c' r k)
 |0,_ =>hr
 |k+1,hk=>by
  unfold aMm;split
  .rename_i h;simp only[aA]at h;have hkl:k<U.length:=by rw[hs.len];omega
   have hy:U[k]? =some U[k]:=aB hkl;have q1:=qB hs.cs h.2.1 hy hw;have q2:=qB hs.cs h.2.2 hy hw';exact .cons ⟨_,_,e1 _ _ hy,e2,by omega⟩ (Lo hs hw hw' hm e1 e2 hr k (by omega))
  .exact Lo hs hw hw' hm e1 e2 hr k (by omega)
theorem aRb(hs:Sy U n cs){a b:A}{x y:T}(ha:Gm U O a x)(hb:Gm U O b y){v:AV}(h:aXp n cs a b=some v):∃r,aRc x y=some r/\VOk U O v r:=by
 unfold aXp at h;split at h
 .rename_i k s c k' s' c';cases ha with
  |int _ _ _ w hw hi=>cases hb with
   |int _ _ _ w' hw' hi'=>
   split at h
   .cases h
   rename_i hk;have hk:k=k':=by simpa using hk
   subst hk;refine⟨_,rfl,?_⟩;split at h
   .rename_i hc;have:=qB hs.cs hc hw hw';cases h;rw[if_neg (by omega)];exact .here hs (vG hw rfl hi)
   .split at h
    .rename_i hc;have:=qB hs.cs hc hw' hw;cases h;have e:(if w'+c'<w+c then w'+c' else w+c)=w'+c':=by split<;>omega
     rw[e];exact .here hs (vG hw' rfl hi')
    .cases h;have hin:HG k (if w'+c'<w+c then w'+c' else w+c):=by split<;>assumption
     generalize he:(if w'+c'<w+c then w'+c' else w+c)=m at hin;have h1:m<=w+c/\m<=w'+c'/\(m=w+c\/m=w'+c'):=by rw[<-he];split<;>omega
     obtain⟨e1,e2,e3,e4⟩:=hs.new m;refine GG hs hin (.cons ⟨m,w,e2,e1 _ _ hw,h1.1⟩ (.cons ⟨m,w',e2,e1 _ _ hw',h1.2.1⟩ (.cons ⟨m,0,e2,e4,by have:=hin.2;omega⟩ (.cons ⟨0,m,e4,e2,?_⟩ (Lo hs hw hw' h1.2.2 e1 e2 (hs.cs.ext e1) n (aZ _))))));split
     .rename_i hc;simp only[aA]at hc;have q1:=qB hs.cs hc.1 hs.zero hw;have q2:=qB hs.cs hc.2 hs.zero hw';omega
     .have:=hin.1;omega
 .cases h
theorem aZj{s s':Nat}{c c' m w w':Int}{ρ':gJ}(hs:Sy U n cs)(hw:U[s]? =some w)(hw':U[s']? =some w')(hm:m=w+c\/m=w'+c')(e2:ρ'[n]? =some m)(e4:ρ'[0]? =some 0){r:List qV}(hr:qM ρ' r):qM ρ' (ubM cs n s c s' c' r):=by
 unfold ubM;split
 .rename_i u u' h1 h2;have a1:=EI hs.zero hw hs.cs h1;have a2:=EI hs.zero hw' hs.cs h2;refine .cons ⟨_,_,e2,e4,?_⟩ hr;split
  .rename_i hc;simp only[uX,aJ]at hc;omega
  .rename_i hc;simp only[uX,aJ]at hc;omega
 .exact hr
theorem aQy(hs:Sy U n cs){a b:A}{x y:T}(ha:Gm U O a x)(hb:Gm U O b y){v:AV}(h:aXo n cs a b=some v):∃r,aQz x y=some r/\VOk U O v r:=by
 unfold aXo at h;split at h
 .rename_i k s c k' s' c';cases ha with
  |int _ _ _ w hw hi=>cases hb with
   |int _ _ _ w' hw' hi'=>
   split at h
   .cases h
   rename_i hk;have hk:k=k':=by simpa using hk
   subst hk;refine⟨_,rfl,?_⟩;split at h
   .rename_i hc;have:=qB hs.cs hc hw hw';cases h;have e:(if w+c<w'+c' then w'+c' else w+c)=w'+c':=by split<;>omega
    rw[e];exact .here hs (vG hw' rfl hi')
   .split at h
    .rename_i hc;have:=qB hs.cs hc hw' hw;cases h;rw[if_neg (by omega)];exact .here hs (vG hw rfl hi)
    .cases h;have hin:HG k (if w+c<w'+c' then w'+c' else w+c):=by split<;>assumption
     generalize he:(if w+c<w'+c' then w'+c' else w+c)=m at hin;have h1:w+c<=m/\w'+c'<=m/\(m=w+c\/m=w'+c'):=by rw[<-he];split<;>omega
     obtain⟨e1,e2,e3,e4⟩:=hs.new m;exact GG hs hin (.cons ⟨w,m,e1 _ _ hw,e2,by omega⟩ (.cons ⟨w',m,e1 _ _ hw',e2,by omega⟩ (.cons ⟨0,m,e4,e2,by have:=hin.1;omega⟩ (.cons ⟨m,0,e2,e4,by have:=hin.2;omega⟩ (aZj hs hw hw' h1.2.2 e2 e4 (hs.cs.ext e1))))))
 .cases h
theorem XM{f:Nat->List qV->A->A->Option AV}{g:T->T->Option T}
  (hf:∀(U:gJ) (n:Nat) (cs:List qV) (a b:A) (x y:T) (v:AV),Sy U n cs->Gm U O a x->Gm U O b y->f n cs a b=some v->∃r,g x y=some r/\VOk U O v r):
  ∀(bs:List A) (U:gJ) (n:Nat) (cs:List qV) (a:A) (x:T) (ys:fU) (v:AV),Sy U n cs->Gm U O a x->qO U O bs ys->Ef f n cs a bs=some v->∃r,HV g x ys=some r/\VOk U O v r
 |[],U,n,cs,a,x,ys,v,hs,ha,hb,h=>by
  rw[hb.inv_nil];simp only[Ef]at h;cases h;exact⟨x,rfl,.here hs ha⟩
 |b::bs,U,n,cs,a,x,ys,v,hs,ha,hb,h=>by
  obtain⟨y,r,rfl,h1,h2⟩:=hb.inv_cons;simp only[Ef]at h;split at h
  .rename_i z n1 cs1 hz;obtain⟨q,e1,ρ1,e2,e3,e4⟩:=hf U n cs a b x y _ hs ha h1 hz;obtain⟨w,e5,ρ2,e6,e7,e8⟩:=XM hf bs ρ1 n1 cs1 z q r v e3 e4 (h2.ext e2 (.refl _)) h;exact⟨w,by simp only[HV,e1];exact e5,ρ2,e2.trans e6,e7,e8⟩
  .cases h
theorem MM{a_s bs:List A}{ts us:fU}(h:qO U O a_s ts)(h':qO U O bs us)(off:Nat):qO U O (PH a_s off bs) (sI ts off us):=by
 unfold PH sI;rw[h'.1];exact((h.take off).app h').app (h.drop _)
theorem XH{place:jP}:∀(ps:List (Nat×A)) (qs:iM) (a_s:List A) (ts:fU) (bs:List A),ps.map Prod.fst=qs.map Prod.fst->qO U O (ps.map Prod.snd) (qs.map Prod.snd)->qO U O a_s ts->Eb place a_s ps=some bs->
  ∃us,KU place ts qs=some us/\qO U O bs us
 |[],[],a_s,ts,bs,_,_,h,he=>by simp only[Eb]at he;cases he;exact⟨ts,rfl,h⟩
 |(i,a)::ps,(j,t)::qs,a_s,ts,bs,h1,h2,h,he=>by
  simp only[cB,eP]at h1 h2;obtain⟨rfl,h1⟩:=h1;simp only[Eb]at he;split at he
  .cases he
  .rename_i off size hp;split at he
   .rename_i hc;obtain⟨c1,c2,c3⟩:=hc;obtain⟨_,k2⟩:=rX h2.head c1;obtain⟨us,g1,g2⟩:=XH ps qs _ _ bs h1 h2.tail (MM h k2 off) he;refine⟨us,?_,g2⟩;simp only[KU,hp];rw[if_pos ⟨by rw[<-k2.1];exact c2,by rw[<-h.1];exact c3⟩];exact g1
   .cases he
 |[],_ ::_,_,_,_,h,_,_,_ =>by simp at h|_ ::_,[],_,_,_,h,_,_,_ =>by simp at h
theorem Kb{v:gQ}{a:A}(h:IY v=some a):a.known=true:=by
 unfold IY at h;split at h
 .split at h
  .cases h;rfl
  .cases h
 .split at h
  .cases h;rfl
  .cases h
 .unfold KI at h;split at h<;>first|(cases h;rfl)|cases h|skip
  split at h<;>cases h;rfl
theorem Ta{P:fV}{t:fS}{a:A}(h:JN P t=some a):a.known=true:=by
 unfold JN at h;split at h
 .split at h
  .exact Kb h
  .cases h
 .cases h
theorem aCa{P:fV}(h0:U[0]? =some 0){t:fS}{ps:List (Nat×A)}{qs:iM}(h1:ps.map Prod.fst=qs.map Prod.fst)(h2:qO U O (ps.map Prod.snd) (qs.map Prod.snd)){b:A}(h:Uc P t ps=some b):
  ∃r,WL P t qs=some r/\Gm U O b r:=by
 unfold Uc at h;split at h
 .rename_i z hz;obtain⟨z',e1,e2⟩:=CX (U:=U) (O:=O) h0 hz;obtain⟨_,k2⟩:=rX e2 (Ta hz);unfold WL;rw[e1];simp only;split at h
  .rename_i fs hu;rw[hu];simp only;split at h
   .rename_i pl hpl;rw[hpl];obtain⟨us,g,rfl⟩:=aD.1 h;obtain⟨vs,g1,g2⟩:=XH ps qs _ _ us h1 h2 k2 g;exact⟨.agg vs,by simp only[g1];rfl,.agg _ _ g2.1 g2.2⟩
   .cases h
  .rename_i e hu;rw[hu];simp only;split at h
   .rename_i s hsz;rw[hsz];obtain⟨us,g,rfl⟩:=aD.1 h;obtain⟨vs,g1,g2⟩:=XH ps qs _ _ us h1 h2 k2 g;exact⟨.agg vs,by simp only[g1];rfl,.agg _ _ g2.1 g2.2⟩
   .cases h
  .cases h
 .cases h
theorem SY:∀{a_s:List A} {a:A},EZ.allSome a_s=true->a∈a_s->∃f x y,a= .fn f x y
 |b::bs,a,h,hm=>by
  cases b<;>simp only[EZ.allSome]at h<;>try(cases h;done)
  rcases aR.1 hm with rfl|hm
  .exact⟨_,_,_,rfl⟩
  .exact SY h hm
theorem Jw{a:A}{x:T}(ha:Gm U O a x){b:A}(h:EZ a=some b):∃r,RS x=some r/\Gm U O b r:=by
 cases a<;>simp only[EZ]at h<;>try(cases h;done)
 case ptr=>cases h;cases ha with|ptr _ _ l' hl=>exact⟨_,rfl,.ptr _ _ l' hl⟩
 case elp=>cases h;cases ha with|elp _ _ _ _ _ l' w h1 h2 h3=>exact⟨_,rfl,.elp _ _ _ _ _ l' w h1 h2 h3⟩
 case ref=>cases h;cases ha with|ref _ t _ h1 h2=>exact⟨_,rfl,.ref _ t _ h1 h2⟩
 case fn=>cases h;cases ha with|fn _ _ _ a' b' h1 h2 h3 h4=>exact⟨_,rfl,.fn _ _ _ a' b' h1 h2 h3 h4⟩
 case iface=>cases h;cases ha with|iface _ _ y h1=>exact⟨_,rfl,.iface _ _ y h1⟩
 case or a_s=>
  split at h
  .rename_i hs;cases h;cases ha with
   |or _ c _ hm hc=>
    obtain⟨f,p,q,rfl⟩:=SY hs hm;cases hc with
    |fn _ _ _ a' b' h1 h2 h3 h4=>exact⟨_,rfl,.or _ _ _ hm (.fn _ _ _ a' b' h1 h2 h3 h4)⟩
  .cases h
end
section
variable{U ρ':gJ}{O μ':fW}{n:Nat}{cs:List qV}{X:AX}{gl:fY}{pe:gN}
theorem aKk{a b:Nat}(h:Nat.beq a b=true):a=b:=aF h
theorem uB:∀(hp:gL) (l m:Nat) (o:AO),pY (CD hp l o) m=if l=m then(pY hp l).map (λ_ =>o)else pY hp m
 |[],l,m,o=>by simp[CD,pY]
 |(k,q)::r,l,m,o=>by
  have ih:=uB r l m o;by_cases hk:k=l
  .by_cases hm:k=m
   .simp[CD,pY,<-hk,<-hm]
   .have:¬l=m:=λe=>hm (hk.trans e);simp[CD,pY,hk,this,ih]
  .by_cases hm:k=m
   .have:¬l=m:=λe=>hk (hm.trans e.symm);simp[CD,pY,hk,hm,this];simp[<-hm,hk,pY]
   .simp[CD,pY,hk,hm,ih]
theorem CS:∀(hp:gL) (l m:Nat),pY (wU hp l) m=if l=m then none else pY hp m
 |[],l,m=>by simp[wU,pY]
 |(k,q)::r,l,m=>by
  have ih:=CS r l m;by_cases hk:k=l
  .by_cases hm:k=m
   .subst hk;subst hm;simp[wU];simpa using ih
   .have:¬l=m:=λe=>hm (hk.trans e);simp[wU,pY,hk,this,ih]
  .by_cases hm:k=m
   .have:¬l=m:=λe=>hk (hm.trans e.symm);simp[wU,pY,hk,hm,this];simp[<-hm,hk,pY]
   .simp[wU,pY,hk,hm,ih]
variable{hp:gL}{nl:Nat}{H:Hp}
theorem GH.extM(hh:GH hp nl U O H)(y:iB):∀l o,pY hp l=some o->∃q,(O++[y])[l]? =some q/\O[l]? =some q/\∀x,q=some x->∃b,Ka o H x=some b/\Ti U (O++[y]) o b:=λl o hl=>by
 obtain⟨q,h1,h2⟩:=hh.obj l o hl;exact⟨q,uA.app _ _ _ _ h1,h1,λx hx=>by obtain⟨b,h3,h4⟩:=h2 x hx;exact⟨b,h3,h4.ext (.refl _) (.app _ _)⟩⟩
theorem tM{Z:Type}{l:List Z}{m:Nat}(h:l.length=m)(y:Z):(l++[y])[m]? =some y:=by subst h;simp
theorem wH{Z:Type}{l:List Z}{m:Nat}(h:l.length=m){y z:Z}{j:Nat}(hj:(l++[y])[j]? =some z):(j=m/\y=z)\/(j<m/\l[j]? =some z):=by
 subst h;rw[dT]at hj;split at hj
 .exact .inr ⟨‹_›,hj⟩
 .rename_i hlt;have:j=l.length:=by
   have:=(aO.1 hj).1;simp at this;omega
  subst this;simp at hj;exact .inl ⟨rfl,hj⟩
theorem ZC{o:AO}{b:Ob}(h:Ti U O o b)(hme:b.me=none):o.plain=true:=by
 cases o with
 |loop=>obtain⟨r,h1,_⟩:=h;rw[hme]at h1;cases h1
 |map=>obtain⟨c,ms,h1,_⟩:=h;rw[hme]at h1;cases h1
 |_ =>rfl
theorem Py{q:AO}{b:Ob}{x:Nat}(hx:x<H.next):Ka q (H.new b) x=Ka q H x:=by
 have h1:(H.new b).any x=H.any x:=by rw[sB,if_neg (by omega)]
 cases q<;>first|exact h1|exact QZ h1
theorem Pz{q:AO}{b:Ob}{x z:Nat}(hz:z≠x):Ka q (H.put x b) z=Ka q H z:=by
 have h1:(H.put x b).any z=H.any z:=by rw[sH,if_neg hz]
 cases q<;>first|exact h1|exact QZ h1
theorem GH.new(hh:GH hp nl U O H){o:AO}{b:Ob}(hb:Ti U (O++[some H.next]) o b)(hme:b.me=none:=by rfl):GH ((nl,o)::hp) (nl+1) U (O++[some H.next]) (H.new b):=by
 refine⟨by simp[hh.len],λl q hl=> ?_,λl l' q q' x hl hl' hx hx'=> ?_,λl x hx=> ?_,λl e xs hl=> ?_,Yq hh.fin b⟩
 .simp only[pY]at hl;split at hl
  .rename_i e;have e:=aF e;subst e;cases hl;exact⟨some H.next,tM hh.len _,λx hx=>by cases hx;exact⟨b,by rw[GK (ZC hb hme),Ux _ _ _ hme,if_pos rfl],hb⟩⟩
  .obtain⟨y,h1,h2,h3⟩:=hh.extM (some H.next) l q hl;refine⟨y,h1,λx hx=> ?_⟩;obtain⟨c,h4,h5⟩:=h3 x hx;subst hx;exact⟨c,by rw[Py (hh.lt l x h2)];exact h4,h5⟩
 .rcases wH hh.len hx with⟨e1,e2⟩|⟨e1,e2⟩
  .rcases wH hh.len hx' with⟨e3,e4⟩|⟨e3,e4⟩
   .omega
   .have:=hh.lt _ _ e4;cases e2;omega
  .rcases wH hh.len hx' with⟨e3,e4⟩|⟨e3,e4⟩
   .have:=hh.lt _ _ e2;cases e4;omega
   .simp only[pY]at hl hl';rw[if_neg (by simp;omega)]at hl hl';exact hh.inj l l' q q' x hl hl' e2 e4
 .rcases wH hh.len hx with⟨e1,e2⟩|⟨e1,e2⟩
  .cases e2;simp[Hp.new]
  .have:=hh.lt _ _ e2;simp[Hp.new];omega
 .simp only[pY]at hl;split at hl
  .rename_i e0;have e0:=aKk e0;subst e0;exact⟨_,tM hh.len _⟩
  .obtain⟨x,hx⟩:=hh.fixp l e xs hl;exact⟨x,uA.app _ _ _ _ hx⟩
theorem GH.alias(hh:GH hp nl U O H){o:AO}{y:iB}(hnf:∀e xs,o≠ .fix e xs)(hb:∀x,y=some x->x<H.next/\(∀l q,pY hp l=some q->O[l]? ≠some (some x))/\∃b,H.get x=some b/\Ti U (O++[y]) o b):GH ((nl,o)::hp) (nl+1) U (O++[y]) H:=by
 refine⟨by simp[hh.len],λl q hl=> ?_,λl l' q q' x hl hl' hx hx'=> ?_,λl x hx=> ?_,λl e xs hl=> ?_,hh.fin⟩
 .simp only[pY]at hl;split at hl
  .rename_i e;have e:=aF e;subst e;cases hl;exact⟨y,tM hh.len _,λx hx=>by obtain⟨b,h1,h2⟩:=(hb x hx).2.2;exact⟨b,by rw[GK (ZC h2 (qP h1).2)];exact h1,h2⟩⟩
  .obtain⟨y',h1,h2,h3⟩:=hh.extM y l q hl;exact⟨y',h1,h3⟩
 .have old:∀{l:Nat} {q:AO},l<nl->pY ((nl,o)::hp) l=some q->pY hp l=some q:=λh1 h2=>by
   simp only[pY]at h2;rw[if_neg (by simp;omega)]at h2;exact h2
  rcases wH hh.len hx with⟨e1,e2⟩|⟨e1,e2⟩
  .rcases wH hh.len hx' with⟨e3,e4⟩|⟨e3,e4⟩
   .omega
   .exact absurd e4 ((hb x e2).2.1 l' q' (old e3 hl'))
  .rcases wH hh.len hx' with⟨e3,e4⟩|⟨e3,e4⟩
   .exact absurd e2 ((hb x e4).2.1 l q (old e1 hl))
   .exact hh.inj l l' q q' x (old e1 hl) (old e3 hl') e2 e4
 .rcases wH hh.len hx with⟨e1,e2⟩|⟨e1,e2⟩
  .exact(hb x e2).1
  .exact hh.lt _ _ e2
 .simp only[pY]at hl;split at hl
  .cases hl;exact absurd rfl (hnf _ _)
  .obtain⟨x,hx⟩:=hh.fixp l e xs hl;exact⟨x,uA.app _ _ _ _ hx⟩
theorem GH.sub(hh:GH hp nl U O H){hp':gL}(h:∀l o,pY hp' l=some o->pY hp l=some o):GH hp' nl U O H:=
 ⟨hh.len,λl o hl=>hh.obj l o (h l o hl),λl l' q q' x hl hl'=>hh.inj l l' q q' x (h _ _ hl) (h _ _ hl'),hh.lt,λl e xs hl=>hh.fixp l e xs (h _ _ hl),hh.fin⟩
theorem GH.put(hh:GH hp nl U O H){l x:Nat}{o o':AO}{b b':Ob}(hl:pY hp l=some o)(hx:O[l]? =some (some x))(hg:H.get x=some b)(ho:Ti U O o' b')(hme:b'.me=none:=by rfl):GH (CD hp l o') nl U O (H.put x b'):=by
 refine⟨hh.len,λm q hm=> ?_,λm m' q q' y hm hm' hy hy'=> ?_,λm y hy=>hh.lt m y hy,λm e xs hm=> ?_,Yr hh.fin (hh.lt l x hx) _⟩
 .rw[uB]at hm;split at hm
  .rename_i e;subst e;rw[hl]at hm;cases hm;refine⟨some x,hx,λy hy=> ?_⟩;cases hy;exact⟨b',by rw[GK (ZC ho hme),get_put _ _ _ _ hme,if_pos rfl],ho⟩
  .rename_i hne;obtain⟨y,h1,h2⟩:=hh.obj m q hm;refine⟨y,h1,λz hz=> ?_⟩;obtain⟨c,h3,h4⟩:=h2 z hz;subst hz;have:z≠x:=λe=>by subst e;exact hne (hh.inj l m o q z hl hm hx h1)
   exact⟨c,by rw[Pz this];exact h3,h4⟩
 .have old:∀{m:Nat} {q:AO},pY (CD hp l o') m=some q->∃q,pY hp m=some q:=λ{m q} h=>by
   rw[uB]at h;split at h
   .rename_i e;subst e;exact⟨o,hl⟩
   .exact⟨q,h⟩
  obtain⟨p,HF⟩:=old hm;obtain⟨p',hp2⟩:=old hm';exact hh.inj m m' p p' y HF hp2 hy hy'
 .rw[uB]at hm;split at hm
  .rename_i e0;subst e0;exact⟨x,hx⟩
  .exact hh.fixp m e xs hm
theorem GH.dropR(hh:GH hp nl U O H){l x:Nat}{o:AO}(hl:pY hp l=some o)(hx:O[l]? =some (some x)):GH (wU hp l) nl U O (H.drop x):=by
 have old:∀{m:Nat} {q:AO},pY (wU hp l) m=some q->l≠m/\pY hp m=some q:=λ{m q} h=>by
  rw[CS]at h;split at h
  .cases h
  .exact⟨‹_›,h⟩
 refine⟨hh.len,λm q hm=> ?_,λm m' q q' y hm hm' hy hy'=>hh.inj m m' q q' y (old hm).2 (old hm').2 hy hy',λm y hy=>hh.lt m y hy,λm e xs hm=>hh.fixp m e xs (old hm).2,aIs hh.fin _⟩;obtain⟨hne,hm⟩:=old hm;obtain⟨y,h1,h2⟩:=hh.obj m q hm;refine⟨y,h1,λz hz=> ?_⟩;obtain⟨c,h3,h4⟩:=h2 z hz;subst hz;have:z≠x:=λe=>by subst e;exact hne (hh.inj l m o q z hl hm hx h1)
 refine⟨c,?_,h4⟩;have ha:(H.drop x).any z=H.any z:=by rw[sA,if_neg this]
 have:Ka q (H.drop x) z=Ka q H z:=by cases q<;>first|exact ha|exact QZ ha
 rw[this];exact h3
theorem GH.newL{hp:gL}{nl:Nat}{H:Hp}(hh:GH hp nl U O H){o:AO}{b:Ob}(hb:Ti U (O++[some H.next]) o b)(ho:o.plain=false):GH ((nl,o)::hp) (nl+1) U (O++[some H.next]) (H.new b):=by
 refine⟨by simp[hh.len],λl q hl=> ?_,λl l' q q' x hl hl' hx hx'=> ?_,λl x hx=> ?_,λl e xs hl=> ?_,Yq hh.fin b⟩
 .simp only[pY]at hl;split at hl
  .rename_i e;have e:=aF e;subst e;cases hl;refine⟨some H.next,tM hh.len _,λx hx=> ?_⟩;cases hx;refine⟨b,?_,hb⟩;have:(H.new b).any H.next=some b:=by rw[sB,if_pos rfl]
   cases o<;>first|exact this|cases ho
  .obtain⟨y,h1,h2,h3⟩:=hh.extM (some H.next) l q hl;refine⟨y,h1,λx hx=> ?_⟩;obtain⟨c,h4,h5⟩:=h3 x hx;subst hx;exact⟨c,by rw[Py (hh.lt l x h2)];exact h4,h5⟩
 .rcases wH hh.len hx with⟨e1,e2⟩|⟨e1,e2⟩
  .rcases wH hh.len hx' with⟨e3,e4⟩|⟨e3,e4⟩
   .omega
   .have:=hh.lt _ _ e4;cases e2;omega
  .rcases wH hh.len hx' with⟨e3,e4⟩|⟨e3,e4⟩
   .have:=hh.lt _ _ e2;cases e4;omega
   .simp only[pY]at hl hl';rw[if_neg (by simp;omega)]at hl hl';exact hh.inj l l' q q' x hl hl' e2 e4
 .rcases wH hh.len hx with⟨e1,e2⟩|⟨e1,e2⟩
  .cases e2;simp[Hp.new]
  .have:=hh.lt _ _ e2;simp[Hp.new];omega
 .simp only[pY]at hl;split at hl
  .cases hl;cases ho
  .obtain⟨x,hx⟩:=hh.fixp l e xs hl;exact⟨x,uA.app _ _ _ _ hx⟩
theorem GH.putL{hp:gL}{nl:Nat}{H:Hp}(hh:GH hp nl U O H){l x:Nat}{o o':AO}{b':Ob}(hl:pY hp l=some o)(hx:O[l]? =some (some x))(ho:Ti U O o' b')(hp':o'.plain=false):GH (CD hp l o') nl U O (H.put x b'):=by
 refine⟨hh.len,λm q hm=> ?_,λm m' q q' y hm hm' hy hy'=> ?_,λm y hy=>hh.lt m y hy,λm e xs hm=> ?_,Yr hh.fin (hh.lt l x hx) _⟩
 .rw[uB]at hm;split at hm
  .rename_i e;subst e;rw[hl]at hm;cases hm;refine⟨some x,hx,λy hy=> ?_⟩;cases hy;refine⟨b',?_,ho⟩;have:(H.put x b').any x=some b':=by rw[sH,if_pos rfl]
   cases o'<;>first|exact this|cases hp'
  .rename_i hne;obtain⟨y,h1,h2⟩:=hh.obj m q hm;refine⟨y,h1,λz hz=> ?_⟩;obtain⟨c,h3,h4⟩:=h2 z hz;subst hz;have:z≠x:=λe=>by subst e;exact hne (hh.inj l m o q z hl hm hx h1)
   exact⟨c,by rw[Pz this];exact h3,h4⟩
 .have old:∀{m:Nat} {q:AO},pY (CD hp l o') m=some q->∃q,pY hp m=some q:=λ{m q} h=>by
   rw[uB]at h;split at h
   .rename_i e;subst e;exact⟨o,hl⟩
   .exact⟨q,h⟩
  obtain⟨p,HF⟩:=old hm;obtain⟨p',hp2⟩:=old hm';exact hh.inj m m' p p' y HF hp2 hy hy'
 .rw[uB]at hm;split at hm
  .rw[hl]at hm;cases hm;cases hp'
  .exact hh.fixp m e xs hm
end
section
variable{U ρ':gJ}{O μ':fW}{n:Nat}{cs:List qV}
theorem pX{a b:Nat}(h:Nat.beq a b=true):a=b:=aF h
theorem qW{a b:Nat}(h:Nat.blt a b=true):a<b:=by simpa [Nat.blt,Nat.lt_iff_add_one_le]using h
theorem aNz:∀{a b:qV},aBx a b=true->a=b
 | .le x y c,.le x' y' c',h=>by
  simp only[aBx,aA,beq_iff_eq]at h;rw[pX h.1,pX h.2.1,h.2.2]
 | .ne x y c,.ne x' y' c',h=>by
  simp only[aBx,aA,beq_iff_eq]at h;rw[pX h.1,pX h.2.1,h.2.2]
 | .le ..,.ne ..,h=>by simp[aBx]at h| .ne ..,.le ..,h=>by simp[aBx]at h
theorem WH:∀{a b:List qV},WG a b=true->a=b
 |[],[],_ =>rfl
 |a::a_s,b::bs,h=>by
  simp only[WG,aA]at h;rw[aNz h.1,WH h.2]
 |[],_ ::_,h=>by simp[WG]at h|_ ::_,[],h=>by simp[WG]at h
theorem aNy:∀{a b:Bo},aBw a b=true->a=b
 | .lit a,.lit b,h=>by simp only[aBw,beq_iff_eq]at h;rw[h]
 | .imp p q,.imp p' q',h=>by
  simp only[aBw,aA]at h;rw[WH h.1,WH h.2]
 | .lit _,.imp ..,h=>by simp[aBw]at h| .imp ..,.lit _,h=>by simp[aBw]at h
theorem Hy:∀{a b:gU},Tu a b=true->a=b
 |[],[],_ =>rfl
 |a::a_s,b::bs,h=>by
  simp only[Tu,aA,beq_iff_eq]at h;rw[h.1,Hy h.2]
 |[],_ ::_,h=>by simp[Tu]at h|_ ::_,[],h=>by simp[Tu]at h
theorem DU{f:A->A->Bool}(hf:∀a b,f a b=true->a=b):∀{a_s bs:List A},BD f a_s bs=true->a_s=bs
 |[],[],_ =>rfl
 |a::a_s,b::bs,h=>by
  simp only[BD,aA]at h;rw[hf _ _ h.1,DU hf h.2]
 |[],_ ::_,h=>by simp[BD]at h|_ ::_,[],h=>by simp[BD]at h
theorem JQ:∀(k:Nat) (a b:A),EC k a b=true->a=b
 |0,_,_,h=>by simp[EC]at h
 |k+1,a,b,h=>by
  have ih:=JQ k;unfold EC at h;split at h<;>try rfl
  all_goals(try simp only[aA,beq_iff_eq]at h)
  .obtain⟨h1,h2,h3⟩:=h;rw[h1,pX h2,h3]
  .obtain⟨h1,h2,h3⟩:=h;rw[h1,h2,h3]
  .rw[aNy h]
  .rw[Hy h]
  .rw[pX h.1,h.2]
  .rw[h.1,h.2]
  .rw[pX h]
  .rw[pX h.1,pX h.2]
  .obtain⟨h1,h2,h3,h4,h5⟩:=h;rw[pX h1,pX h2,pX h3,h4,pX h5]
  .rw[ih _ _ h.1,pX h.2]
  .obtain⟨h1,h2,h3⟩:=h;rw[ih _ _ h1,pX h2,h3]
  .rw[pX h.1,h.2]
  .rw[h.1,h.2]
  .obtain⟨h1,h2,h3⟩:=h;rw[ih _ _ h1,h2,h3]
  .obtain⟨h1,h2,h3,h4,h5,h6⟩:=h;rw[pX h1,pX h2,pX h3,h4,pX h5,h6]
  .obtain⟨h1,h2,h3⟩:=h;rw[pX h1,DU ih h2,DU ih h3]
  .rw[pX h.1,ih _ _ h.2]
  .rw[DU ih h]
  .rw[DU ih h]
  .rw[DU ih h]
  .rw[DU ih h]
  .rw[pX h.1,DU ih h.2]
  .rw[pX h]
  .obtain⟨h1,h2,h3,h4⟩:=h;rw[pX h1,ih _ _ h2,pX h3,h4]
  .obtain⟨h1,h2,h3,h4⟩:=h;rw[pX h1,ih _ _ h2,h3,h4]
  .cases h
theorem rF{f:A->Bool}:∀{a_s:List A},DV f a_s=true->∀a∈a_s,f a=true
 |b::bs,h,a,hm=>by
  simp only[DV,aA]at h;rcases aR.1 hm with rfl|hm
  .exact h.1
  .exact rF h.2 a hm
theorem rN{Z:Type}{l:List Z}{m j:Nat}{v:Z}(h:l[j]? =some v)(hj:j<m):(l.take m)[j]? =some v:=by
 rw[bD,if_pos hj];exact h
theorem OM:∀{qs:List qV},YV n qs=true->qM U qs->qM (U.take n) qs
 |[],_,_ =>qM.nil
 | .le x y c::r,h,hq=>by
  simp only[YV,aA]at h;obtain⟨a,b,h1,h2,h3⟩:=hq _ aL;exact .cons ⟨a,b,rN h1 (qW h.1),rN h2 (qW h.2.1),h3⟩ (OM h.2.2 (λq hm=>hq q (aG _ hm)))
 | .ne x y c::r,h,hq=>by
  simp only[YV,aA]at h;obtain⟨a,b,h1,h2,h3⟩:=hq _ aL;exact .cons ⟨a,b,rN h1 (qW h.1),rN h2 (qW h.2.1),h3⟩ (OM h.2.2 (λq hm=>hq q (aG _ hm)))
theorem Ke(n l:Nat):∀(k:Nat) (a:A) (t:T),vM n l k a=true->Gm U O a t->Gm (U.take n) (O.take l) a t
 |0,_,_,h,_ =>by simp[vM]at h
 |k+1,a,t,h,hg=>by
  have ih:=Ke n l k;cases hg with
  |top t=>exact .top t|any t h=>exact .any t h|int k s c v h1 h2=>exact .int k s c v (rN h1 (qW (by simpa [vM]using h))) h2|ival k lo hi m h1 h2 h3=>exact .ival k lo hi m h1 h2 h3
  |bool B b hb=>
   refine .bool B b ?_;cases B with
   |lit x=>exact hb
   |imp p q=>
    simp only[vM,aA]at h;exact⟨λe=>OM h.1 (hb.1 e),λe=>OM h.2 (hb.2 e)⟩
  |strc s=>exact .strc s|str s c v l h1 h2=>exact .str s c v l (rN h1 (qW (by simpa [vM]using h))) h2|strv lo hi l h1 h2=>exact .strv lo hi l h1 h2|nilp=>exact .nilp|nils=>exact .nils|nilf=>exact .nilf|nili=>exact .nili|nilm=>exact .nilm|mp l l' h1=>exact .mp l l' (rN h1 (qW (by simpa [vM]using h)))|yl l l' h1=>exact .yl l l' (rN h1 (qW (by simpa [vM]using h)))|ptr l off l' h1=>exact .ptr l off l' (rN h1 (qW (by simpa [vM]using h)))
  |elp l sz s c off l' v h1 h2 h3=>
   simp only[vM,aA]at h;exact .elp l sz s c off l' v (rN h1 (qW h.1)) (rN h2 (qW h.2)) h3
  |ref x t off h1 h2=>exact .ref x t off h1 (ih _ _ (by simpa [vM]using h) h2)
  |sl e s c t xs v h1 h2 h3 h4=>
   simp only[vM,aA]at h;exact .sl e s c t xs v h1 (rN h2 (qW h.2)) h3 (λx hx=>ih _ _ h.1 (h4 x hx))
  |slv e lo hi t xs h1 h2 h3 h4=>exact .slv e lo hi t xs h1 h2 h3 (λx hx=>ih _ _ (by simpa [vM]using h) (h4 x hx))
  |slp q e s c t xs v h0 h1 h2 h3 h4=>
   simp only[vM,aA]at h;exact .slp q e s c t xs v h0 h1 (rN h2 (qW h.2)) h3 (λx hx=>ih _ _ h.1 (h4 x hx))
  |slpv q e lo hi t xs h0 h1 h2 h3 h4=>exact .slpv q e lo hi t xs h0 h1 h2 h3 (λx hx=>ih _ _ (by simpa [vM]using h) (h4 x hx))|slk es t xs h1 h2 h3=>exact .slk es t xs h1 h2 (λj a t ha ht=>ih _ _ (rF (by simpa [vM]using h) a (bB ha)) (h3 j a t ha ht))|sx s c full m f v h1 h2=>exact .sx s c full m f v (rN h1 (qW (by simpa [vM]using h))) h2|sxv lo hi full m f h1 h2=>exact .sxv lo hi full m f h1 h2
  |osl l sz si ci s c l' vi v h1 h2 h3 h4 h5=>
   simp only[vM,aA]at h;exact .osl l sz si ci s c l' vi v (rN h1 (qW h.1)) (rN h2 (qW h.2.1)) h3 (rN h4 (qW h.2.2)) h5
  |osl0 l sz si ci s c vi v h1 h2 h3 h4 h5=>
   simp only[vM,aA]at h;exact .osl0 l sz si ci s c vi v (rN h1 (qW h.1)) (rN h2 (qW h.2.1)) h3 (rN h4 (qW h.2.2)) h5
  |fn f a_s bs as' bs' h1 h2 h3 h4=>
   simp only[vM,aA]at h;exact .fn f a_s bs as' bs' h1 (λj a t ha ht=>ih _ _ (rF h.1 a (bB ha)) (h2 j a t ha ht)) h3 (λj a t ha ht=>ih _ _ (rF h.2 a (bB ha)) (h4 j a t ha ht))
  |iface t x y h1=>exact .iface t x y (ih _ _ (by simpa [vM]using h) h1)|ifc t x=>exact .ifc t x|or a_s a t hm h1=>exact .or a_s a t hm (ih _ _ (rF (by simpa [vM]using h) a hm) h1)|agg a_s ts h1 h2=>exact .agg a_s ts h1 (λj a t ha ht=>ih _ _ (rF (by simpa [vM]using h) a (bB ha)) (h2 j a t ha ht))|prd q a_s ts h0 h1 h2=>exact .prd q a_s ts h0 h1 (λj a t ha ht=>ih _ _ (rF (by simpa [vM]using h) a (bB ha)) (h2 j a t ha ht))|tup a_s ts h1 h2=>exact .tup a_s ts h1 (λj a t ha ht=>ih _ _ (rF (by simpa [vM]using h) a (bB ha)) (h2 j a t ha ht))
theorem Jq{f:A->Bool}:∀{a_s:List A},lSm f a_s=true->∃a∈a_s,f a=true
 |b::bs,h=>by
  simp only[lSm,bF]at h;rcases h with h|h
  .exact⟨b,aL,h⟩
  .obtain⟨a,h1,h2⟩:=Jq h;exact⟨a,aG _ h1,h2⟩
theorem BW{f:A->A->Bool}{ρ1 ρ2:gJ}{μ1 μ2:fW}(hf:∀a t x,f a t=true->Gm ρ1 μ1 a x->Gm ρ2 μ2 t x):
  ∀{a_s ts:List A} {xs:fU},BD f a_s ts=true->qO ρ1 μ1 a_s xs->qO ρ2 μ2 ts xs
 |[],[],xs,_,h=>by rw[h.inv_nil];exact .nil
 |a::a_s,t::ts,xs,h,hg=>by
  simp only[BD,aA]at h;obtain⟨x,r,rfl,h1,h2⟩:=hg.inv_cons;exact qO.cons (hf _ _ _ h.1 h1) (BW hf h.2 h2)
 |[],_ ::_,_,h,_ =>by simp[BD]at h|_ ::_,[],_,h,_ =>by simp[BD]at h
theorem zF(hc:qM U cs)(h0:U[0]? =some 0)(n l:Nat):∀(k:Nat) (a t:A) (x:T),KV cs n l k a t=true->Gm U O a x->Gm (U.take n) (O.take l) t x
 |0,_,_,_,h,_ =>by simp[KV]at h
 |k+1,a,t,x,h,hg=>by
  have ih:=zF hc h0 n l k;have fin:∀{t:A},(EC sJ a t&&vM n l sJ t)=true->Gm (U.take n) (O.take l) t x:=by
   intro t h;simp only[aA]at h;have:=JQ _ _ _ h.1;subst this;exact Ke n l _ _ _ h.2 hg
  unfold KV at h;split at h
  .rename_i q a_s hp;cases a<;>simp only[aUk]at hp<;>try(cases hp;done)
   cases hp;cases hg with
   |prd _ _ ts g0 g1 g2=>
   split at h
   .simp only[aA]at h;have:=pX h.1;subst this;have:=BW ih h.2 ⟨g1,g2⟩;exact .prd _ _ _ g0 this.1 this.2
   .exact ih _ _ _ h (.agg _ _ g1 g2)
  split at h
  .rename_i q e s c hp;cases a<;>simp only[aUq]at hp<;>try(cases hp;done)
   cases hp;cases hg with
   |slp _ _ _ _ _ xs v g0 g1 g2 g3 g4=>
   split at h
   .simp only[aA]at h;have:=pX h.1;subst this;have h1:=qB hc h.2.2.1 h0 g2;have h2:=qB hc h.2.2.2 g2 h0;refine .slpv _ _ _ _ _ xs g0 g1 (by omega) (by omega) (λx hx=> ?_);rcases bF _ _ |>.mp h.2.1 with q|q
    .have:=qB hc q g2 h0;have:xs=[]:=by cases xs with|nil=>rfl|cons=>simp at g3;omega
     subst this;simp at hx
    .exact ih _ _ _ q (g4 x hx)
   .exact fin h
   .exact ih _ _ _ h (.sl _ _ _ _ xs v g1 g2 g3 g4)
  cases t<;>simp only at h<;>try(exact fin h)
  case top=>exact .top _
  case any=>exact .any _ (RU hg h).1
  case ival q lo hi=>
   split at h
   .simp only[aA,beq_iff_eq]at h;obtain⟨rfl,h1,h2⟩:=h;cases hg with
    |int _ _ _ v hv hi=>
     have h1:=qB hc h1 h0 hv;have h2:=qB hc h2 hv h0;exact .ival _ _ _ _ (by omega) (by omega) hi
   .simp only[aA,beq_iff_eq,uX,aJ]at h;obtain⟨rfl,h1,h2⟩:=h;cases hg with
    |ival _ _ _ m g1 g2 g3=>exact .ival _ _ _ _ (by omega) (by omega) g3
   .cases hg with
    |or _ b _ hm hb=>exact ih _ _ _ (rF h b hm) hb
   .cases h
  case strv lo hi=>
   split at h
   .simp only[aA,uX,aJ]at h;cases hg;exact .strv _ _ _ h.1 h.2
   .simp only[aA]at h;cases hg with
    |str _ _ v l hv hl=>
     have h1:=qB hc h.1 h0 hv;have h2:=qB hc h.2 hv h0;exact .strv _ _ _ (by omega) (by omega)
   .simp only[aA,uX,aJ]at h;cases hg with
    |strv _ _ l g1 g2=>exact .strv _ _ _ (by omega) (by omega)
   .cases h
  case slv e lo hi=>
   split at h
   .simp only[aA,uX,aJ]at h;cases hg;exact .slv _ _ _ _ [] (.inl ⟨rfl,rfl⟩) (by simpa using h.1) (by simpa using h.2) (λx hx=>by simp at hx)
   .simp only[aA,uX,aJ]at h;cases hg with
    |slk es _ xs g1 g2 g3=>
     refine .slv _ _ _ _ xs g1 (by omega) (by omega) (λx hx=> ?_);obtain⟨j,hj,rfl⟩:=cO hx;obtain⟨a,ha,hga⟩:=qO.at' ⟨g2,g3⟩ (aB hj);exact ih _ _ _ (rF h.2.2 a (bB ha)) hga
   .simp only[aA]at h;cases hg with
    |sl _ _ _ _ xs v g1 g2 g3 g4=>
     have h1:=qB hc h.2.1 h0 g2;have h2:=qB hc h.2.2 g2 h0;refine .slv _ _ _ _ xs g1 (by omega) (by omega) (λx hx=> ?_);rcases bF _ _ |>.mp h.1 with q|q
     .have:=qB hc q g2 h0;have:xs=[]:=by cases xs with|nil=>rfl|cons=>simp at g3;omega
      subst this;simp at hx
     .exact ih _ _ _ q (g4 x hx)
   .simp only[aA,bF,uX,aJ]at h;cases hg with
    |slv _ _ _ _ xs g1 g2 g3 g4=>
     refine .slv _ _ _ _ xs g1 (by omega) (by omega) (λx hx=> ?_);rcases h.1 with q|q
     .have:xs=[]:=by cases xs with|nil=>rfl|cons=>simp at g3;omega
      subst this;simp at hx
     .exact ih _ _ _ q (g4 x hx)
   .cases h
  case sxv lo hi=>
   split at h
   .simp only[aA]at h;cases hg with
    |sx _ _ full m f v g1 g2=>
     have h1:=qB hc h.1 h0 g1;have h2:=qB hc h.2 g1 h0;exact .sxv _ _ _ _ _ (by omega) (by omega)
   .simp only[aA,uX,aJ]at h;cases hg with
    |sxv _ _ full m f g1 g2=>exact .sxv _ _ _ _ _ (by omega) (by omega)
   .cases h
  case bool B=>
   rcases B with b|⟨_ |⟨p,ps⟩,_ |⟨q,qs⟩⟩
   .exact fin h
   .simp only at h;split at h
    .cases hg;exact .bool _ _ (sY _)
    .cases h
   .exact fin h
   .exact fin h
   .exact fin h
  case or ts=>
   split at h
   .cases hg with
    |or _ b _ hm hb=>
     obtain⟨y,h1,h2⟩:=Jq (rF h b hm);exact .or _ y _ h1 (ih _ _ _ h2 hb)
   .obtain⟨y,h1,h2⟩:=Jq h;exact .or _ y _ h1 (ih _ _ _ h2 hg)
  case agg ts=>
   split at h
   .cases hg with
    |agg _ xs g1 g2=>
     have:=BW ih h ⟨g1,g2⟩;exact .agg _ _ this.1 this.2
   .cases h
  case tup ts=>
   split at h
   .cases hg with
    |tup _ xs g1 g2=>
     have:=BW ih h ⟨g1,g2⟩;exact .tup _ _ this.1 this.2
   .cases h
theorem Zb(hc:qM U cs)(h0:U[0]? =some 0){s:Nat}{c v h:Int}(hv:U[s]? =some v)(hh:aPv cs s c=some h):v+c<=h:=by
 unfold aPv at hh;split at hh
 .cases hh;have:=qB hc ‹_› hv h0;omega
 .split at hh
  .cases hh;have:=qB hc ‹_› hv h0;omega
  .split at hh
   .cases hh;have:=qB hc ‹_› hv h0;omega
   .split at hh
    .cases hh;have:=qB hc ‹_› hv h0;omega
    .cases hh
theorem KN(hc:qM U cs)(h0:U[0]? =some 0){a b:A}{t:T}(h:aFc cs a=some b)(hg:Gm U O a t):
  (∃k m,b= .ival k k.min k.max/\t= .int k m/\HG k m)\/(∃x,b= .bool sW/\t= .bool x)\/(∃l q,b= .strv 0 q/\t= .str l/\(l.length:Int)<=q):=by
 unfold aFc at h;split at h
 .cases h;cases hg with|int k s c v h1 h2=>exact .inl ⟨_,_,rfl,rfl,h2⟩
 .cases h;cases hg with|ival k lo hi m h1 h2 h3=>exact .inl ⟨_,_,rfl,rfl,h3⟩
 .cases h;cases hg with|bool B x hb=>exact .inr (.inl ⟨x,rfl,rfl⟩)
 .split at h
  .rename_i hl;cases h;cases hg;exact .inr (.inr ⟨_,_,rfl,rfl,by simpa [uX]using hl⟩)
  .cases h
 .split at h
  .rename_i hl;cases h;cases hg with|str s c v l h1 h2=>exact .inr (.inr ⟨_,_,rfl,rfl,by have:=Zb hc h0 h1 hl;omega⟩)
  .cases h
 .cases h;cases hg with|strv lo hi l h1 h2=>exact .inr (.inr ⟨_,_,rfl,rfl,h2⟩)
 .cases h
theorem Ao{a b:A}(h:aFc cs a=some b):(∃k,b= .ival k k.min k.max)\/b= .bool sW\/∃q,b= .strv 0 q:=by
 unfold aFc at h;split at h
 .cases h;exact .inl ⟨_,rfl⟩
 .cases h;exact .inl ⟨_,rfl⟩
 .cases h;exact .inr (.inl rfl)
 .split at h
  .cases h;exact .inr (.inr ⟨_,rfl⟩)
  .cases h
 .split at h
  .cases h;exact .inr (.inr ⟨_,rfl⟩)
  .cases h
 .cases h;exact .inr (.inr ⟨_,rfl⟩)
 .cases h
theorem KH(a b:Int):a<=DF a b/\b<=DF a b:=by
 unfold DF uX;split<;>rename_i h<;>simp at h<;>omega
def aUz(U:gJ)(O:fW)(a b x:A):Prop:=(∀t,Gm U O a t->Gm U O x t)/\(∀t,Gm U O b t->Gm U O x t)
theorem Vi{f:A->A->Option A}(hf:∀a b x,f a b=some x->aUz U O a b x):∀(a_s bs xs:List A),jn.jnL f a_s bs=some xs->(∀ts,qO U O a_s ts->qO U O xs ts)/\(∀ts,qO U O bs ts->qO U O xs ts)
 |[],[],xs,h=>by simp only[jn.jnL]at h;cases h;exact⟨λts h=>h,λts h=>h⟩
 |a::a_s,b::bs,xs,h=>by
  simp only[jn.jnL]at h;split at h
  .rename_i x hx;split at h
   .rename_i r hr;cases h;obtain⟨h1,h2⟩:=hf _ _ _ hx;obtain⟨h3,h4⟩:=Vi hf a_s bs r hr;refine⟨λts ht=> ?_,λts ht=> ?_⟩
    .obtain⟨t,u,rfl,g1,g2⟩:=ht.inv_cons;exact qO.cons (h1 _ g1) (h3 _ g2)
    .obtain⟨t,u,rfl,g1,g2⟩:=ht.inv_cons;exact qO.cons (h2 _ g1) (h4 _ g2)
   .cases h
  .cases h
 |[],_ ::_,_,h=>by simp[jn.jnL]at h|_ ::_,[],_,h=>by simp[jn.jnL]at h
theorem SJ(hc:qM U cs)(h0:U[0]? =some 0){a:A}{t:T}{oe:Option A}{h:Int}(hs:sl2 cs a=some (oe,h))(hg:Gm U O a t):
  ∃xs,CK t xs/\(xs.length:Int)<=DF h 0/\∀x∈xs,∃e,oe=some e/\Gm U O e x:=by
 have hm:=KH h 0;unfold sl2 at hs;split at hs
 .cases hs;cases hg;exact⟨[],.inl ⟨rfl,rfl⟩,by simpa using hm.2,λx hx=>by simp at hx⟩
 .split at hs
  .rename_i hh;cases hs;cases hg with
   |sl _ _ _ _ xs v g1 g2 g3 g4=>
    have:=Zb hc h0 g2 hh;exact⟨xs,g1,by omega,λx hx=>⟨_,rfl,g4 x hx⟩⟩
  .cases hs
 .cases hs;cases hg with
  |slv _ _ _ _ xs g1 g2 g3 g4=>exact⟨xs,g1,by omega,λx hx=>⟨_,rfl,g4 x hx⟩⟩
 .cases hs
theorem aTv(hc:qM U cs)(h0:U[0]? =some 0):∀(k:Nat) (a b x:A),jn cs k a b=some x->aUz U O a b x
 |0,_,_,_,h=>by simp[jn]at h
 |k+1,a,b,x,h=>by
  have ih:=aTv hc h0 k;unfold jn at h;split at h
  .rename_i he;cases h;have:=JQ _ _ _ he;subst this;exact⟨λt h=>h,λt h=>h⟩
  .split at h
   .obtain⟨xs,hx,rfl⟩:=aD.1 h;obtain⟨h1,h2⟩:=Vi ih _ _ _ hx;refine⟨λt ht=> ?_,λt ht=> ?_⟩
    .cases ht with|agg _ ts g1 g2=>have:=h1 ts ⟨g1,g2⟩;exact .agg _ _ this.1 this.2
    .cases ht with|agg _ ts g1 g2=>have:=h2 ts ⟨g1,g2⟩;exact .agg _ _ this.1 this.2
   .obtain⟨xs,hx,rfl⟩:=aD.1 h;obtain⟨h1,h2⟩:=Vi ih _ _ _ hx;refine⟨λt ht=> ?_,λt ht=> ?_⟩
    .cases ht with|tup _ ts g1 g2=>have:=h1 ts ⟨g1,g2⟩;exact .tup _ _ this.1 this.2
    .cases ht with|tup _ ts g1 g2=>have:=h2 ts ⟨g1,g2⟩;exact .tup _ _ this.1 this.2
   .split at h
    .rename_i e1 h1 e2 h2 s1 s2;split at h
     .rename_i y hy;cases h;obtain⟨j1,j2⟩:=ih _ _ _ hy;have hm:=KH h1 h2;have hm0:=KH (DF h1 h2) 0;refine⟨λt ht=> ?_,λt ht=> ?_⟩
      .obtain⟨xs,q1,q2,q3⟩:=SJ hc h0 s1 ht;refine .slv _ _ _ _ xs q1 (by omega) ?_ (λx hx=> ?_)
       .have:DF h1 0<=DF (DF h1 h2) 0:=by
         generalize DF (DF h1 h2) 0=z at*;unfold DF;split<;>omega
        omega
       .obtain⟨e,he,hx'⟩:=q3 x hx;cases he;exact j1 x hx'
      .obtain⟨xs,q1,q2,q3⟩:=SJ hc h0 s2 ht;refine .slv _ _ _ _ xs q1 (by omega) ?_ (λx hx=> ?_)
       .have:DF h2 0<=DF (DF h1 h2) 0:=by
         generalize DF (DF h1 h2) 0=z at*;unfold DF;split<;>omega
        omega
       .obtain⟨e,he,hx'⟩:=q3 x hx;cases he;exact j2 x hx'
     .cases h
    .rename_i e1 h1 _ s1 s2;cases h;refine⟨λt ht=> ?_,λt ht=> ?_⟩
     .obtain⟨xs,q1,q2,q3⟩:=SJ hc h0 s1 ht;exact .slv _ _ _ _ xs q1 (by omega) q2 (λx hx=>by obtain⟨e,he,hx'⟩:=q3 x hx;cases he;exact hx')
     .obtain⟨xs,q1,q2,q3⟩:=SJ hc h0 s2 ht;have hn:xs=[]:=by cases xs with|nil=>rfl|cons x r=>obtain⟨e,he,_⟩:=q3 x (by simp);cases he
      subst hn;have:=KH h1 0;exact .slv _ _ _ _ [] q1 (by simp) (by simpa using this.2) (λx hx=>by simp at hx)
    .rename_i _ e1 h1 s1 s2;cases h;refine⟨λt ht=> ?_,λt ht=> ?_⟩
     .obtain⟨xs,q1,q2,q3⟩:=SJ hc h0 s1 ht;have hn:xs=[]:=by cases xs with|nil=>rfl|cons x r=>obtain⟨e,he,_⟩:=q3 x (by simp);cases he
      subst hn;have:=KH h1 0;exact .slv _ _ _ _ [] q1 (by simp) (by simpa using this.2) (λx hx=>by simp at hx)
     .obtain⟨xs,q1,q2,q3⟩:=SJ hc h0 s2 ht;exact .slv _ _ _ _ xs q1 (by omega) q2 (λx hx=>by obtain⟨e,he,hx'⟩:=q3 x hx;cases he;exact hx')
    split at h
    .rename_i k1 lo hi k2 lo2 hi2 e1 e2;split at h
     .rename_i hk;cases h;have hk:k1=k2:=by simpa using hk
      subst hk;refine⟨λt ht=> ?_,λt ht=> ?_⟩
      .rcases KN hc h0 e1 ht with⟨k,m,q1,rfl,q3⟩|⟨_,q1,_⟩|⟨_,_,q1,_⟩<;>cases q1
       exact .ival _ _ _ _ q3.1 q3.2 q3
      .rcases Ao e1 with⟨k,q⟩|q|⟨_,q⟩<;>cases q
       rcases KN hc h0 e2 ht with⟨k,m,q1,rfl,q3⟩|⟨_,q1,_⟩|⟨_,_,q1,_⟩<;>cases q1
       exact .ival _ _ _ _ q3.1 q3.2 q3
     .cases h
    .rename_i e1 e2;cases h;refine⟨λt ht=> ?_,λt ht=> ?_⟩
     .rcases KN hc h0 e1 ht with⟨k,m,q1,rfl,q3⟩|⟨_,q1,rfl⟩|⟨_,_,q1,_⟩<;>cases q1
      exact .bool _ _ (sY _)
     .rcases Ao e1 with⟨k,q⟩|q|⟨_,q⟩<;>cases q
      rcases KN hc h0 e2 ht with⟨k,m,q1,rfl,q3⟩|⟨_,q1,rfl⟩|⟨_,_,q1,_⟩<;>cases q1
      exact .bool _ _ (sY _)
    .rename_i h1 _ h2 e1 e2;cases h;have hm:=KH h1 h2;refine⟨λt ht=> ?_,λt ht=> ?_⟩
     .rcases KN hc h0 e1 ht with⟨k,m,q1,rfl,q3⟩|⟨_,q1,rfl⟩|⟨_,_,q1,rfl,q2⟩<;>cases q1
      exact .strv _ _ _ (by omega) (by omega)
     .rcases KN hc h0 e2 ht with⟨k,m,q1,rfl,q3⟩|⟨_,q1,rfl⟩|⟨_,_,q1,rfl,q2⟩<;>cases q1
      exact .strv _ _ _ (by omega) (by omega)
    .split at h
     .split at h
      .cases h;refine⟨λt ht=> ?_,λt ht=> .or _ b t aL ht⟩;cases ht with
       |or _ c _ hm hcx=>exact .or _ c _ (aG _ hm) hcx
      .cases h
     .split at h
      .cases h;exact⟨λt ht=> .or _ a t aL ht,λt ht=> .or _ b t (aG _ aL) ht⟩
      .cases h
    .cases h
theorem Jo(hc:qM U cs)(h0:U[0]? =some 0){a b x:A}(h:jnT cs a b=some x):aUz U O a b x:=by
 unfold jnT at h;split at h
 .rename_i hl;cases h;refine⟨λt ht=>ht,λt ht=> ?_⟩;exact(zF hc h0 0 0 sJ _ _ _ hl ht).ext (λj v h=>by simp at h) (λj v h=>by simp at h)
 .exact aTv hc h0 _ _ _ _ h
theorem YB(hc:qM U cs)(h0:U[0]? =some 0):∀(r:List A) (a x:A),Ek cs a r=some x->(∀t,Gm U O a t->Gm U O x t)/\∀b∈r,∀t,Gm U O b t->Gm U O x t
 |[],a,x,h=>by simp only[Ek]at h;cases h;exact⟨λt h=>h,λb hb=>by simp at hb⟩
 |b::r,a,x,h=>by
  simp only[Ek]at h;split at h
  .rename_i y hy;obtain⟨h1,h2⟩:=Jo (O:=O) hc h0 hy;obtain⟨h3,h4⟩:=YB hc h0 r y x h;refine⟨λt ht=>h3 t (h1 t ht),λc hm t ht=> ?_⟩;rcases aR.1 hm with rfl|hm
   .exact h3 t (h2 t ht)
   .exact h4 c hm t ht
  .cases h
end
theorem xL{f:jU}:∀(ts:fU),(∀t∈ts,f t=some t)->mapO f ts=some ts
 |[],_ =>rfl|t::ts,h=>by simp[mapO,h t (by simp),xL ts (λx hx=>h x (by simp[hx]))]
theorem xI{U:gJ}{O:fW}{a_s:List A}{ts:fU}(h1:a_s.length=ts.length)(h2:∀(j:Nat) (a:A) (t:T),a_s[j]? =some a->ts[j]? =some t->Gm U O a t){t:T}(ht:t∈ts):∃a∈a_s,Gm U O a t:=by
 obtain⟨j,hj,rfl⟩:=cO ht;obtain⟨a,ha,hg⟩:=qO.at' ⟨h1,h2⟩ (aB hj);exact⟨a,bB ha,hg⟩
theorem EE{U:gJ}{O:fW}{H:Hp}:∀(n:Nat) (a:A) (t:T),qY n a=true->Gm U O a t->∀k,n<=k->qJ k H t=some t
 |0,_,_,h,_,_,_ =>by simp[qY]at h
 |n+1,a,t,h,hg,k,hk=>by
  have ih:=EE (U:=U) (O:=O) (H:=H) n;obtain⟨k,rfl⟩:∃k',k=k'+1:=⟨k-1,by omega⟩;have hk:n<=k:=by omega
  have sl:∀{t:T} {xs:fU},CK t xs->(∀x∈xs,qJ k H x=some x)->qJ (k+1) H t=some t:=by
   intro t xs hs hx;rcases hs with⟨rfl,rfl⟩|⟨f,rfl⟩|⟨full,m,f,rfl,rfl⟩
   .rfl
   .simp only[qJ,xL xs hx];simp
   .rfl
  cases hg with
  |int k s c v h1 h2=>rfl|ival k lo hi m h1 h2 h3=>rfl|bool B b hb=>rfl|strc s=>rfl|str s c v l h1 h2=>rfl|strv lo hi l h1 h2=>rfl|sx=>rfl|sxv=>rfl|nilp=>rfl|nils=>rfl|nilf=>rfl|nili=>rfl|nilm=>rfl|top=>simp[qY]at h|any=>simp[qY]at h|ifc=>simp[qY]at h|yl=>simp[qY]at h|ptr=>simp[qY]at h|elp=>simp[qY]at h|osl=>simp[qY]at h|mp=>simp[qY]at h|prd q a_s ts h0 h1 h2=>exact(default:Prd).pure q _ h0 (k+1) H (by simp[qY]at h;omega)|slp q e s c t xs v h0 h1 h2 h3 h4=>exact sl h1 λx hx=>ih _ _ (by simpa [qY]using h) (h4 x hx) k hk|slpv q e lo hi t xs h0 h1 h2 h3 h4=>exact sl h1 λx hx=>ih _ _ (by simpa [qY]using h) (h4 x hx) k hk
  |slk es t xs h1 h2 h3=>
   refine sl h1 λx hx=> ?_;obtain⟨a,ha,hga⟩:=xI h2 h3 hx;exact ih _ _ (rF (by simpa [qY]using h) a ha) hga k hk
  |osl0=>simp[qY]at h
  |ref x t off h1 h2=>
   have:=ih _ _ (by simpa [qY]using h) h2 k hk;simp only[qJ,this];simp
  |sl e s c t xs v h1 h2 h3 h4=>exact sl h1 λx hx=>ih _ _ (by simpa [qY]using h) (h4 x hx) k hk
  |slv e lo hi t xs h1 h2 h3 h4=>
   simp only[qY,bF,uX,aJ]at h;rcases h with h|h
   .have:xs=[]:=by cases xs with|nil=>rfl|cons=>simp at h3;omega
    subst this;exact sl h1 λx hx=>by simp at hx
   .exact sl h1 λx hx=>ih _ _ h (h4 x hx) k hk
  |fn f a_s bs as' bs' h1 h2 h3 h4=>
   simp only[qY,aA]at h;have e1:=xL (f:=qJ k H) as' λx hx=>by
    obtain⟨a,ha,hg⟩:=xI h1 h2 hx;exact ih _ _ (rF h.1 a ha) hg k hk
   have e2:=xL (f:=qJ k H) bs' λx hx=>by
    obtain⟨a,ha,hg⟩:=xI h3 h4 hx;exact ih _ _ (rF h.2 a ha) hg k hk
   simp only[qJ,e1,e2]
  |iface t x y h1=>
   have:=ih _ _ (by simpa [qY]using h) h1 k hk;simp only[qJ,this]
  |or a_s a t hm h1=>
   have hp:=rF (by simpa [qY]using h) a hm;exact ih _ _ hp h1 (k+1) (by omega)
  |agg a_s ts h1 h2=>
   have e1:=xL (f:=qJ k H) ts λx hx=>by
    obtain⟨a,ha,hg⟩:=xI h1 h2 hx;exact ih _ _ (rF (by simpa [qY]using h) a ha) hg k hk
   simp only[qJ,e1]
  |tup a_s ts h1 h2=>
   have e1:=xL (f:=qJ k H) ts λx hx=>by
    obtain⟨a,ha,hg⟩:=xI h1 h2 hx;exact ih _ _ (rF (by simpa [qY]using h) a ha) hg k hk
   simp only[qJ,e1]
theorem XN{U:gJ}{O:fW}{f:A->Option A}{g:jU}(hf:∀a b t,f a=some b->Gm U O a t->∃t',g t=some t'/\Gm U O b t'):
  ∀(a_s bs:List A) (ts:fU),frL f a_s=some bs->qO U O a_s ts->∃us,mapO g ts=some us/\qO U O bs us
 |[],bs,ts,h,hg=>by simp only[frL]at h;cases h;rw[hg.inv_nil];exact⟨[],rfl,.nil⟩
 |a::a_s,bs,ts,h,hg=>by
  simp only[frL]at h;obtain⟨t,r,rfl,h1,h2⟩:=hg.inv_cons;split at h
  .rename_i b hb;split at h
   .rename_i cs hcs;cases h;obtain⟨t',e1,e2⟩:=hf a b t hb h1;obtain⟨us,e3,e4⟩:=XN hf a_s cs r hcs h2;exact⟨t'::us,by simp[mapO,e1,e3],qO.cons e2 e4⟩
   .cases h
  .cases h
theorem Pq{f:jU}:∀(a_s bs xs ys:fU),mapO f a_s=some xs->mapO f bs=some ys->mapO f (a_s++bs)=some (xs++ys)
 |[],bs,xs,ys,h,h'=>by simp only[mapO]at h;cases h;simpa using h'
 |a::a_s,bs,xs,ys,h,h'=>by
  simp only[mapO]at h;split at h
  .rename_i r hr;split at h
   .rename_i rs hrs;cases h;simp[mapO,hr,Pq a_s bs rs ys hrs h']
   .cases h
  .cases h
theorem aAr{U:gJ}{O:fW}{f:jU}{bs:List A}{sz:Nat}(hb:bs.length=sz)(hpos:0<sz):∀(ts:fU),(∀t∈ts,∃us,mapO f t.cells=some us/\qO U O bs us)->
  ∃cs,mapO f (ts.flatMap T.cells)=some cs/\cs.length=ts.length*sz/\∀x∈DM sz ts.length cs,Gm U O (.agg bs) x
 |[],_ =>⟨[],rfl,by simp,λx hx=>by simp[DM]at hx⟩
 |t::ts,h=>by
  obtain⟨us,u1,u2⟩:=h t (by simp);obtain⟨cs,c1,c2,c3⟩:=aAr hb hpos ts λx hx=>h x (by simp[hx]);have hul:us.length=sz:=by rw[<-u2.1];exact hb
  refine⟨us++cs,by rw[bG];exact Pq _ _ _ _ u1 c1,by rw[bI,hul,c2,bL,cW];omega,λx hx=> ?_⟩;simp only[bL,DM,aR]at hx;rcases hx with rfl|hx
  .rw[List.take_left' hul];exact .agg _ _ u2.1 u2.2
  .rw[List.drop_left' hul]at hx;exact c3 x hx
theorem Uy{U:gJ}{O:fW}{hp:gL}{nl:Nat}{H:Hp}(h0:U[0]? =some 0)(hh:GH hp nl U O H):∀(n:Nat) (a b:A) (t:T),frA hp n a=some b->Gm U O a t->∀k,n<=k->∃t',qJ k H t=some t'/\Gm U O b t'
 |0,_,_,_,h,_,_,_ =>by simp[frA]at h
 |n+1,a,b,t,h,hg,k,hk=>by
  have ih:=Uy h0 hh n;simp only[frA]at h;split at h
  .rename_i hp';cases h;exact⟨t,EE (n+1) a t hp' hg k hk,hg⟩
  .obtain⟨k,rfl⟩:∃k',k=k'+1:=⟨k-1,by omega⟩;have hk:n<=k:=by omega
   split at h
   .rename_i l sz si ci s c _;split at h
    .rename_i e0 sz' e s' c' hf;split at h
     .rename_i hc;simp only[aA,beq_iff_eq]at hc;obtain⟨k1,k2,k3,k4,k5⟩:=hc;have k1:=pX k1;have k2:=pX k2;have k4:=pX k4;subst k1 k2 k3 k4 k5;have nilc:∀e',(∃v,U[s]? =some v/\v+c=0)->Gm U O (.sl e' s c) .nils:=by
       rintro e' ⟨v,v1,v2⟩;exact .sl e' s c .nils [] v (.inl ⟨rfl,rfl⟩) v1 (by simpa using v2.symm) (λx hx=>by simp at hx)
      cases hg with
      |osl0 _ _ _ _ _ _ vi v g1 g2 g3 g4 g5=>
       refine⟨.nils,rfl,?_⟩;split at h
       .split at h
        .split at h
         .cases h;exact nilc _ ⟨v,g4,g5⟩
         .cases h
        .cases h
       .split at h
        .split at h
         .split at h
          .cases h;exact nilc _ ⟨v,g4,g5⟩
          .cases h
         .cases h
        .cases h
      |osl _ _ _ _ _ _ l' vi v g1 g2 g3 g4 g5=>
       rw[h0]at g2;cases g2;obtain⟨o,o1,o2,o3,ts,v1,r1,r2,r3,r4⟩:=hh.at hf g1;rw[g4]at r1;cases r1;have hlen:(v+c).toNat=ts.length:=by omega
       have hfl:=wW ts (λt ht=>(r4 t ht).2);have hcells:(o.cells.drop ((0+0:Int).toNat*sz)).take ((v+c).toNat*sz)=ts.flatMap T.cells:=by
        rw[hlen,r3,<-hfl];show List.take _ (List.drop ((0:Nat)*sz) _)=_;rw[Nat.zero_mul,fK,List.take_length]
       have hfit:((0+0:Int).toNat+(v+c).toNat)*sz<=o.cells.length:=by rw[r3,hfl,hlen];simp
       split at h
       .rename_i es;split at h
        .rename_i hsz;simp only[aA]at hsz;have hsz1:=qW hsz.1;have hsz2:=pX hsz.2;split at h
         .rename_i bs hbs;cases h;have hbl:bs.length=sz:=by
           rw[<-hsz2];clear hsz2 hf hsz r4 ih
           induction es generalizing bs with
           |nil=>simp only[frL]at hbs;cases hbs;rfl
           |cons x xs ihx=>
            simp only[frL]at hbs;split at hbs
            .split at hbs
             .rename_i q hq;cases hbs;simp[ihx q hq]
             .cases hbs
            .cases hbs
          obtain⟨cs,c1,c2,c3⟩:=aAr (U:=U) (O:=O) (f:=qJ k H) hbl (by omega) ts λt ht=>by
           have hgt:=(r4 t ht).1;cases hgt with
           |agg _ us q1 q2=>exact XN (λa b t hab hat=>ih a b t hab hat k hk) es bs us hbs ⟨q1,q2⟩
          refine⟨.sl false (DM sz (v+c).toNat cs),?_,?_⟩
          .simp only[qJ,o1];rw[if_pos ⟨by omega,o3.1,hfit⟩,hcells,c1];simp only;rw[if_neg (by omega)]
          .have:=(LG sz ts.length cs (by rw[c2])).2.2;rw[hlen];exact .sl _ _ _ _ (DM sz ts.length cs) v (.inr (.inl ⟨_,rfl⟩)) g4 (by rw[this];exact r2) c3
         .cases h
        .cases h
       .rename_i hna;split at h
        .rename_i hsz;simp only[aA]at hsz;have hsz1:=pX hsz.1;split at h
         .rename_i b' hb';split at h
          .rename_i hbo;cases h;have cellsOne:∀t∈ts,t.cells=[t]:=λt ht=>FP (RU (r4 t ht).1 hsz.2).2;have key:∀(l:fU),(∀t∈l,t∈ts)->∃us,mapO (qJ k H) (l.flatMap T.cells)=some us/\us.length=l.length/\∀u∈us,Gm U O b' u:=by
            intro l
            induction l with
            |nil=>intro _;exact⟨[],rfl,rfl,λu hu=>by simp at hu⟩
            |cons t l ihl=>
             intro hsub;obtain⟨us,u1,u2,u3⟩:=ihl λx hx=>hsub x (by simp[hx]);obtain⟨t',t1,t2⟩:=ih _ b' t hb' (r4 t (hsub t (by simp))).1 k hk;refine⟨t'::us,?_,by simp[u2],λu hu=> ?_⟩
             .rw[bG,cellsOne t (hsub t (by simp))];simp[mapO,t1,u1]
             .rcases aR.1 hu with rfl|hu
              .exact t2
              .exact u3 u hu
           obtain⟨us,u1,u2,u3⟩:=key ts λt ht=>ht;refine⟨.sl false us,?_,.sl _ _ _ _ us v (.inr (.inl ⟨_,rfl⟩)) g4 (by rw[u2];exact r2) u3⟩;simp only[qJ,o1];rw[if_pos ⟨by omega,o3.1,hfit⟩,hcells,u1];simp only;rw[if_pos hsz1,if_pos];rw[aH];intro u hu;have:=(RU (u3 u hu) hbo).2;simp[this]
          .cases h
         .cases h
        .cases h
     .cases h
    .cases h
   .rename_i a_s _;split at h
    .rename_i bs hbs;cases h;cases hg with
     |agg _ ts q1 q2=>
      obtain⟨us,u1,u2⟩:=XN (λa b t hab hat=>ih a b t hab hat k hk) a_s bs ts hbs ⟨q1,q2⟩;exact⟨.agg us,by simp only[qJ,u1],.agg _ _ u2.1 u2.2⟩
    .cases h
   .rename_i a_s _;split at h
    .rename_i bs hbs;cases h;cases hg with
     |tup _ ts q1 q2=>
      obtain⟨us,u1,u2⟩:=XN (λa b t hab hat=>ih a b t hab hat k hk) a_s bs ts hbs ⟨q1,q2⟩;exact⟨.tup us,by simp only[qJ,u1],.tup _ _ u2.1 u2.2⟩
    .cases h
   .cases h
theorem aJf{U:gJ}{O:fW}{a:A}{t:T}(h:MK a=true)(hg:Gm U O a t):BI t=true:=by
 cases hg<;>first|rfl|(simp[MK]at h)
abbrev kB:=T->Bool
theorem Ja{U:gJ}{O:fW}{p:A->Bool}{q:kB}(hpq:∀a t,p a=true->Gm U O a t->q t=true){a_s:List A}{ts:fU}(h1:a_s.length=ts.length)(h2:∀(j:Nat) (a:A) (t:T),a_s[j]? =some a->ts[j]? =some t->Gm U O a t)(h:a_s.all p=true):ts.all q=true:=by
 rw[aH];intro t ht;obtain⟨a,ha,hg⟩:=xI h1 h2 ht;exact hpq a t (aH.1 h a ha) hg
theorem Oe{U:gJ}{O:fW}{a:A}{t:T}(h:Wj a=true)(hg:Gm U O a t):Fv t=true:=by
 cases hg with
 |agg a_s ts h1 h2=>exact Ja (λa t=>aJf) h1 h2 h|_ =>first|rfl|(simp[Wj,MK]at h)
theorem aPn{U:gJ}{O:fW}{a:A}{t:T}(h:aLu a=true)(hg:Gm U O a t):Ra t=true:=by
 cases hg with
 |agg a_s ts h1 h2=>exact Ja (λa t=>Oe) h1 h2 h|tup a_s ts h1 h2=>exact Ja (λa t=>Oe) h1 h2 h|_ =>first|rfl|(simp[aLu,MK]at h)
def PeA(pe:gN)(pa:FuncId->List A->Nat->List qV->Option AV):Prop:=
 ∀g a_s n cs v,pa g a_s n cs=some v->∀(U:gJ) (O:fW) (H:Hp) (ts:fU),Sy U n cs->qO U O a_s ts->∃r,pe H g ts=some r/\VOk U O v r
structure Cn(X:AX)(gc:fY)(pc:gN):Prop where
 gl:GlA gc X.gl
 pe:PeA pc X.pe
 inl:∀g H ts,X.inl g=true->pc H g ts=none
 fz:∃k,sJ<=k/\∀H g ts bs r,mapO (qJ k H) ts=some bs->mapO (qJ k ⟨0,.nl⟩) bs=some bs->pc H g bs=some r->Ra r=true->pc H g ts=some r
section
variable{U ρ':gJ}{O μ':fW}
theorem Rn{sz:Nat}{ag:Bool}:∀(ps:List (Nat×A)) (qs:iM) (xs:fU),ps.map Prod.fst=qs.map Prod.fst->qO U O (ps.map Prod.snd) (qs.map Prod.snd)->VG sz ag xs.length ps=true->
  ∃ys,JK sz ag xs qs=some ys/\ys.length=xs.length/\∀(i:Nat) (y:T),ys[i]? =some y->(xs[i]? =some y/\i∉ps.map Prod.fst)\/∃a∈ps.map Prod.snd,Gm U O a y/\y.cells.length=sz
 |[],[],xs,_,_,_ =>⟨xs,rfl,rfl,λi y h=> .inl ⟨h,by simp⟩⟩
 |(i,a)::ps,(j,t)::qs,xs,h1,h2,h=>by
  simp only[cB,eP]at h1 h2;obtain⟨rfl,h1⟩:=h1;simp only[VG,aA,beq_iff_eq]at h;obtain⟨k1,k2,k3,k4,k5,k6⟩:=h;obtain⟨q1,q2⟩:=rX h2.head k1;have k2:=pX k2;have k4:=qW k4;obtain⟨ys,e1,e2,e3⟩:=Rn ps qs (xs.set i t) h1 h2.tail (by simpa using k6);have htl:t.cells.length=sz:=by rw[<-q2.1];exact k2
  refine⟨ys,?_,by simpa using e2,λm y hy=> ?_⟩
  .simp only[JK];rw[if_pos ⟨htl,q1.trans k3,k4⟩];exact e1
  .rcases e3 m y hy with⟨g1,g2⟩|⟨b,g1,g2⟩
   .rw[eC]at g1;split at g1
    .rename_i him;cases g1;exact .inr ⟨a,by simp,h2.head,htl⟩
    .rename_i him;exact .inl ⟨g1,by simp only[cB,aR,not_or];exact⟨λe=>him e.symm,g2⟩⟩
   .exact .inr ⟨b,by simp only[cB,aR];exact .inr g1,g2⟩
 |[],_ ::_,_,h,_,_ =>by simp at h|_ ::_,[],_,h,_,_ =>by simp at h
theorem TJ:∀(ps:List (Nat×A)) (j i:Nat),GB j ps=true->j<=i->i<j+ps.length->i∈ps.map Prod.fst
 |[],j,i,_,h1,h2=>by simp at h2;omega
 |(k,a)::r,j,i,h,h1,h2=>by
  simp only[GB,aA]at h;have:=pX h.1;subst this;by_cases hi:i=k
  .simp[hi]
  .have:=TJ r (k+1) i h.2 (by omega) (by simp at h2;omega);simp only[cB,aR];exact .inr this
theorem Rm{sz:Nat}{ag:Bool}:∀(ps:List (Nat×A)) (qs:iM) (xs ys:fU) (j:Nat),JK sz ag xs qs=some ys->ps.map Prod.fst=qs.map Prod.fst->GB j ps=true->(∀i,i<j->ys[i]? =xs[i]?)/\∀m,m<qs.length->ys[j+m]? =(qs.map Prod.snd)[m]?
 |[],[],xs,ys,j,h,_,_ =>by simp only[JK]at h;cases h;exact⟨λi _ =>rfl,λm hm=>by simp at hm⟩|[],_ ::_,_,_,_,_,h,_ =>by simp at h|_ ::_,[],_,_,_,_,h,_ =>by simp at h
 |(i,a)::ps,(i',t)::qs,xs,ys,j,h,h1,h2=>by
  simp only[cB,eP]at h1;obtain⟨rfl,h1⟩:=h1;simp only[GB,aA]at h2;have e:=pX h2.1;subst e;simp only[JK]at h;split at h
  .rename_i hc;obtain⟨q1,q2⟩:=Rm ps qs _ ys (i+1) h h1 h2.2;refine⟨λm hm=> ?_,λm hm=> ?_⟩
   .rw[q1 m (by omega),dN (by omega)]
   .cases m with
    |zero=>
     rw[Nat.add_zero,q1 i (by omega),List.getElem?_set_self hc.2.2];rfl
    |succ m=>
     have:=q2 m (by simpa using hm);rw[show i+(m+1)=i+1+m by omega,this];rfl
  .cases h
theorem Dx{n:Nat}{cs:List qV}(hs:Sy U n cs){P:fV}{t:fS}{len:Nat}{ps:List (Nat×A)}{qs:iM}(h1:ps.map Prod.fst=qs.map Prod.fst)(h2:qO U O (ps.map Prod.snd) (qs.map Prod.snd)){e0:fS}{s0:Nat}{el0:A}
  (h:Iq P cs t len ps=some (e0,s0,el0)):∃xs,P.underlying t=some (.slice e0)/\uM P t len qs=some (.sl true xs)/\vZ P e0=some s0/\xs.length=len/\∀y∈xs,Gm U O el0 y/\y.cells.length=s0:=by
 unfold Iq at h;split at h
 .rename_i e hu;split at h
  .rename_i s ag z hsz hag hz;split at h
   .rename_i hc;simp only[aA,beq_iff_eq,aJ]at hc;obtain⟨⟨⟨⟨⟨⟨k1,k2⟩,k3⟩,k4⟩,k5⟩,k6⟩,k7⟩:=hc;obtain⟨z',e1,e2⟩:=CX (U:=U) (O:=O) hs.zero hz;obtain⟨kz,kc⟩:=rX e2 k5;have hzl:z'.cells.length=s:=by rw[<-kc.1];exact pX k3
    obtain⟨ys,g1,g2,g3⟩:=Rn (U:=U) (O:=O) (sz:=s) (ag:=ag) ps qs (List.replicate len z') h1 h2 (by simpa using k7);have hb:uM P t len qs=some (.sl true ys):=by
     simp only[uM,hu,hsz,hag,e1];rw[if_pos ⟨qW k1,k2,hzl,kz.trans k4⟩,g1];rfl
    split at h
    .rename_i el hel;split at h
     .cases h;have hylen:ys.length=len:=by simpa using g2
      have hall:∀y∈ys,Gm U O el0 y/\y.cells.length=s0:=by
       intro y hy;obtain⟨i,hi,hiy⟩:=cO hy;have hgy:ys[i]? =some y:=by rw[aB hi,hiy]
       have zcase:(∀t,Gm U O z t->Gm U O el0 t)->(∀b∈ps.map Prod.snd,∀t,Gm U O b t->Gm U O el0 t)->Gm U O el0 y/\y.cells.length=s0:=by
        intro q1 q2;rcases g3 i y hgy with⟨r1,r2⟩|⟨a,r1,r2,r3⟩
        .rw[List.getElem?_replicate]at r1;split at r1
         .cases r1;exact⟨q1 _ e2,hzl⟩
         .cases r1
        .exact⟨q2 a r1 y r2,r3⟩
       split at hel
       .rename_i i0 v r;split at hel
        .rename_i ho;simp only[aA]at ho;obtain⟨j1,j2⟩:=YB (O:=O) hs.cs hs.zero _ _ _ hel;rcases g3 i y hgy with⟨r1,r2⟩|⟨a,r1,r2,r3⟩
         .exact absurd (TJ _ 0 i ho.1 (by omega) (by have:=pX ho.2;omega)) r2
         .refine⟨?_,r3⟩;simp only[cB,aR]at r1;rcases r1 with rfl|r1
          .exact j1 y r2
          .exact j2 a r1 y r2
        .obtain⟨j1,j2⟩:=YB (O:=O) hs.cs hs.zero _ _ _ hel;exact zcase j1 j2
       .cases hel;exact zcase (λt h=>h) (λb hb=>by simp at hb)
      exact⟨ys,hu,hb,hsz,hylen,hall⟩
     .cases h
    .cases h
   .cases h
  .cases h
 .cases h
end
section
variable{U ρ':gJ}{O μ':fW}{n:Nat}{cs:List qV}{X:AX}{gl:fY}{pe:gN}
theorem CB(hs:Sy U n cs){a:Option A}{v:AV}(h:Kn n cs a=some v){q:jJ}(ha:∀b,a=some b->∃t,q=some t/\Gm U O b t):∃t,q=some t/\VOk U O v t:=by
 cases a with
 |none=>cases h
 |some b=>
  cases h;obtain⟨t,h1,h2⟩:=ha b rfl;exact⟨t,h1,.here hs h2⟩
theorem aNp{P:fV}(hc:Cn X gl pe)(hs:Sy U n cs){fa:List A}{fr:fU}(hf:qO U O fa fr){H:Hp}{c:Call}{v:AV}(h:aVg P X fa n cs c=some v):
  ∃t,zA P ⟨gl,pe⟩ H fr c=some t/\VOk U O v t:=by
 unfold aVg at h;unfold zA;split at h
 .rename_i f hcal;rw[hcal];simp only;split at h
  .rename_i g first cap hg
   obtain⟨t,e1,e2⟩:=uZ hc.gl hs.zero hf hg;cases e2 with
   |fn _ _ _ f' c' h1 h2 h3 h4=>
   split at h
   .rename_i ars har;obtain⟨ts,e3,e4⟩:=yZ hc.gl hs.zero hf har;simp only[e1,e3];exact hc.pe _ _ _ _ _ h U O H _ hs ((qO.app ⟨h1,h2⟩ e4).app ⟨h3,h4⟩)
   .cases h
  .cases h
 .cases h
 .rename_i b hcal;rw[hcal];simp only;split at h
  .simp only;split at h
   .rename_i x t r hx ht;rw[hx,ht];simp only;split at h
    .rename_i a ha;obtain⟨y,hy,rfl⟩:=aD.1 h;obtain⟨u,e1,e2⟩:=uZ hc.gl hs.zero hf ha;obtain⟨w,e3,e4⟩:=aQp hs e2 hy;exact⟨w,by simp only[e1];exact aQq e3,.here hs e4⟩
    .cases h
   .cases h
  .simp only;split at h
   .rename_i x r hx;obtain⟨ts,e1,e2⟩:=yZ hc.gl hs.zero hf hx;obtain⟨t,us,rfl,e3,e4⟩:=e2.inv_cons;obtain⟨w,e5,e6⟩:=XM (λU n cs a b x y v hs ha hb h=>aRb hs ha hb h) r U n cs x t us v hs e3 e4 h;exact⟨w,by simp only[e1];exact e5,e6⟩
   .cases h
  .simp only;split at h
   .rename_i x r hx;obtain⟨ts,e1,e2⟩:=yZ hc.gl hs.zero hf hx;obtain⟨t,us,rfl,e3,e4⟩:=e2.inv_cons;obtain⟨w,e5,e6⟩:=XM (λU n cs a b x y v hs ha hb h=>aQy hs ha hb h) r U n cs x t us v hs e3 e4 h;exact⟨w,by simp only[e1];exact e5,e6⟩
   .cases h
  .cases h
theorem aNr{P:fV}(hc:Cn X gl pe)(hs:Sy U n cs){hp:gL}{nl:Nat}{H:Hp}(hh:GH hp nl U O H){fa:List A}{fr:fU}(hf:qO U O fa fr){c:Call}{v:AV}(h:aVh X hp fa n cs c=some v):
  ∃t,zA P ⟨gl,pe⟩ H fr c=some t/\VOk U O v t:=by
 unfold aVh at h;unfold zA;split at h
 .rename_i f hcal;rw[hcal];simp only;split at h
  .rename_i g first cap hg
   obtain⟨t,e1,e2⟩:=uZ hc.gl hs.zero hf hg;cases e2 with
   |fn _ _ _ f' c' h1 h2 h3 h4=>
   split at h
   .rename_i ars har;obtain⟨ts,e3,e4⟩:=yZ hc.gl hs.zero hf har;simp only[e1,e3];split at h
    .split at h
     .rename_i bs hbs;split at h
      .rename_i hpu;split at h
       .rename_i w hw;split at h
        .rename_i hsc;cases h;obtain⟨k,hk,hz⟩:=hc.fz;obtain⟨us,q1,q2⟩:=XN (g:=qJ k H) (λa b t hab hgt=>Uy hs.zero hh sJ a b t hab hgt k hk) _ _ _ hbs ((qO.app ⟨h1,h2⟩ e4).app ⟨h3,h4⟩);have q3:mapO (qJ k ⟨0,.nl⟩) us=some us:=xL us λt ht=>by
          obtain⟨a,ha,hg⟩:=xI q2.1 q2.2 ht;exact EE sJ a t (rF hpu a ha) hg k hk
         obtain⟨r,r1,r2⟩:=hc.pe _ _ _ _ _ hw U O H _ hs q2;obtain⟨ρ',x1,x2,x3⟩:=r2;exact⟨r,hz H _ _ _ _ q1 q3 r1 (aPn hsc x3),ρ',x1,x2,x3⟩
        .cases h
       .cases h
      .cases h
     .cases h
    .cases h
   .cases h
  .cases h
 .cases h
theorem Ho{P:fV}(hc:Cn X gl pe)(hs:Sy U n cs){hp:gL}{nl:Nat}{H:Hp}(hh:GH hp nl U O H){fa:List A}{fr:fU}(hf:qO U O fa fr){own:Bool}{o:Oper}{v:AV}
  (h:aNs P X own hp fa n cs o=some v):∃t,qK P ⟨gl,pe⟩ own H fr o=some t/\VOk U O v t:=by
 have ev:∀{x:jF} {a:A},PX X.gl fa x=some a->∃t,qG gl fr x=some t/\Gm U O a t:=λh=>uZ hc.gl hs.zero hf h;obtain⟨dst,op,type,pos,after,guard⟩:=o;cases op<;>simp only[aNs]at h<;>simp only[qK]<;>try(cases h;done)
 case move x=>exact CB hs h λb hb=>ev hb
 case assign x=>exact CB hs h λb hb=>ev hb
 case pick c x y=>
  split at h
  .rename_i b hb;obtain⟨t,e1,e2⟩:=ev hb;cases e2 with
   |bool _ b' hB=>
    simp only[vK]at hB;subst hB;refine CB hs h λa ha=> ?_;simp only[e1];cases b' with
    |true=>exact ev (by simpa using ha)|false=>exact ev (by simpa using ha)
  .cases h
 case box t x=>
  cases own with
  |true=>simp at h
  |false=>
   simp only[aY,if_false]at h⊢;split at h
   .rename_i y hy;split at h
    .rename_i hk;cases h;obtain⟨t,e1,e2⟩:=ev hy;exact⟨.ref t 0,by simp[e1],.here hs (.ref _ t 0 hk e2)⟩
    .cases h
   .cases h
 case build t parts=>
  split at h
  .rename_i l hl;obtain⟨qs,e1,e2,e3⟩:=KJ hc.gl hs.zero hf hl;simp only[e1];exact CB hs h λb hb=>aCa hs.zero e2 e3 hb
  .cases h
 case buildSlice t len parts=>
  cases own with
  |true=>simp at h
  |false=>
   simp only[aY,if_false]at h⊢;split at h
   .rename_i l hl;obtain⟨qs,e1,e2,e3⟩:=KJ hc.gl hs.zero hf hl;split at h
    .rename_i e s el hel;cases h;obtain⟨xs,q1,q2,q3,q4,q5⟩:=Dx hs e2 e3 hel;refine⟨.sl true xs,by simp only[e1,q2],.here hs ?_⟩;split
     .rename_i hlk;simp only[aA]at hlk;obtain⟨_,ho,hn⟩:=hlk;have hn:=pX hn;have hlq:l.length=qs.length:=by have:=congrArg List.length e2;simpa using this
      have hst:∃sz ag z,JK sz ag (List.replicate len z) qs=some xs:=by
       unfold uM at q2;split at q2
       .split at q2
        .split at q2
         .obtain⟨ys,y1,y2⟩:=aD.1 q2;cases y2;exact⟨_,_,_,y1⟩
         .cases q2
        .cases q2
       .cases q2
      obtain⟨sz,ag,z,hst⟩:=hst;obtain⟨_,r2⟩:=Rm l qs _ xs 0 hst e2 ho;refine .slk _ _ xs (.inr (.inl ⟨_,rfl⟩)) (by simp;omega) λj a t ha ht=> ?_;have hj:j<qs.length:=by have:=(aO.1 ht).1;omega
      have:=r2 j hj;rw[bP,ht]at this;exact e3.2 j a t ha this.symm
     .exact .sl _ _ _ _ xs 0 (.inr (.inl ⟨_,rfl⟩)) hs.zero (by omega) (λy hy=>(q5 y hy).1)
    .cases h
   .cases h
 case load t a=>
  split at h
  .rename_i p hp;obtain⟨t',e1,e2⟩:=ev hp;simp only[e1];exact Pm hs hh e2 h
  .cases h
 case nilCheck x=>
  split at h
  .rename_i p hp;obtain⟨t',e1,e2⟩:=ev hp;simp only[e1];exact CB hs h λb hb=>Jw e2 hb
  .cases h
 case binOp op t x y ty=>
  split at h
  .rename_i a b ha hb;split at h
   .rename_i hn;obtain⟨t1,e1,e2⟩:=ev ha;obtain⟨t2,e3,e4⟩:=ev hb;simp only[e1,e3];rw[if_pos (aDl e2 e4 hn)];exact aOa hs e2 e4 h
   .cases h
  .cases h
 case unOp op t x=>
  split at h
  .rename_i a ha;obtain⟨t1,e1,e2⟩:=ev ha;simp only[e1];exact aZk hs e2 h
  .cases h
 case convert s d x=>
  split at h
  .rename_i a ha;obtain⟨t1,e1,e2⟩:=ev ha;simp only[e1];exact aHu hs e2 h
  .cases h
 case fieldAddr s x f=>
  split at h
  .rename_i a ha;obtain⟨t1,e1,e2⟩:=ev ha;simp only[e1];exact CB hs h λb hb=>Bi e2 hb
  .cases h
 case field t x f=>
  split at h
  .rename_i a_s ha;obtain⟨t1,e1,e2⟩:=ev ha;cases e2 with
   |agg _ ts hl hg=>
    simp only[e1];split at h
    .rename_i fd hfd;simp only[hfd];exact CB hs h λb hb=>FB ⟨hl,hg⟩ hb
    .cases h
  .cases h
 case indexAddr t x i=>
  split at h
  .rename_i a b ha hb;obtain⟨t1,e1,e2⟩:=ev ha;obtain⟨t2,e3,e4⟩:=ev hb;simp only[e1,e3];exact Bk hs e2 e4 h
  .cases h
 case index t x i=>
  split at h
  .rename_i a b ha hb;obtain⟨t1,e1,e2⟩:=ev ha;obtain⟨t2,e3,e4⟩:=ev hb;simp only[e1,e3];exact aCr hs e2 e4 h
  .cases h
 case slice t x lo hi mx=>
  cases mx with
  |some m=>cases h
  |none=>
   simp only at h⊢;split at h
   .rename_i a ha;obtain⟨t1,e1,e2⟩:=ev ha;simp only[e1];split at h
    .rename_i l u hl hu;obtain⟨l',e3,e4⟩:=aAc hc.gl hs.zero hf hl;obtain⟨u',e5,e6⟩:=aAc hc.gl hs.zero hf hu;simp only[e3,e5];refine aEl hs e2 (lo:=l) (hi:=u) ?_ ?_ h
     .cases l<;>cases l'<;>exact e4
     .cases u<;>cases u'<;>exact e6
    .cases h
   .cases h
 case extract x i=>
  split at h
  .rename_i xs ha;obtain⟨t1,e1,e2⟩:=ev ha;cases e2 with
   |tup _ ts hl hg=>
    simp only[e1];exact CB hs h λb hb=>qO.at ⟨hl,hg⟩ hb
  .cases h
 case lookup t x i ok=>
  split at h
  .rename_i a b ha hb;obtain⟨t1,e1,e2⟩:=ev ha;obtain⟨t2,e3,e4⟩:=ev hb;simp only[e1,e3];exact CB hs h λb hb=>Vm hs.zero hh e2 e4 hb
  .cases h
 case makeFunc f first captured=>
  split at h
  .split at h
   .rename_i a c ha hb;cases h;obtain⟨a_s,e1,e2⟩:=yZ hc.gl hs.zero hf ha;obtain⟨bs,e3,e4⟩:=yZ hc.gl hs.zero hf hb;simp only[e1,e3];exact⟨_,rfl,.here hs (.fn _ _ _ _ _ e2.1 e2.2 e4.1 e4.2)⟩
   .cases h
  .cases h
 case call c=>
  split at h
  .rename_i w hw;cases h;exact aNp hc hs hf hw
  .exact aNr hc hs hh hf h
end
abbrev jY:=Nat->Nat->Prop
def Ev(p:jY):Prop:=∃m,∀n d,m<=n->m<=d->p n d
theorem Ev.of{p:jY}(h:∀n d,p n d):Ev p:=⟨0,λn d _ _ =>h n d⟩
theorem Ev.mono{p q:jY}(h:Ev p)(hq:∀n d,p n d->q n d):Ev q:=by
 obtain⟨m,hm⟩:=h;exact⟨m,λn d h1 h2=>hq n d (hm n d h1 h2)⟩
theorem Ev.and{p q:jY}(h:Ev p)(hq:Ev q):Ev λn d=>p n d/\q n d:=by
 obtain⟨m,hm⟩:=h;obtain⟨k,hk⟩:=hq;exact⟨max m k,λn d h1 h2=>⟨hm n d (by omega) (by omega),hk n d (by omega) (by omega)⟩⟩
def ROk(U:gJ)(O:fW)(R:AR)(t:T)(H:Hp):Prop:=
 ∃ρ' μ',uA U ρ'/\uA O μ'/\Sy ρ' R.nx R.cs/\GH R.hp R.nl ρ' μ' H/\Gm ρ' μ' R.a t
abbrev gP:=Nat->Nat->FuncId->List T->Hp->Option (T×Hp)
def yI(call:FuncId->List A->AS->Option (List AR))(ee:gP):Prop:=
 ∀f args S rs,call f args S=some rs->∀(U:gJ) (O:fW) (H:Hp) (ts:fU),Sy U S.nx S.cs->GH S.hp S.nl U O H->qO U O args ts->
  ∃r H',Ev (λn d=>ee n d f ts H=some (r,H'))/\∃R∈rs,ROk U O R r H'
section
variable{U ρ':gJ}{O μ':fW}{X:AX}{gl:fY}{pe:gN}{H:Hp}{S:AS}{P:fV}
theorem RP(hs:Sy U S.nx S.cs)(hh:GH S.hp S.nl U O H){o:AO}{b:Ob}(hb:Ti U O o b)(hme:b.me=none:=by rfl):ROk U O ⟨.ptr S.nl 0,(S.nl,o)::S.hp,S.nx,S.nl+1,S.cs⟩ (.ptr H.next 0) (H.new b):=
 ⟨U,O++[some H.next],.refl _,.app _ _,hs,hh.new (hb.ext (.refl _) (.app _ _)) hme,.ptr _ _ _ (tM hh.len _)⟩
theorem Ab{cs new:fU}{off:Nat}(h:off+new.length<=cs.length):(sI cs off new).length=cs.length:=by
 simp only[sI,bI,dX,cY];omega
theorem Ro{sz:Nat}{ts:fU}(hs:∀t∈ts,t.cells.length=sz){i off:Nat}{x y:T}{new:fU}(hi:ts[i]? =some x)(hy:y.cells=sI x.cells off new)(ho:off+new.length<=sz):
  sI (ts.flatMap T.cells) (i*sz+off) new=(ts.set i y).flatMap T.cells:=by
 have hil:=(aO.1 hi).1;have hx:x.cells.length=sz:=hs x (bB hi);have e1:ts=ts.take i++x::ts.drop (i+1):=by
  have:ts.drop i=x::ts.drop (i+1):=by
   rw[eT hil];congr 1;exact(aO.1 hi).2
  rw[<-this,List.take_append_drop]
 have e2:ts.set i y=ts.take i++y::ts.drop (i+1):=by rw[List.set_eq_take_append_cons_drop,if_pos hil]
 have hl:((ts.take i).flatMap T.cells).length=i*sz:=by
  rw[wW (sz:=sz) _ (λt ht=>hs t (eX ht)),dX,Nat.min_eq_left (by omega)]
 have e3:ts.flatMap T.cells=(ts.take i).flatMap T.cells++(x.cells++(ts.drop (i+1)).flatMap T.cells):=by
  conv=>lhs;rw[e1]
  simp
 rw[e2,e3];simp only[dY,bG,hy];unfold sI;rw[<-hl,List.take_length_add_append,dW,List.drop_length_add_append];have a1:List.take off (x.cells++(ts.drop (i+1)).flatMap T.cells)=x.cells.take off:=List.take_append_of_le_length (by omega);have a2:List.drop (off+new.length) (x.cells++(ts.drop (i+1)).flatMap T.cells)=x.cells.drop (off+new.length)++(ts.drop (i+1)).flatMap T.cells:=List.drop_append_of_le_length (by omega);rw[a1,a2];simp[dS]
theorem Ha(hs:Sy U S.nx S.cs)(hh:GH S.hp S.nl U O H){t:fS}{p x:A}{q y:T}(hp:Gm U O p q)(hx:Gm U O x y){R:AR}(h:Lj P S t p x=some R):
  ∃H',wF P H t q y=some H'/\ROk U O R pV H':=by
 unfold Lj at h;split at h
 .rename_i n hn;split at h
  .rename_i hc;simp only[aA]at hc;obtain⟨k1,k2,k3⟩:=hc;obtain⟨_,kc⟩:=rX hx k1;have k2:x.cells.length=n:=pX k2;have ky:y.cells.length=n:=by rw[<-kc.1];exact k2
   have ko:=CL kc k3;split at h
   .rename_i l off;cases hp with
    |ptr _ _ l' hl'=>
    split at h
    .rename_i e xs hl;split at h
     .rename_i hle;cases h;obtain⟨b,h1,h2⟩:=hh.at hl hl';refine⟨H.put l' {b with cells:=sI b.cells off y.cells},?_,U,O,.refl _,.refl _,hs,?_,uU⟩
      .simp only[wF,h1,hn];rw[if_pos ⟨ky,by rw[<-h2.2.1];exact hle,ko⟩]
      .exact hh.put hl hl' h1 ⟨h2.1,MM h2.2 kc off⟩ (qP h1).2
     .cases h
    .cases h
   .rename_i l sz s c off;cases hp with
    |elp _ _ _ _ _ l' w hl' hw hw0=>
    split at h
    .rename_i e sz' a s' c' hl;split at h
     .rename_i hc;simp only[aA,aJ]at hc;obtain⟨⟨⟨⟨c1,c2⟩,c3⟩,c4⟩,c5⟩:=hc;have c1:=pX c1;subst c1;have c3:=pX c3;obtain⟨b,h1,h2,h3,ts,v',g1,g2,g3,g4⟩:=hh.at hl hl';have hlt:=qB hs.cs c4 hw g1;have hi:(w+c).toNat<ts.length:=by omega
      have hget:=aB hi;have hmem:=cK hi;generalize hz:ts[(w+c).toNat]=z at hget hmem;have hmul:((w+c).toNat+1)*sz<=ts.length*sz:=cU _ hi;rw[cW]at hmul;have hfl:=wW ts (λt ht=>(g4 t ht).2);have key:∀(bt:A) (z':T),z'.cells=sI z.cells off y.cells->(∀t,Gm U O a t->Gm U O bt t)->Gm U O bt z'->
        ∃H',wF P H t (.ptr l' ((w+c).toNat*sz+off)) y=some H'/\ROk U O ⟨.tup [],CD S.hp l (.row e sz bt s' c'),S.nx,S.nl,S.cs⟩ pV H':=by
       intro bt z' hz' hb1 hb2;refine⟨H.put l' {b with cells:=sI b.cells ((w+c).toNat*sz+off) y.cells},?_,U,O,.refl _,.refl _,hs,?_,uU⟩
       .simp only[wF,h1,hn];rw[if_pos ⟨ky,by rw[g3,hfl];omega,ko⟩]
       .refine hh.put hl hl' h1 ⟨h2,⟨h3.1,λh5 e0=>h3.2 h5 (dR.1 (by
         have hs:=Ab (cs:=b.cells) (new:=y.cells) (off:=(w+c).toNat*sz+off) (by rw[g3,hfl];omega);have e0:sI b.cells ((w+c).toNat*sz+off) y.cells=[]:=e0;rw[e0]at hs
         exact hs.symm))⟩,ts.set (w+c).toNat z',v',g1,by simpa using g2,?_,λt ht=> ?_⟩ (qP h1).2
        .rw[g3];exact Ro (λt ht=>(g4 t ht).2) hget hz' (by omega)
        .rcases List.mem_or_eq_of_mem_set ht with ht|rfl
         .exact⟨hb1 t (g4 t ht).1,(g4 t ht).2⟩
         .refine⟨hb2,?_⟩;rw[hz',Ab (by rw[(g4 z hmem).2];omega)];exact(g4 z hmem).2
      split at h
      .rename_i a_s;split at h
       .rename_i bt hbt;split at h
        .cases h;obtain⟨j1,j2⟩:=Jo (O:=O) hs.cs hs.zero hbt;have hzg:=(g4 z hmem).1;cases hzg with
         |agg _ zs q1 q2=>
          have hsp:=MM (off:=off) ⟨q1,q2⟩ kc;exact key bt (.agg (sI zs off y.cells)) rfl j1 (j2 _ (.agg _ _ hsp.1 hsp.2))
        .cases h
       .cases h
      .cases h
      .rename_i hna hnp;split at h
       .rename_i yy hyy;split at h
        .rename_i bt hbt;split at h
         .cases h;obtain⟨j1,j2⟩:=Jo (O:=O) hs.cs hs.zero hbt;have hzk:=rX (g4 z hmem).1 c2;have hag:a.isAgg=false:=by cases a<;>first|rfl|exact(hna _ rfl).elim|exact(hnp _ _ rfl).elim
          have hac:a.cells=[a]:=by cases a<;>first|rfl|exact(hna _ rfl).elim|exact(hnp _ _ rfl).elim
          have hz1:z.cells=[z]:=FP (hzk.1.trans hag);have hsz:sz=1:=by rw[<-(g4 z hmem).2,hz1];rfl
          rw[hyy]at kc k2;obtain⟨u,r,hur,g5,g6⟩:=kc.inv_cons;have:=g6.inv_nil;subst this;have hu1:u.cells=[u]:=by
           have:rM y.cells=true:=ko;rw[hur]at this;simp only[rM,bC]at this;cases u<;>simp_all [T.one,T.cells]
          have h01 : off = 0 := by have:n=1:=by rw[<-k2];rfl
                                   omega
          subst h01;exact key bt u (by rw[hu1,hur,hz1];rfl) j1 (j2 u g5)
         .cases h
        .cases h
       .cases h
     .cases h
    .cases h
   .cases h
  .cases h
 .cases h
theorem Kp{x b:Nat}(h:(x:Int)<=70368744177664/((b:Int)+1)):zP x b=true:=by
 have h1:(x:Int)*(b+1)<=70368744177664:=by
  have:=Int.mul_le_of_le_ediv (by omega) h;exact this
 have h2:x*(b+1)<=70368744177664:=by
  have:((x*(b+1):Nat):Int)<=((70368744177664:Nat):Int):=by rw[Int.natCast_mul,Int.natCast_add];exact h1
  exact Int.ofNat_le.1 this
 rw[Nat.mul_succ]at h2;have h3:x<=x*(b+1):=Nat.le_mul_of_pos_right _ (by omega);rw[Nat.mul_succ]at h3;unfold zP;rw[aA,aJ,aJ];omega
theorem Bq(hs:Sy U S.nx S.cs)(hh:GH S.hp S.nl U O H){t:fS}{l c:A}{x y:T}(hl:Gm U O l x)(hc:Gm U O c y){R:AR}(h:LY P S t l c=some R):
  ∃r H',tG P H t x y=some (r,H')/\ROk U O R r H':=by
 unfold LY at h;split at h
 .rename_i e s c s' c' hu;cases hl with
  |int _ _ _ v hv hi=>cases hc with
   |int _ _ _ v' hv' hi'=>
   split at h
   .rename_i sz bytes z hsz hby hz;split at h
    .rename_i hc;cases h;simp only[aA,beq_iff_eq]at hc;obtain⟨⟨⟨⟨⟨⟨⟨⟨k0,k1⟩,k2⟩,k3⟩,k4⟩,k5⟩,k6⟩,k7⟩,k8⟩:=hc;have k5:=pX k5;subst k5 k6;rw[hv]at hv';cases hv';have k7:=qB hs.cs k7 hs.zero hv;have k8:=qB hs.cs k8 hv hs.zero;obtain⟨z',e1,e2⟩:=CX (U:=U) (O:=O) hs.zero hz;obtain⟨_,kc⟩:=rX e2 k3;have hzl:z'.cells.length=sz:=by rw[<-kc.1];exact pX k2
     have hroom:=Kp (x:=(v+c).toNat) (b:=bytes) (by omega);unfold zP at hroom;rw[aA,aJ,aJ]at hroom;have hnew:=hh.new (o:= .row e sz z s c) (b:={elem:=e,sz:=sz,cells:=(List.replicate (v+c).toNat z').flatMap T.cells})
      ⟨rfl,⟨rfl,λh5 e0=>by
       subst h5;rcases(bF _ _ |>.mp k0)with q|q
       .simp at q
       .have q:=qB hs.cs q hs.zero hv;have k1:=qW k1;have hfl:=wW (sz:=sz) (List.replicate (v+c).toNat z') (λt ht=>by rw[bN]at ht;rw[ht.2];exact hzl);have e0:(List.replicate (v+c).toNat z').flatMap T.cells=[]:=e0;rw[e0]at hfl;simp only[List.length_replicate,List.length_nil]at hfl
        rcases Nat.mul_eq_zero.1 hfl.symm with z|z<;>omega⟩,List.replicate (v+c).toNat z',v,hv,by simp;omega,rfl,λt ht=>by
       rw[bN]at ht;rw[ht.2];exact⟨e2.ext (.refl _) (.app _ _),hzl⟩⟩
     refine⟨.osl H.next sz 0 (v+c).toNat,_,?_,U,O++[some H.next],.refl _,.app _ _,hs,hnew,?_⟩
     .simp only[tG,hu,hsz,hby,e1];rw[if_pos ⟨qW k1,hzl,by omega,by first|rfl|trivial,hroom.1,by omega⟩]
     .have:=Gm.osl (U:=U) (O:=O++[some H.next]) S.nl sz 0 0 s c H.next 0 v (tM hh.len _) hs.zero (by omega) hv (by omega);simpa using this
    .cases h
   .cases h
 .cases h
end
section
variable{U ρ':gJ}{O μ':fW}{X:AX}{gl:fY}{pe:gN}{H:Hp}{S:AS}{P:fV}
theorem Iy{sz:Nat}{ts:fU}(h:∀t∈ts,t.cells.length=sz)(hs:sz≠0)(hn:ts.length≠0):ts.flatMap T.cells≠[]:=λe=>by
 have:=wW ts h;rw[e]at this;rcases Nat.mul_eq_zero.1 this.symm with q|q
 .exact hn q
 .exact hs q
theorem RQ(hs:Sy U S.nx S.cs)(hh:GH S.hp S.nl U O H){e:fS}{sz:Nat}{a:A}{s:Nat}{c v:Int}{ts:fU}(hv:U[s]? =some v)(hl:(ts.length:Int)=v+c)(hg:∀t∈ts,Gm U O a t/\t.cells.length=sz)(hne:e=5->ts.flatMap T.cells≠[]):
  ROk U O ⟨.osl S.nl sz 0 0 s c,(S.nl,.row e sz a s c)::S.hp,S.nx,S.nl+1,S.cs⟩ (.osl H.next sz 0 ts.length) (H.new {elem:=e,sz:=sz,cells:=ts.flatMap T.cells}):=by
 refine⟨U,O++[some H.next],.refl _,.app _ _,hs,hh.new ⟨rfl,⟨rfl,hne⟩,ts,v,hv,hl,rfl,λt ht=>⟨(hg t ht).1.ext (.refl _) (.app _ _),(hg t ht).2⟩⟩,?_⟩;have:=Gm.osl (U:=U) (O:=O++[some H.next]) S.nl sz 0 0 s c H.next 0 v (tM hh.len _) hs.zero (by omega) hv (by omega);rw[<-hl]at this;simpa using this
theorem WK(hs:Sy U S.nx S.cs)(hh:GH S.hp S.nl U O H){t:fS}{len:Nat}{ps:List (Nat×A)}{qs:iM}(h1:ps.map Prod.fst=qs.map Prod.fst)(h2:qO U O (ps.map Prod.snd) (qs.map Prod.snd)){R:AR}
  (h:HL P S t len ps=some R):∃e xs s,P.underlying t=some (.slice e)/\uM P t len qs=some (.sl true xs)/\vZ P e=some s/\
   ROk U O R (.osl H.next s 0 len) (H.new {elem:=e,sz:=s,cells:=xs.flatMap T.cells}):=by
 unfold HL at h;split at h
 .rename_i e s el hel;split at h
  case isFalse=>cases h
  rename_i hne;cases h;obtain⟨xs,q1,q2,q3,q4,q5⟩:=Dx hs h1 h2 hel;refine⟨e,xs,s,q1,q2,q3,?_⟩
  have:=RQ hs hh (e:=e) (sz:=s) (a:=el) (s:=0) (c:=len) (v:=0) (ts:=xs) hs.zero (by omega) q5 (λh5=>by
   subst h5;rcases(bF _ _ |>.mp hne)with h|h
   .simp at h
   .simp only[aA]at h;have h1:=qW h.1;have h2:=qW h.2
    exact Iy (λx hx=>(q5 x hx).2) (by omega) (by omega))
  rw[q4]at this;exact this
 .cases h
theorem aSh(hs:Sy U S.nx S.cs)(hh:GH S.hp S.nl U O H){tx:fS}{size:Nat}{x:A}{y:T}(hx:Gm U O x y){el:A}{s:Nat}{c:Int}(h:aYz P S.hp S.cs tx size x=some (el,s,c))
  (hk:el.known=true) (hsz:el.cells.length=size):
  ∃(us:fU) (v:Int),sL H y=some (us.flatMap T.cells)/\yF y=some us.length/\zX P tx size y=true/\U[s]? =some v/\(us.length:Int)=v+c/\∀u∈us,Gm U O el u/\u.cells.length=size:=by
 have cl:∀{u:T},Gm U O el u->u.cells.length=size:=λhu=>by rw[<-(rX hu hk).2.1];exact hsz
 unfold aYz at h;split at h
 .rename_i l sz si ci s0 c0 hu;split at h
  .rename_i e0 sz' e s' c' hl;split at h
   .rename_i hc;simp only[aA]at hc;obtain⟨⟨⟨k1,k2⟩,k3⟩,k4⟩:=hc;have k1:=pX k1;have k2:=pX k2;subst k1 k2;split at h
    .rename_i q d hq;split at h
     .rename_i hle;cases h;cases hx with
      |osl _ _ _ _ _ _ l' vi v g1 g2 g3 g4 g5=>
       obtain⟨b,h1,h2,h3,ts,v',r1,r2,r3,r4⟩:=hh.at hl g1;obtain⟨u,u1,u2⟩:=PL hs.zero g2 g4 hq;have hle:=qB hs.cs hle u1 r1;have hfl:=wW ts (λt ht=>(r4 t ht).2);have hle2:(vi+ci).toNat+(v+c).toNat<=ts.length:=by omega
       refine⟨(ts.drop (vi+ci).toNat).take (v+c).toNat,v,?_,?_,by simp[zX,hu],g4,?_,λt ht=> ?_⟩
       .simp only[sL,h1];rw[if_pos (by rw[r3,hfl];exact cU _ hle2),r3,FX ts _ (λt ht=>(r4 t ht).2) (by omega)];have:=FX (ts.drop (vi+ci).toNat) (v+c).toNat (λt ht=>(r4 t (fH ht)).2) (by rw[cY];omega);have e1:((ts.drop (vi+ci).toNat).flatMap T.cells)=(((ts.drop (vi+ci).toNat).take (v+c).toNat).flatMap T.cells)++(((ts.drop (vi+ci).toNat).drop (v+c).toNat).flatMap T.cells):=by
         rw[<-dY,List.take_append_drop]
        have e2:(((ts.drop (vi+ci).toNat).take (v+c).toNat).flatMap T.cells).length=(v+c).toNat*sz:=by
         rw[wW (sz:=sz) _ (λt ht=>(r4 t (fH (eX ht))).2),dX,cY,Nat.min_eq_left (by omega)]
        rw[e1,<-e2,List.take_left]
       .simp only[yF,dX,cY];congr 1;omega
       .rw[dX,cY];omega
       .exact r4 t (fH (eX ht))
      |osl0 _ _ _ _ _ _ vi v g1 g2 g3 g4 g5=>
       exact⟨[],v,rfl,rfl,by simp[zX,hu],g4,by simp;omega,λt ht=>by simp at ht⟩
     .cases h
    .cases h
   .cases h
  .cases h
 .have hu:=‹P.underlying tx=_›;cases h;cases hx with
  |sl _ _ _ _ xs v g1 g2 g3 g4=>
   refine⟨xs,v,?_,?_,?_,g2,g3,λu hu=>⟨g4 u hu,cl (g4 u hu)⟩⟩
   .rcases g1 with⟨rfl,rfl⟩|⟨f,rfl⟩|⟨full,m,f,rfl,rfl⟩
    .rfl
    .rfl
    .simp only[sL,fD]
   .rcases g1 with⟨rfl,rfl⟩|⟨f,rfl⟩|⟨full,m,f,rfl,rfl⟩
    .rfl
    .rfl
    .simp[yF]
   .rcases g1 with⟨rfl,rfl⟩|⟨f,rfl⟩|⟨full,m,f,rfl,rfl⟩<;>simp[zX,hu]
 .have hu:=‹P.underlying tx=_›;split at h
  .cases h;cases hx;exact⟨[],0,rfl,rfl,by simp[zX,hu],hs.zero,by simp,λt ht=>by simp at ht⟩
  .cases h
 .rename_i b hu;split at h
  .rename_i h1;cases h;cases hx;have h1:=pX h1;subst h1;refine⟨b.map λb=> .int .u8 b.toNat,0,?_,by simp[yF],by simp[zX,hu],hs.zero,by simp,λt ht=> ?_⟩
   .simp only[sL,fD];congr 1
    induction b with
    |nil=>rfl|cons a r ih=>simp only[cB,bG,T.cells,ih];rfl
   .obtain⟨a,_,rfl⟩:=bQ.1 ht;have:=UInt8.toNat_lt a;exact⟨.ival _ _ _ _ (by omega) (by omega) (by simp only[HG,IntKind.min,IntKind.max,IntKind.bits,IntKind.signed];simp;omega),rfl⟩
  .cases h
 .have hu:=‹P.underlying tx=_›;split at h
  .rename_i h1;cases h;cases hx with
   |str _ _ v b g1 g2=>
   have h1:=pX h1;subst h1;refine⟨b.map λb=> .int .u8 b.toNat,v,?_,by simp[yF],by simp[zX,hu],g1,by simpa using g2,λt ht=> ?_⟩
   .simp only[sL,fD];congr 1;clear g2 hsz
    induction b with
    |nil=>rfl|cons a r ih=>simp only[cB,bG,T.cells,ih];rfl
   .obtain⟨a,_,rfl⟩:=bQ.1 ht;have:=UInt8.toNat_lt a;exact⟨.ival _ _ _ _ (by omega) (by omega) (by simp only[HG,IntKind.min,IntKind.max,IntKind.bits,IntKind.signed];simp;omega),rfl⟩
  .cases h
 .cases h
end
section
variable{U ρ':gJ}{O μ':fW}{X:AX}{gl:fY}{pe:gN}{H:Hp}{S:AS}{P:fV}
theorem SV{hp:gL}{n nl:Nat}{cs:List qV}(hs:Sy U n cs)(hh:GH hp nl U O H){e:fS}{sz:Nat}{a:A}{s:Nat}{c v:Int}(hv:U[s]? =some v){r:T}
  (h:(r= .nils/\v+c=0)\/∃(x:Nat) (ts:fU) (b:Ob),r= .osl x sz 0 ts.length/\(ts.length:Int)=v+c/\x<H.next/\(∀l q,pY hp l=some q->O[l]? ≠some (some x))/\H.get x=some b/\b.elem=e/\(b.sz=sz/\(e=5->b.cells≠[]))/\b.cells=ts.flatMap T.cells/\∀t∈ts,Gm U O a t/\t.cells.length=sz):
  ROk U O ⟨.osl nl sz 0 0 s c,(nl,.row e sz a s c)::hp,n,nl+1,cs⟩ r H:=by
 rcases h with⟨rfl,h0⟩|⟨x,ts,b,rfl,h1,h2,h3,h4,h5,h6,h7,h8⟩
 .exact⟨U,O++[none],.refl _,.app _ _,hs,hh.alias (λ_ _ h=>by cases h) (λx hx=>by cases hx),.osl0 _ _ _ _ _ _ 0 v (tM hh.len _) hs.zero (by omega) hv h0⟩
 .refine⟨U,O++[some x],.refl _,.app _ _,hs,hh.alias (λ_ _ h=>by cases h) (λy hy=> ?_),?_⟩
  .cases hy;exact⟨h2,h3,b,h4,h5,h6,ts,v,hv,h1,h7,λt ht=>⟨(h8 t ht).1.ext (.refl _) (.app _ _),(h8 t ht).2⟩⟩
  .have:=Gm.osl (U:=U) (O:=O++[some x]) nl sz 0 0 s c x 0 v (tM hh.len _) hs.zero (by omega) hv (by omega);rw[<-h1]at this;simpa using this
theorem ROk.lift{n nl:Nat}{cs:List qV}{hp:gL}{R:AR}{t:T}{ρ1:gJ}(he:uA U ρ1)(h:ROk ρ1 O R t H):ROk U O R t H:=by
 obtain⟨a,b,h1,h2,h3⟩:=h;exact⟨a,b,he.trans h1,h2,h3⟩
theorem aSu{cs:List qV}(hc:qM U cs)(h0:U[0]? =some 0){s:Nat}{c v u:Int}(hv:U[s]? =some v)(h:aZl cs s c=some u):v+c<=u:=by
 unfold aZl at h;split at h
 .cases h;have:=qB hc ‹_› hv h0;omega
 .split at h
  .cases h;have:=qB hc ‹_› hv h0;omega
  .split at h
   .cases h;have:=qB hc ‹_› hv h0;omega
   .split at h
    .cases h;have:=qB hc ‹_› hv h0;omega
    .cases h
theorem Mn(hs:Sy U S.nx S.cs)(hh:GH S.hp S.nl U O H){t tx:fS}{s x:A}{s' y:T}(hS:Gm U O s s')(hx:Gm U O x y){R:AR}(h:WC P S t tx s x=some R):
  ∃r H',DI P H t tx s' y=some (r,H')/\ROk U O R r H':=by
 unfold WC at h;split at h
 .rename_i e es c hu;split at h
  .rename_i e2 i hu2 hi;split at h
   .rename_i hc;simp only[aA,beq_iff_eq,uX,aJ]at hc;obtain⟨c1,c2,c3,c4,c5,c6,c7⟩:=hc;have c1:1<i.size:=by simpa using c1
    have c2:=pX c2;cases h;cases hS;cases hx with
    |sl _ _ _ _ xs w h1 q1 q2 q3=>
    rw[hs.zero]at q1;cases q1;have hl:(xs.length:Int)=c:=by omega
    have hne:xs≠[]:=λe=>by rw[e]at hl;simp at hl;omega
    have hxs:aZp y=some xs:=by
     rcases h1 with⟨rfl,rfl⟩|⟨f,rfl⟩|⟨full,m,f,rfl,rfl⟩
     .exact absurd rfl hne
     .rfl
     .rfl
    have hsrc:zX P tx i.size y=true:=by
     unfold zX;rw[hu2];rcases h1 with⟨rfl,rfl⟩|⟨f,rfl⟩|⟨full,m,f,rfl,rfl⟩<;>rfl
    have hcell:∀u∈xs,u.cells.length=i.size/\rM u.cells=true:=λu hm=>by
     have:=q3 u hm;cases this with
     |agg _ ts g1 g2=>
      refine⟨by show ts.length=_;rw[<-g1];exact c2,?_⟩;exact CL (⟨g1,g2⟩:qO U O es ts) c3
    have hall:∀l:List T,(∀u∈l,rM u.cells=true)->rM (l.flatMap T.cells)=true:=by
     intro l
     induction l with
     |nil=>intro _;rfl
     |cons u r ih=>
      intro hq;rw[bG];have h1:=hq u (by simp);have h2:=ih (λw hw=>hq w (by simp[hw]));generalize u.cells=q at h1
      induction q with
      |nil=>exact h2|cons z q ih2=>simp only[rM,aA,List.cons_append]at h1⊢;exact⟨h1.1,ih2 h1.2⟩
    refine⟨.sl false xs,H,?_,?_⟩
    .unfold DI;rw[hu,hxs];simp only[hi];rw[if_neg];rintro(q|q|q|q|q|q|q)
     .omega
     .exact hne (List.isEmpty_iff.1 q)
     .rw[aH.2 (λu hm=>by simpa using(hcell u hm).1)]at q;cases q
     .rw[hall xs (λu hm=>(hcell u hm).2)]at q;cases q
     .exact q c4
     .rw[hsrc]at q;cases q
     .have:zP xs.length i.bytes=true:=by
       unfold zP;simp only[aA,aJ];constructor
       .have:((xs.length*i.bytes:Nat):Int)<=70368744177664:=by rw[Int.natCast_mul,hl];exact c6
        omega
       .omega
      rw[this]at q;cases q
    .exact⟨U,O,.refl _,.refl _,hs,hh,.sl _ _ _ _ xs 0 (.inr (.inl ⟨false,rfl⟩)) hs.zero (by omega) q3⟩
   .cases h
  .cases h
 .cases h
theorem Tp(hs:Sy U S.nx S.cs)(hh:GH S.hp S.nl U O H){t tx:fS}{s x:A}{s' y:T}(hS:Gm U O s s')(hx:Gm U O x y){R:AR}(h:Hs P S t tx s x=some R):
  ∃r H',uL P H t tx s' y=some (r,H')/\ROk U O R r H':=by
 unfold Hs at h;split at h
 .rename_i e hu;split at h
  .rename_i i hi;split at h
   .rename_i el sm cm hsrc;split at h
    .cases h
    .rename_i hc;simp only[bF,not_or,bW,Bool.not_eq_false,beq_iff_eq]at hc;obtain⟨⟨⟨⟨c1,c2⟩,c3⟩,c4⟩,c5⟩:=hc;have c3:el.known=true:=by simpa using c3
     have c4:el.cells.length=i.size:=pX (by simpa using c4);have c5:wG el.cells=true:=by simpa using c5
     obtain⟨us,vm,u1,u2,u3,u4,u5,u6⟩:=aSh hs hh hx hsrc c3 c4;have hall:rM (us.flatMap T.cells)=true:=by
      clear u1 u2 u5
      induction us with
      |nil=>rfl
      |cons u r ih=>
       rw[bG];have h1:=CL (rX (u6 u (by simp)).1 c3).2 c5;have h2:=ih (λw hw=>u6 w (by simp[hw]));clear ih u6;generalize u.cells=q at h1
       induction q with
       |nil=>exact h2|cons z q ih2=>simp only[rM,aA,List.cons_append]at h1⊢;exact⟨h1.1,ih2 h1.2⟩
     have hfl:=wW us (λu hu=>(u6 u hu).2);have guard:¬(i.size=0\/(us.flatMap T.cells).length≠us.length*i.size\/rM (us.flatMap T.cells)=false\/(i.zero.map λz=>z.cells.size)≠some i.size\/zX P tx i.size y=false):=by
      rintro(q|q|q|q|q)
      .exact c1 q
      .exact q hfl
      .rw[hall]at q;cases q
      .exact q c2
      .rw[u3]at q;cases q
     have nilCase:∀(b:A) (q:Nat) (d w:Int) (ρ1:gJ) (n1:Nat) (cs1:List qV) (HF:gL),uA U ρ1->Sy ρ1 n1 cs1->GH HF S.nl ρ1 O H->ρ1[q]? =some w->w+d=us.length->
       (us.length:Int)<=70368744177664/((i.bytes:Int)+1)->(∀u,Gm U O el u->Gm U O b u)->
       ∃r H',uL P H t tx .nils y=some (r,H')/\ROk U O ⟨.osl S.nl i.size 0 0 q d,(S.nl,.row e i.size b q d)::HF,n1,S.nl+1,cs1⟩ r H':=by
      intro b q d w ρ1 n1 cs1 HF e1 s1 g1 hw hwd hroom hb;by_cases h0:us.length=0
      .refine⟨.nils,H,?_,ROk.lift (n:=0) (nl:=0) (cs:=[]) (hp:=[]) e1 (SV s1 g1 hw (.inl ⟨rfl,by omega⟩))⟩;simp only[uL,hu,hi,u1,u2];rw[if_neg guard];simp only[h0,if_true]
      .have:=RQ (S:=⟨[],HF,n1,S.nl,cs1⟩) s1 g1 (e:=e) (sz:=i.size) (a:=b) (s:=q) (c:=d) (v:=w) (ts:=us) hw (by omega) (λu hu=>⟨(hb u (u6 u hu).1).ext e1 (.refl _),(u6 u hu).2⟩) (λ_ =>Iy (λu hu=>(u6 u hu).2) c1 h0);refine⟨_,_,?_,ROk.lift (n:=0) (nl:=0) (cs:=[]) (hp:=[]) e1 this⟩;simp only[uL,hu,hi,u1,u2];rw[if_neg guard,if_neg h0,if_pos (Kp hroom)]
     split at h
     .split at h
      .rename_i hcc;simp only[aA]at hcc;have k2:=qB hs.cs hcc.2 u4 hs.zero;cases h;cases hS;exact nilCase el sm cm vm U S.nx S.cs S.hp (.refl _) hs hh u4 (by omega) (by omega) (λu hu=>hu)
      .cases h
     .rename_i l sz si ci s0 c0;split at h
      .rename_i e' sz' a q0 d0 hl;split at h
       .rename_i hcc;simp only[aA,beq_iff_eq]at hcc;obtain⟨⟨⟨⟨⟨⟨⟨k1,k2⟩,k3⟩,k4⟩,k5⟩,k6⟩,k7⟩,k8⟩:=hcc;have k1:=pX k1;have k2:=pX k2;have k3:=pX k3;have k4:=pX k4;have k6:=pX k6;subst k3 k4 k5 k6 k7;subst k1;split at h
        .rename_i b hb;split at h
         .rename_i hbb;simp only[aA]at hbb;obtain⟨⟨⟨⟨b1,b2⟩,b3⟩,b4⟩,b5⟩:=hbb;have b4:=qB hs.cs b4 hs.zero u4;obtain⟨j1,j2⟩:=Jo (O:=O) hs.cs hs.zero hb;have main:∀(q:Nat) (d w:Int) (ρ1:gJ) (n1:Nat) (cs1:List qV),uA U ρ1->Sy ρ1 n1 cs1->ρ1[q]? =some w->(∀v0,U[s0]? =some v0->w+d=v0+c0+(vm+cm))->
            w+d<=70368744177664/((i.bytes:Int)+1)->
            ∃r H',uL P H t tx s' y=some (r,H')/\ROk U O ⟨.osl S.nl i.size 0 0 q d,(S.nl,.row e' i.size b q d)::wU S.hp l,n1,S.nl+1,cs1⟩ r H':=by
           intro q d w ρ1 n1 cs1 e1 s1 hw hwd hroom
           have hdrop:GH (wU S.hp l) S.nl U O H:=hh.sub (λm o hm=>by
            rw[CS]at hm;split at hm
            .cases hm
            .exact hm)
           cases hS with
           |osl0 _ _ _ _ _ _ vi v0 g1 g2 g3 g4 g5=>
            have:=hwd v0 g4;exact nilCase b q d w ρ1 n1 cs1 (wU S.hp l) e1 s1 (hdrop.ext e1) hw (by omega) (by omega) j2
           |osl _ _ _ _ _ _ l' vi v0 g1 g2 g3 g4 g5=>
            have hlen:=hwd v0 g4;obtain⟨ob,o1,o2,o3,ts,v1,r1,r2,r3,r4⟩:=hh.at hl g1;rw[g4]at r1;cases r1;rw[hs.zero]at g2;cases g2;have htl:(v0+c0).toNat=ts.length:=by omega
            by_cases h0:us.length=0
            .refine⟨.osl l' sz' 0 ts.length,H,?_,ROk.lift (n:=0) (nl:=0) (cs:=[]) (hp:=[]) e1 (SV s1 (hdrop.ext e1) hw (.inr ⟨l',ts,ob,by rw[k2],by omega,hh.lt l l' g1,λm o hm he=> ?_,o1,o2,⟨by rw[o3.1,k2],o3.2⟩,r3,λu hu=>⟨(j1 u (r4 u hu).1).ext e1 (.refl _),by rw[<-k2];exact(r4 u hu).2⟩⟩))⟩
             .simp only[uL,hu,hi,u1,u2];rw[if_neg guard];simp only[Int.add_zero,Int.toNat_zero,h0,if_true,htl,k2]
             .rw[CS]at hm;split at hm
              .cases hm
              .rename_i hne;exact hne (hh.inj l m _ o l' hl hm g1 he)
            .have hgd:=hh.dropR hl g1
             have hnr:=RQ (S:=⟨[],wU S.hp l,n1,S.nl,cs1⟩) (H:=H.drop l') s1 (hgd.ext e1) (e:=e') (sz:=i.size) (a:=b) (s:=q) (c:=d) (v:=w) (ts:=ts++us) hw (by rw[bI];omega) (λu hu=>by
              rcases bH.1 hu with hu|hu
              .exact⟨(j1 u (r4 u hu).1).ext e1 (.refl _),by rw[<-k2];exact(r4 u hu).2⟩
              .exact⟨(j2 u (u6 u hu).1).ext e1 (.refl _),(u6 u hu).2⟩) (λ_ =>Iy (sz:=i.size) (λu hu=>by
              rcases bH.1 hu with hu|hu
              .rw[<-k2];exact(r4 u hu).2
              .exact(u6 u hu).2) c1 (by rw[bI];omega))
             refine⟨_,_,?_,ROk.lift (n:=0) (nl:=0) (cs:=[]) (hp:=[]) e1 hnr⟩;simp only[uL,hu,hi,u1,u2];rw[if_neg guard];simp only[Int.add_zero,Int.toNat_zero,htl,o1];rw[if_neg h0,if_pos ⟨by first|exact k2|trivial,by rw[o3.1,k2],o2,by rw[r3,wW ts (λu hu=>(r4 u hu).2),k2],Kp (by push_cast;omega)⟩];simp only[r3,dY,bI,Hp.drop]
          split at h
          .rename_i q d hq;split at h
           .rename_i hroom;cases h;have:∃v0,U[s0]? =some v0:=by cases hS with
             |osl0 _ _ _ _ _ _ vi v0 g1 g2 g3 g4 g5=>exact⟨v0,g4⟩|osl _ _ _ _ _ _ l' vi v0 g1 g2 g3 g4 g5=>exact⟨v0,g4⟩
            obtain⟨v0,hv0⟩:=this;obtain⟨w,w1,w2⟩:=PL hs.zero hv0 u4 hq;have hroom:=qB hs.cs hroom w1 hs.zero;exact main q d w U S.nx S.cs (.refl _) hs w1 (λv h=>by rw[hv0]at h;cases h;exact w2) (by omega)
           .cases h
          .split at h
           .rename_i hroom;cases h;have:∃v0,U[s0]? =some v0:=by cases hS with
             |osl0 _ _ _ _ _ _ vi v0 g1 g2 g3 g4 g5=>exact⟨v0,g4⟩|osl _ _ _ _ _ _ l' vi v0 g1 g2 g3 g4 g5=>exact⟨v0,g4⟩
            obtain⟨v0,hv0⟩:=this;simp only[aA]at hroom;have h1:=qB hs.cs hroom.1 hv0 hs.zero;have h2:=qB hs.cs hroom.2 u4 hs.zero;have b5:=qB hs.cs b5 hs.zero hv0;obtain⟨e1,e2,e3,e4⟩:=hs.new (v0+c0+(vm+cm));have hk:(35184372088832:Int)/((i.bytes:Int)+1)+35184372088832/((i.bytes:Int)+1)<=70368744177664/((i.bytes:Int)+1):=by
             apply Int.le_ediv_of_mul_le (by omega);have:=Int.ediv_mul_le (35184372088832:Int) (b:=(i.bytes:Int)+1) (by omega);rw[Int.add_mul];omega
            have hk2:(70368744177664:Int)/((i.bytes:Int)+1)<=70368744177664:=Int.ediv_le_self _ (by omega);have up:∀{r:List qV},qM (U++[v0+c0+(vm+cm)]) r->qM (U++[v0+c0+(vm+cm)]) (upC S.cs s0 c0 sm cm S.nx r):=λ{r} hr=>by
             unfold upC;split
             .rename_i u hu;have:=aSu hs.cs hs.zero u4 hu;exact .cons ⟨_,v0,e2,e1 _ _ hv0,by omega⟩ hr
             .exact hr
            exact main S.nx 0 _ (U++[v0+c0+(vm+cm)]) (S.nx+1) _ e1 ⟨e3,e4,up<| .cons ⟨v0,_,e1 _ _ hv0,e2,by omega⟩ (.cons ⟨vm,_,e1 _ _ u4,e2,by omega⟩ (.cons ⟨0,_,e4,e2,by omega⟩ (.cons ⟨_,0,e2,e4,by omega⟩ (hs.cs.ext e1))))⟩ e2
             (λv h=>by rw[hv0]at h;cases h;omega) (by omega)
           .cases h
         .cases h
        .cases h
       .cases h
      .cases h
     .cases h
   .cases h
  .cases h
 .cases h
end
end Go.Ps
