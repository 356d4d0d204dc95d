/- Lemmas for the card; no conditions. -/
import Derived.Test.YthfdachbgpjafaaGreatDoorXb3
set_option linter.unusedSimpArgs false
set_option linter.unusedVariables false
set_option linter.unusedSectionVars false
namespace Go.Ps
noncomputable section
structure aKy where
 res:A
 oc:List (Nat×Nat×TA):=[]
structure AX where
 gl:Nat->Option A
 pe:FuncId->List A->Nat->List pO->Option AV
 inl:FuncId->Bool
 top:FuncId->Bool
 own:FuncId->Tmp->Bool
 jr:FuncId->Nat->Bool
 an:FuncId->An
 post:FuncId->Option aKy
 lk:Bool:=false
structure AR where
 a:A
 hp:List (Nat×AO)
 nx:Nat
 nl:Nat
 cs:List pO
def Yr:pO->pO->Bool
 | .le x y c,.le x' y' c'=>Nat.beq x x'&&(Nat.beq y y'&&c==c')| .ne x y c,.ne x' y' c'=>Nat.beq x x'&&(Nat.beq y y'&&c==c')|_,_ =>false
def UA:List pO->List pO->Bool
 |[],[]=>true|a::a_s,b::bs=>Yr a b&&UA a_s bs|_,_ =>false
def Yq:Bo->Bo->Bool
 | .lit a,.lit b=>a==b| .imp p n,.imp p' n'=>UA p p'&&UA n n'|_,_ =>false
def Qa:List UInt8->List UInt8->Bool
 |[],[]=>true|a::a_s,b::bs=>a==b&&Qa a_s bs|_,_ =>false
def zE(f:A->A->Bool):List A->List A->Bool
 |[],[]=>true|a::a_s,b::bs=>f a b&&zE f a_s bs|_,_ =>false
def CB:Nat->A->A->Bool
 |0,_,_ =>false
 |n+1,a,b=>match a,b with
  | .top,.top| .any,.any| .nilp,.nilp| .nils,.nils| .nilf,.nilf| .nili,.nili| .nilm,.nilm| .ifc,.ifc=>true| .int k s c,.int k' s' c'=>k==k'&&(Nat.beq s s'&&c==c')| .ival k s c,.ival k' s' c'=>k==k'&&(s==s'&&c==c')| .bool x,.bool y=>Yq x y| .strc x,.strc y=>Qa x y| .str s c,.str s' c'=>Nat.beq s s'&&c==c'| .strv s c,.strv s' c'=>s==s'&&c==c'| .yl l,.yl l'=>Nat.beq l l'| .ptr l o,.ptr l' o'=>Nat.beq l l'&&Nat.beq o o'| .elp l z s c o,.elp l' z' s' c' o'=>Nat.beq l l'&&(Nat.beq z z'&&(Nat.beq s s'&&(c==c'&&Nat.beq o o')))| .ref x o,.ref y o'=>CB n x y&&Nat.beq o o'| .sl e s c,.sl e' s' c'=>CB n e e'&&(Nat.beq s s'&&c==c')| .sx s c,.sx s' c'=>Nat.beq s s'&&c==c'| .sxv s c,.sxv s' c'=>s==s'&&c==c'| .slv e s c,.slv e' s' c'=>CB n e e'&&(s==s'&&c==c')| .osl l z si ci s c,.osl l' z' si' ci' s' c'=>Nat.beq l l'&&(Nat.beq z z'&&(Nat.beq si si'&&(ci==ci'&&(Nat.beq s s'&&c==c'))))| .fn f a c,.fn f' a' c'=>Nat.beq f f'&&(zE (CB n) a a'&&zE (CB n) c c')| .iface t x,.iface t' y=>Nat.beq t t'&&CB n x y| .or a_s,.or bs| .agg a_s,.agg bs| .tup a_s,.tup bs| .slk a_s,.slk bs=>zE (CB n) a_s bs| .prd q a_s,.prd q' bs=>Nat.beq q q'&&zE (CB n) a_s bs| .mp l,.mp l'=>Nat.beq l l'| .slp q e s c,.slp q' e' s' c'=>Nat.beq q q'&&(CB n e e'&&(Nat.beq s s'&&c==c'))| .slpv q e s c,.slpv q' e' s' c'=>Nat.beq q q'&&(CB n e e'&&(s==s'&&c==c'))|_,_ =>false
def BT(f:A->Bool):List A->Bool
 |[]=>true|a::a_s=>f a&&BT f a_s
def lSm(f:A->Bool):List A->Bool
 |[]=>false|a::a_s=>f a||lSm f a_s
def WT(n:Nat):List pO->Bool
 |[]=>true| .le x y _ ::r=>Nat.blt x n&&(Nat.blt y n&&WT n r)| .ne x y _ ::r=>Nat.blt x n&&(Nat.blt y n&&WT n r)
def uA(n l:Nat):Nat->A->Bool
 |0,_ =>false
 |k+1,a=>match a with
  | .int _ s _ | .str s _ | .sx s _ =>Nat.blt s n| .bool (.lit _)=>true| .bool (.imp p q)=>WT n p&&WT n q| .yl m=>Nat.blt m l| .ptr m _ =>Nat.blt m l| .mp m=>Nat.blt m l| .elp m _ s _ _ =>Nat.blt m l&&Nat.blt s n| .ref x _ =>uA n l k x| .sl e s _ | .slp _ e s _ =>uA n l k e&&Nat.blt s n| .slv e _ _ | .slpv _ e _ _ =>uA n l k e| .osl m _ si _ s _ =>Nat.blt m l&&(Nat.blt si n&&Nat.blt s n)| .fn _ a_s bs=>BT (uA n l k) a_s&&BT (uA n l k) bs| .iface _ x=>uA n l k x| .or a_s| .agg a_s| .tup a_s| .slk a_s| .prd _ a_s=>BT (uA n l k) a_s|_ =>true
def qX:Nat:=30
def aRh:A->Option (Nat×List A)
 | .prd q a_s=>some (q,a_s)|_ =>none
def aRm:A->Option (Nat×A×Nat×Int)
 | .slp q e s c=>some (q,e,s,c)|_ =>none
def JC(cs:List pO)(n l:Nat):Nat->A->A->Bool
 |0,_,_ =>false
 |k+1,a,t=>match aRh a with
  |some (q,a_s)=>(match t with
   | .prd q' ts=>Nat.beq q q'&&zE (JC cs n l k) a_s ts|t=>JC cs n l k (.agg a_s) t)
  |none=>match aRm a with
  |some (q,e,s,c)=>(match t with
   | .slpv q' e' lo hi=>Nat.beq q q'&&((leq cs s c 0 0||JC cs n l k e e')&&(leq cs 0 lo s c&&leq cs s c 0 hi))| .slp q' e' s' c'=>CB qX a (.slp q' e' s' c')&&uA n l qX (.slp q' e' s' c')|t=>JC cs n l k (.sl e s c) t)
  |none=>match t with
  | .top=>true| .any=>a.one
  | .ival q lo hi=>match a with
   | .int q' s c=>q==q'&&(leq cs 0 lo s c&&leq cs s c 0 hi)| .ival q' lo' hi'=>q==q'&&(sU lo lo'&&sU hi' hi)| .or a_s=>BT (fun x=>JC cs n l k x t) a_s|_ =>false
  | .strv lo hi=>match a with
   | .strc s=>sU lo s.length&&sU s.length hi| .str s c=>leq cs 0 lo s c&&leq cs s c 0 hi| .strv lo' hi'=>sU lo lo'&&sU hi' hi|_ =>false
  | .slv e lo hi=>match a with
   | .nils=>sU lo 0&&sU 0 hi| .slk es=>sU lo es.length&&(sU es.length hi&&BT (fun x=>JC cs n l k x e) es)| .sl e' s c=>(leq cs s c 0 0||JC cs n l k e' e)&&(leq cs 0 lo s c&&leq cs s c 0 hi)| .slv e' lo' hi'=>(sU hi' 0||JC cs n l k e' e)&&(sU lo lo'&&sU hi' hi)|_ =>false
  | .sxv lo hi=>match a with
   | .sx s c=>leq cs 0 lo s c&&leq cs s c 0 hi| .sxv lo' hi'=>sU lo lo'&&sU hi' hi|_ =>false
  | .bool (.imp [] [])=>match a with
   | .bool _ =>true|_ =>false
  | .or ts=>match a with
   | .or a_s=>BT (fun x=>lSm (fun y=>JC cs n l k x y) ts) a_s|a=>lSm (fun y=>JC cs n l k a y) ts
  | .agg ts=>match a with
   | .agg a_s=>zE (JC cs n l k) a_s ts|_ =>false
  | .tup ts=>match a with
   | .tup a_s=>zE (JC cs n l k) a_s ts|_ =>false
  |t=>CB qX a t&&uA n l qX t
def aNn(cs:List pO)(s:Nat)(c:Int):Option Int:=
 if leq cs s c 0 100 then some 100 else if leq cs s c 0 1000000 then some 1000000 else if leq cs s c 0 1000000000000000000 then some 1000000000000000000 else if leq cs s c 0 vP then some vP else none
def aCa(cs:List pO)(a:A):Option A:=
 match a with
 | .int k _ _ | .ival k _ _ =>some (.ival k k.min k.max)| .bool _ =>some (.bool rJ)| .strc s=>if sU s.length 1000000 then some (.strv 0 1000000)else none
 | .str s c=>match aNn cs s c with
  |some h=>some (.strv 0 h)|none=>none
 | .strv _ h=>some (.strv 0 h)|_ =>none
def BL(a b:Int):Int:=if sU a b then b else a
def sl2(cs:List pO):A->Option (Option A×Int)
 | .nils=>some (none,0)
 | .sl e s c=>match aNn cs s c with
  |some h=>some (some e,h)|none=>none
 | .slv e _ h=>some (some e,h)|_ =>none
def jn(cs:List pO):Nat->A->A->Option A
 |0,_,_ =>none
 |k+1,a,b=>if CB qX a b then some a else match a,b with
  | .agg a_s,.agg bs=>(jnL (jn cs k) a_s bs).map .agg| .tup a_s,.tup bs=>(jnL (jn cs k) a_s bs).map .tup
  |a,b=>match sl2 cs a,sl2 cs b with
   |some (some e,h),some (some e',h')=>match jn cs k e e' with
    |some x=>some (.slv x 0 (BL (BL h h') 0))|none=>none
   |some (some e,h),some (none,_)=>some (.slv e 0 (BL h 0))|some (none,_),some (some e,h)=>some (.slv e 0 (BL h 0))|_,_ =>match aCa cs a,aCa cs b with
   |some (.ival k1 lo hi),some (.ival k2 _ _)=>if k1==k2 then some (.ival k1 lo hi)else none
   |some (.bool x),some (.bool _)=>some (.bool x)|some (.strv _ h),some (.strv _ h')=>some (.strv 0 (BL h h'))
   |none,none=>match a with
    | .or a_s=>if b.flat&&KZ a_s then some (.or (b::a_s))else none
    |a=>if a.flat&&b.flat then some (.or [a,b])else none
   |_,_ =>none
 where
 jnL (f:A->A->Option A):List A->List A->Option (List A)
  |[],[]=>some []
  |a::a_s,b::bs=>match f a b with
   |some x=>match jnL f a_s bs with
    |some xs=>some (x::xs)|none=>none
   |none=>none
  |_,_ =>none
def jnT(cs:List pO)(a b:A):Option A:=if JC cs 0 0 qX b a then some a else jn cs qX a b
def Bx(cs:List pO):A->List A->Option A
 |a,[]=>some a
 |a,b::r=>match jnT cs a b with
  |some x=>Bx cs x r|none=>none
def TG(sz:Nat)(ag:Bool)(len:Nat):List (Nat×A)->Bool
 |[]=>true|(i,v)::r=>v.known&&(Nat.beq v.cells.length sz&&(v.isAgg==ag&&(Nat.blt i len&&(uX v.cells&&TG sz ag len r))))
def EL:Nat->List (Nat×A)->Bool
 |_,[]=>true|j,(i,_)::r=>Nat.beq i j&&EL (j+1) r
def Ey(P:fA)(cs:List pO)(t:eX)(len:Nat)(parts:List (Nat×A)):Option (TypeId×Nat×A):=
 match P.underlying t with
 |some (.slice e)=>match tT P e,FL P e,HL P e with
  | some s,some ag,some z=>if Nat.blt 0 s&&decide (len*s<=65536)&&Nat.beq z.cells.length s&&z.isAgg==ag&&z.known&&uX z.cells&&TG s ag len parts then
    match(match parts with
     |(_,v)::r=>if EL 0 parts&&Nat.beq parts.length len then Bx cs v (r.map Prod.snd)else Bx cs z (parts.map Prod.snd)
     |[]=>some z)with
    |some el=>if el.known&&(Nat.beq el.cells.length s&&(uX el.cells&&el.isAgg==ag))then some (e,s,el)else none
    |none=>none
   else none
  |_,_,_ =>none
 |_ =>none
def aSf(P:fA)(X:AX)(fr:List A)(n:Nat)(cs:List pO)(c:Call):Option AV:=
 match c.callee with
 | .value f=>match NY X.gl fr f with
  |some (.fn g first cap)=>match CU X.gl fr c.args.toList with
   |some ars=>X.pe g (first++ars++cap) n cs
   |none=>none
  |_ =>none
 | .invoke _ _ =>none
 | .builtin b=>match b with
  | .len=>match c.args.toList,c.argTypes.toList with
   |[x],t::_ =>match NY X.gl fr x with
    |some a=>(bCp P cs t a).map fun y=>⟨y,n,cs⟩|none=>none
   |_,_ =>none
  | .min=>match CU X.gl fr c.args.toList with
   |some (x::r)=>Bt aUs n cs x r|_ =>none
  | .max=>match CU X.gl fr c.args.toList with
   |some (x::r)=>Bt aUr n cs x r|_ =>none
  |_ =>none
def aIf(ev:Operand->Option A):Option Operand->Option (Option A)
 |none=>some none
 |some x=>match ev x with
  |some t=>some (some t)|none=>none
def Hg(n:Nat)(cs:List pO):Option A->Option AV
 |some a=>some ⟨a,n,cs⟩|none=>none
def pV:Nat->A->Bool
 |0,_ =>false
 |n+1,a=>match a with
  | .prd .. =>Nat.ble 20 (n+1)| .slk es=>BT (pV n) es| .sx .. | .sxv .. | .int .. | .ival .. | .bool _ | .strc _ | .str .. | .strv .. | .nilp| .nils| .nilf| .nili| .nilm=>true| .slv e _ hi=>sU hi 0||pV n e| .sl e _ _ =>pV n e| .slp _ e _ _ | .slpv _ e _ _ =>pV n e| .agg a_s| .tup a_s| .or a_s=>BT (pV n) a_s| .ref x _ =>pV n x| .fn _ a_s bs=>BT (pV n) a_s&&BT (pV n) bs| .iface _ x=>pV n x|_ =>false
def frL(f:A->Option A):List A->Option (List A)
 |[]=>some []
 |a::a_s=>match f a with
  |some b=>match frL f a_s with
   |some bs=>some (b::bs)|none=>none
  |none=>none
def frA(hp:fJ):Nat->A->Option A
 |0,_ =>none
 |n+1,a=>if pV (n+1) a then some a else match a with
  | .osl l sz si ci s c=>match oO hp l with
   | some (.row _ sz' e s' c')=>if Nat.beq sz sz'&&(Nat.beq si 0&&(ci==0&&(Nat.beq s s'&&c==c')))then match e with
     | .agg es=>if Nat.blt 1 sz&&Nat.beq es.length sz then match frL (frA hp n) es with
       |some bs=>some (.sl (.agg bs) s c)|none=>none
      else none
     | e=>if Nat.beq sz 1&&e.one then match frA hp n e with
       |some b=>if b.one then some (.sl b s c)else none
       |none=>none
      else none
    else none
   |_ =>none
  | .agg a_s=>match frL (frA hp n) a_s with
   |some bs=>some (.agg bs)|none=>none
  | .tup a_s=>match frL (frA hp n) a_s with
   |some bs=>some (.tup bs)|none=>none
  |_ =>none
def aUe:A->Bool
 | .osl .. =>true|_ =>false
def KM:A->Bool
 | .int .. | .ival .. | .bool _ | .strc _ | .str .. | .strv .. | .nilp| .nils| .nilf| .nili| .nilm=>true|_ =>false
def Sv:A->Bool
 | .agg a_s=>a_s.all KM|a=>KM a
def aJg:A->Bool
 | .tup a_s| .agg a_s=>a_s.all Sv|a=>KM a
def aSg(X:AX)(hp:fJ)(fr:List A)(n:Nat)(cs:List pO)(c:Call):Option AV:=
 match c.callee with
 | .value f=>match NY X.gl fr f with
  |some (.fn g first cap)=>match CU X.gl fr c.args.toList with
   | some ars=>if(first++ars++cap).any aUe then(match frL (frA hp qX) (first++ars++cap)with
     |some bs=>if BT (pV qX) bs then(match X.pe g bs n cs with
      |some v=>if aJg v.a then some v else none
      |none=>none)else none
     |none=>none)else none
   |none=>none
  |_ =>none
 |_ =>none
def aLf(P:fA)(X:AX)(own:Bool)(hp:fJ)(fr:List A)(n:Nat)(cs:List pO)(o:Oper):Option AV:=
 let ev:=NY X.gl fr
 match o.op with
 | .move x| .assign x=>Hg n cs (ev x)
 | .pick c a b=>match ev c with
  |some (.bool (.lit b'))=>Hg n cs (if b' then ev a else ev b)
  |_ =>none
 | .box _ x=>if own then none else match ev x with
  |some y=>if y.known then some ⟨.ref y 0,n,cs⟩else none
  |none=>none
 | .build t parts=>match KH X.gl fr parts.toList with
  |some l=>Hg n cs (Qf P t l)|none=>none
 | .buildSlice t len parts=>if own then none else match KH X.gl fr parts.toList with
  |some l=>match Ey P cs t len l with
   |some (_,_,el)=>some ⟨if X.lk&&(EL 0 l&&Nat.beq l.length len)then .slk (l.map Prod.snd)else .sl el 0 len,n,cs⟩
   |none=>none
  |none=>none
 | .load t a=>match ev a with
  |some p=>Wl P hp n cs t p|none=>none
 | .nilCheck x=>match ev x with
  |some p=>Hg n cs (DF p)|none=>none
 | .binOp op t x y _ =>match ev x,ev y with
  |some a,some b=>if Gl x y a b then aSo P n cs op t a b else none
  |_,_ =>none
 | .unOp op _ x=>match ev x with
  |some a=>unA n cs op a|none=>none
 | .convert s d x=>match ev x with
  |some a=>aEp P n cs s d a|none=>none
 | .makeFunc f first captured=>match f with
  | .func g=>match CU X.gl fr first.toList,CU X.gl fr captured.toList with
   |some a,some c=>some ⟨.fn g a c,n,cs⟩|_,_ =>none
  |_ =>none
 | .fieldAddr s x f=>match ev x with
  |some a=>Hg n cs (JS P s a f)|none=>none
 | .field t x f=>match ev x with
  |some (.agg a_s)=>match FY P t f with
   |some fd=>Hg n cs (RL P fd.type a_s fd.offset)|none=>none
  |_ =>none
 | .indexAddr t x i=>match ev x,ev i with
  |some a,some b=>VR P n cs t a b|_,_ =>none
 | .index t x i=>match ev x,ev i with
  |some a,some b=>Rh P n cs t a b|_,_ =>none
 | .slice t x lo hi mx=>match mx with
  |some _ =>none
  |none=>match ev x with
   |some a=>match aIf ev lo,aIf ev hi with
    |some l,some h=>Tc P n cs t a l h|_,_ =>none
   |none=>none
 | .extract x i=>match ev x with
  |some (.tup xs)=>Hg n cs xs[i]?|_ =>none
 | .call c=>match aSf P X fr n cs c with
  |some v=>some v|none=>aSg X hp fr n cs c
 | .lookup t x i ok=>match ev x,ev i with
  |some a,some b=>Hg n cs (Gg P hp t a b ok)|_,_ =>none
 |_ =>none
def Ij(P:fA)(S:AS)(t:eX)(p x:A):Option AR:=
 match tT P t with
 | some n=>if x.known&&(Nat.beq x.cells.length n&&uX x.cells)then match p with
   | .ptr l off=>match oO S.hp l with
    |some (.fix e xs)=>if off+n<=xs.length then some ⟨.tup [],AB S.hp l (.fix e (NF xs off x.cells)),S.nx,S.nl,S.cs⟩else none
    |_ =>none
   | .elp l sz s c off=>match oO S.hp l with
    | some (.row e sz' a s' c')=>if Nat.beq sz sz'&&a.known&&Nat.beq a.cells.length sz&&leq S.cs s (c+1) s' c'&&decide (off+n<=sz)then
      match a with
      | .agg a_s=>match jnT S.cs (.agg a_s) (.agg (NF a_s off x.cells))with
       |some b=>if uX b.cells&&b.known&&Nat.beq b.cells.length sz&&b.isAgg then some ⟨.tup [],AB S.hp l (.row e sz b s' c'),S.nx,S.nl,S.cs⟩else none
       |none=>none
      | .prd .. =>none
      |a=>match x.cells with
       |[y]=>match jnT S.cs a y with
        |some b=>if b.one then some ⟨.tup [],AB S.hp l (.row e sz b s' c'),S.nx,S.nl,S.cs⟩else none
        |none=>none
       |_ =>none
     else none
    |_ =>none
   |_ =>none
  else none
 |none=>none
def aWb(P:fA)(hp:fJ)(cs:List pO)(tx:eX)(size:Nat)(x:A):Option (A×Nat×Int):=
 match P.underlying tx,x with
 |some (.slice _),.osl l sz si ci s c=>match oO hp l with
  | some (.row _ sz' e s' c')=>if Nat.beq sz sz'&&Nat.beq sz size&&leq cs 0 0 si ci&&leq cs 0 0 s c then match aBu si ci s c with
    |some (q,d)=>if leq cs q d s' c' then some (e,s,c)else none
    |none=>none
   else none
  |_ =>none
 |some (.slice _),.sl e s c=>some (e,s,c)
 |some (.slice e),.nils=>match HL P e with
  |some z=>some (z,0,0)|none=>none
 |some .string,.strc b=>if Nat.beq size 1 then some (.ival .u8 0 255,0,b.length)else none
 |some .string,.str s c=>if Nat.beq size 1 then some (.ival .u8 0 255,s,c)else none
 |_,_ =>none
def aWk(cs:List pO)(s:Nat)(c:Int):Option Int:=
 if leq cs s c 0 0 then some 0 else if leq cs s c 0 1 then some 1 else if leq cs s c 0 6 then some 6 else if leq cs s c 0 100 then some 100 else none
def upC(cs:List pO)(s0:Nat)(c0:Int)(sm:Nat)(cm:Int)(n:Nat)(r:List pO):List pO:=
 match aWk cs sm cm with
 |some u=> .le n s0 (c0+u)::r|none=>r
def Ee(P:fA)(S:AS)(t tx:eX)(s x:A):Option AR:=
 match P.underlying t with
 |some (.slice e)=>match P.info? e with
  |some i=>match aWb P S.hp S.cs tx i.size x with
   |some (el,sm,cm)=>
    if(i.size==0)|| !((i.zero.map fun z=>z.cells.size)==some i.size)|| !el.known|| !(Nat.beq el.cells.length i.size)|| !(uX el.cells)then none else
    match s with
    | .nils=>if leq S.cs 0 0 sm cm&&leq S.cs sm cm 0 (70368744177664/(i.bytes+1))then
      some ⟨.osl S.nl i.size 0 0 sm cm,(S.nl,.row e i.size el sm cm)::S.hp,S.nx,S.nl+1,S.cs⟩
     else none
    | .osl l sz si ci s0 c0=>match oO S.hp l with
     | some (.row e' sz' a s' c')=>if Nat.beq sz i.size&&Nat.beq sz' i.size&&Nat.beq e' e&&Nat.beq si 0&&(ci==0)&&Nat.beq s0 s'&&(c0==c')&&a.isAgg==el.isAgg then
       match jnT S.cs a el with
       | some b=>if b.known&&Nat.beq b.cells.length i.size&&uX b.cells&&leq S.cs 0 0 sm cm&&leq S.cs 0 0 s0 c0 then
         match aBu s0 c0 sm cm with
         | some (q,d)=>if leq S.cs q d 0 (70368744177664/(i.bytes+1))then
           some ⟨.osl S.nl i.size 0 0 q d,(S.nl,.row e i.size b q d)::vL S.hp l,S.nx,S.nl+1,S.cs⟩
          else none
         | none=>if leq S.cs s0 c0 0 (35184372088832/(i.bytes+1))&&leq S.cs sm cm 0 (35184372088832/(i.bytes+1))then
           some ⟨.osl S.nl i.size 0 0 S.nx 0,(S.nl,.row e i.size b S.nx 0)::vL S.hp l,S.nx+1,S.nl+1,upC S.cs s0 c0 sm cm S.nx (.le s0 S.nx (-c0):: .le sm S.nx (-cm):: .le 0 S.nx 0:: .le S.nx 0 70368744177664::S.cs)⟩
          else none
        else none
       |none=>none
      else none
     |_ =>none
    |_ =>none
   |none=>none
  |none=>none
 |_ =>none
def KD(P:fA)(S:AS)(t:eX)(l c:A):Option AR:=
 match P.underlying t,l,c with
 |some (.slice e),.int .i64 s c,.int .i64 s' c'=>match tT P e,(P.info? e).map (·.bytes),HL P e with
  | some sz,some bytes,some z=>if(!(Nat.beq e 5)||leq S.cs 0 1 s c)&&Nat.blt 0 sz&&Nat.beq z.cells.length sz&&z.known&&uX z.cells&&Nat.beq s s'&&c==c'&&leq S.cs 0 0 s c&&leq S.cs s c 0 (70368744177664/(bytes+1))then
    some ⟨.osl S.nl sz 0 0 s c,(S.nl,.row e sz z s c)::S.hp,S.nx,S.nl+1,S.cs⟩
   else none
  |_,_,_ =>none
 |_,_,_ =>none
def FR(P:fA)(S:AS)(t:eX)(len:Nat)(parts:List (Nat×A)):Option AR:=
 match Ey P S.cs t len parts with
 |some (e,s,el)=>if !(Nat.beq e 5)||(Nat.blt 0 len&&Nat.blt 0 s)then some ⟨.osl S.nl s 0 0 0 len,(S.nl,.row e s el 0 len)::S.hp,S.nx,S.nl+1,S.cs⟩else none
 |none=>none
def Fy(P:fA)(S:AS)(t:eX)(m k x:A):Option AR:=
 match m,k with
 | .mp l,.int ik s c=>if ik== .i64&&Nat.beq s 0 then match oO S.hp l with
   |some (.map es)=>match P.underlying t with
    |some (.map kt _)=>match P.underlying kt with
     |some (.int _)=>match VF c es with
      |none=>some ⟨.tup [],AB S.hp l (.map (es++[(c,x)])),S.nx,S.nl,S.cs⟩|some _ =>none
     |_ =>none
    |_ =>none
   |_ =>none
  else none
 |_,_ =>none
def TX(P:fA)(S:AS)(t tx:eX)(s x:A):Option AR:=
 match P.underlying t,s,x with
 |some (.slice e),.nils,.sl (.agg a_s) 0 c=>match P.underlying tx,P.info? e with
  | some (.slice _),some i=>if Nat.blt 1 i.size&&(Nat.beq a_s.length i.size&&(uX a_s&&((i.zero.map fun z=>z.cells.size)==some i.size&&(sU 1 c&&(decide (c*i.bytes<=70368744177664)&&sU c 70368744177664)))))then
    some ⟨.sl (.agg a_s) 0 c,S.hp,S.nx,S.nl,S.cs⟩else none
  |_,_ =>none
 |_,_,_ =>none
def aLd(P:fA)(X:AX)(pa:Bool)(call:FuncId->List A->AS->Option (List AR))(S:AS)(o:Oper):Option (List AR):=
 let ev:=NY X.gl S.fr
 match o.op with
 | .alloc t=>match HL P t with
  |some z=>if z.known then some [⟨.ptr S.nl 0,(S.nl,.fix t z.cells)::S.hp,S.nx,S.nl+1,S.cs⟩]else none
  |none=>none
 | .box t x=>match ev x with
  |some y=>if y.known then some [⟨.ptr S.nl 0,(S.nl,.fix t y.cells)::S.hp,S.nx,S.nl+1,S.cs⟩]else none
  |none=>none
 | .buildSlice t len parts=>match KH X.gl S.fr parts.toList with
  |some l=>(FR P S t len l).map ([·])|none=>none
 | .store t p x=>match ev p,ev x with
  |some q,some y=>(Ij P S t q y).map ([·])|_,_ =>none
 | .makeSlice t l c=>match ev l,ev c with
  |some n,some m=>(KD P S t n m).map ([·])|_,_ =>none
 | .makeMap _ r=>match r with
  |none=>some [⟨.mp S.nl,(S.nl,.map [])::S.hp,S.nx,S.nl+1,S.cs⟩]|some _ =>none
 | .mapUpdate t m k x| .insert t m k x=>match ev m,ev k,ev x with
  |some a,some b,some v=>(Fy P S t a b v).map ([·])|_,_,_ =>none
 | .call c=>match c.callee with
  | .value f=>match ev f with
   | some (.fn g first cap)=>if X.inl g then match CU X.gl S.fr c.args.toList with
     |some ars=>call g (first++ars++cap) S
     |none=>none
    else none
   |_ =>none
  | .builtin .append=>match c.args.toList,c.argTypes.toList with
   |[s,x],[t,t']=>match ev s,ev x with
    |some a,some b=>(if pa then TX P S t t' a b else Ee P S t t' a b).map ([·])
    |_,_ =>none
   |_,_ =>none
  |_ =>none
 |_ =>none
structure Af where
 S:AS
 pend:Option (Tmp×TypeId)
 av:List Oper
def Mp(f:Operand->Operand->Bool):Op->Op->Bool
 | .load t a,.load t' a'=>Nat.beq t t'&&f a a'| .fieldAddr s x i,.fieldAddr s' x' i'=>Nat.beq s s'&&(Nat.beq i i'&&f x x')| .indexAddr t x i,.indexAddr t' x' i'=>Nat.beq t t'&&(f x x'&&f i i')| .move x,.move y=>f x y|_,_ =>false
def TE:Operand->Operand->Bool
 | .tmp a,.tmp b=>Nat.beq a b|_,_ =>false
def Bj(o:Oper)(d:Tmp):Bool:=
 match o.dst with
 |some e=>Nat.beq e d|none=>false
def eqO(av:fS):Nat->Operand->Operand->Bool
 |0,x,y=>TE x y
 |n+1,x,y=>TE x y||(match x,y with
  | .tmp a,.tmp b=>av.any fun oa=>Bj oa a&&av.any fun ob=>Bj ob b&&Mp (eqO av n) oa.op ob.op|_,_ =>false)
def cse(av:fS)(o:Oper):Option Tmp:=
 match av.find? fun o1=>Mp (eqO av 6) o1.op o.op with
 |some o1=>o1.dst|none=>none
def Sj(o:Oper):List Tmp:=o.op.operands.toList.filterMap fun x=>match x with| .tmp t=>some t|_ =>none
def Vx(o:Oper):Bool:=
 match o.op with
 | .load .. | .fieldAddr .. | .indexAddr .. | .move _ =>true|_ =>false
def aGl(d:Tmp):List Tmp->Bool
 |[]=>false|x::xs=>Nat.beq x d||aGl d xs
def PP(d:Tmp):List Oper->List Oper
 |[]=>[]|o::r=>if Bj o d||aGl d (Sj o)then PP d r else o::PP d r
def Gy(fr:List A)(o:Oper)(av:fS):List Oper:=
 match o.dst with
 |some d=>if Vx o&&(Nat.blt d fr.length&& !(aGl d (Sj o)))then o::PP d av else PP d av
 |none=>av
def KK(fr:List A)(dst:gQ)(v:A):List A:=
 match dst with
 |some d=>setS v fr d|none=>fr
def AS.ofR(S:AS)(dst:gQ)(r:AR):AS:={fr:=KK S.fr dst r.a,hp:=r.hp,nx:=r.nx,nl:=r.nl,cs:=r.cs}
def GP(X:AX)(own:Bool)(fr:List A)(o:Oper):Bool:=
 match o.op with
 | .alloc _ | .store .. | .makeSlice .. | .makeMap .. | .mapUpdate .. | .insert .. =>true| .box .. | .buildSlice .. =>own
 | .call c=>match c.callee with
  | .builtin .append=>true
  | .value f=>match NY X.gl fr f with
   |some (.fn g _ _)=>X.inl g|_ =>false
  |_ =>false
 |_ =>false
def UC(own:Bool)(o:Oper):Bool:=
 match o.op with
 | .buildSlice .. =>own|_ =>true
def XX(S:AS)(i:Tmp)(k:gB)(s:Nat)(c:Int):Nat->List AS
 |0=>[]
 |v+1=>if leq S.cs s c 0 ((v:Int)-1)||leq S.cs 0 ((v:Int)+1) s c then XX S i k s c v
  else{S with fr:=setS (.int k 0 v) S.fr i,cs:= .le s 0 ((v:Int)-c):: .le 0 s (c-(v:Int))::S.cs}::XX S i k s c v
def EY(X:AX)(S:AS)(o:Oper):Option (List AS):=
 match o.op with
 | .pick (.tmp c) _ _ =>match zU S.fr c with
  | .bool (.imp p n)=>some ((KP S.cs (.imp p n)).map fun q=>{S with fr:=setS (.bool (.lit q.1)) S.fr c,cs:=q.2})
  |_ =>none
 | .call c=>match c.callee with
  | .value (.tmp f)=>match zU S.fr f with
   | .or a_s=>some (a_s.map fun a=>{S with fr:=setS a S.fr f})
   |_ =>none
  |_ =>none
 | .indexAddr _ (.tmp a) (.tmp i)=>match zU S.fr a with
  | .ptr .. =>match zU S.fr i with
   | .int k s c=>if Nat.beq s 0 then none else if leq S.cs 0 0 s c&&leq S.cs s c 0 15 then some (XX S i k s c 16)else none
   |_ =>none
  |_ =>none
 |_ =>none
def zK{α β:Type}(f:α->Option (List β)):List α->Option (List β)
 |[]=>some []
 |a::a_s=>match f a with
  |some l=>match zK f a_s with
   |some r=>some (l++r)|none=>none
  |none=>none
def Fm(S:AS)(d:Tmp)(want:Bool):A->Option (List (Bool×AS))
 | .bool b=>some ((KP S.cs b).map fun q=>(q.1==want,{S with cs:=q.2,fr:=setS (.bool (.lit q.1)) S.fr d}))
 | .tup []=>some [(false,{S with fr:=setS (.tup []) S.fr d})]
 |_ =>none
def JV(ops:fC)(S:AS)(o:Oper):Option (List (Bool×AS)):=
 match o.guard with
 |none=>some [(true,S)]
 |some (j,want)=>match(ops[j]?).bind (·.dst)with
  |some d=>match zU S.fr d with
   | .or a_s=>zK (Fm S d want) a_s|a=>Fm S d want a
  |none=>none
section
variable(P:fA)(X:AX)(call:FuncId->List A->AS->Option (List AR))(F:fX)
def zG(o:Oper):Bool:=
 match o.dst with
 |some d=>F d|none=>false
def FH(o:Oper):Option (Tmp×TypeId):=
 match o.op with
 | .alloc t=>match o.dst with
  |some d=>if F d then none else some (d,t)
  |none=>none
 |_ =>none
def CR(s:Af)(o:Oper):Option (List Af):=
 match FH F o with
 |some (d,t)=>if s.pend.isSome then none else match tT P t,HL P t with
  |some n,some z=>if Nat.beq z.cells.length n&&z.known&&Nat.blt d s.S.fr.length then some [{S:={s.S with fr:=setS (.tup []) s.S.fr d},pend:=some (d,t),av:=[]}]else none
  |_,_ =>none
 | none=>if GP X (zG F o) s.S.fr o then
   if UC (zG F o) o then match aLd P X (EW F o.dst) call s.S o with
    |some l=>some (l.map fun r=>{S:=s.S.ofR o.dst r,pend:=s.pend,av:=[]})|none=>none
   else none
  else match cse s.av o with
   |some d1=>some [{S:={s.S with fr:=KK s.S.fr o.dst (zU s.S.fr d1)},pend:=s.pend,av:=Gy s.S.fr o s.av}]
   |none=>match aLf P X (zG F o) s.S.hp s.S.fr s.S.nx s.S.cs o with
    |some v=>some [{S:={s.S with fr:=KK s.S.fr o.dst v.a,nx:=v.nx,cs:=v.cs},pend:=s.pend,av:=Gy s.S.fr o s.av}]
    |none=>none
def WZ(ops:fC)(s:Af)(o:Oper):Option (List Af):=
 match JV ops s.S o with
 |some l=>zK (fun q=>if q.1 then(match EY X q.2 o with
    |some ss=>zK (fun S'=>CR P X call F {s with S:=S'} o) ss
    |none=>CR P X call F {s with S:=q.2} o)
   else some [{S:={q.2 with fr:=KK q.2.fr o.dst (.tup [])},pend:=s.pend,av:=[]}]) l
 |none=>none
def Rw(s:Af)(d:Tmp)(t:eX)(y:A):Af:=
 if F (d+1000)then{S:={s.S with fr:=setS (.ptr s.S.nl 0) s.S.fr d,hp:=(s.S.nl,.fix t y.cells)::s.S.hp,nl:=s.S.nl+1},pend:=none,av:=[]}
 else{S:={s.S with fr:=setS (.ref y 0) s.S.fr d},pend:=none,av:=[]}
def Xw(ops:fC)(s:Af)(o:Oper):Option (List Af):=
 match s.pend with
 |none=>WZ P X call F ops s o
 |some (d,t)=>
  match o.op,o.dst,o.guard with
  | .store t' (.tmp d') x,none,none=>
   if Nat.beq d' d then
    if t'=t/\ER x d=true then
     match NY X.gl s.S.fr x,tT P t with
     |some y,some n=>if y.known&&(Nat.beq y.cells.length n&&uX y.cells)then some [Rw F s d t y]else none
     |_,_ =>none
    else none
   else if sT ops o d then none else WZ P X call F ops s o
  |_,_,_ =>if sT ops o d then none else WZ P X call F ops s o
def ZR(ops:fC):List Oper->Af->Option (List Af)
 |[],s=>some [s]
 |o::rest,s=>match Xw P X call F ops s o with
  |some l=>zK (ZR ops rest) l|none=>none
def Mu(ops:fC)(s:Af)(o:Oper):Bool:=
 match s.pend with
 |some (d,_)=>sT ops o d|none=>false
def NW(s:Af)(o:Oper):Bool:=
 match o.dst with
 |some d=>Nat.blt d s.S.fr.length|none=>true
def LP(ops:fC):List Oper->Nat->Af->Option (List Af)
 |[],_,s=>match s.pend with
  |none=>some [s]|some _ =>none
 |o::rest,m,s=>
  if Mu ops s o then
   if qA (rF ops.toList []) m ops.size then ZR P X call F ops (o::rest) s else none
  else if NW s o=false then none
  else match JV ops s.S o with
   |some l=>zK (fun q=>if q.1 then(match FH F o with
      |some _ =>match CR P X call F {s with S:=q.2} o with
       |some ss=>zK (LP ops rest (m+1)) ss|none=>none
      |none=>match EY X q.2 o with
       |some ss=>zK (fun S'=>if GP X (zG F o) S'.fr o then
          (if UC (zG F o) o&&qA (rF ops.toList []) m ops.size then ZR P X call F ops (o::rest) {s with S:=S'}else none)
         else match CR P X call F {s with S:=S'} o with
          |some ss=>zK (LP ops rest (m+1)) ss|none=>none) ss
       |none=>if GP X (zG F o) q.2.fr o then
          (if UC (zG F o) o&&qA (rF ops.toList []) m ops.size then ZR P X call F ops (o::rest) {s with S:=q.2}else none)
         else match CR P X call F {s with S:=q.2} o with
          |some ss=>zK (LP ops rest (m+1)) ss|none=>none)
     else LP ops rest (m+1) {S:={q.2 with fr:=KK q.2.fr o.dst (.tup [])},pend:=s.pend,av:=[]}) l
   |none=>none
def aNl(l:Nat)(S:AS)(o:Oper):Bool:=
 match o.op with
 | .load _ a=>match NY X.gl S.fr a with
  |some (.ref ..)=>true|some (.ptr l' _)=> !(Nat.beq l' l)&&((oO S.hp l).isSome&&(oO S.hp l').isSome)|some (.elp l' _ _ _ _)=> !(Nat.beq l' l)&&((oO S.hp l).isSome&&(oO S.hp l').isSome)|_ =>false
 | .call c=>match c.callee with
  | .builtin .len=>c.args.toList.all fun x=>match NY X.gl S.fr x with
   |some (.str ..)|some (.strc _)|some (.sl ..)|some (.osl ..)|some .nils|some (.sx ..)|some .nilm=>true|_ =>false
  | .builtin _ =>true|_ =>false
 | .lookup .. =>false|_ =>true
def JP(ops:fC)(A:fN)(p l:Nat):List Oper->Nat->Bool->Af->Option (List Af)
 |[],_,af,s=>if af then some [s]else none
 |o::rest,m,af,s=>
  if(af&&qA A m ops.size)=true then ZR P X call F ops (o::rest) s
  else if NW s o=false then none
  else if MC o then(if af then none else match o.op with
   | .store t x y=>match NY X.gl s.S.fr x,NY X.gl s.S.fr y with
    | some (.ptr l' off),some v=>if Nat.beq l' l then match Ij P s.S t (.ptr l' off) v with
      |some R=>JP ops A p l rest (m+1) true {S:={s.S with hp:=R.hp,nx:=R.nx,nl:=R.nl,cs:=R.cs},pend:=none,av:=[]}
      |none=>none
     else none
    |_,_ =>none
   |_ =>none)
  else match JV ops s.S o with
   |some gs=>zK (fun q=>if q.1 then
      (if((if af then tG A m p else tG A p m)||aNl X l q.2 o)&&((FH F o).isNone&& !(GP X (zG F o) q.2.fr o))then match CR P X call F {s with S:=q.2} o with
       |some ss=>zK (JP ops A p l rest (m+1) af) ss|none=>none
      else none)
     else JP ops A p l rest (m+1) af {S:={q.2 with fr:=KK q.2.fr o.dst (.tup [])},pend:=s.pend,av:=[]}) gs
   |none=>none
def Ks(S:AS)(o:Oper):Bool:=
 match o.op with
 | .load _ a=>match NY X.gl S.fr a with
  |some (.ref ..)=>true|_ =>false
 | .call c=>match c.callee with
  | .builtin .len=>c.args.toList.all fun x=>match NY X.gl S.fr x with
   |some (.str ..)|some (.strc _)|some (.sl ..)|some (.osl ..)|some .nils|some (.sx ..)|some .nilm|some (.slk _)|some (.slp ..)=>true|_ =>false
  | .builtin _ =>true|_ =>false
 | .lookup .. =>false|_ =>true
def Ul(m:Nat)(e d:Bool)(l:Option (List (AS×List Nat×List Nat))):Option (List (AS×List Nat×List Nat)):=
 match l with
 |some l=>some (l.map fun q=>(q.1,(if e then m::q.2.1 else q.2.1),(if d then m::q.2.2 else q.2.2)))
 |none=>none
def UT(ops:fC):List Oper->Nat->AS->Option (List (AS×List Nat×List Nat))
 |[],_,S=>some [(S,[],[])]
 |o::rest,m,S=>
  if NW ⟨S,none,[]⟩ o=false then none
  else match JV ops S o with
   |some gs=>zK (fun q=>if q.1 then zK (fun S'=>
      if GP X (zG F o) S'.fr o then
       (if UC (zG F o) o then match aLd P X (EW F o.dst) call S' o with
        |some rs=>zK (fun R=>Ul m true false (UT ops rest (m+1) (S'.ofR o.dst R))) rs|none=>none
       else none)
      else match aLf P X (zG F o) S'.hp S'.fr S'.nx S'.cs o with
       |some v=>Ul m false (!(Ks X S' o)) (UT ops rest (m+1) {S' with fr:=KK S'.fr o.dst v.a,nx:=v.nx,cs:=v.cs})
       |none=>none) (match EY X q.2 o with
        |some ss=>ss|none=>[q.2])
     else UT ops rest (m+1) {q.2 with fr:=KK q.2.fr o.dst (.tup [])}) gs
   |none=>none
def Ql(ops:fC)(S:AS):Option (List Af):=
 match UT P X call F ops ops.toList 0 S with
 |some l=>if l.all fun q=>Cj (rF ops.toList []) q.2.1 q.2.2 then some (l.map fun q=>⟨q.1,none,[]⟩)else none
 |none=>none
def Qm(fl:Bool)(ops:fC)(S:AS):Option (List Af):=
 if lkp ops|| !fl then Ql P X call F ops S else
 if Rn ops then match Dt ops,sZ ops.toList 0 with
  |some b,some p=>match zU S.fr b with
   | .ptr l _ =>JP P X call F ops (rF ops.toList []) p l ops.toList 0 false ⟨S,none,[]⟩|_ =>none
  |_,_ =>none
 else LP P X call F ops ops.toList 0 ⟨S,none,[]⟩
end
def PV:A->Option (Nat×Int)
 | .int _ s c| .str s c| .sl _ s c| .sx s c| .osl _ _ _ _ s c=>some (s,c)| .slp _ _ s c=>some (s,c)| .strc b=>some (0,b.length)| .nils=>some (0,0)|_ =>none
def Cf:Nat->List (Nat×AO)->List A->Nat->Option Nat
 |0,_,_,_ =>none
 | k+1,hp,fr,d=>if Nat.blt d 1000 then match zU fr d with
   | .ptr l _ =>some l|_ =>none
  else match zU fr (Nat.mod d 1000)with
   | .yl l=>match oO hp l with
    |some (.loop _ _ fr' ..)=>Cf k hp fr' (Nat.div d 1000-1)|_ =>none
   |_ =>none
def HC(S:AS)(gs:Nat)(gc:Int):YV->Option (Nat×Int)
 | .slot d=>PV (zU S.fr d)
 | .cell d j=>match Cf 5 S.hp S.fr d with
  |some l=>match oO S.hp l with
   |some (.fix _ xs)=>match xs[j]? with
    |some a=>PV a|none=>none
   |_ =>none
  |none=>none
 | .ghost=>some (gs,gc)| .zero=>some (0,0)
def Uv:List Oper->List Tmp
 |[]=>[]
 |o::os=>match o.dst with
  |some d=>d::Uv os|none=>Uv os
def rD(d:Nat):List Nat->Bool
 |[]=>false|x::xs=>Nat.beq x d||rD d xs
def aPz(n l:Nat)(w:gK):Nat->List A->List A
 |_,[]=>[]|j,a::a_s=>(if rD j w|| !uA n l qX a then .top else a)::aPz n l w (j+1) a_s
abbrev fR:=List (Nat×Nat×TA)
def CN(oc:fR)(l:Nat):Nat->List A->List A
 |_,[]=>[]|j,a::a_s=>(if oc.any fun q=>Nat.beq q.1 l&&Nat.beq q.2.1 j then .any else a)::CN oc l (j+1) a_s
def LD(oc:fR):List (Nat×AO)->List (Nat×AO)
 |[]=>[]|(l,.fix e xs)::r=>(l,.fix e (CN oc l 0 xs))::LD oc r|(l,o)::r=>(l,o)::LD oc r
def AU(fr:List A):List (Tmp×TA)->List (Nat×AO)->List (Nat×AO)
 |[],hp=>hp
 |(d,.row ..)::r,hp=>match zU fr d with
  | .osl l .. =>AU fr r (vL hp l)|_ =>AU fr r hp
 |_ ::r,hp=>AU fr r hp
def aYr(hp:fJ)(l j:Nat):A:=
 match oO hp l with
 |some (.fix _ xs)=>match xs[j]? with
  |some a=>a|none=> .top
 |_ => .top
def yG(hp0:fJ):List (Nat×Nat×TA)->List (Nat×AO)->List (Nat×AO)
 |[],hp=>hp
 |(l,j,.row ..)::r,hp=>match aYr hp0 l j with
  | .osl m .. =>yG hp0 r (vL hp m)|_ =>yG hp0 r hp
 |_ ::r,hp=>yG hp0 r hp
def yZ:List (Nat×AO)->List (Nat×AO)->List (Nat×AO)
 |[],hp=>hp|(l,.map _)::r,hp=>yZ r (vL hp l)|_ ::r,hp=>yZ r hp
abbrev hO:=List (Tmp×TA)
def FN(S:AS)(sp:hO)(oc:fR):List (Nat×AO):=yG S.hp oc (AU S.fr sp (yZ S.hp S.hp))
def Uk(S:AS)(w:gK)(sp:hO)(oc:fR)(m0:Int):AS:=
 {fr:=aPz S.nx S.nl w 0 S.fr,hp:=LD oc (FN S sp oc),nx:=S.nx+1,nl:=S.nl,cs:= .le 0 S.nx 0:: .le S.nx 0 m0::S.cs}
def TU:List (Tmp×TA)->AS->AS
 |[],S=>S
 |(d,.a a)::r,S=>match uK a S.nx S.cs with
  |⟨b,n,cs⟩=>TU r {S with fr:=setS b S.fr d,nx:=n,cs:=cs}
 |(d,.row e sz a lo hi)::r,S=>TU r {fr:=setS (.osl S.nl sz 0 0 S.nx 0) S.fr d,hp:=(S.nl,.row e sz a S.nx 0)::S.hp,nx:=S.nx+1,nl:=S.nl+1,cs:= .le 0 S.nx (-lo):: .le S.nx 0 hi::S.cs}
def setCell(l j:Nat)(a:A):List (Nat×AO)->List (Nat×AO)
 |[]=>[]|(m,.fix e xs)::r=>if Nat.beq m l then(m,.fix e (xs.set j a))::setCell l j a r else(m,.fix e xs)::setCell l j a r
 |q::r=>q::setCell l j a r
def Jb:List (Nat×Nat×TA)->AS->AS
 |[],S=>S
 |(l,j,.a a)::r,S=>match uK a S.nx S.cs with
  |⟨b,n,cs⟩=>Jb r {S with hp:=setCell l j b S.hp,nx:=n,cs:=cs}
 |(l,j,.row e sz a lo hi)::r,S=>Jb r {S with hp:=setCell l j (.osl S.nl sz 0 0 S.nx 0) ((S.nl,.row e sz a S.nx 0)::S.hp),nx:=S.nx+1,nl:=S.nl+1,cs:= .le 0 S.nx (-lo):: .le S.nx 0 hi::S.cs}
def KY(gs:Nat):List (YV×YV×Int)->AS->Option (List pO)
 |[],S=>some S.cs
 |(p,q,c)::r,S=>match HC S gs 0 p,HC S gs 0 q with
  |some (x,a),some (y,b)=>match KY gs r S with
   |some cs=>some (.le x y (c+b-a)::cs)|none=>none
  |_,_ =>none
abbrev iV:=List (YV×YV×Int)
def Kt(S:AS)(w:gK)(sp:hO)(oc:fR)(cons:iV)(m0:Int):Option AS:=
 let S1:=Jb oc (TU sp (Uk S w sp oc m0))
 match KY S.nx cons S1 with
 |some cs=>some {S1 with cs:=cs}
 |none=>none
def XM(n l:Nat)(w:gK):Nat->List A->List A->Bool
 |_,[],[]=>true|j,a::a_s,b::bs=>((rD j w|| !uA n l qX a)||CB qX a b)&&XM n l w (j+1) a_s bs|_,_,_ =>false
def XL(n l:Nat)(oc:fR)(m:Nat):Nat->List A->List A->Bool
 |_,[],[]=>true|j,a::a_s,b::bs=>(if oc.any fun q=>Nat.beq q.1 m&&Nat.beq q.2.1 j then b.one else CB qX a b&&uA n l qX a)&&XL n l oc m (j+1) a_s bs
 |_,_,_ =>false
def Hv:LoopState->LoopState->Bool
 | .ready,.ready| .busy,.busy| .done,.done| .exhausted,.exhausted=>true|_,_ =>false
def Su:Option (Option Nat)->Option (Option Nat)->Bool
 |none,none|some none,some none=>true|some (some a),some (some b)=>Nat.beq a b|_,_ =>false
def JH(n l:Nat)(oc:fR)(hp1:fJ):List (Nat×AO)->Bool
 |[]=>true
 |(m,.fix e xs)::r=>Nat.blt m l&&((match oO hp1 m with
  |some (.fix e' ys)=>Nat.beq e e'&&XL n l oc m 0 xs ys|_ =>false)&&JH n l oc hp1 r)
 |(m,.row e sz a s c)::r=>Nat.blt m l&&((match oO hp1 m with
  |some (.row e' sz' b s' c')=>Nat.beq e e'&&(Nat.beq sz sz'&&(CB qX a b&&(uA n l qX a&&(Nat.beq s s'&&(c==c'&&Nat.blt s n)))))|_ =>false)&&JH n l oc hp1 r)
 |(_,.map _)::_ =>false
 |(m,.loop st pe ..)::r=>Nat.blt m l&&((match oO hp1 m with
  |some (.loop st' pe' ..)=>Hv st st'&&Su pe pe'|_ =>false)&&JH n l oc hp1 r)
def OB(hp:fJ)(m:Nat):Bool:=(oO hp m).isSome
def Mn(n l:Nat)(base:fJ)(S1:AS):List (Tmp×TA)->List Nat->Bool
 |[],_ =>true|(d,.a t)::r,used=>JC S1.cs n l qX (zU S1.fr d) t&&Mn n l base S1 r used
 |(d,.row e sz t lo hi)::r,used=>match zU S1.fr d with
  | .nils=>sU lo 0&&(sU 0 hi&&Mn n l base S1 r used)
  | .osl m sz' si ci s c=>match oO S1.hp m with
   | some (.row e' sz2 a s' c')=>Nat.beq sz sz'&&(Nat.beq sz2 sz&&(Nat.beq e e'&&(Nat.beq si 0&&(ci==0&&(Nat.beq s s'&&(c==c'&&(JC S1.cs n l qX a t&&(leq S1.cs 0 lo s c&&(leq S1.cs s c 0 hi&&
     (!(rD m used)&&(!(OB base m)&&Mn n l base S1 r (m::used))))))))))))
   |_ =>false
  |_ =>false
def zN(S1:AS):List (Tmp×TA)->List Nat->List Nat
 |[],u=>u|(_,.a _)::r,u=>zN S1 r u
 |(d,.row ..)::r,u=>match zU S1.fr d with
  | .osl m .. =>zN S1 r (m::u)|_ =>zN S1 r u
def Mm(n l:Nat)(base:fJ)(S1:AS):List (Nat×Nat×TA)->List Nat->Bool
 |[],_ =>true
 |(m,j,.a t)::r,used=>(match oO S1.hp m with
  |some (.fix _ xs)=>match xs[j]? with
   |some a=>JC S1.cs n l qX a t|none=>false
  |_ =>false)&&Mm n l base S1 r used
 |(m,j,.row e sz t lo hi)::r,used=>match oO S1.hp m with
  |some (.fix _ xs)=>match xs[j]? with
   |some .nils=>sU lo 0&&(sU 0 hi&&Mm n l base S1 r used)
   |some (.osl q sz' si ci s c)=>match oO S1.hp q with
    | some (.row e' sz2 a s' c')=>Nat.beq sz sz'&&(Nat.beq sz2 sz&&(Nat.beq e e'&&(Nat.beq si 0&&(ci==0&&(Nat.beq s s'&&(c==c'&&(JC S1.cs n l qX a t&&(leq S1.cs 0 lo s c&&(leq S1.cs s c 0 hi&&
      (!(rD q used)&&(!(OB base q)&&Mm n l base S1 r (q::used))))))))))))
    |_ =>false
   |_ =>false
  |_ =>false
def Gr(gs:Nat)(gc:Int)(S1:AS):List (YV×YV×Int)->Bool
 |[]=>true
 |(p,q,c)::r=>(match HC S1 gs gc p,HC S1 gs gc q with
  |some (x,a),some (y,b)=>leq S1.cs x a y (b+c)|_,_ =>false)&&Gr gs gc S1 r
def EC:List (Nat×Nat×TA)->Bool
 |[]=>true|(m,j,_)::r=> !(r.any fun q=>Nat.beq q.1 m&&Nat.beq q.2.1 j)&&EC r
def UR:List (Tmp×TA)->Bool
 |[]=>true|(d,_)::r=> !(r.any fun q=>Nat.beq q.1 d)&&UR r
def inW(w:gK):List (Tmp×TA)->Bool
 |[]=>true|(d,_)::r=>rD d w&&inW w r
def okS(S:AS)(w:gK)(sp:hO)(oc:fR)(cons:iV)(S1:AS)(gs:Nat)(gc:Int):Bool:=
 XM S.nx S.nl w 0 S.fr S1.fr&&(JH S.nx S.nl oc S1.hp (FN S sp oc)&&(Mn S.nx S.nl (FN S sp oc) S1 sp []&&(Mm S.nx S.nl (FN S sp oc) S1 oc (zN S1 sp [])&&Gr gs gc S1 cons)))
def GT(S1 Sh S2:AS)(m0:Int):aDk->Bool
 | .down p=>(match HC S1 0 0 p with
   |some (x,a)=>leq S1.cs x a 0 m0|none=>false)&&(match HC Sh 0 0 p,HC S2 0 0 p with
   |some (x,a),some (y,b)=>leq S2.cs y (b+1) x a&&leq S2.cs 0 0 y b|_,_ =>false)
 | .up p q c=>(match HC S1 0 0 p,HC S1 0 0 q with
   |some (x,a),some (y,b)=>leq S1.cs y (b+c-m0) x a|_,_ =>false)&&(match HC Sh 0 0 p,HC Sh 0 0 q,HC S2 0 0 p,HC S2 0 0 q with
   |some (x,a),some (y,b),some (x',a'),some (y',b')=>Nat.beq y y'&&(b==b'&&(leq S2.cs x (a+1) x' a'&&leq S2.cs x' a' y (b+c)))|_,_,_,_ =>false)
end
end Go.Ps
namespace Go.Ps
noncomputable section
def LS:Code->List Tmp
 | .region _ ops _ =>Uv ops.toList| .seq a b=>LS a++LS b| .cond _ a b=>LS a++LS b| .block _ c| .loop c| .scope c=>LS c|_ =>[]
abbrev gY:=List Af
def Wk(l:gY):Option (List (X×AS)):=
 match l with
 |[]=>some []
 |s::r=>match s.pend with
  |none=>match Wk r with
   |some q=>some ((.normal,s.S)::q)|none=>none
  |some _ =>none
def UZ(id:Nat):List (X×AS)->List (X×AS)
 |[]=>[]|(.exit id',S)::r=>(if Nat.beq id' id then(.normal,S)else(.exit id',S))::UZ id r
 |q::r=>q::UZ id r
def zF(S:AS)(w:gK)(la:LA)(oc:fR)(Sh:AS):List (X×AS)->Option (List (X×AS))
 |[]=>some []|(.normal,S2)::r=>if okS S w la.sp oc la.cons S2 S.nx (Int.ofNat la.gk)&&GT S Sh S2 la.m0 la.ms then zF S w la oc Sh r else none
 |q::r=>match zF S w la oc Sh r with
  |some l=>some (q::l)|none=>none
def bEr(n l:Nat)(a:A):A:=
 if uA n l qX a then a else match a with
 | .bool _ => .bool rJ| .or [.bool _,.tup []]=> .or [.bool rJ,.tup []]| .int k _ _ | .ival k _ _ => .ival k k.min k.max| .str .. | .strc _ | .strv .. => .strv 0 1000000000000000000|_ => .top
def bNg(n l:Nat)(a b:A):A:=
 if CB qX a b then a else match a,b with
 | .bool _,.bool _ => .bool rJ| .bool _,.tup []| .tup [],.bool _ | .or [.bool _,.tup []],.bool _ | .or [.bool _,.tup []],.tup []=> .or [.bool rJ,.tup []]| .int k _ _,.int _ _ _ | .ival k _ _,.int _ _ _ => .ival k k.min k.max| .strv ..,_ => .strv 0 1000000000000000000| .strc _,.strc _ | .str ..,.strc _ | .strc _,.str .. | .str ..,.str .. => .strv 0 1000000000000000000|_,_ => .top
def aRo(n l:Nat)(d:Tmp):A->List Af->A
 |a,[]=>a|a,s::r=>aRo n l d (bNg n l a (bEr n l (zU s.S.fr d))) r
def aBm(n l:Nat)(s:Af)(r:gY):List Tmp->List (Tmp×TA)
 |[]=>[]|d::ds=>if rD d ds then aBm n l s r ds else(d,.a (aRo n l d (bEr n l (zU s.S.fr d)) r))::aBm n l s r ds
def Je(S:AS)(w:gK)(sp:hO):List Af->Bool
 |[]=>true|s::r=>s.pend.isNone&&(okS S w sp [] [] s.S 0 0&&Je S w sp r)
def VY(S:AS)(w:gK):List Af->Option (List Af)
 |[]=>some []|[s]=>some [s]
 | s::r=>if Je S w (aBm S.nx S.nl s r w) (s::r)then match Kt S w (aBm S.nx S.nl s r w) [] [] 0 with
   |some S'=>some [⟨S',none,[]⟩]|none=>none
  else none
def aKc:A->Bool
 | .tup []=>true|_ =>false
def Xs(s t:Af):List Tmp->Bool
 |[]=>true|d::ds=>aKc (zU s.S.fr d)==aKc (zU t.S.fr d)&&Xs s t ds
def Bz(S:AS)(w:gK):Nat->List Af->Option (List Af)
 |0,l=>some l|_ +1,[]=>some []
 |n+1,s::r=>match VY S w (s::r.filter fun t=>Xs s t w)with
  |some a=>match Bz S w n (r.filter fun t=> !Xs s t w)with
   |some b=>some (a++b)|none=>none
  |none=>none
def aUf(o:Oper):Bool:=
 match o.op with
 | .pick .. =>true|_ =>false
def yOf(gl:Nat->Option A)(fr:List A)(o:Oper):Option (Nat×List Operand):=
 match o.op with
 | .call c=>match c.callee with
  | .value f=>match NY gl fr f with
   |some (.yl l)=>some (l,c.args.toList)|_ =>none
  |_ =>none
 |_ =>none
def Rt(S:AS):List (Tmp×Nat×TA)->Option (List (Nat×Nat×TA))
 |[]=>some []
 |(d,j,a)::r=>match Cf 5 S.hp S.fr d with
  |some l=>match Rt S r with
   |some q=>some ((l,j,a)::q)|none=>none
  |none=>none
def aUi:Option (Option Nat)->X
 |none=> .normal|some (some id)=> .exit id|some none=> .ret
def aMt(S:AS)(l:Nat):List AR->Option (List (X×AS))
 |[]=>some []
 |R::rs=>match oO R.hp l with
  |some (.loop st pe ..)=>if Hv st .busy then none else match aMt S l rs with
   |some q=>some ((aUi pe,{fr:=S.fr,hp:=vL R.hp l,nx:=R.nx,nl:=R.nl,cs:=R.cs})::q)|none=>none
  |_ =>none
def roA(S:AS):Option Nat->Bool
 |none=>true
 |some l=>match oO S.hp l with
  |some (.loop ..)=>true|_ =>false
section
variable(P:fA)(Y:AX)(call:FuncId->List A->AS->Option (List AR))(yld:Nat->List A->AS->Option (List AR))(F:fX)
def bCz(S:AS)(o:Oper):Option (List Af):=
 match yOf Y.gl S.fr o with
 |some (l,xs)=>match CU Y.gl S.fr xs with
  |some ars=>match yld l ars S with
   |some rs=>some (rs.map fun R=>{S:=S.ofR o.dst R,pend:=none,av:=[]})|none=>none
  |none=>none
 |none=>none
def Xy(ops:fC)(s:Af)(o:Oper):Option (List Af):=
 match yOf Y.gl s.S.fr o with
 |some _ =>if s.pend.isSome then none else match JV ops s.S o with
  |some gs=>zK (fun q=>if q.1 then bCz Y yld q.2 o else some [{S:={q.2 with fr:=KK q.2.fr o.dst (.tup [])},pend:=none,av:=[]}]) gs
  |none=>none
 |none=>Xw P Y call F ops s o
def aJk(ops:fC):List Oper->Af->Option (List Af)
 |[],s=>some [s]
 |o::rest,s=>match Xy P Y call yld F ops s o with
  |some l=>zK (aJk ops rest) l|none=>none
def aJj(S:AS)(ops:fC):List Tmp->List Oper->List Af->Option (List Af)
 |_,[],l=>some l
 |w,o::rest,l=>match zK (fun s=>Xy P Y call yld F ops s o) l with
  |some l'=>match(if aUf o then Bz S (o.dst.toList++w) 40 l' else some l')with
   |some l2=>aJj S ops (o.dst.toList++w) rest l2|none=>none
  |none=>none
def Ik:Nat->Nat->A->Nat
 |0,m,_ =>m
 |k+1,m,a=>match a with
  | .int _ s _ | .str s _ | .sx s _ =>Nat.lor m (Nat.shiftLeft 1 s)| .elp _ _ s _ _ =>Nat.lor m (Nat.shiftLeft 1 s)| .bool (.imp p q)=>symC (symC m p) q| .ref x _ | .iface _ x=>Ik k m x| .sl e s _ | .slp _ e s _ =>Ik k (Nat.lor m (Nat.shiftLeft 1 s)) e| .osl _ _ si _ s _ =>Nat.lor (Nat.lor m (Nat.shiftLeft 1 si)) (Nat.shiftLeft 1 s)| .fn _ a_s bs=>(a_s++bs).foldl (Ik k) m| .or a_s| .agg a_s| .tup a_s| .slk a_s| .prd _ a_s=>a_s.foldl (Ik k) m|_ =>m
 where
 symC:Nat->List pO->Nat
  |m,[]=>m|m,.le x y _ ::r=>symC (Nat.lor (Nat.lor m (Nat.shiftLeft 1 x)) (Nat.shiftLeft 1 y)) r|m,.ne x y _ ::r=>symC (Nat.lor (Nat.lor m (Nat.shiftLeft 1 x)) (Nat.shiftLeft 1 y)) r
def bNf(m:Nat):AO->Nat
 | .fix _ xs=>xs.foldl (Ik 8) m| .row _ _ e s _ =>Ik 8 (Nat.lor m (Nat.shiftLeft 1 s)) e| .map es=>es.foldl (fun m q=>Ik 8 m q.2) m| .loop _ _ fr .. =>fr.foldl (Ik 8) m
def RG(m:Nat):List pO->List pO
 |[]=>[]| .le x y c::r=>if Nat.testBit m x&&Nat.testBit m y then .le x y c::RG m r else RG m r
 | .ne x y c::r=>if Nat.testBit m x&&Nat.testBit m y then .ne x y c::RG m r else RG m r
def gcS(S:AS):AS:={S with cs:=RG (S.hp.foldl (fun m q=>bNf m q.2) (S.fr.foldl (Ik 8) 1)) S.cs}
def aKd(f:An->AS->Option (List (X×AS))):List An->AS->Option (List (X×AS))
 |[],_ =>none
 |b::k,S=>match f b S with
  |some l=>zK (fun q=>match q with
   |(.normal,S')=>aKd f k (gcS S')|q=>some [(q.1,gcS q.2)]) l
  |none=>none
def vK(J:hX)(ro:gD):Code->An->AS->Option (List (X×AS))
 | .skip,_,S| .label _,_,S=>some [(.normal,S)]
 | .region id ops draw,_,S=>match(if draw then Qm P Y call F (F (9000000+id)) ops S else if J id then(match aJj P Y call yld F S ops [] ops.toList [⟨S,none,[]⟩]with
    |some l=>VY S (Uv ops.toList) l|none=>none)else aJk P Y call yld F ops ops.toList ⟨S,none,[]⟩)with
  |some l=>Wk l|none=>none
 | .seq a b,an,S=>match vK J ro a an.l S with
  |some l=>zK (fun q=>match q with
   |(.normal,S')=>vK J ro b an.r S'|q=>some [q]) l
  |none=>none
 | .cond c a b,an,S=>match NY Y.gl S.fr c with
  |some (.bool t)=>zK (fun q=>if q.1 then vK J ro a an.l {S with cs:=q.2}else vK J ro b an.r {S with cs:=q.2}) (KP S.cs t)
  |_ =>none
 | .block id c,an,S=>match vK J ro c an S with
  |some l=>some (UZ id l)|none=>none
 | .loop c,an,S=>match an with
  | .unl bs=>aKd (fun b S=>vK J ro c b S) bs S
  | .loop la b=>match Rt S la.oc with
   | some oc=>if sU 0 la.m0&&EC oc&&UR la.sp&&inW (LS c) la.sp&&okS S (LS c) la.sp oc la.cons S 0 0 then match Kt S (LS c) la.sp oc la.cons (Int.ofNat la.gk*la.m0)with
     |some Sh=>match vK J ro c b Sh with
      |some l=>zF S (LS c) la oc Sh l|none=>none
     |none=>none
    else none
   |none=>none
  |_ =>none
 | .rangeFunc g ps asg bd,an,S=>match NY Y.gl S.fr g with
  | some (.fn gf [] cap)=>if roA S ro then match call gf (.yl S.nl::cap) {S with hp:=(S.nl,.loop .ready none S.fr ps asg bd F an.l an.r)::S.hp,nl:=S.nl+1}with
    |some rs=>aMt S S.nl rs|none=>none
   else none
  |_ =>none
 | .exit id,_,S=>some [(.exit id,S)]| .ret,_,S=>some [(.ret,S)]|_,_,_ =>none
end
def aKf(S:AS)(l:Nat)(st:LoopState)(pe:iK):Option AS:=
 match oO S.hp l with
 |some (.loop st' pe' fr ps asg bd ow aa ab)=>some {S with hp:=AB S.hp l (.loop st pe fr ps asg bd ow aa ab)}
 |_ =>none
def peX:X->Option (Option Nat)
 | .normal=>none| .exit id=>some (some id)| .ret=>some none
def WJ:X->Bool
 | .normal=>true|_ =>false
def TD(l:Nat):List (X×AS)->Option (List AR)
 |[]=>some []
 |(x,S)::r=>match aKf S l (if WJ x then .ready else .done) (peX x)with
  |some S'=>match TD l r with
   |some q=>some (⟨.bool (.lit (WJ x)),S'.hp,S'.nx,S'.nl,S'.cs⟩::q)|none=>none
  |none=>none
def Tb(ps:gK)(x:List A)(fr:List A):List A:=(ps.zip x).foldl (fun f p=>f.set p.1 p.2) fr
def Vy(S:AS)(l:Nat):Bool:=
 match oO S.hp l with
 |some (.loop st ..)=>Hv st .ready|_ =>false
def aVd(S:AS)(l:Nat):Option (Option Nat):=
 match oO S.hp l with
 |some (.loop _ pe ..)=>pe|_ =>none
def aRk:X->X->Bool
 | .normal,.normal| .ret,.ret=>true| .exit a,.exit b=>Nat.beq a b|_,_ =>false
def aOr(x:X):List (X×AS)->Bool
 |[]=>false|(y,_)::r=>aRk y x||aOr x r
def Gs(S:AS)(oc:fR):List (X×AS)->Bool
 |[]=>true|(_,S1)::r=>okS {S with fr:=[.top]} [0] [] oc [] {S1 with fr:=[.top]} 0 0&&Gs S oc r
def LG(S':AS):List (X×AS)->List (X×AS)
 |[]=>[]|(x,_)::r=>if aOr x r then LG S' r else(x,S')::LG S' r
def Ej(S:AS)(ab:An)(r:List (X×AS)):Option (List (X×AS)):=
 match ab with
 | .loop la _ =>match Rt S la.oc with
  | some oc=>if EC oc&&Gs S oc r then match Kt {S with fr:=[.top]} [0] [] oc [] 0 with
    |some S'=>some (LG S' r)|none=>none
   else none
  |none=>none
 |_ =>some r
def An.body:An->An
 | .loop _ b=>b|a=>a
section
variable(P:fA)(Y:AX)(call:FuncId->List A->AS->Option (List AR))(yld:Nat->List A->AS->Option (List AR))
def aRi(l:Nat)(bd:Code)(ow:fX)(ab:An)(q:X×AS):Option (List AR):=
 if WJ q.1&&Vy q.2 l then match aKf q.2 l .busy (aVd q.2 l)with
  |some S2=>match vK P Y call yld ow (Y.jr 100000) (some l) bd ab.body S2 with
   |some r=>match Ej S2 ab r with
    |some r'=>TD l r'|none=>none
   |none=>none
  |none=>none
 else none
def aVl(l:Nat)(args:List A)(S:AS):Option (List AR):=
 match oO S.hp l with
 | some (.loop _ _ fr ps asg bd ow aa ab)=>if Nat.beq args.length ps.size&&(sK asg&&sK bd)then match vK P Y call yld ow (Y.jr 100000) (some l) asg aa {S with fr:=Tb ps.toList args fr}with
   |some r=>zK (aRi P Y call yld l bd ow ab) r|none=>none
  else none
 |_ =>none
end
def bEa(P:fA)(fr:List A)(S:AS):ResultVar->Option AV
 | .tmp t=>some ⟨zU fr t,S.nx,S.cs⟩| .cell a t=>Wl P S.hp S.nx S.cs t (zU fr a)
def MZ(P:fA)(fr:List A):List ResultVar->AS->Option (List A×AS)
 |[],S=>some ([],S)
 |r::rs,S=>match bEa P fr S r with
  |some v=>match MZ P fr rs {S with nx:=v.nx,cs:=v.cs}with
   |some (l,S')=>some (v.a::l,S')|none=>none
  |none=>none
def bEs:List A->A
 |[a]=>a|l=> .tup l
def Ux(P:fA)(rs:gU):List (X×AS)->Option (List AR)
 |[]=>some []
 |(x,S)::r=>match x with
  | .exit _ =>none
  |_ =>match MZ P S.fr rs S with
   |some (l,S')=>match Ux P rs r with
    |some q=>some (⟨bEs l,S'.hp,S'.nx,S'.nl,S'.cs⟩::q)|none=>none
   |none=>none
def aIm(args:List A):List (Nat×Nat×TA)->Option (List (Nat×Nat×TA))
 |[]=>some []
 |(d,j,a)::r=>match args[d]? with
  |some (.ptr l _)=>match aIm args r with
   |some q=>some ((l,j,a)::q)|none=>none
  |_ =>none
def Xc(S:AS)(oc:fR)(res:A):List AR->Bool
 |[]=>true|r::rs=>okS {S with fr:=[.top]} [0] [(0,.a res)] oc [] {fr:=[r.a],hp:=r.hp,nx:=r.nx,nl:=r.nl,cs:=r.cs} 0 0&&Xc S oc res rs
def Qd(S:AS)(args:List A)(p:aKy)(l:List AR):Option (List AR):=
 match aIm args p.oc with
 | some oc=>if EC oc&&Xc S oc p.res l then match Kt {S with fr:=[.top]} [0] [(0,.a p.res)] oc [] 0 with
   |some S'=>some [⟨zU S'.fr 0,S'.hp,S'.nx,S'.nl,S'.cs⟩]|none=>none
  else none
 |none=>none
structure bGf where
 fn:FuncId->List A->AS->Option (List AR)
 yd:Nat->List A->AS->Option (List AR)
def aFx(P:fA)(Y:AX)(call:FuncId->List A->AS->Option (List AR))(yld:Nat->List A->AS->Option (List AR))(f:fT)(args:List A)(S:AS):Option (List AR):=
 if !(Y.top f)then none else match P.funcs[f]? with
  |some fn=>match fn.body with
   |some c=>match vK P Y call yld (Y.own f) (Y.jr f) none c (Y.an f) {S with fr:=args++List.replicate (fn.ntmps-args.length) (.tup [])}with
    |some l=>match Ux P fn.results.toList l with
     |some rs=>match Y.post f with
      |some p=>Qd S args p rs|none=>some rs
     |none=>none
    |none=>none
   |none=>none
  |none=>none
end
end Go.Ps
namespace Go.Ps
def FK(k:gB)(n:Int):Prop:=k.min<=n/\n<=k.max
def ZV(ρ:fI):pO->Prop
 | .le x y c=>∃vx vy,ρ[x]? =some vx/\ρ[y]? =some vy/\vx<=vy+c| .ne x y c=>∃vx vy,ρ[x]? =some vx/\ρ[y]? =some vy/\vx≠vy+c
def pG(ρ:fI)(cs:List pO):Prop:=∀q∈cs,ZV ρ q
def tM(ρ:fI):Bo->Bool->Prop
 | .lit b,x=>x=b| .imp p n,x=>(x=true->pG ρ p)/\(x=false->pG ρ n)
def AK(t:T)(xs:eY):Prop:=(t= .nils/\xs=[])\/(∃f,t= .sl f xs)\/(∃full n f,t= .slf full n f/\xs=(List.range n).map f)
structure Prd where
 q:Nat->T->Prop
 pure:∀(j:Nat) (t:T),q j t->∀(k:Nat) (H:Hp),20<=k->pF k H t=some t
variable[Inhabited Prd]
abbrev fB:=List (Option Nat)
inductive Gm(ρ:fI)(μ:fB):A->T->Prop
 |top (t):Gm ρ μ .top t
 |any (t):t.one=true->Gm ρ μ .any t
 |int (k s c v):ρ[s]? =some v->FK k (v+c)->Gm ρ μ (.int k s c) (.int k (v+c))
 |ival (k:gB) (lo hi n:Int):lo<=n->n<=hi->FK k n->Gm ρ μ (.ival k lo hi) (.int k n)
 |bool (B b):tM ρ B b->Gm ρ μ (.bool B) (.bool b)
 |strc (s):Gm ρ μ (.strc s) (.str s)
 |str (s c v l):ρ[s]? =some v->(l.length:Int)=v+c->Gm ρ μ (.str s c) (.str l)
 |strv (lo hi:Int) (l:fV):lo<=(l.length:Int)->(l.length:Int)<=hi->Gm ρ μ (.strv lo hi) (.str l)
 |nilp:Gm ρ μ .nilp .nilp
 |nils:Gm ρ μ .nils .nils
 |nilf:Gm ρ μ .nilf .nilf
 |nili:Gm ρ μ .nili .nili
 |nilm:Gm ρ μ .nilm .nilm
 |mp (l l'):μ[l]? =some (some l')->Gm ρ μ (.mp l) (.mp l')
 |yl (l l'):μ[l]? =some (some l')->Gm ρ μ (.yl l) (.yl l')
 |ptr (l off l'):μ[l]? =some (some l')->Gm ρ μ (.ptr l off) (.ptr l' off)
 |elp (l sz s c off l' v):μ[l]? =some (some l')->ρ[s]? =some v->0<=v+c->Gm ρ μ (.elp l sz s c off) (.ptr l' ((v+c).toNat*sz+off))
 |ref (x t off):x.known=true->Gm ρ μ x t->Gm ρ μ (.ref x off) (.ref t off)
 |sl (e s c t xs v):AK t xs->ρ[s]? =some v->(xs.length:Int)=v+c->(∀x∈xs,Gm ρ μ e x)->Gm ρ μ (.sl e s c) t
 |slv (e:A) (lo hi:Int) (t:T) (xs:eY):AK t xs->lo<=(xs.length:Int)->(xs.length:Int)<=hi->(∀x∈xs,Gm ρ μ e x)->Gm ρ μ (.slv e lo hi) t
 |slk (es t xs):AK t xs->es.length=xs.length->(∀(j:Nat) (a:A) (t:T),es[j]? =some a->xs[j]? =some t->Gm ρ μ a t)->Gm ρ μ (.slk es) t
 |slp (q e s c t xs v):(default:Prd).q q t->AK t xs->ρ[s]? =some v->(xs.length:Int)=v+c->(∀x∈xs,Gm ρ μ e x)->Gm ρ μ (.slp q e s c) t
 |slpv (q:Nat) (e:A) (lo hi:Int) (t:T) (xs:eY):(default:Prd).q q t->AK t xs->lo<=(xs.length:Int)->(xs.length:Int)<=hi->(∀x∈xs,Gm ρ μ e x)->Gm ρ μ (.slpv q e lo hi) t
 |sx (s c full n f v):ρ[s]? =some v->((n:Nat):Int)=v+c->Gm ρ μ (.sx s c) (.slf full n f)
 |sxv (lo hi:Int) (full:Bool) (n:Nat) (f:iC):lo<=(n:Int)->(n:Int)<=hi->Gm ρ μ (.sxv lo hi) (.slf full n f)
 |osl (l sz si ci s c l' vi v):μ[l]? =some (some l')->ρ[si]? =some vi->0<=vi+ci->ρ[s]? =some v->0<=v+c->Gm ρ μ (.osl l sz si ci s c) (.osl l' sz (vi+ci).toNat (v+c).toNat)
 |osl0 (l sz si ci s c vi v):μ[l]? =some none->ρ[si]? =some vi->vi+ci=0->ρ[s]? =some v->v+c=0->Gm ρ μ (.osl l sz si ci s c) .nils
 | fn (f a_s bs as' bs'):a_s.length=as'.length->(∀(j:Nat) (a:A) (t:T),a_s[j]? =some a->as'[j]? =some t->Gm ρ μ a t)->
   bs.length=bs'.length->(∀(j:Nat) (a:A) (t:T),bs[j]? =some a->bs'[j]? =some t->Gm ρ μ a t)->Gm ρ μ (.fn f a_s bs) (.fn (.func f) as' bs')
 |iface (t x y):Gm ρ μ x y->Gm ρ μ (.iface t x) (.iface t y)
 |ifc (t x):Gm ρ μ .ifc (.iface t x)
 |or (a_s a t):a∈a_s->Gm ρ μ a t->Gm ρ μ (.or a_s) t
 |agg (a_s ts):a_s.length=ts.length->(∀(j:Nat) (a:A) (t:T),a_s[j]? =some a->ts[j]? =some t->Gm ρ μ a t)->Gm ρ μ (.agg a_s) (.agg ts)
 |prd (q a_s ts):(default:Prd).q q (.agg ts)->a_s.length=ts.length->(∀(j:Nat) (a:A) (t:T),a_s[j]? =some a->ts[j]? =some t->Gm ρ μ a t)->Gm ρ μ (.prd q a_s) (.agg ts)
 |tup (a_s ts):a_s.length=ts.length->(∀(j:Nat) (a:A) (t:T),a_s[j]? =some a->ts[j]? =some t->Gm ρ μ a t)->Gm ρ μ (.tup a_s) (.tup ts)
def pH(ρ:fI)(μ:fB)(a_s:List A)(ts:eY):Prop:=a_s.length=ts.length/\∀(j:Nat) (a:A) (t:T),a_s[j]? =some a->ts[j]? =some t->Gm ρ μ a t
def rZ{α:Type}(r r':List α):Prop:=∀(j:Nat) (v:α),r[j]? =some v->r'[j]? =some v
theorem rZ.refl{α:Type}(r:List α):rZ r r:=fun _ _ h=>h
theorem rZ.trans{α:Type}{a b c:List α}(h:rZ a b)(h':rZ b c):rZ a c:=fun j v q=>h' j v (h j v q)
theorem rZ.app{α:Type}(r s:List α):rZ r (r++s):=fun j v h=>by
 have:=(aK.1 h).1;rw[dD this];exact h
section
variable{ρ ρ':fI}{μ μ':fB}
theorem ZV.ext(h:rZ ρ ρ'){q:pO}(hq:ZV ρ q):ZV ρ' q:=by
 cases q<;>(obtain⟨a,b,h1,h2,h3⟩:=hq;exact⟨a,b,h _ _ h1,h _ _ h2,h3⟩)
theorem pG.ext(h:rZ ρ ρ'){cs:List pO}(hq:pG ρ cs):pG ρ' cs:=fun q m=>(hq q m).ext h
theorem tM.ext(h:rZ ρ ρ'){B:Bo}{b:Bool}(hq:tM ρ B b):tM ρ' B b:=by
 cases B with
 |lit x=>exact hq|imp p n=>exact⟨fun e=>(hq.1 e).ext h,fun e=>(hq.2 e).ext h⟩
theorem Gm.ext(h:rZ ρ ρ')(h':rZ μ μ'){a:A}{t:T}(hg:Gm ρ μ a t):Gm ρ' μ' a t:=by
 induction hg with
 |top t=>exact .top t|any t h=>exact .any t h|int k s c v h1 h2=>exact .int k s c v (h _ _ h1) h2|ival k lo hi n h1 h2 h3=>exact .ival k lo hi n h1 h2 h3|bool B b hb=>exact .bool B b (hb.ext h)|strc s=>exact .strc s|str s c v l h1 h2=>exact .str s c v l (h _ _ h1) h2|strv lo hi l h1 h2=>exact .strv lo hi l h1 h2|nilp=>exact .nilp|nils=>exact .nils|nilf=>exact .nilf|nili=>exact .nili|nilm=>exact .nilm|mp l l' h1=>exact .mp l l' (h' _ _ h1)|yl l l' h1=>exact .yl l l' (h' _ _ h1)|ptr l off l' h1=>exact .ptr l off l' (h' _ _ h1)|elp l sz s c off l' v h1 h2 h3=>exact .elp l sz s c off l' v (h' _ _ h1) (h _ _ h2) h3|ref x t off h1 _ ih=>exact .ref x t off h1 ih|sl e s c t xs v h1 h2 h3 _ ih=>exact .sl e s c t xs v h1 (h _ _ h2) h3 ih|slv e lo hi t xs h1 h2 h3 _ ih=>exact .slv e lo hi t xs h1 h2 h3 ih|slk es t xs h1 h2 _ ih=>exact .slk es t xs h1 h2 ih|slp q e s c t xs v h0 h1 h2 h3 _ ih=>exact .slp q e s c t xs v h0 h1 (h _ _ h2) h3 ih|slpv q e lo hi t xs h0 h1 h2 h3 _ ih=>exact .slpv q e lo hi t xs h0 h1 h2 h3 ih|sx s c full n f v h1 h2=>exact .sx s c full n f v (h _ _ h1) h2|sxv lo hi full n f h1 h2=>exact .sxv lo hi full n f h1 h2|osl l sz si ci s c l' vi v h1 h2 h3 h4 h5=>exact .osl l sz si ci s c l' vi v (h' _ _ h1) (h _ _ h2) h3 (h _ _ h4) h5|osl0 l sz si ci s c vi v h1 h2 h3 h4 h5=>exact .osl0 l sz si ci s c vi v (h' _ _ h1) (h _ _ h2) h3 (h _ _ h4) h5|fn f a_s bs as' bs' h1 _ h3 _ ih1 ih2=>exact .fn f a_s bs as' bs' h1 ih1 h3 ih2|iface t x y _ ih=>exact .iface t x y ih|ifc t x=>exact .ifc t x|or a_s a t hm _ ih=>exact .or a_s a t hm ih|agg a_s ts h1 _ ih=>exact .agg a_s ts h1 ih|prd q a_s ts h0 h1 _ ih=>exact .prd q a_s ts h0 h1 ih|tup a_s ts h1 _ ih=>exact .tup a_s ts h1 ih
theorem Gm.unp{a:A}{t:T}(hg:Gm ρ μ a t):Gm ρ μ a.unp t:=by
 cases hg with
 |slp q e s c t xs v h0 h1 h2 h3 h4=>exact .sl e s c t xs v h1 h2 h3 h4|_ =>simp only[A.unp];constructor<;>assumption
theorem pH.ext(h:rZ ρ ρ')(h':rZ μ μ'){a_s:List A}{ts:eY}(hg:pH ρ μ a_s ts):pH ρ' μ' a_s ts:=⟨hg.1,fun j a t ha ht=>(hg.2 j a t ha ht).ext h h'⟩
theorem pH.nil:pH ρ μ [] []:=⟨rfl,fun j a t h=>by simp at h⟩
theorem pH.cons{a:A}{t:T}{a_s:List A}{ts:eY}(h:Gm ρ μ a t)(hs:pH ρ μ a_s ts):pH ρ μ (a::a_s) (t::ts):=by
 refine⟨by simp[hs.1],fun j b u hb hu=> ?_⟩;cases j with
 |zero=>simp at hb hu;subst hb hu;exact h|succ j=>exact hs.2 j b u (by simpa using hb) (by simpa using hu)
theorem pH.head{a:A}{t:T}{a_s:List A}{ts:eY}(h:pH ρ μ (a::a_s) (t::ts)):Gm ρ μ a t:=h.2 0 a t rfl rfl
theorem pH.tail{a:A}{t:T}{a_s:List A}{ts:eY}(h:pH ρ μ (a::a_s) (t::ts)):pH ρ μ a_s ts:=⟨by simpa using h.1,fun j b u hb hu=>h.2 (j+1) b u (by simpa using hb) (by simpa using hu)⟩
theorem pH.inv_nil{ts:eY}(h:pH ρ μ [] ts):ts=[]:=by have:=h.1;simp at this;cases ts<;>simp_all
theorem pH.inv_cons{a:A}{a_s:List A}{ts:eY}(h:pH ρ μ (a::a_s) ts):∃t r,ts=t::r/\Gm ρ μ a t/\pH ρ μ a_s r:=by
 cases ts with
 |nil=>have:=h.1;simp at this|cons t r=>exact⟨t,r,rfl,h.head,h.tail⟩
theorem pH.app{a_s bs:List A}{ts us:eY}(h:pH ρ μ a_s ts)(h':pH ρ μ bs us):pH ρ μ (a_s++bs) (ts++us):=by
 induction a_s generalizing ts with
 |nil=>rw[h.inv_nil];exact h'|cons a a_s ih=>obtain⟨t,r,rfl,h1,h2⟩:=h.inv_cons;exact(ih h2).cons h1
theorem pH.at{a_s:List A}{ts:eY}(h:pH ρ μ a_s ts){j:Nat}{a:A}(ha:a_s[j]? =some a):∃t,ts[j]? =some t/\Gm ρ μ a t:=by
 have hj:=(aK.1 ha).1;have hj':j<ts.length:=by rw[<-h.1];exact hj
 exact⟨ts[j],aC hj',h.2 j a _ ha (aC hj')⟩
theorem pH.at'{a_s:List A}{ts:eY}(h:pH ρ μ a_s ts){j:Nat}{t:T}(ht:ts[j]? =some t):∃a,a_s[j]? =some a/\Gm ρ μ a t:=by
 have hj:=(aK.1 ht).1;have hj':j<a_s.length:=by rw[h.1];exact hj
 exact⟨a_s[j],aC hj',h.2 j _ t (aC hj') ht⟩
theorem pH.drop{a_s:List A}{ts:eY}(h:pH ρ μ a_s ts)(n:Nat):pH ρ μ (a_s.drop n) (ts.drop n):=
 ⟨by simp[h.1],fun j a t ha ht=>h.2 (n+j) a t (by rw[bO]at ha;exact ha) (by rw[bO]at ht;exact ht)⟩
theorem pH.take{a_s:List A}{ts:eY}(h:pH ρ μ a_s ts)(n:Nat):pH ρ μ (a_s.take n) (ts.take n):=by
 refine⟨by simp[h.1],fun j a t ha ht=> ?_⟩;rw[bD]at ha ht;split at ha
 .rw[if_pos ‹_›]at ht;exact h.2 j a t ha ht
 .cases ha
theorem pH.set{a_s:List A}{ts:eY}(h:pH ρ μ a_s ts){a:A}{t:T}(ha:Gm ρ μ a t)(d:Nat):pH ρ μ (a_s.set d a) (ts.set d t):=by
 refine⟨by simp[h.1],fun j b u hb hu=> ?_⟩;rw[cZ]at hb hu;split at hb
 .rename_i hd;rw[if_pos hd]at hu;split at hb
  .cases hb;split at hu
   .cases hu;exact ha
   .cases hu
  .cases hb
 .rename_i hd;rw[if_neg hd]at hu;exact h.2 j b u hb hu
theorem pH.replicate{a:A}{t:T}(h:Gm ρ μ a t)(n:Nat):pH ρ μ (List.replicate n a) (List.replicate n t):=by
 refine⟨by simp,fun j b u hb hu=> ?_⟩;rw[List.getElem?_replicate]at hb hu;split at hb
 .rename_i hj;rw[if_pos hj]at hu;cases hb;cases hu;exact h
 .cases hb
theorem Vo:∀(fr:List A) (t:Tmp),zU fr t=fr.getD t (.tup [])
 |[],_ =>rfl|_ ::_,0=>rfl|_ ::xs,n+1=>(Vo xs n).trans rfl
theorem TF(v:A):∀(fr:List A) (t:Nat),setS v fr t=fr.set t v
 |[],_ =>rfl|_ ::_,0=>rfl|x::xs,n+1=>congrArg (x:: ·) (TF v xs n)
theorem sP:Gm ρ μ (.tup []) oL:= .tup [] [] rfl (fun j a t h=>by simp at h)
theorem pH.get{a_s:List A}{ts:eY}(h:pH ρ μ a_s ts)(d:Tmp):Gm ρ μ (zU a_s d) (qW ts d):=by
 rw[Vo,sG];simp only[aX];cases ha:a_s[d]? with
 |none=>
  have:ts[d]? =none:=by rw[List.getElem?_eq_none_iff]at ha⊢;rw[<-h.1];exact ha
  rw[this];exact sP
 |some a=>obtain⟨t,ht,hg⟩:=h.at ha;rw[ht];exact hg
theorem Vn{cs:List pO}(h:pG ρ cs):∀(n x y:Nat) (c:Int),aGb cs n x y c=true->∀vx vy,ρ[x]? =some vx->ρ[y]? =some vy->vx<=vy+c
 |0,x,y,c,hp,vx,vy,hx,hy=>by
  simp only[aGb,aA,sU,aI]at hp;have:x=y:=aB hp.1;subst this;rw[hx]at hy;cases hy;omega
 |n+1,x,y,c,hp,vx,vy,hx,hy=>by
  simp only[aGb]at hp;split at hp
  .rename_i e;have:x=y:=aB e;subst this;simp only[sU,aI]at hp;rw[hx]at hy;cases hy;omega
  .split at hp
   .rename_i e;have:x=0:=aB e;subst this;rw[eK]at hp;obtain⟨q,hq,hp⟩:=hp;cases q with
    |ne a b d=>simp at hp
    |le a b d=>
     simp only[aA,sU,aI]at hp;have h1:a=0:=aB hp.1;have h2:b=y:=aB hp.2.1;subst h1 h2;obtain⟨va,vb,ha,hb,hle⟩:=h _ hq;rw[hx]at ha;cases ha;rw[hy]at hb;cases hb;omega
   .rw[eK]at hp;obtain⟨q,hq,hp⟩:=hp;cases q with
    |ne a b d=>simp at hp
    |le a b d=>
     simp only[aA]at hp;have:a=x:=aB hp.1;subst this;obtain⟨va,vb,ha,hb,hle⟩:=h _ hq;rw[hx]at ha;cases ha;have:=Vn h n b y (c-d) hp.2 vb vy hb hy;omega
theorem Uo{cs:List pO}(h:pG ρ cs):∀(n y:Nat) (c:Int),aDx cs n y c=true->∀vx vy,ρ[0]? =some vx->ρ[y]? =some vy->vx<=vy+c
 |0,y,c,hp,vx,vy,hx,hy=>by
  simp only[aDx,aA,sU,aI]at hp;have:0=y:=aB hp.1;subst this;rw[hx]at hy;cases hy;omega
 |n+1,y,c,hp,vx,vy,hx,hy=>by
  simp only[aDx]at hp;split at hp
  .rename_i e;have:0=y:=aB e;subst this;simp only[sU,aI]at hp;rw[hx]at hy;cases hy;omega
  .rw[eK]at hp;obtain⟨q,hq,hp⟩:=hp;cases q with
   |ne a b d=>simp at hp
   |le a b d=>
    simp only[aA]at hp;have:b=y:=aB hp.1;subst this;obtain⟨va,vb,ha,hb,hle⟩:=h _ hq;rw[hy]at hb;cases hb;have:=Uo h n a (c-d) hp.2 vx va hx ha;omega
theorem BB{cs:List pO}(h:pG ρ cs)(n x y:Nat)(c:Int)(hp:prv cs n x y c=true)(vx vy:Int)(hx:ρ[x]? =some vx)(hy:ρ[y]? =some vy):vx<=vy+c:=by
 unfold prv at hp;split at hp
 .rename_i e;have:x=0:=aB e;subst this;exact Uo h n y c hp vx vy hx hy
 .exact Vn h n x y c hp vx vy hx hy
theorem oS{cs:List pO}(h:pG ρ cs){x y:Nat}{a b:Int}(hp:leq cs x a y b=true){vx vy:Int}(hx:ρ[x]? =some vx)(hy:ρ[y]? =some vy):vx+a<=vy+b:=by
 have:=BB h pf x y (b-a) hp vx vy hx hy;omega
theorem VQ{cs:List pO}(h:pG ρ cs)(h0:ρ[0]? =some 0){k:gB}{s:Nat}{c v:Int}(hp:inK cs k s c=true)(hs:ρ[s]? =some v):FK k (v+c):=by
 simp only[inK,aA]at hp;have h1:=oS h hp.1 h0 hs;have h2:=oS h hp.2 hs h0;exact⟨by omega,by omega⟩
theorem AG:∀(q cs:List pO),pG ρ cs->pG ρ q->∃cs',DY cs q=some cs'/\pG ρ cs'
 |[],cs,h,_ =>⟨cs,rfl,h⟩
 | .le x y c::r,cs,h,hq=>by
  obtain⟨vx,vy,hx,hy,hle⟩:=hq _ aR;simp only[DY];split
  .rename_i hp;have:=BB h _ _ _ _ hp vy vx hy hx;omega
  .refine AG r _ (fun q hm=> ?_) (fun q hm=>hq q (aJ _ hm));rcases aU.1 hm with rfl|hm
   .exact⟨vx,vy,hx,hy,hle⟩
   .exact h q hm
 | .ne x y c::r,cs,h,hq=>by
  obtain⟨vx,vy,hx,hy,hne⟩:=hq _ aR;have hr:pG ρ r:=fun q hm=>hq q (aJ _ hm);simp only[DY];split
  .rename_i h1;have g1:=BB h _ _ _ _ h1 vx vy hx hy;split
   .rename_i h2;have g2:=BB h _ _ _ _ h2 vy vx hy hx;omega
   .refine AG r _ (fun q hm=> ?_) hr;rcases aU.1 hm with rfl|hm
    .exact⟨vx,vy,hx,hy,by omega⟩
    .exact h q hm
  .split
   .rename_i h2;have g2:=BB h _ _ _ _ h2 vy vx hy hx;refine AG r _ (fun q hm=> ?_) hr;rcases aU.1 hm with rfl|hm
    .exact⟨vy,vx,hy,hx,by omega⟩
    .exact h q hm
   .exact AG r _ h hr
theorem Gn{B:Bo}{b:Bool}(h:tM ρ B b):tM ρ B.not (!b):=by
 cases B with
 |lit x=>simp only[tM,Bo.not]at h⊢;rw[h]|imp p n=>exact⟨fun e=>h.2 (by simpa using e),fun e=>h.1 (by simpa using e)⟩
theorem QL{cs:List pO}(h:pG ρ cs){B:Bo}{b:Bool}(hb:tM ρ B b):∃cs',(b,cs')∈KP cs B/\pG ρ cs':=by
 cases B with
 |lit x=>simp only[tM]at hb;subst hb;exact⟨cs,by simp[KP],h⟩
 |imp p n=>
  cases b with
  |true=>
   obtain⟨c,h1,h2⟩:=AG p cs h (hb.1 rfl);exact⟨c,by simp[KP,h1],h2⟩
  |false=>
   obtain⟨c,h1,h2⟩:=AG n cs h (hb.2 rfl);exact⟨c,by simp[KP,h1],h2⟩
theorem aLs{cs:List pO}(h:pG ρ cs){x y:Nat}{c vx vy:Int}(hx:ρ[x]? =some vx)(hy:ρ[y]? =some vy):tM ρ (Qc cs x y c) (decide (vx<=vy+c)):=by
 unfold Qc;split
 .rename_i hp;have:=BB h _ _ _ _ hp vx vy hx hy;simpa [tM]using this
 .split
  .rename_i hp;have:=BB h _ _ _ _ hp vy vx hy hx;simp only[tM,decide_eq_false_iff_not];omega
  .refine⟨fun e q hq=> ?_,fun e q hq=> ?_⟩
   .simp only[bF]at hq;subst hq;exact⟨vx,vy,hx,hy,by simpa using e⟩
   .simp only[bF]at hq;subst hq;have:¬vx<=vy+c:=by simpa using e
    exact⟨vy,vx,hy,hx,by omega⟩
theorem Um{cs:List pO}(h:pG ρ cs){x y:Nat}{c vx vy:Int}(hx:ρ[x]? =some vx)(hy:ρ[y]? =some vy):tM ρ (Ys cs x y c) (decide (vx=vy+c)):=by
 unfold Ys;split
 .rename_i hp;simp only[aA]at hp;have h1:=BB h _ _ _ _ hp.1 vx vy hx hy;have h2:=BB h _ _ _ _ hp.2 vy vx hy hx;simp only[tM,aI];omega
 .split
  .rename_i hp;simp only[bG]at hp;simp only[tM,decide_eq_false_iff_not];rcases hp with hp|hp
   .have:=BB h _ _ _ _ hp vx vy hx hy;omega
   .have:=BB h _ _ _ _ hp vy vx hy hx;omega
  .refine⟨fun e q hq=> ?_,fun e q hq=> ?_⟩
   .have e:vx=vy+c:=by simpa using e
    simp only[aU,cB,or_false]at hq;rcases hq with rfl|rfl
    .exact⟨vx,vy,hx,hy,by omega⟩
    .exact⟨vy,vx,hy,hx,by omega⟩
   .have e:¬vx=vy+c:=by simpa using e
    simp only[bF]at hq;subst hq;exact⟨vx,vy,hx,hy,by omega⟩
theorem rK(b:Bool):tM ρ rJ b:=⟨fun _ q h=>by simp at h,fun _ q h=>by simp at h⟩
end
end Go.Ps
namespace Go.Ps
variable[Inhabited Prd]
section
variable{ρ ρ':fI}{μ μ':fB}{n:Nat}{cs:List pO}
structure Sy(ρ:fI)(n:Nat)(cs:List pO):Prop where
 len:ρ.length=n
 zero:ρ[0]? =some 0
 cs:pG ρ cs
def VOk(ρ:fI)(μ:fB)(v:AV)(t:T):Prop:=∃ρ',rZ ρ ρ'/\Sy ρ' v.nx v.cs/\Gm ρ' μ v.a t
theorem VOk.here(hs:Sy ρ n cs){a:A}{t:T}(h:Gm ρ μ a t):VOk ρ μ ⟨a,n,cs⟩ t:=⟨ρ,.refl _,hs,h⟩
theorem Sy.new(hs:Sy ρ n cs)(v:Int):rZ ρ (ρ++[v])/\(ρ++[v])[n]? =some v/\(ρ++[v]).length=n+1/\(ρ++[v])[0]? =some 0:=by
 refine⟨.app _ _,?_,by simp[hs.len],(rZ.app ρ [v]) _ _ hs.zero⟩;rw[<-hs.len];simp
theorem Sy.push(hs:Sy ρ n cs)(v:Int)(qs:List pO)(h:pG (ρ++[v]) qs):Sy (ρ++[v]) (n+1) (qs++cs):=by
 obtain⟨h1,h2,h3,h4⟩:=hs.new v;refine⟨h3,h4,fun q hq=> ?_⟩;rcases bZ.1 hq with hq|hq
 .exact h q hq
 .exact(hs.cs q hq).ext h1
theorem pG.cons{q:pO}{r:List pO}(h:ZV ρ q)(hr:pG ρ r):pG ρ (q::r):=fun x hx=>by
 rcases aU.1 hx with rfl|hx
 .exact h
 .exact hr x hx
theorem pG.nil:pG ρ []:=fun q h=>by simp at h
theorem VP{b:Bool}{q:pO}(h:b=true->ZV ρ q)(hc:pG ρ cs):pG ρ (UM b q cs):=by
 unfold UM;split
 .exact .cons (h ‹_›) hc
 .exact hc
theorem Sy.fresh(hs:Sy ρ n cs){v lo hi:Int}(h1:lo<=v)(h2:v<=hi):Sy (ρ++[v]) (n+1) (.le 0 n (-lo):: .le n 0 hi::cs):=by
 obtain⟨e1,e2,e3,e4⟩:=hs.new v;exact hs.push v [.le 0 n (-lo),.le n 0 hi] (.cons ⟨0,v,e4,e2,by omega⟩ (.cons ⟨v,0,e2,e4,by omega⟩ .nil))
theorem uC(k:gB)(n:Int):FK k (k.wrap n):=by
 cases k<;>simp[FK,IntKind.wrap,IntKind.min,IntKind.max,IntKind.bits,IntKind.signed]<;>omega
theorem IV{k:gB}{n:Int}(h:FK k n):k.wrap n=n:=by
 revert h;cases k<;>simp[FK,IntKind.wrap,IntKind.min,IntKind.max,IntKind.bits,IntKind.signed]<;>omega
theorem Wr(hs:Sy ρ n cs):∀(a:A) (t:T),Gm ρ μ a t->∃ρ',rZ ρ ρ'/\Sy ρ' (Gj a n cs).2.1 (Gj a n cs).2.2/\Gm ρ' μ (Gj a n cs).1 t:=by
 intro a t h;cases h with
 |ival k lo hi m h1 h2 h3=>
  simp only[Gj];split
  .rename_i hle;simp only[sU,aI]at hle;obtain rfl:m=lo:=by omega
   have e:=Gm.int (ρ:=ρ) (μ:=μ) k 0 m 0 hs.zero (by rw[eT];exact h3);rw[eT]at e;exact⟨ρ,.refl _,hs,e⟩
  .refine⟨ρ++[m],.app _ _,hs.fresh h1 h2,?_⟩;have:=(hs.new m).2.1;have e:=Gm.int (ρ:=ρ++[m]) (μ:=μ) k n 0 m this (by simpa using h3);rw[Int.add_zero]at e;exact e
 |strv lo hi l h1 h2=>
  exact⟨ρ++[(l.length:Int)],.app _ _,hs.fresh h1 h2,.str n 0 _ l (hs.new _).2.1 (by simp)⟩
 |slv e lo hi t xs h1 h2 h3 h4=>
  exact⟨ρ++[(xs.length:Int)],.app _ _,hs.fresh h2 h3,.sl e n 0 t xs _ h1 (hs.new _).2.1 (by simp) (fun x hx=>(h4 x hx).ext (.app _ _) (.refl _))⟩
 |slpv q e lo hi t xs h0 h1 h2 h3 h4=>
  exact⟨ρ++[(xs.length:Int)],.app _ _,hs.fresh h2 h3,.slp q e n 0 t xs _ h0 h1 (hs.new _).2.1 (by simp) (fun x hx=>(h4 x hx).ext (.app _ _) (.refl _))⟩
 |sxv lo hi full m f h1 h2=>
  exact⟨ρ++[(m:Int)],.app _ _,hs.fresh h1 h2,.sx n 0 full m f _ (hs.new _).2.1 (by simp)⟩
 |_ =>exact⟨ρ,.refl _,hs,by first|(constructor<;>assumption)|(simp only[Gj];first|constructor;assumption|skip)⟩
theorem Ws:∀(a_s:List A) (n:Nat) (cs:List pO) (ρ:fI) (ts:eY),Sy ρ n cs->pH ρ μ a_s ts->∃ρ',rZ ρ ρ'/\Sy ρ' (aHl a_s n cs).2.1 (aHl a_s n cs).2.2/\pH ρ' μ (aHl a_s n cs).1 ts
 |[],n,cs,ρ,ts,hs,h=>⟨ρ,.refl _,hs,h⟩
 |a::a_s,n,cs,ρ,ts,hs,h=>by
  obtain⟨t,r,rfl,h1,h2⟩:=h.inv_cons;obtain⟨ρ1,e1,s1,g1⟩:=Wr hs a t h1;obtain⟨ρ2,e2,s2,g2⟩:=Ws a_s _ _ ρ1 r s1 (h2.ext e1 (.refl _));exact⟨ρ2,e1.trans e2,s2,pH.cons (g1.ext e2 (.refl _)) g2⟩
theorem Wq(hs:Sy ρ n cs){a:A}{t:T}(h:Gm ρ μ a t):∃ρ',rZ ρ ρ'/\Sy ρ' (Lw a n cs).2.1 (Lw a n cs).2.2/\Gm ρ' μ (Lw a n cs).1 t:=by
 by_cases h1:∃a_s,a= .agg a_s
 .obtain⟨a_s,rfl⟩:=h1;cases h with
  |agg _ ts hl hg=>
   obtain⟨ρ',e1,s1,g1⟩:=Ws a_s n cs ρ ts hs ⟨hl,hg⟩;exact⟨ρ',e1,s1,.agg _ _ g1.1 g1.2⟩
 .have e:Lw a n cs=Gj a n cs:=by cases a<;>first|rfl|exact absurd ⟨_,rfl⟩ h1
  rw[e];exact Wr hs a t h
theorem Lz:∀(a_s:List A) (n:Nat) (cs:List pO) (ρ:fI) (ts:eY),Sy ρ n cs->pH ρ μ a_s ts->∃ρ',rZ ρ ρ'/\Sy ρ' (Ly a_s n cs).2.1 (Ly a_s n cs).2.2/\pH ρ' μ (Ly a_s n cs).1 ts
 |[],n,cs,ρ,ts,hs,h=>⟨ρ,.refl _,hs,h⟩
 |a::a_s,n,cs,ρ,ts,hs,h=>by
  obtain⟨t,r,rfl,h1,h2⟩:=h.inv_cons;obtain⟨ρ1,e1,s1,g1⟩:=Wq hs h1;obtain⟨ρ2,e2,s2,g2⟩:=Lz a_s _ _ ρ1 r s1 (h2.ext e1 (.refl _));exact⟨ρ2,e1.trans e2,s2,pH.cons (g1.ext e2 (.refl _)) g2⟩
theorem rU(hs:Sy ρ n cs){a:A}{t:T}(h:Gm ρ μ a t):VOk ρ μ (uK a n cs) t:=by
 by_cases h2:∃a_s,a= .tup a_s
 .obtain⟨a_s,rfl⟩:=h2;cases h with
  |tup _ ts hl hg=>
   obtain⟨ρ',e1,s1,g1⟩:=Lz a_s n cs ρ ts hs ⟨hl,hg⟩;exact⟨ρ',e1,s1,.tup _ _ g1.1 g1.2⟩
 .have e:mat a n cs=Lw a n cs:=by cases a<;>first|rfl|exact absurd ⟨_,rfl⟩ h2
  unfold uK VOk;rw[e];exact Wq hs h
theorem WN(h0:ρ[0]? =some 0){v:fP}{a:A}(h:IH v=some a):∃t,WM v=some t/\Gm ρ μ a t/\GW v=some a/\MN v=some t:=by
 unfold IH at h;split at h
 .rename_i k m;split at h
  .rename_i hk;cases h;simp only[aA,sU,aI]at hk;have e:=Gm.int (ρ:=ρ) (μ:=μ) k 0 m 0 h0 (by rw[eT];exact hk);rw[eT]at e;exact⟨_,rfl,e,by simp[GW,IH,sU,hk],rfl⟩
  .cases h
 all_goals first|(cases h;done)|skip
 .cases h;exact⟨_,rfl,.bool _ _ rfl,rfl,rfl⟩
 .cases h;exact⟨_,rfl,.strc _,rfl,rfl⟩
 .cases h;exact⟨_,rfl,.nilp,rfl,rfl⟩
 .cases h;exact⟨_,rfl,.nils,rfl,rfl⟩
 .cases h;exact⟨_,rfl,.nilf,rfl,rfl⟩
 .cases h;exact⟨_,rfl,.nili,rfl,rfl⟩
 .cases h;exact⟨_,rfl,.nilm,rfl,rfl⟩
theorem RK(h0:ρ[0]? =some 0):∀(vs:fM) (a_s:List A),GV vs=some a_s->∃ts,ET vs=some ts/\pH ρ μ a_s ts
 |[],a_s,h=>by simp[GV]at h;subst h;exact⟨[],rfl,.nil⟩
 |v::vs,a_s,h=>by
  simp only[GV]at h;split at h
  .rename_i a ha;split at h
   .rename_i r hr;cases h;obtain⟨t,h1,h2,_⟩:=WN (μ:=μ) h0 ha;obtain⟨ts,h3,h4⟩:=RK h0 vs r hr;exact⟨t::ts,by simp[ET,h1,h3],pH.cons h2 h4⟩
   .cases h
  .cases h
theorem Ch(h0:ρ[0]? =some 0){v:fP}{a:A}(h:GW v=some a):∃t,MN v=some t/\Gm ρ μ a t:=by
 unfold GW at h;split at h
 .split at h
  .rename_i cs ts hts;cases h;obtain⟨us,h1,h2⟩:=RK (μ:=μ) h0 _ _ hts;exact⟨.agg us,by simp[MN,h1],.agg _ _ h2.1 h2.2⟩
  .cases h
 .split at h
  .rename_i vs hvs;cases h;exact⟨.tup [],by simp[MN,hvs],sP⟩
  .cases h
 .obtain⟨t,_,h2,_,h4⟩:=WN (μ:=μ) h0 h;exact⟨t,h4,h2⟩
def GlA(gl:fD)(ga:Nat->Option A):Prop:=∀g a,ga g=some a->∃t,gl g=some t/\∀(ρ:fI) (μ:fB),ρ[0]? =some 0->Gm ρ μ a t
section
variable{gl:fD}{ga:Nat->Option A}{fa:List A}{fr:eY}
theorem sX(hg:GlA gl ga)(h0:ρ[0]? =some 0)(hf:pH ρ μ fa fr){x:gF}{a:A}(h:NY ga fa x=some a):∃t,pE gl fr x=some t/\Gm ρ μ a t:=by
 cases x with
 |tmp t=>simp only[NY]at h;cases h;exact⟨_,rfl,hf.get t⟩|const v=>exact Ch h0 h|global g=>obtain⟨t,h1,h2⟩:=hg g a h;exact⟨t,h1,h2 ρ μ h0⟩
 |func f=>simp only[NY]at h;cases h;exact⟨_,rfl,.fn f [] [] [] [] rfl (fun j a t h=>by simp at h) rfl (fun j a t h=>by simp at h)⟩
theorem xP(hg:GlA gl ga)(h0:ρ[0]? =some 0)(hf:pH ρ μ fa fr):∀{xs:iH} {a_s:List A},CU ga fa xs=some a_s->∃ts,pW gl fr xs=some ts/\pH ρ μ a_s ts
 |[],a_s,h=>by simp[CU]at h;subst h;exact⟨[],rfl,.nil⟩
 |x::xs,a_s,h=>by
  simp only[CU]at h;split at h
  .rename_i a ha;split at h
   .rename_i r hr;cases h;obtain⟨t,h1,h2⟩:=sX hg h0 hf ha;obtain⟨ts,h3,h4⟩:=xP hg h0 hf hr;exact⟨t::ts,by simp[pW,h1,h3],pH.cons h2 h4⟩
   .cases h
  .cases h
theorem II(hg:GlA gl ga)(h0:ρ[0]? =some 0)(hf:pH ρ μ fa fr):∀{xs:jB} {a_s:List (Nat×A)},KH ga fa xs=some a_s->
  ∃ts,BA gl fr xs=some ts/\a_s.map Prod.fst=ts.map Prod.fst/\pH ρ μ (a_s.map Prod.snd) (ts.map Prod.snd)
 |[],a_s,h=>by simp[KH]at h;subst h;exact⟨[],rfl,rfl,.nil⟩
 |(i,x)::xs,a_s,h=>by
  simp only[KH]at h;split at h
  .rename_i a ha;split at h
   .rename_i r hr;cases h;obtain⟨t,h1,h2⟩:=sX hg h0 hf ha;obtain⟨ts,h3,h4,h5⟩:=II hg h0 hf hr;exact⟨(i,t)::ts,by simp[BA,h1,h3],by simp[h4],pH.cons h2 h5⟩
   .cases h
  .cases h
theorem Xa(hg:GlA gl ga)(h0:ρ[0]? =some 0)(hf:pH ρ μ fa fr){x:Option Operand}{a:Option A}(h:aIf (NY ga fa) x=some a):
  ∃t,IX (pE gl fr) x=some t/\(match a,t with|none,none=>True|some a,some t=>Gm ρ μ a t|_,_ =>False):=by
 cases x with
 |none=>simp only[aIf]at h;cases h;exact⟨none,rfl,trivial⟩
 |some x=>
  simp only[aIf]at h;split at h
  .rename_i b hb;cases h;obtain⟨t,h1,h2⟩:=sX hg h0 hf hb;exact⟨some t,by simp[IX,h1],h2⟩
  .cases h
end
theorem BF(h0:ρ[0]? =some 0){P:fA}{t:eX}{a:A}(h:HL P t=some a):∃z,wN P t=some z/\Gm ρ μ a z:=by
 unfold HL at h;unfold wN;split at h
 .rename_i i hi;split at h
  .rename_i v hv;rw[hi];simp only[hv];exact Ch h0 h
  .cases h
 .cases h
theorem Vj{a:A}{t:T}(h:Gm ρ μ a t)(hf:a.flat=true):t.one=true/\t.isAgg=false:=by
 cases h with
 |top=>simp[A.flat]at hf|or=>simp[A.flat]at hf|agg=>simp[A.flat]at hf|tup=>simp[A.flat]at hf|prd=>simp[A.flat]at hf|slp q e s c _ xs v h0 h1=>rcases h1 with⟨rfl,_⟩|⟨_,rfl⟩|⟨_,_,_,rfl,_⟩<;>exact⟨rfl,rfl⟩
 |slpv q e lo hi _ xs h0 h1=>rcases h1 with⟨rfl,_⟩|⟨_,rfl⟩|⟨_,_,_,rfl,_⟩<;>exact⟨rfl,rfl⟩
 |slk es _ xs h1=>rcases h1 with⟨rfl,_⟩|⟨_,rfl⟩|⟨_,_,_,rfl,_⟩<;>exact⟨rfl,rfl⟩
 |any _ h=>exact⟨h,by cases t<;>simp_all [T.one,T.isAgg]⟩|sl e s c _ xs v h1=>rcases h1 with⟨rfl,_⟩|⟨_,rfl⟩|⟨_,_,_,rfl,_⟩<;>exact⟨rfl,rfl⟩
 |slv e lo hi _ xs h1=>rcases h1 with⟨rfl,_⟩|⟨_,rfl⟩|⟨_,_,_,rfl,_⟩<;>exact⟨rfl,rfl⟩
 |_ =>exact⟨rfl,rfl⟩
theorem QS:∀{a_s:List A} {a:A},KZ a_s=true->a∈a_s->a.flat=true
 |b::bs,a,h,hm=>by
  simp only[KZ,aA]at h;rcases aU.1 hm with rfl|hm
  .exact h.1
  .exact QS h.2 hm
theorem PW{a:A}{t:T}(h:Gm ρ μ a t)(hf:a.one=true):t.one=true/\t.isAgg=false:=by
 by_cases ho:∃a_s,a= .or a_s
 .obtain⟨a_s,rfl⟩:=ho;cases h with
  |or _ b _ hm hb=>exact Vj hb (QS hf hm)
 .refine Vj h ?_;cases a<;>first|exact hf|exact absurd ⟨_,rfl⟩ ho
theorem EA{t:T}(h:t.isAgg=false):t.cells=[t]:=by cases t<;>simp_all [T.isAgg,T.cells]
theorem aAm{a:A}(h:a.one=true):a.isAgg=false/\a.cells=[a]:=by
 cases a<;>simp_all [A.one,A.isAgg,A.cells,A.flat]
theorem qQ{a:A}{t:T}(h:Gm ρ μ a t)(hk:a.known=true):t.isAgg=a.isAgg/\pH ρ μ a.cells t.cells:=by
 by_cases h1:∃a_s,a= .agg a_s
 .obtain⟨a_s,rfl⟩:=h1;cases h with
  |agg _ ts hl hg=>exact⟨rfl,hl,hg⟩
 .by_cases h2:∃a_s,a= .tup a_s
  .obtain⟨a_s,rfl⟩:=h2;cases h with
   |tup _ ts hl hg=>exact⟨rfl,pH.nil.cons (.tup _ _ hl hg)⟩
  .by_cases h3:∃q a_s,a= .prd q a_s
   .obtain⟨q,a_s,rfl⟩:=h3;cases h with
    |prd _ _ ts _ hl hg=>exact⟨rfl,hl,hg⟩
   have ho:a.one=true:=by cases a<;>first|exact hk|exact absurd ⟨_,rfl⟩ h1|exact absurd ⟨_,rfl⟩ h2|exact absurd ⟨_,_,rfl⟩ h3
   obtain⟨_,q⟩:=PW h ho;obtain⟨q1,q2⟩:=aAm ho;rw[q2,EA q];exact⟨q.trans q1.symm,pH.nil.cons h⟩
theorem AP{a_s:List A}{ts:eY}(h:pH ρ μ a_s ts)(ho:uX a_s=true):pY ts=true:=by
 induction a_s generalizing ts with
 |nil=>rw[h.inv_nil];rfl
 |cons a a_s ih=>
  obtain⟨t,r,rfl,h1,h2⟩:=h.inv_cons;simp only[uX,aA]at ho;simp only[pY,aA];exact⟨(PW h1 ho.1).1,ih h2 ho.2⟩
theorem DI{P:fA}{t:eX}{a_s:List A}{ts:eY}(h:pH ρ μ a_s ts){off:Nat}{a:A}(hp:RL P t a_s off=some a):∃r,uB P t ts off=some r/\Gm ρ μ a r:=by
 unfold RL at hp;unfold uB;split at hp
 .rename_i hg;rw[hg];split at hp
  .rename_i m hm;simp only[hm];split at hp
   .rename_i hle;cases hp;rw[if_pos (by rw[<-h.1];exact hle)];have:=(h.drop off).take m;exact⟨_,rfl,.agg _ _ this.1 this.2⟩
   .cases hp
  .cases hp
 .rename_i hg;rw[hg];exact h.at hp
 .cases hp
theorem aIk{P:fA}{t:eX}{x:A}{u:T}(h:Gm ρ μ x u)(hk:x.known=true){off:Nat}{a:A}(hp:aIj P t x off=some a):∃r,uB P t u.cells off=some r/\Gm ρ μ a r:=by
 unfold aIj at hp;split at hp
 .rename_i q cs;split at hp
  .rename_i hc;cases hp;cases h with
   |prd _ _ ts h0 hl hg=>
   simp only[aA,beq_iff_eq]at hc;obtain⟨⟨c1,c2⟩,c3⟩:=hc;have c1:=aB c1;subst c1;refine⟨.agg ts,?_,.prd q cs ts h0 hl hg⟩;simp only[uB,c2,c3,T.cells,hl,bN,aZ,if_true,eP,List.take_length]
  .exact DI (qQ h hk).2 hp
 .exact DI (qQ h hk).2 hp
end
end Go.Ps
namespace Go.Ps
variable[Inhabited Prd]
section
variable{ρ:fI}{μ:fB}{n:Nat}{cs:List pO}
theorem tC{k:gB}{s:Nat}{c v x:Int}(h:ρ[s]? =some v)(hx:x=v+c)(hi:FK k x):Gm ρ μ (.int k s c) (.int k x):=by
 subst hx;exact .int k s c v h hi
theorem vC(hs:Sy ρ n cs){k:gB}{x:Int}(h:FK k x):VOk ρ μ (uK (.ival k k.min k.max) n cs) (.int k x):=
 rU hs (.ival k _ _ x h.1 h.2 h)
theorem IA(hs:Sy ρ n cs){k:gB}{s:Nat}{c v x:Int}(h:ρ[s]? =some v)(hx:x=v+c):VOk ρ μ (Lo n cs k s c) (.int k (k.wrap x)):=by
 unfold Lo;split
 .rename_i hk;have:=VQ hs.cs hs.zero hk h;rw[<-hx]at this;rw[IV this];exact .here hs (tC h hx this)
 .exact vC hs (uC k x)
theorem EQ(hs:Sy ρ n cs){k:gB}{x:Int}(hi:FK k x){qs:List pO}(hq:pG (ρ++[x]) qs):VOk ρ μ ⟨.int k n 0,n+1,qs⟩ (.int k x):=by
 obtain⟨h1,h2,h3,h4⟩:=hs.new x;exact⟨ρ++[x],h1,⟨h3,h4,hq⟩,tC h2 (by omega) hi⟩
theorem NE(hs:Sy ρ n cs){s:Nat}{c v:Int}(h:QK cs s c=true)(hv:ρ[s]? =some v):-1000000000000000000<=v+c/\v+c<=1000000000000000000:=by
 simp only[QK,aA]at h;have h1:=oS hs.cs h.1 hs.zero hv;have h2:=oS hs.cs h.2 hv hs.zero;omega
theorem vO{x:Int}(h:-9223372036854775808<=x/\x<=9223372036854775807):FK .i64 x:=by
 simp only[FK,IntKind.min,IntKind.max,IntKind.bits,IntKind.signed];simp;omega
theorem CH{s:Nat}{v:Int}(h0:ρ[0]? =some 0)(hv:ρ[s]? =some v):∀{cs:List pO},pG ρ cs->∀{u:Int},ubS s cs=some u->v<=u
 |[],_,u,h=>by
  simp only[ubS]at h;split at h
  .rename_i e;have:=aB e;subst this;rw[h0]at hv;cases hv;cases h;omega
  .cases h
 | .le x y d::r,hc,u,h=>by
  have hr:pG ρ r:=fun q hm=>hc q (aJ _ hm);simp only[ubS]at h;split at h
  .rename_i e;simp only[aA]at e;have e1:=aB e.1;have e2:=aB e.2;subst e1 e2;obtain⟨vx,vy,q1,q2,q3⟩:=hc _ aR;rw[hv]at q1;cases q1;rw[h0]at q2;cases q2;split at h
   .rename_i hu;have:=CH h0 hv hr hu;cases h;split<;>omega
   .cases h;omega
  .exact CH h0 hv hr h
 | .ne x y d::r,hc,u,h=>CH h0 hv (fun q hm=>hc q (aJ _ hm)) h
theorem YH{s:Nat}{v:Int}(h0:ρ[0]? =some 0)(hv:ρ[s]? =some v){c0:List pO}(hc0:pG ρ c0):∀{cs:List pO},pG ρ cs->∀{u:Int},ub2 c0 s cs=some u->v<=u
 |[],_,u,h=>by
  simp only[ub2]at h;split at h
  .rename_i e;have:=aB e;subst this;rw[h0]at hv;cases hv;cases h;omega
  .cases h
 | .le x y d::r,hc,u,h=>by
  have hr:pG ρ r:=fun q hm=>hc q (aJ _ hm);simp only[ub2]at h;split at h
  .rename_i e;have e1:=aB e;subst e1;obtain⟨vx,vy,q1,q2,q3⟩:=hc _ aR;rw[hv]at q1;cases q1;split at h
   .rename_i w hw;have hyw:vy<=w:=by
     split at hw
     .rename_i e2;have e2:=aB e2;subst e2;rw[h0]at q2;cases q2;cases hw;omega
     .exact CH h0 q2 hc0 hw
    split at h
    .rename_i hu;have:=YH h0 hv hc0 hr hu;cases h;split<;>omega
    .cases h;omega
   .exact YH h0 hv hc0 hr h
  .exact YH h0 hv hc0 hr h
 | .ne x y d::r,hc,u,h=>YH h0 hv hc0 (fun q hm=>hc q (aJ _ hm)) h
theorem RW{s:Nat}{v:Int}{cs:List pO}(h0:ρ[0]? =some 0)(hv:ρ[s]? =some v)(hc:pG ρ cs){u:Int}(h:ub s cs=some u):v<=u:=YH h0 hv hc hc h
theorem CF{s:Nat}{v:Int}(h0:ρ[0]? =some 0)(hv:ρ[s]? =some v):∀{cs:List pO},pG ρ cs->∀{u:Int},Zy s cs=some u->u<=v
 |[],_,u,h=>by
  simp only[Zy]at h;split at h
  .rename_i e;have:=aB e;subst this;rw[h0]at hv;cases hv;cases h;omega
  .cases h
 | .le x y d::r,hc,u,h=>by
  have hr:pG ρ r:=fun q hm=>hc q (aJ _ hm);simp only[Zy]at h;split at h
  .rename_i e;simp only[aA]at e;have e1:=aB e.1;have e2:=aB e.2;subst e1 e2;obtain⟨vx,vy,q1,q2,q3⟩:=hc _ aR;rw[h0]at q1;cases q1;rw[hv]at q2;cases q2;split at h
   .rename_i hu;have:=CF h0 hv hr hu;cases h;split<;>omega
   .cases h;omega
  .exact CF h0 hv hr h
 | .ne x y d::r,hc,u,h=>CF h0 hv (fun q hm=>hc q (aJ _ hm)) h
theorem Tm{m:Int}(h:ρ[n]? =some m)(h0:ρ[0]? =some 0){r:List pO}(hr:pG ρ r){o:Option Int}(hm:m<=2000000000000000000)(ho:∀u,o=some u->m<=u):pG ρ (upN n r o):=by
 cases o with
 |none=>exact .cons ⟨_,_,h,h0,by omega⟩ hr|some u=>exact .cons ⟨_,_,h,h0,by have:=ho u rfl;omega⟩ hr
theorem aHd{m:Int}(h:ρ[n]? =some m)(h0:ρ[0]? =some 0){r:List pO}(hr:pG ρ r){o:Option Int}(hm:-2000000000000000000<=m)(ho:∀u,o=some u->u<=m):pG ρ (loN n r o):=by
 cases o with
 |none=>exact .cons ⟨_,_,h0,h,by omega⟩ hr|some u=>exact .cons ⟨_,_,h0,h,by have:=ho u rfl;omega⟩ hr
theorem Ec{a b:Option Int}{c u:Int}(h:aDp a b c=some u):∃x y,a=some x/\b=some y/\u=x+y+c:=by
 cases a<;>cases b<;>simp only[aDp]at h<;>cases h;exact⟨_,_,rfl,rfl,rfl⟩
theorem Xz{a b:Option Int}{c u:Int}(h:aPw a b c=some u):∃x y,a=some x/\b=some y/\u=x-y+c:=by
 cases a<;>cases b<;>simp only[aPw]at h<;>cases h;exact⟨_,_,rfl,rfl,rfl⟩
theorem Vd{m w:Int}{s:Nat}{c:Int}(h:ρ[n]? =some m)(h1:ρ[s]? =some w){r:List pO}(hr:pG ρ r){o:Option Int}(ho:∀u,o=some u->m<=w+(u+c)):pG ρ (aNd n s c r o):=by
 cases o with
 |none=>exact hr
 |some u=>
  simp only[aNd];split
  .exact .cons ⟨_,_,h,h1,ho u rfl⟩ hr
  .exact hr
theorem aLg(hs:Sy ρ n cs){k:gB}{s1 s2:Nat}{c1 c2 v1 v2:Int}(h1:ρ[s1]? =some v1)(h2:ρ[s2]? =some v2):
  VOk ρ μ (aSi n cs k s1 c1 s2 c2) (.int k (k.wrap (v1+c1+(v2+c2)))):=by
 unfold aSi;split
 .rename_i e;have:s2=0:=aB e;subst this;rw[hs.zero]at h2;cases h2;exact IA hs h1 (by omega)
 .split
  .rename_i _ e;have:s1=0:=aB e;subst this;rw[hs.zero]at h1;cases h1;exact IA hs h2 (by omega)
  .split
   .rename_i hc;simp only[aA,beq_iff_eq]at hc;obtain⟨⟨rfl,b1⟩,b2⟩:=hc;have b1:=NE hs b1 h1;have b2:=NE hs b2 h2;have hi:FK .i64 (v1+c1+(v2+c2)):=vO (by omega);rw[IV hi];obtain⟨e1,e2,e3,e4⟩:=hs.new (v1+c1+(v2+c2));refine EQ hs hi (VP (fun h=>⟨v2,_,e1 _ _ h2,e2,?_⟩) (VP (fun h=>⟨v1,_,e1 _ _ h1,e2,?_⟩) (aHd e2 e4 (Tm e2 e4 (Vd e2 (e1 _ _ h1) (Vd e2 (e1 _ _ h2) (hs.cs.ext e1) fun u hu=> ?_) fun u hu=> ?_) (by omega) fun u hu=> ?_) (by omega) fun u hu=> ?_)))
    .have:=oS hs.cs h hs.zero h1;split
     .rename_i h;have:=oS hs.cs h hs.zero h1;omega
     .omega
    .have:=oS hs.cs h hs.zero h2;split
     .rename_i h;have:=oS hs.cs h hs.zero h2;omega
     .omega
    .have:=RW hs.zero h1 hs.cs hu;omega
    .have:=RW hs.zero h2 hs.cs hu;omega
    .obtain⟨x,y,q1,q2,rfl⟩:=Ec hu;have:=RW hs.zero h1 hs.cs q1;have:=RW hs.zero h2 hs.cs q2;omega
    .obtain⟨x,y,q1,q2,rfl⟩:=Ec hu;have:=CF hs.zero h1 hs.cs q1;have:=CF hs.zero h2 hs.cs q2;omega
   .exact vC hs (uC k _)
theorem aPv(hs:Sy ρ n cs){k:gB}{s1 s2:Nat}{c1 c2 v1 v2:Int}(h1:ρ[s1]? =some v1)(h2:ρ[s2]? =some v2):
  VOk ρ μ (aWf n cs k s1 c1 s2 c2) (.int k (k.wrap (v1+c1-(v2+c2)))):=by
 unfold aWf;split
 .rename_i e;have:s2=0:=aB e;subst this;rw[hs.zero]at h2;cases h2;exact IA hs h1 (by omega)
 .split
  .rename_i _ e;have:s1=s2:=aB e;subst this;rw[h1]at h2;cases h2;exact IA hs hs.zero (by omega)
  .split
   .rename_i hc;simp only[aA,beq_iff_eq]at hc;obtain⟨⟨rfl,b1⟩,b2⟩:=hc;have b1:=NE hs b1 h1;have b2:=NE hs b2 h2;have hi:FK .i64 (v1+c1-(v2+c2)):=vO (by omega);rw[IV hi];obtain⟨e1,e2,e3,e4⟩:=hs.new (v1+c1-(v2+c2));refine EQ hs hi (VP (fun h=>⟨_,v1,e2,e1 _ _ h1,?_⟩) (VP (fun h=>⟨0,_,e4,e2,?_⟩) (aHd e2 e4 (Tm e2 e4 (hs.cs.ext e1) (by omega) fun u hu=> ?_) (by omega) fun u hu=> ?_)))
    .have:=oS hs.cs h hs.zero h2;omega
    .have:=oS hs.cs h h2 h1;omega
    .obtain⟨x,y,q1,q2,rfl⟩:=Xz hu;have:=RW hs.zero h1 hs.cs q1;have:=CF hs.zero h2 hs.cs q2;omega
    .obtain⟨x,y,q1,q2,rfl⟩:=Xz hu;have:=CF hs.zero h1 hs.cs q1;have:=RW hs.zero h2 hs.cs q2;omega
   .exact vC hs (uC k _)
theorem Cg(h0:ρ[0]? =some 0){o:iB}{a:A}(h:WO o=some a):∃t,o=some t/\Gm ρ μ a t:=by
 unfold WO at h;split at h
 .rename_i k m;split at h
  .rename_i hk;cases h;simp only[aA,sU,aI]at hk;exact⟨_,rfl,tC h0 (by omega) hk⟩
  .cases h
 .cases h;exact⟨_,rfl,.bool _ _ rfl⟩
 .cases h
theorem Oq{k:gB}{a:Int}(b:Int)(h:FK k a):FK k (a.tmod b):=by
 have hm:k.min<=0:=by cases k<;>simp[IntKind.min,IntKind.bits,IntKind.signed]
 have hM:0<=k.max:=by cases k<;>simp[IntKind.max,IntKind.bits,IntKind.signed]
 rcases Int.le_total 0 a with ha|ha
 .have h1:0<=a.tmod b:=Int.tmod_nonneg b ha;have h2:a.tmod b<=a:=by
   have:=Int.natAbs_tmod a b;have h3:(a.natAbs%b.natAbs)<=a.natAbs:=Nat.mod_le _ _;omega
  exact⟨by omega,by have:=h.2;omega⟩
 .have h1:0<=(-a).tmod b:=Int.tmod_nonneg b (by omega);rw[Int.neg_tmod]at h1;have h2:a<=a.tmod b:=by
   have:=Int.natAbs_tmod a b;have h3:(a.natAbs%b.natAbs)<=a.natAbs:=Nat.mod_le _ _;omega
  exact⟨by have:=h.1;omega,by omega⟩
theorem aOt(hs:Sy ρ n cs){k:gB}{s1 s2:Nat}{c1 c2 v1 v2:Int}(h1:ρ[s1]? =some v1)(h2:ρ[s2]? =some v2):VOk ρ μ (aUv n cs k s1 c1 s2 c2) (.int k (k.wrap ((v1+c1)*(v2+c2)))):=by
 unfold aUv;split
 .rename_i l1 u1 l2 u2 e1 e2 e3 e4;have a1:=CF hs.zero h1 hs.cs e1;have a2:=CH hs.zero h1 hs.cs e2;have a3:=CF hs.zero h2 hs.cs e3;have a4:=CH hs.zero h2 hs.cs e4;split
  .rename_i hc;simp only[aA,sU,aI]at hc;obtain⟨b1,b2,b3⟩:=hc;have q1:(l1+c1)*(l2+c2)<=(v1+c1)*(v2+c2):=Int.mul_le_mul (by omega) (by omega) b2 (by omega);have q2:(v1+c1)*(v2+c2)<=(u1+c1)*(u2+c2):=Int.mul_le_mul (by omega) (by omega) (by omega) (by omega);have q3:0<=(l1+c1)*(l2+c2):=Int.mul_nonneg b1 b2;have hi:FK k ((v1+c1)*(v2+c2)):=by
    refine⟨?_,by omega⟩;have:k.min<=0:=by(cases k<;>simp[IntKind.min,IntKind.bits,IntKind.signed])
    omega
   rw[IV hi];exact rU hs (.ival _ _ _ _ q1 q2 hi)
  .exact vC hs (uC k _)
 .exact vC hs (uC k _)
theorem aOu(hs:Sy ρ n cs){k:gB}{s:Nat}{c v:Int}(h:ρ[s]? =some v)(hin:FK k (v+c)):VOk ρ μ (aUz n cs k s c) (.int k (k.wrap (0-(v+c)))):=by
 unfold aUz;split
 .rename_i l e1;have a1:=CF hs.zero h hs.cs e1;split
  .rename_i hc;simp only[aA,sU,aI]at hc;obtain⟨hk,b1⟩:=hc;have hk:k= .i64:=by simpa using hk
   subst hk;have hv:v+c<=9223372036854775807:=hin.2
   .have hi:FK .i64 (0-(v+c)):=vO (by omega);rw[IV hi];refine rU hs (.ival _ _ _ _ ?_ (by omega) hi);split
    .rename_i u e2;have:=CH hs.zero h hs.cs e2;omega
    .omega
  .exact vC hs (uC k _)
 .exact vC hs (uC k _)
theorem aMo(hs:Sy ρ n cs){op:iI}{k:gB}{s1 s2:Nat}{c1 c2 v1 v2:Int}(h1:ρ[s1]? =some v1)(h2:ρ[s2]? =some v2)(i1:FK k (v1+c1)){v:AV}
  (h:aMn n cs op k s1 c1 s2 c2=some v):∃t,uV op k (v1+c1) (v2+c2)=some t/\VOk ρ μ v t:=by
 have nz:∀{b:Bool},(b=true->True)->(leq cs 0 1 s2 c2||leq cs s2 c2 0 (-1))=true->v2+c2≠0:=by
  intro _ _ hh;simp only[bG]at hh;rcases hh with hh|hh
  .have:=oS hs.cs hh hs.zero h2;omega
  .have:=oS hs.cs hh h2 hs.zero;omega
 cases op<;>simp only[aMn]at h<;>try(cases h;done)
 case mul=>cases h;exact⟨_,rfl,aOt hs h1 h2⟩
 case and=>cases h;exact⟨_,rfl,vC hs (uC k _)⟩
 case or=>cases h;exact⟨_,rfl,vC hs (uC k _)⟩
 case xor=>cases h;exact⟨_,rfl,vC hs (uC k _)⟩
 case andNot=>cases h;exact⟨_,rfl,vC hs (uC k _)⟩
 case quo=>
  split at h
  .rename_i hc;cases h;simp only[aA,sU,aI]at hc;have e:s2=0:=aB hc.1.1;subst e;rw[hs.zero]at h2;cases h2;have ha:=oS hs.cs hc.2 hs.zero h1;have hb:0+c2≠0:=by omega
   have q1:0<=(v1+c1).tdiv (0+c2):=Int.tdiv_nonneg (by omega) (by omega);have q2:(v1+c1).tdiv (0+c2)<=v1+c1:=by
    rw[Int.tdiv_eq_ediv_of_nonneg (by omega)];exact Int.ediv_le_self _ (by omega)
   have hi : FK k ((v1 + c1).tdiv (0 + c2)) := ⟨by have:k.min<=0:=by(cases k<;>simp[IntKind.min,IntKind.bits,IntKind.signed])
                                                   omega,by have:=i1.2;omega⟩
   refine⟨.int k ((v1+c1).tdiv (0+c2)),by simp only[uV];rw[if_neg hb,IV hi],?_⟩;obtain⟨e1,e2,e3,e4⟩:=hs.new ((v1+c1).tdiv (0+c2));refine EQ hs hi (.cons ⟨0,_,e4,e2,by omega⟩ (.cons ⟨_,v1,e2,e1 _ _ h1,by omega⟩ (.cons ⟨_,0,e2,e4,?_⟩ (hs.cs.ext e1))));split
   .rename_i u hu;have q3:=CH hs.zero h1 hs.cs hu;have q4:(v1+c1).tdiv (0+c2)<=(u+c1)/(0+c2):=by
     rw[Int.tdiv_eq_ediv_of_nonneg (by omega)];exact Int.ediv_le_ediv (by omega) (by omega)
    rw[eT]at q4⊢;omega
   .have:=hi.2;omega
  .split at h
   .rename_i hc;cases h;have hb:=nz (b:=true) (fun _ =>trivial) hc;exact⟨_,by simp only[uV];rw[if_neg hb],vC hs (uC k _)⟩
   .cases h
 case rem=>
  split at h
  .rename_i hc;simp only[aA,sU,aI]at hc;have e:s2=0:=aB hc.1;subst e;rw[hs.zero]at h2;cases h2;have hb:0+c2≠0:=by omega
   have hi:=Oq (0+c2) i1;obtain⟨e1,e2,e3,e4⟩:=hs.new ((v1+c1).tmod (0+c2));refine⟨.int k ((v1+c1).tmod (0+c2)),by simp only[uV];rw[if_neg hb],?_⟩;have hlt:(v1+c1).tmod (0+c2)<0+c2:=Int.tmod_lt_of_pos _ (by omega);split at h
   .rename_i hp;cases h;have ha:=oS hs.cs hp hs.zero h1;have q1:0<=(v1+c1).tmod (0+c2):=Int.tmod_nonneg _ (by omega);have q2:(v1+c1).tmod (0+c2)<=v1+c1:=by
     have:=Int.natAbs_tmod (v1+c1) (0+c2);have h3:((v1+c1).natAbs%(0+c2).natAbs)<=(v1+c1).natAbs:=Nat.mod_le _ _;omega
    exact EQ hs hi (.cons ⟨0,_,e4,e2,by omega⟩ (.cons ⟨_,v1,e2,e1 _ _ h1,by omega⟩ (.cons ⟨_,0,e2,e4,by omega⟩ (hs.cs.ext e1))))
   .cases h;have q1:-(0+c2)<(v1+c1).tmod (0+c2):=by
     have:=Int.natAbs_tmod (v1+c1) (0+c2);have h3:((v1+c1).natAbs%(0+c2).natAbs)<(0+c2).natAbs:=Nat.mod_lt _ (by omega);omega
    exact EQ hs hi (.cons ⟨0,_,e4,e2,by omega⟩ (.cons ⟨_,0,e2,e4,by omega⟩ (hs.cs.ext e1)))
  .split at h
   .rename_i hc;cases h;have hb:=nz (b:=true) (fun _ =>trivial) hc;exact⟨_,by simp only[uV];rw[if_neg hb],vC hs (Oq _ i1)⟩
   .cases h
theorem aNo(hs:Sy ρ n cs){op:iI}{k:gB}{s1 s2:Nat}{c1 c2 v1 v2:Int}(h1:ρ[s1]? =some v1)(h2:ρ[s2]? =some v2)(i1:FK k (v1+c1)){v:AV}
  (h:aUb n cs op k s1 c1 s2 c2=some v):∃t,uV op k (v1+c1) (v2+c2)=some t/\VOk ρ μ v t:=by
 have eqB:∀{x y:Nat} {c vx vy:Int} {b:Bool},ρ[x]? =some vx->ρ[y]? =some vy->b=decide (vx=vy+c)->tM ρ (Ys cs x y c) b:=fun hx hy e=>e▸Um hs.cs hx hy;have leB:∀{x y:Nat} {c vx vy:Int} {b:Bool},ρ[x]? =some vx->ρ[y]? =some vy->b=decide (vx<=vy+c)->tM ρ (Qc cs x y c) b:=fun hx hy e=>e▸aLs hs.cs hx hy;have oth:∀{op:iI},(match(if Nat.beq s1 0&&Nat.beq s2 0 then WO (uV op k c1 c2)else none)with|some a=>some ⟨a,n,cs⟩|none=>aMn n cs op k s1 c1 s2 c2)=some v->
   ∃t,uV op k (v1+c1) (v2+c2)=some t/\VOk ρ μ v t:=by
  intro op h;split at h
  .rename_i a ha;cases h;split at ha
   .rename_i hc;simp only[aA]at hc;have e1:s1=0:=aB hc.1;have e2:s2=0:=aB hc.2;subst e1 e2;rw[hs.zero]at h1 h2;cases h1;cases h2;obtain⟨t,q1,q2⟩:=Cg (μ:=μ) hs.zero ha;exact⟨t,by simpa using q1,.here hs q2⟩
   .cases ha
  .exact aMo hs h1 h2 i1 h
 cases op<;>simp only[aUb]at h<;>try(exact oth h)
 case add=>cases h;exact⟨_,rfl,aLg hs h1 h2⟩
 case sub=>cases h;exact⟨_,rfl,aPv hs h1 h2⟩
 case eql=>cases h;exact⟨_,rfl,.here hs (.bool _ _ (eqB h1 h2 (by rw[eD];simp;omega)))⟩
 case neq=>
  cases h;refine⟨_,rfl,.here hs (.bool _ _ ?_)⟩;have:=Gn (eqB (c:=c2-c1) h1 h2 rfl);have e:(v1+c1 !=v2+c2)= !(decide (v1=v2+(c2-c1))):=by
   rw[eD];simp;omega
  rw[e];exact this
 case lss=>cases h;exact⟨_,rfl,.here hs (.bool _ _ (leB h1 h2 (by rw[eD];simp;omega)))⟩
 case leq=>cases h;exact⟨_,rfl,.here hs (.bool _ _ (leB h1 h2 (by rw[eD];simp;omega)))⟩
 case gtr=>cases h;exact⟨_,rfl,.here hs (.bool _ _ (leB h2 h1 (by rw[eD];simp;omega)))⟩
 case geq=>cases h;exact⟨_,rfl,.here hs (.bool _ _ (leB h2 h1 (by rw[eD];simp;omega)))⟩
end
end Go.Ps
namespace Go.Ps
variable[Inhabited Prd]
section
variable{ρ:fI}{μ:fB}{n:Nat}{cs:List pO}
theorem Dj(hs:Sy ρ n cs){op:iI}{k:gB}{s1 s2:Nat}{c1 c2 v1 v2:Int}(h1:ρ[s1]? =some v1)(h2:ρ[s2]? =some v2)(i1:FK k (v1+c1)){v:AV}
  (h:Ig n cs op k s1 c1 s2 c2=some v):∃t,vU op k (v1+c1) (v2+c2)=some t/\VOk ρ μ v t:=by
 unfold Ig at h;split at h
 .rename_i a ha;cases h;split at ha
  .rename_i hc;simp only[aA]at hc;have e1:s1=0:=aB hc.1;have e2:s2=0:=aB hc.2;subst e1 e2;rw[hs.zero]at h1 h2;cases h1;cases h2;obtain⟨t,q1,q2⟩:=Cg (μ:=μ) hs.zero ha;exact⟨t,by simpa using q1,.here hs q2⟩
  .cases ha
 .split at h
  .rename_i hb;have hb:=oS hs.cs hb hs.zero h2;have hn:¬(v2+c2<0):=by omega
   cases op<;>simp only at h<;>try(cases h;done)
   .cases h;exact⟨_,by simp only[vU];rw[if_neg hn],vC hs (uC k _)⟩
   .split at h
    .rename_i ha;cases h;have ha:=oS hs.cs ha hs.zero h1;have hp:(0:Int)<2^(min (v2+c2).toNat k.bits):=Int.pow_pos (by omega);have q1:0<=(v1+c1).fdiv (2^(min (v2+c2).toNat k.bits)):=by
      rw[Int.fdiv_eq_ediv_of_nonneg _ (by omega)];exact Int.ediv_nonneg (by omega) (by omega)
     have q2:(v1+c1).fdiv (2^(min (v2+c2).toNat k.bits))<=v1+c1:=by
      rw[Int.fdiv_eq_ediv_of_nonneg _ (by omega)];exact Int.ediv_le_self _ (by omega)
     have hm:k.min<=0:=by cases k<;>simp[IntKind.min,IntKind.bits,IntKind.signed]
     have hi:FK k ((v1+c1).fdiv (2^(min (v2+c2).toNat k.bits))):=⟨by omega,by have:=i1.2;omega⟩;refine⟨_,by simp only[vU];rw[if_neg hn],?_⟩;obtain⟨e1,e2,e3,e4⟩:=hs.new ((v1+c1).fdiv (2^(min (v2+c2).toNat k.bits)));exact EQ hs hi (.cons ⟨0,_,e4,e2,by omega⟩ (.cons ⟨_,v1,e2,e1 _ _ h1,by omega⟩ (.cons ⟨_,0,e2,e4,by have:=hi.2;omega⟩ (hs.cs.ext e1))))
    .cases h
  .cases h
theorem wD(h0:ρ[0]? =some 0){a:A}{t:T}(h:Gm ρ μ a t){s:Nat}{c:Int}(hl:KA a=some (s,c)):∃l v,t= .str l/\ρ[s]? =some v/\(l.length:Int)=v+c:=by
 cases h<;>simp[KA]at hl
 .rename_i l;obtain⟨rfl,rfl⟩:=hl;exact⟨l,0,rfl,h0,by omega⟩
 .rename_i c l v h1 h2;obtain⟨rfl,rfl⟩:=hl;exact⟨_,_,rfl,h1,h2⟩
theorem Bm{a:A}{l:fV}(h:Gm ρ μ a (.str l))(he:FV a=true):l=[]:=by
 cases h<;>simp[FV]at he
 .split at he
  .rename_i h;cases h;rfl
  .cases he
theorem LE(l m:fV):(l==m)=true↔l=m:=by simp
theorem aDv(hs:Sy ρ n cs){a b:A}{l m:fV}{s1 s2:Nat}{c1 c2:Int}(ha:Gm ρ μ a (.str l))(hb:Gm ρ μ b (.str m))(h1:KA a=some (s1,c1))(h2:KA b=some (s2,c2)):
  tM ρ (Un cs a b s1 c1 s2 c2) (l==m):=by
 unfold Un;split
 .cases ha;cases hb;rfl
 .obtain⟨l',v1,e1,q1,w1⟩:=wD hs.zero ha h1;obtain⟨m',v2,e2,q2,w2⟩:=wD hs.zero hb h2;cases e1;cases e2;have key:=Um hs.cs (c:=c2-c1) q1 q2;have hlen:l=m->v1=v2+(c2-c1):=fun e=>by subst e;omega
  have hemp:(FV a||FV b)=true->v1=v2+(c2-c1)->l=m:=by
   intro he hv;have hll:l.length=m.length:=by omega
   simp only[bG]at he;rcases he with he|he
   .have:=Bm ha he;subst this;simp at hll;exact(bR hll.symm).symm
   .have:=Bm hb he;subst this;simp at hll;exact hll
  split
  .rename_i hq;rw[hq]at key;simp only[tM,decide_eq_false_iff_not]at key;simp only[tM];exact Bool.eq_false_iff.2 fun hh=>key (hlen ((LE l m).1 hh))
  .rename_i hq;rw[hq]at key;simp only[tM,aI]at key;split
   .rename_i he;simp only[tM];exact(LE l m).2 (hemp he key)
   .exact rK _
  .rename_i p q hq;rw[hq]at key;split
   .rename_i he;refine⟨fun hh=>key.1 ?_,fun hh=>key.2 ?_⟩
    .simpa using hlen ((LE l m).1 hh)
    .simp only[decide_eq_false_iff_not];intro hv;have:=(LE l m).2 (hemp he hv);rw[this]at hh;cases hh
   .refine⟨fun hh=>key.1 ?_,fun _ q h=>by simp at h⟩;simpa using hlen ((LE l m).1 hh)
theorem aPs(hs:Sy ρ n cs){op:iI}{a b:A}{x y:T}(ha:Gm ρ μ a x)(hb:Gm ρ μ b y){v:AV}(h:aWc n cs op a b=some v):
  ∃l m t,x= .str l/\y= .str m/\BC op l m=some t/\VOk ρ μ v t:=by
 unfold aWc at h;split at h
 .rename_i s1 c1 s2 c2 h1 h2;obtain⟨l,v1,rfl,q1,w1⟩:=wD hs.zero ha h1;obtain⟨m,v2,rfl,q2,w2⟩:=wD hs.zero hb h2;have key:=aDv hs ha hb h1 h2;refine⟨l,m,?_⟩;cases op<;>simp only at h<;>try(cases h;done)
  case add=>
   split at h
   .cases ha;cases hb;split at h
    .rename_i hm;cases h;simp only[sU,aI]at hm;exact⟨_,rfl,rfl,by simp only[BC];rw[if_pos (by omega)],.here hs (.strc _)⟩
    .cases h
   .split at h
    .rename_i hc;simp only[aA]at hc;obtain⟨⟨⟨b1,b2⟩,b3⟩,b4⟩:=hc;have b3:=oS hs.cs b3 q1 hs.zero;have b4:=oS hs.cs b4 q2 hs.zero;have hle:l.length+m.length<=vP:=by unfold vP;omega
     have hst:BC .add l m=some (.str (l++m)):=by simp only[BC];rw[if_pos hle]
     split at h
     .rename_i e;have:s2=0:=aB e;subst this;rw[hs.zero]at q2;cases q2;cases h;exact⟨_,rfl,rfl,hst,.here hs (.str s1 _ v1 _ q1 (by simp;omega))⟩
     .split at h
      .rename_i e;have:s1=0:=aB e;subst this;rw[hs.zero]at q1;cases q1;cases h;exact⟨_,rfl,rfl,hst,.here hs (.str s2 _ v2 _ q2 (by simp;omega))⟩
      .cases h;obtain⟨e1,e2,e3,e4⟩:=hs.new ((l++m).length:Int);refine⟨_,rfl,rfl,hst,ρ++[((l++m).length:Int)],e1,⟨e3,e4,?_⟩,.str n 0 _ _ e2 (by simp)⟩;have hll:((l++m).length:Int)=l.length+m.length:=by simp
       exact .cons ⟨v1,_,e1 _ _ q1,e2,by omega⟩ (.cons ⟨v2,_,e1 _ _ q2,e2,by omega⟩ (.cons ⟨0,_,e4,e2,by omega⟩ (Tm e2 e4 (hs.cs.ext e1) (by omega) fun u hu=>by
        obtain⟨x,y,p1,p2,rfl⟩:=Ec hu;have:=RW hs.zero q1 hs.cs p1;have:=RW hs.zero q2 hs.cs p2
        omega)))
    .cases h
  case eql=>cases h;exact⟨_,rfl,rfl,rfl,.here hs (.bool _ _ key)⟩
  case neq=>cases h;exact⟨_,rfl,rfl,rfl,.here hs (.bool _ _ (Gn key))⟩
  case lss=>cases h;exact⟨_,rfl,rfl,rfl,.here hs (.bool _ _ (rK _))⟩
  case leq=>cases h;exact⟨_,rfl,rfl,rfl,.here hs (.bool _ _ (rK _))⟩
  case gtr=>cases h;exact⟨_,rfl,rfl,rfl,.here hs (.bool _ _ (rK _))⟩
  case geq=>cases h;exact⟨_,rfl,rfl,rfl,.here hs (.bool _ _ (rK _))⟩
 .cases h
theorem Wv{a:A}{t:T}(h:Gm ρ μ a t){b:Bool}(hb:Zf.nilP a=some b):(t= .nilp/\b=true)\/(((∃l o,t= .ptr l o)\/∃x o,t= .ref x o)/\b=false):=by
 cases h<;>simp[Zf.nilP]at hb<;>subst hb
 .exact .inl ⟨rfl,rfl⟩
 .exact .inr ⟨.inl ⟨_,_,rfl⟩,rfl⟩
 .exact .inr ⟨.inl ⟨_,_,rfl⟩,rfl⟩
 .exact .inr ⟨.inr ⟨_,_,rfl⟩,rfl⟩
theorem SZ{a:A}{t:T}(h:Gm ρ μ a t){b:Bool}(hb:Zf.nilI a=some b):(t= .nili/\b=true)\/((∃u x,t= .iface u x)/\b=false):=by
 cases h<;>simp[Zf.nilI]at hb<;>subst hb
 .exact .inl ⟨rfl,rfl⟩
 .exact .inr ⟨⟨_,_,rfl⟩,rfl⟩
 .exact .inr ⟨⟨_,_,rfl⟩,rfl⟩
theorem Wu{a:A}{t:T}(h:Gm ρ μ a t){b:Bool}(hb:Zf.nilF a=some b):(t= .nilf/\b=true)\/((∃f x y,t= .fn f x y)/\b=false):=by
 cases h<;>simp[Zf.nilF]at hb<;>subst hb
 .exact .inl ⟨rfl,rfl⟩
 .exact .inr ⟨⟨_,_,_,rfl⟩,rfl⟩
theorem JX:∀{a_s:List A} {a:A},Zf.ifaces a_s=true->a∈a_s->∃b,Zf.nilI a=some b
 |c::r,a,h,hm=>by
  simp only[Zf.ifaces,aA]at h;rcases aU.1 hm with rfl|hm
  .exact Option.isSome_iff_exists.1 h.1
  .exact JX h.2 hm
def Ru:T->T->Bool
 | .int ..,_ |_,.int .. | .str _,_ |_,.str _ | .agg _,_ |_,.agg _ =>false|_,_ =>true
theorem aFg{P:fA}{ty:eX}{a b:A}{x y:T}(ha:Gm ρ μ a x)(hb:Gm ρ μ b y){B:Bo}(h:Zf P ty a b=some B):∃r,NX P ty x y=some r/\tM ρ B r/\Ru x y=true:=by
 unfold Zf at h;split at h
 .have hu:=‹P.underlying ty=_›;cases h;cases ha;rename_i h1;cases hb;rename_i h2;simp only[tM]at h1 h2;subst h1 h2;exact⟨_,by simp[NX,hu],rfl,rfl⟩
 .have hu:=‹P.underlying ty=_›;cases h;cases ha with
  |bool _ b1=>cases hb with
   |bool _ b2=>exact⟨b1==b2,by simp[NX,hu],rK _,rfl⟩
 .have hu:=‹P.underlying ty=_›;cases ha;obtain⟨r,hr,rfl⟩:=aF.1 h;rcases Wv hb hr with⟨rfl,rfl⟩|⟨⟨_,_,rfl⟩|⟨_,_,rfl⟩,rfl⟩<;>exact⟨_,by simp[NX,hu],rfl,rfl⟩
 .have hu:=‹P.underlying ty=_›;cases hb;obtain⟨r,hr,rfl⟩:=aF.1 h;rcases Wv ha hr with⟨rfl,rfl⟩|⟨⟨_,_,rfl⟩|⟨_,_,rfl⟩,rfl⟩<;>exact⟨_,by simp[NX,hu],rfl,rfl⟩
 .have hu:=‹P.underlying ty=_›;split at h
  .rename_i hi;cases h;cases ha;cases hb with
   |or _ c _ hm hc=>
    obtain⟨r,hr⟩:=JX hi hm;rcases SZ hc hr with⟨rfl,rfl⟩|⟨⟨_,_,rfl⟩,rfl⟩
    .exact⟨true,by simp[NX,hu],rK _,rfl⟩
    .exact⟨false,by simp[NX,hu],rK _,rfl⟩
  .cases h
 .have hu:=‹P.underlying ty=_›;split at h
  .rename_i hi;cases h;cases hb;cases ha with
   |or _ c _ hm hc=>
    obtain⟨r,hr⟩:=JX hi hm;rcases SZ hc hr with⟨rfl,rfl⟩|⟨⟨_,_,rfl⟩,rfl⟩
    .exact⟨true,by simp[NX,hu],rK _,rfl⟩
    .exact⟨false,by simp[NX,hu],rK _,rfl⟩
  .cases h
 .have hu:=‹P.underlying ty=_›;cases ha;obtain⟨r,hr,rfl⟩:=aF.1 h;rcases SZ hb hr with⟨rfl,rfl⟩|⟨⟨_,_,rfl⟩,rfl⟩<;>exact⟨_,by simp[NX,hu],rfl,rfl⟩
 .have hu:=‹P.underlying ty=_›;cases hb;obtain⟨r,hr,rfl⟩:=aF.1 h;rcases SZ ha hr with⟨rfl,rfl⟩|⟨⟨_,_,rfl⟩,rfl⟩<;>exact⟨_,by simp[NX,hu],rfl,rfl⟩
 .have hu:=‹P.underlying ty=_›;cases ha;obtain⟨r,hr,rfl⟩:=aF.1 h;rcases Wu hb hr with⟨rfl,rfl⟩|⟨⟨_,_,_,rfl⟩,rfl⟩<;>exact⟨_,by simp[NX,hu],rfl,rfl⟩
 .have hu:=‹P.underlying ty=_›;cases hb;obtain⟨r,hr,rfl⟩:=aF.1 h;rcases Wu ha hr with⟨rfl,rfl⟩|⟨⟨_,_,_,rfl⟩,rfl⟩<;>exact⟨_,by simp[NX,hu],rfl,rfl⟩
 .cases h
theorem aAj{X Y:gF}{a b:A}{x y:T}(ha:Gm ρ μ a x)(hb:Gm ρ μ b y)(h:Gl X Y a b=true):GU X Y x y=true:=by
 unfold Gl at h;unfold GU;cases hx:FU X<;>cases hy:FU Y<;>simp[hx,hy]at h⊢;split at h<;>first|(cases ha<;>simp[SJ];done)|(cases hb<;>cases x<;>simp[SJ];done)|cases h
theorem aDs{P:fA}{ty:eX}{op:iI}{k:gB}{a b:Int}(h1:op≠ .shl)(h2:op≠ .shr):xX P op ty (.int k a) (.int k b)=uV op k a b:=by
 cases op<;>simp[xX]at*
theorem Vc{P:fA}{ty:eX}{x y:T}(h:Ru x y=true):eqS P ty x y=NX P ty x y:=by
 unfold eqS;split
 .simp[Ru]at h
 .rfl
theorem aDr{P:fA}{ty:eX}{x y:T}(h:Ru x y=true):xX P .eql ty x y=(NX P ty x y).map .bool:=by
 unfold xX;split<;>first|rfl|(simp[Ru]at h;done)|(simp_all;done)|(rw[Vc h])
theorem aDt{P:fA}{ty:eX}{x y:T}(h:Ru x y=true):xX P .neq ty x y=(NX P ty x y).map fun b=> .bool (!b):=by
 unfold xX;split<;>first|rfl|(simp[Ru]at h;done)|(simp_all;done)|(rw[Vc h])
theorem aDu{P:fA}{ty:eX}{op:iI}{a b:fV}:xX P op ty (.str a) (.str b)=BC op a b:=by
 cases op<;>rfl
theorem aLp(hs:Sy ρ n cs){P:fA}{op:iI}{ty:eX}{a b:A}{x y:T}(ha:Gm ρ μ a x)(hb:Gm ρ μ b y){v:AV}(h:aSo P n cs op ty a b=some v):
  ∃t,xX P op ty x y=some t/\VOk ρ μ v t:=by
 unfold aSo at h;split at h
 .rename_i k s1 c1 k' s2 c2;cases ha with
  |int _ _ _ v1 q1 i1=>
  cases hb with
  |int _ _ _ v2 q2 i2=>
  split at h
  .obtain⟨t,e1,e2⟩:=Dj (μ:=μ) hs q1 q2 i1 h;exact⟨t,by simpa [xX]using e1,e2⟩
  .obtain⟨t,e1,e2⟩:=Dj (μ:=μ) hs q1 q2 i1 h;exact⟨t,by simpa [xX]using e1,e2⟩
  .rename_i n1 n2;split at h
   .rename_i hk;have hk:k=k':=by simpa using hk
    obtain⟨t,e1,e2⟩:=aNo (μ:=μ) hs q1 q2 i1 h;exact⟨t,by rw[<-hk,aDs (fun h=>n1 h) (fun h=>n2 h)];exact e1,e2⟩
   .cases h
 .rename_i n1;split at h
  .rename_i B hB;cases h;split at hB
   .obtain⟨r,e1,e2,e3⟩:=aFg ha hb hB;exact⟨.bool r,by rw[aDr e3,e1];rfl,.here hs (.bool _ _ e2)⟩
   .obtain⟨B',hB',rfl⟩:=aF.1 hB;obtain⟨r,e1,e2,e3⟩:=aFg ha hb hB';exact⟨.bool (!r),by rw[aDt e3,e1];rfl,.here hs (.bool _ _ (Gn e2))⟩
   .cases hB
  .obtain⟨l,m,t,rfl,rfl,e1,e2⟩:=aPs hs ha hb h;exact⟨t,by rw[aDu];exact e1,e2⟩
theorem aWj(hs:Sy ρ n cs){op:UnOp}{a:A}{x:T}(ha:Gm ρ μ a x){v:AV}(h:unA n cs op a=some v):∃t,unT op x=some t/\VOk ρ μ v t:=by
 unfold unA at h;split at h
 .cases ha with
  |int _ _ _ v1 q1 i1=>
   split at h
   .rename_i e;rename_i s c;cases h;have e0:s=0:=aB e;rw[e0,hs.zero]at q1;cases q1;exact⟨_,rfl,IA hs hs.zero (by omega)⟩
   .cases h;exact⟨_,rfl,aOu hs q1 i1⟩
 .cases h;cases ha with
  |bool _ b hb=>exact⟨_,rfl,.here hs (.bool _ _ (Gn hb))⟩
 .cases h
theorem aEq(hs:Sy ρ n cs){P:fA}{src dst:eX}{a:A}{x:T}(ha:Gm ρ μ a x){v:AV}(h:aEp P n cs src dst a=some v):∃t,UN P src dst x=some t/\VOk ρ μ v t:=by
 have conv:∀{t:T},LM P src dst x=some t->UN P src dst x=some t:=fun h=>by unfold UN;rw[h]
 unfold aEp at h;split at h
 .rename_i hu1 hu2;cases h;cases ha with
  |int _ _ _ v1 q1 i1=>exact⟨_,conv (by simp[LM,hu1,hu2]),IA hs q1 rfl⟩
 .rename_i hu1 hu2;cases h;cases ha with
  |str _ _ v1 l q1 i1=>exact⟨.str l,conv (by simp[LM,hu1,hu2]),.here hs (.str _ _ v1 l q1 i1)⟩
 .rename_i hu1 hu2;cases h;cases ha;exact⟨_,conv (by simp[LM,hu1,hu2]),.here hs (.strc _)⟩
 .rename_i hu1 hu2;split at h
  .rename_i s c hl he;split at h
   .rename_i hle;cases h;obtain⟨l,w,rfl,q1,w1⟩:=wD hs.zero ha hl;have:=oS hs.cs hle q1 hs.zero;refine⟨.sl false (l.map fun b=> .int .u8 b.toNat),?_,.here hs (.sl _ _ _ _ _ w (.inr (.inl ⟨_,rfl⟩)) q1 (by simpa using w1) (fun y hy=> ?_))⟩
    .have hn:LM P src dst (.str l)=none:=by simp[LM,hu1,hu2]
     unfold UN;rw[hn];simp only[Ek,hu1,hu2,he];rw[if_pos (by omega)]
    .obtain⟨b,_,rfl⟩:=bU.1 hy;have:=UInt8.toNat_lt b;exact .ival _ _ _ _ (by omega) (by omega) (by simp only[FK,IntKind.min,IntKind.max,IntKind.bits,IntKind.signed];simp;omega)
   .cases h
  .cases h
 .cases h
end
end Go.Ps
namespace Go.Ps
variable[Inhabited Prd]
def peC:Option (Option Nat)->Option Code
 |none=>none|some (some id)=>some (.exit id)|some none=>some .ret
def Pq(ρ:fI)(μ:fB):AO->Ob->Prop
 | .fix e xs,o=>(o.elem=e/\o.sz=0)/\pH ρ μ xs o.cells| .map es,o=>∃(c:Nat) (ms:fQ),o.me=some (.map c ms)/\es.length=ms.length/\∀(j:Nat) (k:Int) (a:A),es[j]? =some (k,a)->∃c' v,ms[j]? =some (c',.int .i64 k,v)/\Gm ρ μ a v| .loop st pe fr ps asg bd ow _ _,o=>∃r:Lr,o.me=some (.loop r)/\r.st=st/\r.pe=peC pe/\r.ps=ps/\r.asg=asg/\r.bd=bd/\r.ow=ow/\pH ρ μ fr (r.fr.view r.n)| .row e sz a s c,o=>o.elem=e/\(o.sz=sz/\(e=5->o.cells≠[]))/\∃(ts:eY) (v:Int),ρ[s]? =some v/\(ts.length:Int)=v+c/\o.cells=ts.flatMap T.cells/\∀t∈ts,Gm ρ μ a t/\t.cells.length=sz
theorem Vg{H:Hp}(h:∀(m:Nat) (o:Ob),H.any m=some o->m<H.next)(b:Ob):∀(m:Nat) (o:Ob),(H.new b).any m=some o->m<(H.new b).next:=by
 intro m o e;rw[uG]at e;split at e
 .rename_i q;rw[<-q];exact Nat.lt_succ_self _
 .exact Nat.lt_succ_of_lt (h m o e)
theorem Vh{H:Hp}(h:∀(m:Nat) (o:Ob),H.any m=some o->m<H.next){x:Nat}(hx:x<H.next)(b:Ob):∀(m:Nat) (o:Ob),(H.put x b).any m=some o->m<(H.put x b).next:=by
 intro m o e;rw[uH]at e;split at e
 .rename_i q;rw[q];exact hx
 .exact h m o e
theorem aFq{H:Hp}(h:∀(m:Nat) (o:Ob),H.any m=some o->m<H.next)(x:Nat):∀(m:Nat) (o:Ob),(H.drop x).any m=some o->m<(H.drop x).next:=by
 intro m o e;rw[sJ]at e;split at e
 .cases e
 .exact h m o e
noncomputable def Gp:AO->Hp->Nat->Option Ob
 | .loop ..,H,x=>H.any x| .map _,H,x=>H.any x|_,H,x=>H.get x
structure GH(hp:fJ)(nl:Nat)(ρ:fI)(μ:fB)(H:Hp):Prop where
 len:μ.length=nl
 obj:∀(l:Nat) (o:AO),oO hp l=some o->∃y,μ[l]? =some y/\∀x,y=some x->∃b,Gp o H x=some b/\Pq ρ μ o b
 inj:∀(l l':Nat) (o o':AO) (x:Nat),oO hp l=some o->oO hp l'=some o'->μ[l]? =some (some x)->μ[l']? =some (some x)->l=l'
 lt:∀(l x:Nat),μ[l]? =some (some x)->x<H.next
 fixp:∀(l:Nat) (e:eX) (xs:List A),oO hp l=some (.fix e xs)->∃x,μ[l]? =some (some x)
 fin:∀(m:Nat) (o:Ob),H.any m=some o->m<H.next
section
variable{ρ ρ':fI}{μ μ':fB}{n:Nat}{cs:List pO}
theorem Pq.ext(h:rZ ρ ρ')(h':rZ μ μ'){a:AO}{o:Ob}(hg:Pq ρ μ a o):Pq ρ' μ' a o:=by
 cases a with
 |fix e xs=>exact⟨hg.1,hg.2.ext h h'⟩
 |row e sz a s c=>
  obtain⟨h1,h2,ts,v,h3,h4,h5,h6⟩:=hg;exact⟨h1,h2,ts,v,h _ _ h3,h4,h5,fun t ht=>⟨(h6 t ht).1.ext h h',(h6 t ht).2⟩⟩
 |map es=>
  obtain⟨c,ms,h1,h2,h3⟩:=hg;exact⟨c,ms,h1,h2,fun j k a hj=>by obtain⟨c',v,h4,h5⟩:=h3 j k a hj;exact⟨c',v,h4,h5.ext h h'⟩⟩
 |loop st pe fr ps asg bd ow aa ab=>
  obtain⟨r,h1,h2,h3,h4,h5,h6,h7,h8⟩:=hg;exact⟨r,h1,h2,h3,h4,h5,h6,h7,h8.ext h h'⟩
theorem GH.ext{hp:fJ}{nl:Nat}{H:Hp}(h:rZ ρ ρ')(hg:GH hp nl ρ μ H):GH hp nl ρ' μ H:=
 ⟨hg.len,fun l o hl=>by
  obtain⟨y,h1,h2⟩:=hg.obj l o hl
  exact⟨y,h1,fun x hx=>by obtain⟨b,h3,h4⟩:=h2 x hx;exact⟨b,h3,h4.ext h (.refl _)⟩⟩,hg.inj,hg.lt,hg.fixp,hg.fin⟩
def AO.plain:AO->Bool
 | .loop .. | .map _ =>false|_ =>true
theorem ES{o:AO}(h:o.plain=true)(H:Hp)(x:Nat):Gp o H x=H.get x:=by cases o<;>first|rfl|cases h
theorem GH.at{hp:fJ}{nl:Nat}{H:Hp}(hg:GH hp nl ρ μ H){l x:Nat}{o:AO}(h:oO hp l=some o)(hx:μ[l]? =some (some x))(ho:o.plain=true:=by rfl):∃b,H.get x=some b/\Pq ρ μ o b:=by
 obtain⟨y,h1,h2⟩:=hg.obj l o h;rw[hx]at h1;cases h1;have:=h2 x rfl
 rwa [ES ho]at this
theorem EH{sz:Nat}:∀(ts:eY) (i:Nat),(∀t∈ts,t.cells.length=sz)->i<=ts.length->(ts.flatMap T.cells).drop (i*sz)=(ts.drop i).flatMap T.cells
 |ts,0,_,_ =>by simp|[],i+1,_,h=>by simp at h
 |t::ts,i+1,hs,h=>by
  rw[bI,List.drop_succ_cons,<-EH ts i (fun x hx=>hs x (by simp[hx])) (by simpa using h)];have:t.cells.length=sz:=hs t (by simp);rw[cJ,Nat.add_comm,<-List.drop_drop,<-this,List.drop_left]
theorem vM{sz:Nat}:∀(ts:eY),(∀t∈ts,t.cells.length=sz)->(ts.flatMap T.cells).length=ts.length*sz
 |[],_ =>by simp
 |t::ts,hs=>by
  rw[bI,bK,vM ts (fun x hx=>hs x (by simp[hx])),hs t (by simp),bL,cJ];omega
theorem aIl{P:fA}{t:eX}{sz:Nat}{ts:eY}(hs:∀t∈ts,t.cells.length=sz){i off:Nat}{x r:T}(hi:ts[i]? =some x)(hp:uB P t x.cells off=some r):
  uB P t (ts.flatMap T.cells) (i*sz+off)=some r:=by
 have hil:=(aK.1 hi).1;have hd:=EH ts i hs (by omega);have hx:ts.drop i=x::ts.drop (i+1):=by
  rw[dX hil];congr 1;exact(aK.1 hi).2
 rw[hx,bI]at hd;have hxl:=hs x (bB hi);have hfl:=vM ts hs;have hmul:(i+1)*sz<=ts.length*sz:=cI _ hil;rw[cJ]at hmul;unfold uB at hp⊢;split at hp
 .split at hp
  .rename_i m hm;split at hp
   .rename_i hle;cases hp;rw[if_pos (by rw[hfl];omega),<-List.drop_drop,hd,List.drop_append_of_le_length (by omega),List.take_append_of_le_length (by rw[cK];omega)]
   .cases hp
  .cases hp
 .have ho:=(aK.1 hp).1;rw[<-bO,hd,dD ho];exact hp
 .cases hp
theorem WH{a:A}(h:a.known=true):(uK a n cs).a.known=true:=by
 cases a<;>first|exact h|rfl|(simp only[uK,mat,Lw,Gj];split<;>rfl)
theorem Lp{P:fA}{hp:fJ}{nl:Nat}{H:Hp}(hs:Sy ρ n cs)(hh:GH hp nl ρ μ H){t:eX}{a:A}{x:T}(ha:Gm ρ μ a x){v:AV}(h:Wl P hp n cs t a=some v):
  ∃r,tX P H t x=some r/\VOk ρ μ v r:=by
 unfold Wl at h;split at h
 .split at h
  .rename_i hk;obtain⟨y,hy,rfl⟩:=aF.1 h;cases ha with
   |ref _ u off _ hu=>
    obtain⟨r,h1,h2⟩:=aIk hu hk hy;exact⟨r,h1,rU hs h2⟩
  .cases h
 .split at h
  .rename_i l off e xs hl;obtain⟨y,hy,rfl⟩:=aF.1 h;cases ha with
   |ptr _ _ l' hl'=>
    obtain⟨b,h1,h2⟩:=hh.at hl hl';obtain⟨r,h3,h4⟩:=DI h2.2 hy;exact⟨r,by simp only[tX,tR,h1];exact h3,rU hs h4⟩
  .cases h
 .rename_i l sz s c off;split at h
  .rename_i sz' e s' c' hl;split at h
   .rename_i hc;obtain⟨y,hy,rfl⟩:=aF.1 h;simp only[aA]at hc;obtain⟨⟨⟨c1,c2⟩,c3⟩,c4⟩:=hc;have c1:=aB c1;subst c1;cases ha with
    |elp _ _ _ _ _ l' w hl' hw hw0=>
     obtain⟨b,h1,h2,h3,ts,v',g1,g2,g3,g4⟩:=hh.at hl hl';have hlt:=oS hs.cs c4 hw g1;have hi:(w+c).toNat<ts.length:=by omega
     have hx:=aC hi;have hg:=g4 _ (bV hi);obtain⟨r,h5,h6⟩:=DI (qQ hg.1 c2).2 hy;refine⟨r,?_,rU hs h6⟩;simp only[tX,tR,h1,g3];exact aIl (fun t ht=>(g4 t ht).2) hx h5
   .cases h
  .cases h
 .cases h
theorem GH.atN{hp:fJ}{nl:Nat}{H:Hp}(hg:GH hp nl ρ μ H){l x:Nat}{o:AO}(h:oO hp l=some o)(hx:μ[l]? =some (some x))(ho:o.plain=false:=by rfl):∃b,H.any x=some b/\Pq ρ μ o b:=by
 obtain⟨y,h1,h2⟩:=hg.obj l o h;rw[hx]at h1;cases h1;have:=h2 x rfl;cases o<;>first|exact this|cases ho
theorem VG{P:fA}{kt:eX}{ik:gB}(hk:P.underlying kt=some (.int ik)){k:Int}:∀(es:List (Int×A)) (ms:fQ) (i:Nat),es.length=ms.length->
  (∀(j:Nat) (k:Int) (a:A),es[j]? =some (k,a)->∃c' v,ms[j]? =some (c',.int .i64 k,v)/\Gm ρ μ a v)->
  (∀a,VF k es=some a->∃j b v,CW P kt (.int .i64 k) ms i=some (some (j,b,v))/\Gm ρ μ a v)/\(VF k es=none->CW P kt (.int .i64 k) ms i=some none)
 |[],[],_,_,_ =>⟨fun a h=>by simp[VF]at h,fun _ =>rfl⟩|[],_ ::_,_,h,_ =>by simp at h|_ ::_,[],_,h,_ =>by simp at h
 |(k',a')::es,(c0,k0,v0)::ms,i,hl,h=>by
  obtain⟨c',v,h1,h2⟩:=h 0 k' a' rfl;simp only[cA,aD,aQ]at h1;obtain⟨rfl,rfl,rfl⟩:=h1;have ih:=VG hk (k:=k) es ms (i+1) (by simpa using hl) (fun j k a hj=>h (j+1) k a (by simpa using hj));have he:eqK P kt (.int .i64 k) (.int .i64 k')=some (k==k'):=by simp[eqK,eq1,hk]
  simp only[VF,CW,he];by_cases hkk:k'=k
  .subst hkk;simp only[beq_self_eq_true,if_true];exact⟨fun a h=>by cases h;exact⟨_,_,_,rfl,h2⟩,fun h=>by cases h⟩
  .have h1:(k'==k)=false:=by simpa using hkk
   have h2:(k==k')=false:=by simp;exact fun e=>hkk e.symm
   simp only[h1,h2,bA,if_false];exact ih
theorem Rp{P:fA}{hp:fJ}{nl:Nat}{H:Hp}(h0:ρ[0]? =some 0)(hh:GH hp nl ρ μ H){t:eX}{x k:A}{y z:T}(hx:Gm ρ μ x y)(hk:Gm ρ μ k z){ok:Bool}{b:A}(h:Gg P hp t x k ok=some b):
  ∃r,zY P H t y z ok=some r/\Gm ρ μ b r:=by
 unfold Gg at h;split at h
 .rename_i l ik s c;split at h
  .rename_i hc;simp only[aA,beq_iff_eq]at hc;obtain⟨rfl,hc⟩:=hc;have hc:s=0:=aB hc;subst hc;cases hx with
   |mp _ l' hl'=>
   cases hk with
   |int _ _ _ v hv hin=>
   rw[h0]at hv;cases hv;simp only[eT]at*;split at h
   .rename_i es hf;split at h
    .rename_i kt et hu;split at h
     .rename_i ik hik;obtain⟨o,o1,c0,ms,o2,o3,o4⟩:=hh.atN hf hl';have hkey:JB P kt (.int .i64 c)=true:=by simp[JB,EN,hik]
      have hent:LT H (.mp l')=some ms:=by simp only[LT,o1,o2]
      have:=VG (ρ:=ρ) (μ:=μ) hik (k:=c) es ms 0 o3 o4;simp only[zY,hu,hkey,hent,if_true];split at h
      .rename_i a ha;cases h;obtain⟨j,b,v,q1,q2⟩:=this.1 a ha;simp only[q1];cases ok with
       |true=>exact⟨_,rfl,.tup _ _ rfl fun j a t h1 h2=>(pH.cons q2 (pH.cons (show Gm ρ μ (.bool (.lit _)) (.bool _)from .bool (.lit _) _ (by simp[tM])) .nil)).2 j a t h1 h2⟩|false=>exact⟨_,rfl,q2⟩
      .rename_i ha;have q1:=this.2 ha;simp only[q1];split at h
       .rename_i z hz;cases h;obtain⟨z',e1,e2⟩:=BF (ρ:=ρ) (μ:=μ) h0 hz;simp only[e1];cases ok with
        |true=>exact⟨_,rfl,.tup _ _ rfl fun j a t h1 h2=>(pH.cons e2 (pH.cons (show Gm ρ μ (.bool (.lit _)) (.bool _)from .bool (.lit _) _ (by simp[tM])) .nil)).2 j a t h1 h2⟩|false=>exact⟨_,rfl,e2⟩
       .cases h
     .cases h
    .cases h
   .cases h
  .cases h
 .cases h
theorem Jd{a:A}{x:T}(ha:Gm ρ μ a x){m:Nat}{b:A}(h:Ui a m=some b):∃y,Jc x m=some y/\Gm ρ μ b y:=by
 unfold Ui at h;split at h
 .cases h;cases ha with
  |ref _ u off hk hu=>exact⟨_,rfl,.ref _ _ _ hk hu⟩
 .cases h;cases ha with
  |ptr _ _ l' hl'=>exact⟨_,rfl,.ptr _ _ l' hl'⟩
 .cases h;cases ha with
  |elp _ _ _ _ _ l' w hl' hw hw0=>exact⟨_,rfl,by rw[dG];exact .elp _ _ _ _ _ l' w hl' hw hw0⟩
 .cases h
theorem ZD{P:fA}{s:eX}{a:A}{x:T}(ha:Gm ρ μ a x){f:Nat}{b:A}(h:JS P s a f=some b):∃y,wU P s x f=some y/\Gm ρ μ b y:=by
 unfold JS at h;unfold wU;split at h
 .rename_i fd hfd;rw[hfd];simp only;split at h
  .rename_i m hm;rw[hm];simp only;split at h
   .cases h
   .rename_i h0;rw[if_neg h0];exact Jd ha h
  .cases h
 .cases h
theorem NJ(h0:ρ[0]? =some 0){s1 s2:Nat}{c1 c2 v1 v2:Int}(h1:ρ[s1]? =some v1)(h2:ρ[s2]? =some v2){q:Nat}{d:Int}(h:aBu s1 c1 s2 c2=some (q,d)):
  ∃v,ρ[q]? =some v/\v+d=v1+c1+(v2+c2):=by
 unfold aBu at h;split at h
 .rename_i e;cases h;have:s2=0:=aB e;subst this;rw[h0]at h2;cases h2;exact⟨v1,h1,by omega⟩
 .split at h
  .rename_i e;cases h;have:s1=0:=aB e;subst this;rw[h0]at h1;cases h1;exact⟨v2,h2,by omega⟩
  .cases h
theorem VS{P:fA}(hs:Sy ρ n cs){t:eX}{a b:A}{x i:T}(ha:Gm ρ μ a x)(hb:Gm ρ μ b i){v:AV}(h:GM P n cs t a b=some v):
  ∃r,qM P t x i=some r/\VOk ρ μ v r:=by
 unfold GM at h;split at h
 .rename_i k s c;cases hb with
  |int _ _ _ w hw hin=>
  split at h
  .rename_i e el s' c' hu;split at h
   .rename_i z hz;split at h
    .rename_i hc;simp only[aA]at hc;obtain⟨⟨⟨k1,k2⟩,k3⟩,k4⟩:=hc;have k3:=oS hs.cs k3 hs.zero hw;cases ha with
     |sl _ _ _ _ xs v' h1 h2 h3 h4=>
      have k4:=oS hs.cs k4 hw h2;have hi:(w+c).toNat<xs.length:=by omega
      have hg:=h4 _ (bV hi);have hlen:(xs[(w+c).toNat]).cells.length=z:=by rw[<-(qQ hg k1).2.1];exact aB k2
      obtain⟨ρ',e1,e2,e3⟩:=rU hs hg;have hk:=WH (n:=n) (cs:=cs) k1;cases h;refine⟨.ref xs[(w+c).toNat] 0,?_,ρ',e1,e2,.ref _ _ _ hk e3⟩;rcases h1 with⟨rfl,rfl⟩|⟨f,rfl⟩|⟨full,m,f,rfl,rfl⟩
      .simp at hi
      .simp only[qM,hu];rw[if_pos (by omega),aC hi];simp only[hz];rw[if_pos hlen]
      .simp only[dM,eC]at hi h3;simp only[List.getElem_map,List.getElem_range]at hlen⊢;simp only[qM,hu];rw[if_pos (by omega)];simp only[hz];rw[if_pos hlen]
    .cases h
   .cases h
  .rename_i e es hu;split at h
   .rename_i z hz;split at h
    .rename_i hc;simp only[aA,sU,aI]at hc;obtain⟨k1,k2⟩:=hc;have k1:s=0:=aB k1;subst k1;rw[hs.zero]at hw;cases hw;split at h
     .rename_i a0 ha0;split at h
      .rename_i hc2;simp only[aA]at hc2;obtain⟨m1,m2⟩:=hc2;cases ha with
       |slk _ _ xs g1 g2 g3=>
        have hi:c.toNat<xs.length:=by rw[<-g2];exact(aK.1 ha0).1
        have hx:=aC hi;have hg:=g3 _ _ _ ha0 hx;have hlen:(xs[c.toNat]).cells.length=z:=by rw[<-(qQ hg m1).2.1];exact aB m2
        obtain⟨ρ',e1,e2,e3⟩:=rU hs hg;have hk:=WH (n:=n) (cs:=cs) m1;cases h;refine⟨.ref xs[c.toNat] 0,?_,ρ',e1,e2,.ref _ _ _ hk e3⟩;simp only[eT];rcases g1 with⟨rfl,rfl⟩|⟨f,rfl⟩|⟨full,m,f,rfl,rfl⟩
        .simp at hi
        .simp only[qM,hu];rw[if_pos k2,hx];simp only[hz];rw[if_pos hlen]
        .simp only[dM,eC]at hi;simp only[List.getElem_map,List.getElem_range]at hlen⊢;simp only[qM,hu];rw[if_pos (by omega)];simp only[hz];rw[if_pos hlen]
      .cases h
     .cases h
    .cases h
   .cases h
  .rename_i e l sz si ci s' c' hu;split at h
   .rename_i z hz;split at h
    .rename_i hc;simp only[aA]at hc;obtain⟨⟨⟨k1,k2⟩,k3⟩,k4⟩:=hc;have k1:sz=z:=aB k1;have k2:=oS hs.cs k2 hs.zero hw;split at h
     .rename_i q d hq;cases h;cases ha with
      |osl _ _ _ _ _ _ l' vi v' g1 g2 g3 g4 g5=>
       have k3:=oS hs.cs k3 hw g4;obtain⟨u,u1,u2⟩:=NJ hs.zero g2 hw hq;have e:=Gm.elp (ρ:=ρ) (μ:=μ) l sz q d 0 l' u g1 u1 (by omega);refine⟨.ptr l' ((u+d).toNat*sz+0),?_,.here hs e⟩;simp only[qM,hu];rw[if_pos (by omega)];simp only[hz];rw[if_pos k1];have:(vi+ci).toNat+(w+c).toNat=(u+d).toNat:=by omega
       rw[this,Nat.add_zero]
      |osl0 _ _ _ _ _ _ vi v' g1 g2 g3 g4 g5=>
       have k3:=oS hs.cs k3 hw g4;omega
     .cases h
    .cases h
   .cases h
  .rename_i len e _ hu;split at h
   .rename_i z hz;split at h
    .rename_i hc;simp only[aA,sU,aI]at hc;obtain⟨⟨k1,k2⟩,k3⟩:=hc;have k1:s=0:=aB k1;subst k1;rw[hs.zero]at hw;cases hw;obtain⟨y,hy,rfl⟩:=aF.1 h;obtain⟨r,r1,r2⟩:=Jd ha hy;refine⟨r,?_,.here hs r2⟩;simp only[qM,hu];rw[if_pos (by omega)];simp only[hz];rw[<-r1];congr 2;simp
    .cases h
   .cases h
  .cases h
 .cases h
theorem ZE{P:fA}(hs:Sy ρ n cs){t:eX}{a b:A}{x i:T}(ha:Gm ρ μ a x)(hb:Gm ρ μ b i){v:AV}(h:VR P n cs t a b=some v):
  ∃r,qM P t x i=some r/\VOk ρ μ v r:=VS hs ha.unp hb h
theorem Cl(hs:Sy ρ n cs){s:Nat}{c w:Int}(hw:ρ[s]? =some w):∀(a_s:List A) (j:Nat) (a:A) (i:Nat),a_s[i]? =some a->((j+i:Nat):Int)=w+c->a∈Ck cs s c j a_s
 |b::bs,j,a,0,ha,he=>by
  simp at ha;subst ha;have he:(j:Int)=w+c:=by simpa using he
  simp only[Ck];split
  .rename_i hc;simp only[bG]at hc;rcases hc with hc|hc
   .have:=oS hs.cs hc hw hs.zero;omega
   .have q:=oS hs.cs hc hs.zero hw;omega
  .exact aR
 |b::bs,j,a,i+1,ha,he=>by
  have:=Cl (c:=c) hs hw bs (j+1) a i (by simpa using ha) (by omega);simp only[Ck];split
  .exact this
  .exact aJ _ this
theorem Zo{P:fA}(hs:Sy ρ n cs){t:eX}{a b:A}{x i:T}(ha:Gm ρ μ a x)(hb:Gm ρ μ b i){v:AV}(h:Rh P n cs t a b=some v):
  ∃r,zM P t x i=some r/\VOk ρ μ v r:=by
 unfold Rh at h;split at h
 .rename_i k s c;cases hb with
  |int _ _ _ w hw hin=>
  split at h
  .rename_i len e a_s hu;split at h
   .rename_i z hz;split at h
    .rename_i hc;simp only[aA]at hc;have k1:=oS hs.cs hc.1 hs.zero hw;have k2:=oS hs.cs hc.2 hw hs.zero;cases ha with
     |agg _ ts hl hg=>
     split at h
     .rename_i e0;have e0:s=0:=aB e0;subst e0;rw[hs.zero]at hw;cases hw;obtain⟨y,hy,rfl⟩:=aF.1 h;obtain⟨r,r1,r2⟩:=DI ⟨hl,hg⟩ hy;refine⟨r,?_,.here hs r2⟩;simp only[zM,hu];rw[if_pos (by omega)];simp only[hz];rw[<-r1];congr 2;simp
     .split at h
      .rename_i hag;split at h
       .rename_i hc2;cases h;simp only[aA]at hc2;have z1:z=1:=aB hc2.1;have hlen:a_s.length=len:=aB hc2.2;subst z1;have hi:(w+c).toNat<a_s.length:=by omega
        have hget:=aC hi;obtain⟨r,r1,r2⟩:=pH.at (ρ:=ρ) (μ:=μ) ⟨hl,hg⟩ hget;refine⟨r,?_,.here hs (.or _ _ r (Cl hs hw a_s 0 _ _ hget (by omega)) r2)⟩;simp only[zM,hu];rw[if_pos (by omega)];simp only[hz,uB,hag,Nat.mul_one];exact r1
       .cases h
      .cases h
    .cases h
   .cases h
  .rename_i hu;split at h
   .rename_i s' c' hl;obtain⟨l,v',rfl,q1,w1⟩:=wD hs.zero ha hl;split at h
    .rename_i hc;cases h;simp only[aA]at hc;have k1:=oS hs.cs hc.1 hs.zero hw;have k2:=oS hs.cs hc.2 hw q1;have hi:(w+c).toNat<l.length:=by omega
     refine⟨.int .u8 l[(w+c).toNat].toNat,?_,rU hs (.ival _ _ _ _ (by omega) ?_ ?_)⟩
     .simp only[zM,hu];rw[if_pos (by omega),aC hi];rfl
     .have:=UInt8.toNat_lt l[(w+c).toNat];omega
     .have:=UInt8.toNat_lt l[(w+c).toNat];simp only[FK,IntKind.min,IntKind.max,IntKind.bits,IntKind.signed];simp;omega
    .cases h
   .cases h
  .cases h
 .cases h
end
end Go.Ps
namespace Go.Ps
variable[Inhabited Prd]
section
variable{ρ ρ':fI}{μ μ':fB}{n:Nat}{cs:List pO}
def aSb(ρ:fI)(μ:fB):Option A->Option T->Prop
 |none,none=>True|some a,some t=>Gm ρ μ a t|_,_ =>False
theorem xA{x:Option A}{y:iB}(hr:aSb ρ μ x y){s:Nat}{c w:Int}(hw:ρ[s]? =some w){s':Nat}{c':Int}(h:FP x s c=some (s',c')):
  ∃w',ρ[s']? =some w'/\∀(d top:Nat),(d:Int)=w+c->0<=w'+c'->w'+c'<=top->uI y d top=some (w'+c').toNat:=by
 unfold FP at h;split at h
 .cases h;cases y with
  |some y=>exact hr.elim|none=>exact⟨w,hw,fun d top hd h0 ht=>by simp only[uI];rw[<-hd];simp⟩
 .cases h;cases y with
  |none=>exact hr.elim
  |some y=>
   cases hr with
   |int _ _ _ w' hw' _ =>exact⟨w',hw',fun d top hd h0 ht=>by simp only[uI];rw[if_pos ⟨h0,ht⟩]⟩
 .cases h
theorem LF(hs:Sy ρ n cs){sl sh:Nat}{cl ch l h:Int}(hl:ρ[sl]? =some l)(hh:ρ[sh]? =some h)(h0:0<=l+cl)(hlh:l+cl<=h+ch):
  ∃ρ',rZ ρ ρ'/\Sy ρ' (FC n cs sl cl sh ch).2.2.1 (FC n cs sl cl sh ch).2.2.2/\∃v,ρ'[(FC n cs sl cl sh ch).1]? =some v/\v+(FC n cs sl cl sh ch).2.1=h+ch-(l+cl):=by
 unfold FC;split
 .rename_i e;have:sl=0:=aB e;subst this;rw[hs.zero]at hl;cases hl;exact⟨ρ,.refl _,hs,h,hh,by simp;omega⟩
 .split
  .rename_i e;have:sl=sh:=aB e;subst this;rw[hl]at hh;cases hh;exact⟨ρ,.refl _,hs,0,hs.zero,by simp;omega⟩
  .obtain⟨e1,e2,e3,e4⟩:=hs.new (h+ch-(l+cl));refine⟨_,e1,⟨e3,e4,VP (fun q=>⟨_,h,e2,e1 _ _ hh,?_⟩) (.cons ⟨0,_,e4,e2,?_⟩ (.cons ⟨_,h,e2,e1 _ _ hh,by omega⟩ (hs.cs.ext e1)))⟩,_,e2,by simp⟩
   .have:=oS hs.cs q hs.zero hl;omega
   .split
    .rename_i q;have:=oS hs.cs q hl hh;omega
    .omega
theorem Rl{t:T}{xs:eY}(h:AK t xs){P:fA}{ty e:eX}(hu:P.underlying ty=some (.slice e)){z:Nat}(hz:tT P e=some z)(hc:∀x∈xs,x.cells.length=z)
  {lo hi:iB} {l h':Nat} (hlo:uI lo 0 h'=some l) (hhi:uI hi xs.length xs.length=some h') (hle:l<=h') (hh:h'<=xs.length):
  ∃r,wY P ty t lo hi=some r/\AK r ((xs.take h').drop l):=by
 rcases h with⟨rfl,rfl⟩|⟨f,rfl⟩|⟨full,m,f,rfl,rfl⟩
 .simp at hhi hh;subst hh;have:l=0:=by omega
  subst this;exact⟨.nils,by simp[wY,hu,hhi,hlo,hz],.inl ⟨rfl,by simp⟩⟩
 .refine⟨.sl (f&&h'==xs.length) ((xs.take h').drop l),?_,.inr (.inl ⟨_,rfl⟩)⟩;have hk:GL z xs=true:=by
   cases xs with
   |nil=>rfl|cons x r=>simp only[GL,beq_iff_eq];exact hc x (by simp)
  simp only[wY,hu,hhi,hlo,hz];rw[if_pos hk]
 .simp only[dM,eC]at hhi hh;refine⟨.slf (full&&h'==m) (h'-l) (fun i=>f (l+i)),?_,.inr (.inr ⟨_,_,_,rfl,?_⟩)⟩
  .simp only[wY,hu,hhi,hlo,hz];rw[if_neg];intro⟨q1,q2⟩;exact q2 (hc (f l) (bU.2 ⟨l,by simp;omega,rfl⟩))
  .apply eB;intro j;rw[bO,bD,aY,aY];by_cases hj:l+j<h'
   .rw[if_pos hj,dJ (by omega),dJ (by omega)];rfl
   .rw[if_neg hj,bH (by simp;omega)];rfl
theorem aBi{P:fA}(hs:Sy ρ n cs){t:eX}{a:A}{x:T}{lo hi:Option A}{lo' hi':iB}(ha:Gm ρ μ a x)(hlo:aSb ρ μ lo lo')(hhi:aSb ρ μ hi hi'){v:AV}
  (h:Tc P n cs t a lo hi=some v):∃r,wY P t x lo' hi'=some r/\VOk ρ μ v r:=by
 unfold Tc at h;split at h
 .rename_i hu;split at h
  .rename_i s c hl;obtain⟨l,w,rfl,q1,w1⟩:=wD hs.zero ha hl;split at h
   .rename_i sh ch hbh;obtain⟨h',r1,r2⟩:=xA hhi q1 hbh;split at h
    .rename_i s0 c0 hbl;obtain⟨l',r3,r4⟩:=xA hlo hs.zero hbl;split at h
     .rename_i hc;simp only[aA]at hc;have k1:=oS hs.cs hc.1.1 hs.zero r3;have k2:=oS hs.cs hc.1.2 r3 r1;have k3:=oS hs.cs hc.2 r1 q1;obtain⟨ρ',b1,b2,u,b3,b4⟩:=LF hs r3 r1 (by omega) k2;generalize FC n cs s0 c0 sh ch=bw at h b2 b3 b4;obtain⟨s1,c1,n1,cs1⟩:=bw;simp only at b2 b3 b4 h;cases h;have e1:=r2 l.length l.length (by omega) (by omega) (by omega);have e2:=r4 0 (h'+ch).toNat (by omega) (by omega) (by omega);refine⟨.str ((l.take (h'+ch).toNat).drop (l'+c0).toNat),by simp only[wY,hu,e1,e2],ρ',b1,b2,.str _ _ u _ b3 ?_⟩;rw[cK,dH];omega
     .cases h
    .cases h
   .cases h
  .cases h
 .rename_i e hu;split at h
  .rename_i el s c;cases ha with
   |sl _ _ _ _ xs w h1 h2 h3 h4=>
   split at h
   .rename_i sh ch hbh;obtain⟨h',r1,r2⟩:=xA hhi h2 hbh;split at h
    .rename_i s0 c0 hbl;obtain⟨l',r3,r4⟩:=xA hlo hs.zero hbl;split at h
     .rename_i z hz;split at h
      .rename_i hc;simp only[aA]at hc;obtain⟨⟨⟨⟨k0,k0'⟩,k1⟩,k2⟩,k3⟩:=hc;have k1:=oS hs.cs k1 hs.zero r3;have k2:=oS hs.cs k2 r3 r1;have k3:=oS hs.cs k3 r1 h2;obtain⟨ρ',b1,b2,u,b3,b4⟩:=LF hs r3 r1 (by omega) k2;generalize FC n cs s0 c0 sh ch=bw at h b2 b3 b4;obtain⟨s1,c1,n1,cs1⟩:=bw;simp only at b2 b3 b4 h;cases h;have e1:=r2 xs.length xs.length (by omega) (by omega) (by omega);have e2:=r4 0 (h'+ch).toNat (by omega) (by omega) (by omega);have hcl:∀x∈xs,x.cells.length=z:=fun x hx=>by
        rw[<-(qQ (h4 x hx) k0).2.1];exact aB k0'
       obtain⟨r,g1,g2⟩:=Rl h1 hu hz hcl e2 e1 (by omega) (by omega);refine⟨r,g1,ρ',b1,b2,.sl _ _ _ r _ u g2 b3 (by rw[cK,dH];omega) (fun x hx=> ?_)⟩;exact(h4 x (dY (eM hx))).ext b1 (.refl _)
      .cases h
     .cases h
    .cases h
   .cases h
  .rename_i l sz si ci s c;split at h
   .rename_i sh ch hbh;split at h
    .rename_i s0 c0 hbl;split at h
     .rename_i z hz;split at h
      .rename_i hc;simp only[aA]at hc;obtain⟨⟨⟨⟨k0,k0'⟩,k1⟩,k2⟩,k3⟩:=hc;have k0:sz=z:=aB k0;split at h
       .rename_i q d hq;cases ha with
        |osl _ _ _ _ _ _ l' vi w g1 g2 g3 g4 g5=>
         obtain⟨h',r1,r2⟩:=xA hhi g4 hbh;obtain⟨l0,r3,r4⟩:=xA hlo hs.zero hbl;have k1:=oS hs.cs k1 hs.zero r3;have k2:=oS hs.cs k2 r3 r1;have k3:=oS hs.cs k3 r1 g4;obtain⟨ρ',b1,b2,u,b3,b4⟩:=LF hs r3 r1 (by omega) k2;generalize FC n cs s0 c0 sh ch=bw at h b2 b3 b4;obtain⟨s1,c1,n1,cs1⟩:=bw;simp only at b2 b3 b4 h;have e1:=r2 (w+c).toNat (w+c).toNat (by omega) (by omega) (by omega);have e2:=r4 0 (h'+ch).toNat (by omega) (by omega) (by omega);obtain⟨m,u1,u2⟩:=NJ hs.zero g2 r3 hq;cases h;refine⟨.osl l' sz ((vi+ci).toNat+(l0+c0).toNat) ((h'+ch).toNat-(l0+c0).toNat),?_,ρ',b1,b2,?_⟩
         .simp only[wY,hu,e1,e2,hz];rw[if_pos k0.symm]
         .have a1:(vi+ci).toNat+(l0+c0).toNat=(m+d).toNat:=by omega
          have a2:(h'+ch).toNat-(l0+c0).toNat=(u+c1).toNat:=by omega
          rw[a1,a2];exact .osl _ _ _ _ _ _ l' m u g1 (b1 _ _ u1) (by omega) b3 (by omega)
        |osl0 _ _ _ _ _ _ vi w g1 g2 g3 g4 g5=>
         obtain⟨h',r1,r2⟩:=xA hhi g4 hbh;obtain⟨l0,r3,r4⟩:=xA hlo hs.zero hbl;have k1:=oS hs.cs k1 hs.zero r3;have k2:=oS hs.cs k2 r3 r1;have k3:=oS hs.cs k3 r1 g4;obtain⟨ρ',b1,b2,u,b3,b4⟩:=LF hs r3 r1 (by omega) k2;generalize FC n cs s0 c0 sh ch=bw at h b2 b3 b4;obtain⟨s1,c1,n1,cs1⟩:=bw;simp only at b2 b3 b4 h;have e1:=r2 0 0 (by omega) (by omega) (by omega);have e2:=r4 0 0 (by omega) (by omega) (by omega);obtain⟨m,u1,u2⟩:=NJ hs.zero g2 r3 hq;cases h;refine⟨.nils,?_,ρ',b1,b2,.osl0 _ _ _ _ _ _ m u g1 (b1 _ _ u1) (by omega) b3 (by omega)⟩;simp only[wY,hu,e1,e2,hz];rfl
       .cases h
      .cases h
     .cases h
    .cases h
   .cases h
  .cases h
 .cases h
theorem Fs{m:Nat}(h:(m:Int)<=9000000000000000000):FK .i64 (m:Int):=vO (by omega)
theorem aHb{P:fA}(hs:Sy ρ n cs){t:eX}{a:A}{x:T}(ha:Gm ρ μ a x){b:A}(h:aHa P cs t a=some b):∃r,zX P t x=some r/\Gm ρ μ b r:=by
 unfold aHa at h;split at h
 .have hu:=‹P.underlying t=_›;split at h
  .rename_i hl;cases h;cases ha;simp only[sU,aI]at hl;exact⟨_,by simp only[zX,hu],tC hs.zero (by omega) (Fs hl)⟩
  .cases h
 .have hu:=‹P.underlying t=_›;split at h
  .rename_i hk;cases h;cases ha with
   |str _ _ w l q1 q2=>
    have:=VQ hs.cs hs.zero hk q1;rw[<-q2]at this;exact⟨_,by simp only[zX,hu],tC q1 q2 this⟩
  .cases h
 .have hu:=‹P.underlying t=_›;cases h;cases ha;exact⟨.int .i64 0,by simp only[zX,hu],tC hs.zero (by omega) (vO (by omega))⟩
 .have hu:=‹P.underlying t=_›;split at h
  .rename_i hk;cases h;simp only[sU,aI]at hk;cases ha with
   |slk es _ xs h1 h2 h3=>
    have hi:=Fs hk;rw[h2]at hi;rcases h1 with⟨rfl,rfl⟩|⟨f,rfl⟩|⟨full,m,f,rfl,rfl⟩
    .exact⟨.int .i64 0,by simp only[zX,hu],tC hs.zero (by rw[h2];simp) (vO (by omega))⟩
    .exact⟨_,by simp only[zX,hu],tC hs.zero (by rw[h2];simp) hi⟩
    .simp only[dM,eC]at hi h2;exact⟨_,by simp only[zX,hu],tC hs.zero (by rw[h2];simp) hi⟩
  .cases h
 .have hu:=‹P.underlying t=_›;split at h
  .rename_i hk;cases h;cases ha with
   |sl _ _ _ _ xs w h1 q1 q2 _ =>
    have hi:=VQ hs.cs hs.zero hk q1;rw[<-q2]at hi;rcases h1 with⟨rfl,rfl⟩|⟨f,rfl⟩|⟨full,m,f,rfl,rfl⟩
    .exact⟨.int .i64 0,by simp only[zX,hu],tC q1 (by simpa using q2) (vO (by omega))⟩
    .exact⟨_,by simp only[zX,hu],tC q1 q2 hi⟩
    .simp only[dM,eC]at q2 hi;exact⟨_,by simp only[zX,hu],tC q1 q2 hi⟩
  .cases h
 .have hu:=‹P.underlying t=_›;split at h
  .rename_i hk;cases h;cases ha with
   |osl _ _ _ _ _ _ l' vi w g1 g2 g3 g4 g5=>
    have hi:=VQ hs.cs hs.zero hk g4;refine⟨_,by simp only[zX,hu];rfl,?_⟩;rw[Int.toNat_of_nonneg g5];exact tC g4 rfl hi
   |osl0 _ _ _ _ _ _ vi w g1 g2 g3 g4 g5=>
    exact⟨.int .i64 0,by simp only[zX,hu],tC g4 g5.symm (vO (by omega))⟩
  .cases h
 .have hu:=‹P.underlying t=_›;split at h
  .rename_i hk;cases h;cases ha with
   |sx _ _ full m f w q1 q2=>
    have hi:=VQ hs.cs hs.zero hk q1;rw[<-q2]at hi;exact⟨.int .i64 m,by simp only[zX,hu],tC q1 q2 hi⟩
  .cases h
 .have hu:=‹P.underlying t=_›;split at h
  .rename_i hl;cases h;simp only[sU,aI]at hl;exact⟨_,by simp only[zX,hu],tC hs.zero (by omega) (Fs hl)⟩
  .cases h
 .have hu:=‹P.underlying t=_›;cases h;cases ha;exact⟨.int .i64 0,by simp only[zX,hu],tC hs.zero (by omega) (vO (by omega))⟩
 .cases h
theorem aOh{P:fA}(hs:Sy ρ n cs){t:eX}{a:A}{x:T}(ha:Gm ρ μ a x){b:A}(h:bCp P cs t a=some b):∃r,zX P t x=some r/\Gm ρ μ b r:=aHb hs ha.unp h
theorem Il{s s':Nat}{c c' m w w':Int}{ρ':fI}(hs:Sy ρ n cs)(hw:ρ[s]? =some w)(hw':ρ[s']? =some w')(hm:m=w+c\/m=w'+c')(e1:rZ ρ ρ')(e2:ρ'[n]? =some m){r:List pO}(hr:pG ρ' r):∀k,k<=n->pG ρ' (aKb n cs s c s' c' r k)
 |0,_ =>hr
 |k+1,hk=>by
  unfold aKb;split
  .rename_i h;simp only[aA]at h;have hkl:k<ρ.length:=by rw[hs.len];omega
   have hy:ρ[k]? =some ρ[k]:=aC hkl;have q1:=oS hs.cs h.2.1 hy hw;have q2:=oS hs.cs h.2.2 hy hw';exact .cons ⟨_,_,e1 _ _ hy,e2,by omega⟩ (Il hs hw hw' hm e1 e2 hr k (by omega))
  .exact Il hs hw hw' hm e1 e2 hr k (by omega)
theorem aOs(hs:Sy ρ n cs){a b:A}{x y:T}(ha:Gm ρ μ a x)(hb:Gm ρ μ b y){v:AV}(h:aUs n cs a b=some v):∃r,aHq x y=some r/\VOk ρ μ v r:=by
 unfold aUs at h;split at h
 .rename_i k s c k' s' c';cases ha with
  |int _ _ _ w hw hi=>cases hb with
   |int _ _ _ w' hw' hi'=>
   split at h
   .cases h
   rename_i hk;have hk:k=k':=by simpa using hk
   subst hk;refine⟨_,rfl,?_⟩;split at h
   .rename_i hc;have:=oS hs.cs hc hw hw';cases h;rw[if_neg (by omega)];exact .here hs (tC hw rfl hi)
   .split at h
    .rename_i hc;have:=oS hs.cs hc hw' hw;cases h;have e:(if w'+c'<w+c then w'+c' else w+c)=w'+c':=by split<;>omega
     rw[e];exact .here hs (tC hw' rfl hi')
    .cases h;have hin:FK k (if w'+c'<w+c then w'+c' else w+c):=by split<;>assumption
     generalize he:(if w'+c'<w+c then w'+c' else w+c)=m at hin;have h1:m<=w+c/\m<=w'+c'/\(m=w+c\/m=w'+c'):=by rw[<-he];split<;>omega
     obtain⟨e1,e2,e3,e4⟩:=hs.new m;refine EQ hs hin (.cons ⟨m,w,e2,e1 _ _ hw,h1.1⟩ (.cons ⟨m,w',e2,e1 _ _ hw',h1.2.1⟩ (.cons ⟨m,0,e2,e4,by have:=hin.2;omega⟩ (.cons ⟨0,m,e4,e2,?_⟩ (Il hs hw hw' h1.2.2 e1 e2 (hs.cs.ext e1) n (aZ _))))));split
     .rename_i hc;simp only[aA]at hc;have q1:=oS hs.cs hc.1 hs.zero hw;have q2:=oS hs.cs hc.2 hs.zero hw';omega
     .have:=hin.1;omega
 .cases h
theorem aWi{s s':Nat}{c c' m w w':Int}{ρ':fI}(hs:Sy ρ n cs)(hw:ρ[s]? =some w)(hw':ρ[s']? =some w')(hm:m=w+c\/m=w'+c')(e2:ρ'[n]? =some m)(e4:ρ'[0]? =some 0){r:List pO}(hr:pG ρ' r):pG ρ' (ubM cs n s c s' c' r):=by
 unfold ubM;split
 .rename_i u u' h1 h2;have a1:=CH hs.zero hw hs.cs h1;have a2:=CH hs.zero hw' hs.cs h2;refine .cons ⟨_,_,e2,e4,?_⟩ hr;split
  .rename_i hc;simp only[sU,aI]at hc;omega
  .rename_i hc;simp only[sU,aI]at hc;omega
 .exact hr
theorem aOq(hs:Sy ρ n cs){a b:A}{x y:T}(ha:Gm ρ μ a x)(hb:Gm ρ μ b y){v:AV}(h:aUr n cs a b=some v):∃r,aHn x y=some r/\VOk ρ μ v r:=by
 unfold aUr at h;split at h
 .rename_i k s c k' s' c';cases ha with
  |int _ _ _ w hw hi=>cases hb with
   |int _ _ _ w' hw' hi'=>
   split at h
   .cases h
   rename_i hk;have hk:k=k':=by simpa using hk
   subst hk;refine⟨_,rfl,?_⟩;split at h
   .rename_i hc;have:=oS hs.cs hc hw hw';cases h;have e:(if w+c<w'+c' then w'+c' else w+c)=w'+c':=by split<;>omega
    rw[e];exact .here hs (tC hw' rfl hi')
   .split at h
    .rename_i hc;have:=oS hs.cs hc hw' hw;cases h;rw[if_neg (by omega)];exact .here hs (tC hw rfl hi)
    .cases h;have hin:FK k (if w+c<w'+c' then w'+c' else w+c):=by split<;>assumption
     generalize he:(if w+c<w'+c' then w'+c' else w+c)=m at hin;have h1:w+c<=m/\w'+c'<=m/\(m=w+c\/m=w'+c'):=by rw[<-he];split<;>omega
     obtain⟨e1,e2,e3,e4⟩:=hs.new m;exact EQ hs hin (.cons ⟨w,m,e1 _ _ hw,e2,by omega⟩ (.cons ⟨w',m,e1 _ _ hw',e2,by omega⟩ (.cons ⟨0,m,e4,e2,by have:=hin.1;omega⟩ (.cons ⟨m,0,e2,e4,by have:=hin.2;omega⟩ (aWi hs hw hw' h1.2.2 e2 e4 (hs.cs.ext e1))))))
 .cases h
theorem VJ{f:Nat->List pO->A->A->Option AV}{g:T->T->Option T}
  (hf:∀(ρ:fI) (n:Nat) (cs:List pO) (a b:A) (x y:T) (v:AV),Sy ρ n cs->Gm ρ μ a x->Gm ρ μ b y->f n cs a b=some v->∃r,g x y=some r/\VOk ρ μ v r):
  ∀(bs:List A) (ρ:fI) (n:Nat) (cs:List pO) (a:A) (x:T) (ys:eY) (v:AV),Sy ρ n cs->Gm ρ μ a x->pH ρ μ bs ys->Bt f n cs a bs=some v->∃r,FE g x ys=some r/\VOk ρ μ v r
 |[],ρ,n,cs,a,x,ys,v,hs,ha,hb,h=>by
  rw[hb.inv_nil];simp only[Bt]at h;cases h;exact⟨x,rfl,.here hs ha⟩
 |b::bs,ρ,n,cs,a,x,ys,v,hs,ha,hb,h=>by
  obtain⟨y,r,rfl,h1,h2⟩:=hb.inv_cons;simp only[Bt]at h;split at h
  .rename_i z n1 cs1 hz;obtain⟨q,e1,ρ1,e2,e3,e4⟩:=hf ρ n cs a b x y _ hs ha h1 hz;obtain⟨w,e5,ρ2,e6,e7,e8⟩:=VJ hf bs ρ1 n1 cs1 z q r v e3 e4 (h2.ext e2 (.refl _)) h;exact⟨w,by simp only[FE,e1];exact e5,ρ2,e2.trans e6,e7,e8⟩
  .cases h
theorem KO{a_s bs:List A}{ts us:eY}(h:pH ρ μ a_s ts)(h':pH ρ μ bs us)(off:Nat):pH ρ μ (NF a_s off bs) (qT ts off us):=by
 unfold NF qT;rw[h'.1];exact((h.take off).app h').app (h.drop _)
theorem VC{place:iL}:∀(ps:List (Nat×A)) (qs:gN) (a_s:List A) (ts:eY) (bs:List A),ps.map Prod.fst=qs.map Prod.fst->pH ρ μ (ps.map Prod.snd) (qs.map Prod.snd)->pH ρ μ a_s ts->Bp place a_s ps=some bs->
  ∃us,JA place ts qs=some us/\pH ρ μ bs us
 |[],[],a_s,ts,bs,_,_,h,he=>by simp only[Bp]at he;cases he;exact⟨ts,rfl,h⟩
 |(i,a)::ps,(j,t)::qs,a_s,ts,bs,h1,h2,h,he=>by
  simp only[cG,dW]at h1 h2;obtain⟨rfl,h1⟩:=h1;simp only[Bp]at he;split at he
  .cases he
  .rename_i off size hp;split at he
   .rename_i hc;obtain⟨c1,c2,c3⟩:=hc;obtain⟨_,k2⟩:=qQ h2.head c1;obtain⟨us,g1,g2⟩:=VC ps qs _ _ bs h1 h2.tail (KO h k2 off) he;refine⟨us,?_,g2⟩;simp only[JA,hp];rw[if_pos ⟨by rw[<-k2.1];exact c2,by rw[<-h.1];exact c3⟩];exact g1
   .cases he
 |[],_ ::_,_,_,_,h,_,_,_ =>by simp at h|_ ::_,[],_,_,_,h,_,_,_ =>by simp at h
theorem Gq{v:fP}{a:A}(h:GW v=some a):a.known=true:=by
 unfold GW at h;split at h
 .split at h
  .cases h;rfl
  .cases h
 .split at h
  .cases h;rfl
  .cases h
 .unfold IH at h;split at h<;>first|(cases h;rfl)|cases h|skip
  split at h<;>cases h;rfl
theorem Pk{P:fA}{t:eX}{a:A}(h:HL P t=some a):a.known=true:=by
 unfold HL at h;split at h
 .split at h
  .exact Gq h
  .cases h
 .cases h
theorem Yu{P:fA}(h0:ρ[0]? =some 0){t:eX}{ps:List (Nat×A)}{qs:gN}(h1:ps.map Prod.fst=qs.map Prod.fst)(h2:pH ρ μ (ps.map Prod.snd) (qs.map Prod.snd)){b:A}(h:Qf P t ps=some b):
  ∃r,NT P t qs=some r/\Gm ρ μ b r:=by
 unfold Qf at h;split at h
 .rename_i z hz;obtain⟨z',e1,e2⟩:=BF (ρ:=ρ) (μ:=μ) h0 hz;obtain⟨_,k2⟩:=qQ e2 (Pk hz);unfold NT;rw[e1];simp only;split at h
  .rename_i fs hu;rw[hu];simp only;split at h
   .rename_i pl hpl;rw[hpl];obtain⟨us,g,rfl⟩:=aF.1 h;obtain⟨vs,g1,g2⟩:=VC ps qs _ _ us h1 h2 k2 g;exact⟨.agg vs,by simp only[g1];rfl,.agg _ _ g2.1 g2.2⟩
   .cases h
  .rename_i e hu;rw[hu];simp only;split at h
   .rename_i s hsz;rw[hsz];obtain⟨us,g,rfl⟩:=aF.1 h;obtain⟨vs,g1,g2⟩:=VC ps qs _ _ us h1 h2 k2 g;exact⟨.agg vs,by simp only[g1];rfl,.agg _ _ g2.1 g2.2⟩
   .cases h
  .cases h
 .cases h
theorem QU:∀{a_s:List A} {a:A},DF.allSome a_s=true->a∈a_s->∃f x y,a= .fn f x y
 |b::bs,a,h,hm=>by
  cases b<;>simp only[DF.allSome]at h<;>try(cases h;done)
  rcases aU.1 hm with rfl|hm
  .exact⟨_,_,_,rfl⟩
  .exact QU h hm
theorem Gk{a:A}{x:T}(ha:Gm ρ μ a x){b:A}(h:DF a=some b):∃r,IG x=some r/\Gm ρ μ b r:=by
 cases a<;>simp only[DF]at h<;>try(cases h;done)
 case ptr=>cases h;cases ha with|ptr _ _ l' hl=>exact⟨_,rfl,.ptr _ _ l' hl⟩
 case elp=>cases h;cases ha with|elp _ _ _ _ _ l' w h1 h2 h3=>exact⟨_,rfl,.elp _ _ _ _ _ l' w h1 h2 h3⟩
 case ref=>cases h;cases ha with|ref _ t _ h1 h2=>exact⟨_,rfl,.ref _ t _ h1 h2⟩
 case fn=>cases h;cases ha with|fn _ _ _ a' b' h1 h2 h3 h4=>exact⟨_,rfl,.fn _ _ _ a' b' h1 h2 h3 h4⟩
 case iface=>cases h;cases ha with|iface _ _ y h1=>exact⟨_,rfl,.iface _ _ y h1⟩
 case or a_s=>
  split at h
  .rename_i hs;cases h;cases ha with
   |or _ c _ hm hc=>
    obtain⟨f,p,q,rfl⟩:=QU hs hm;cases hc with
    |fn _ _ _ a' b' h1 h2 h3 h4=>exact⟨_,rfl,.or _ _ _ hm (.fn _ _ _ a' b' h1 h2 h3 h4)⟩
  .cases h
end
end Go.Ps
namespace Go.Ps
variable[Inhabited Prd]
section
variable{ρ ρ':fI}{μ μ':fB}{n:Nat}{cs:List pO}{X:AX}{gl:fD}{pe:fK}
theorem aHs{a b:Nat}(h:Nat.beq a b=true):a=b:=aB h
theorem sA:∀(hp:fJ) (l m:Nat) (o:AO),oO (AB hp l o) m=if l=m then(oO hp l).map (fun _ =>o)else oO hp m
 |[],l,m,o=>by simp[AB,oO]
 |(k,q)::r,l,m,o=>by
  have ih:=sA r l m o;by_cases hk:k=l
  .by_cases hm:k=m
   .simp[AB,oO,<-hk,<-hm]
   .have:¬l=m:=fun e=>hm (hk.trans e);simp[AB,oO,hk,this,ih]
  .by_cases hm:k=m
   .have:¬l=m:=fun e=>hk (hm.trans e.symm);simp[AB,oO,hk,hm,this];simp[<-hm,hk,oO]
   .simp[AB,oO,hk,hm,ih]
theorem AY:∀(hp:fJ) (l m:Nat),oO (vL hp l) m=if l=m then none else oO hp m
 |[],l,m=>by simp[vL,oO]
 |(k,q)::r,l,m=>by
  have ih:=AY r l m;by_cases hk:k=l
  .by_cases hm:k=m
   .subst hk;subst hm;simp[vL];simpa using ih
   .have:¬l=m:=fun e=>hm (hk.trans e);simp[vL,oO,hk,this,ih]
  .by_cases hm:k=m
   .have:¬l=m:=fun e=>hk (hm.trans e.symm);simp[vL,oO,hk,hm,this];simp[<-hm,hk,oO]
   .simp[vL,oO,hk,hm,ih]
variable{hp:fJ}{nl:Nat}{H:Hp}
theorem GH.extM(hh:GH hp nl ρ μ H)(y:gD):∀l o,oO hp l=some o->∃q,(μ++[y])[l]? =some q/\μ[l]? =some q/\∀x,q=some x->∃b,Gp o H x=some b/\Pq ρ (μ++[y]) o b:=fun l o hl=>by
 obtain⟨q,h1,h2⟩:=hh.obj l o hl;exact⟨q,rZ.app _ _ _ _ h1,h1,fun x hx=>by obtain⟨b,h3,h4⟩:=h2 x hx;exact⟨b,h3,h4.ext (.refl _) (.app _ _)⟩⟩
theorem rR{α:Type}{l:List α}{m:Nat}(h:l.length=m)(y:α):(l++[y])[m]? =some y:=by subst h;simp
theorem uY{α:Type}{l:List α}{m:Nat}(h:l.length=m){y z:α}{j:Nat}(hj:(l++[y])[j]? =some z):(j=m/\y=z)\/(j<m/\l[j]? =some z):=by
 subst h;rw[dC]at hj;split at hj
 .exact .inr ⟨‹_›,hj⟩
 .rename_i hlt;have:j=l.length:=by
   have:=(aK.1 hj).1;simp at this;omega
  subst this;simp at hj;exact .inl ⟨rfl,hj⟩
theorem XB{o:AO}{b:Ob}(h:Pq ρ μ o b)(hme:b.me=none):o.plain=true:=by
 cases o with
 |loop=>obtain⟨r,h1,_⟩:=h;rw[hme]at h1;cases h1
 |map=>obtain⟨c,ms,h1,_⟩:=h;rw[hme]at h1;cases h1
 |_ =>rfl
theorem Mi{q:AO}{b:Ob}{x:Nat}(hx:x<H.next):Gp q (H.new b) x=Gp q H x:=by
 have h1:(H.new b).any x=H.any x:=by rw[uG,if_neg (by omega)]
 cases q<;>first|exact h1|exact PG h1
theorem Mj{q:AO}{b:Ob}{x z:Nat}(hz:z≠x):Gp q (H.put x b) z=Gp q H z:=by
 have h1:(H.put x b).any z=H.any z:=by rw[uH,if_neg hz]
 cases q<;>first|exact h1|exact PG h1
theorem GH.new(hh:GH hp nl ρ μ H){o:AO}{b:Ob}(hb:Pq ρ (μ++[some H.next]) o b)(hme:b.me=none:=by rfl):GH ((nl,o)::hp) (nl+1) ρ (μ++[some H.next]) (H.new b):=by
 refine⟨by simp[hh.len],fun l q hl=> ?_,fun l l' q q' x hl hl' hx hx'=> ?_,fun l x hx=> ?_,fun l e xs hl=> ?_,Vg hh.fin b⟩
 .simp only[oO]at hl;split at hl
  .rename_i e;have e:=aB e;subst e;cases hl;exact⟨some H.next,rR hh.len _,fun x hx=>by cases hx;exact⟨b,by rw[ES (XB hb hme),Qy _ _ _ hme,if_pos rfl],hb⟩⟩
  .obtain⟨y,h1,h2,h3⟩:=hh.extM (some H.next) l q hl;refine⟨y,h1,fun x hx=> ?_⟩;obtain⟨c,h4,h5⟩:=h3 x hx;subst hx;exact⟨c,by rw[Mi (hh.lt l x h2)];exact h4,h5⟩
 .rcases uY hh.len hx with⟨e1,e2⟩|⟨e1,e2⟩
  .rcases uY hh.len hx' with⟨e3,e4⟩|⟨e3,e4⟩
   .omega
   .have:=hh.lt _ _ e4;cases e2;omega
  .rcases uY hh.len hx' with⟨e3,e4⟩|⟨e3,e4⟩
   .have:=hh.lt _ _ e2;cases e4;omega
   .simp only[oO]at hl hl';rw[if_neg (by simp;omega)]at hl hl';exact hh.inj l l' q q' x hl hl' e2 e4
 .rcases uY hh.len hx with⟨e1,e2⟩|⟨e1,e2⟩
  .cases e2;simp[Hp.new]
  .have:=hh.lt _ _ e2;simp[Hp.new];omega
 .simp only[oO]at hl;split at hl
  .rename_i e0;have e0:=aHs e0;subst e0;exact⟨_,rR hh.len _⟩
  .obtain⟨x,hx⟩:=hh.fixp l e xs hl;exact⟨x,rZ.app _ _ _ _ hx⟩
theorem GH.alias(hh:GH hp nl ρ μ H){o:AO}{y:gD}(hnf:∀e xs,o≠ .fix e xs)(hb:∀x,y=some x->x<H.next/\(∀l q,oO hp l=some q->μ[l]? ≠some (some x))/\∃b,H.get x=some b/\Pq ρ (μ++[y]) o b):GH ((nl,o)::hp) (nl+1) ρ (μ++[y]) H:=by
 refine⟨by simp[hh.len],fun l q hl=> ?_,fun l l' q q' x hl hl' hx hx'=> ?_,fun l x hx=> ?_,fun l e xs hl=> ?_,hh.fin⟩
 .simp only[oO]at hl;split at hl
  .rename_i e;have e:=aB e;subst e;cases hl;exact⟨y,rR hh.len _,fun x hx=>by obtain⟨b,h1,h2⟩:=(hb x hx).2.2;exact⟨b,by rw[ES (XB h2 (pJ h1).2)];exact h1,h2⟩⟩
  .obtain⟨y',h1,h2,h3⟩:=hh.extM y l q hl;exact⟨y',h1,h3⟩
 .have old:∀{l:Nat} {q:AO},l<nl->oO ((nl,o)::hp) l=some q->oO hp l=some q:=fun h1 h2=>by
   simp only[oO]at h2;rw[if_neg (by simp;omega)]at h2;exact h2
  rcases uY hh.len hx with⟨e1,e2⟩|⟨e1,e2⟩
  .rcases uY hh.len hx' with⟨e3,e4⟩|⟨e3,e4⟩
   .omega
   .exact absurd e4 ((hb x e2).2.1 l' q' (old e3 hl'))
  .rcases uY hh.len hx' with⟨e3,e4⟩|⟨e3,e4⟩
   .exact absurd e2 ((hb x e4).2.1 l q (old e1 hl))
   .exact hh.inj l l' q q' x (old e1 hl) (old e3 hl') e2 e4
 .rcases uY hh.len hx with⟨e1,e2⟩|⟨e1,e2⟩
  .exact(hb x e2).1
  .exact hh.lt _ _ e2
 .simp only[oO]at hl;split at hl
  .cases hl;exact absurd rfl (hnf _ _)
  .obtain⟨x,hx⟩:=hh.fixp l e xs hl;exact⟨x,rZ.app _ _ _ _ hx⟩
theorem GH.sub(hh:GH hp nl ρ μ H){hp':fJ}(h:∀l o,oO hp' l=some o->oO hp l=some o):GH hp' nl ρ μ H:=
 ⟨hh.len,fun l o hl=>hh.obj l o (h l o hl),fun l l' q q' x hl hl'=>hh.inj l l' q q' x (h _ _ hl) (h _ _ hl'),hh.lt,fun l e xs hl=>hh.fixp l e xs (h _ _ hl),hh.fin⟩
theorem GH.put(hh:GH hp nl ρ μ H){l x:Nat}{o o':AO}{b b':Ob}(hl:oO hp l=some o)(hx:μ[l]? =some (some x))(hg:H.get x=some b)(ho:Pq ρ μ o' b')(hme:b'.me=none:=by rfl):GH (AB hp l o') nl ρ μ (H.put x b'):=by
 refine⟨hh.len,fun m q hm=> ?_,fun m m' q q' y hm hm' hy hy'=> ?_,fun m y hy=>hh.lt m y hy,fun m e xs hm=> ?_,Vh hh.fin (hh.lt l x hx) _⟩
 .rw[sA]at hm;split at hm
  .rename_i e;subst e;rw[hl]at hm;cases hm;refine⟨some x,hx,fun y hy=> ?_⟩;cases hy;exact⟨b',by rw[ES (XB ho hme),get_put _ _ _ _ hme,if_pos rfl],ho⟩
  .rename_i hne;obtain⟨y,h1,h2⟩:=hh.obj m q hm;refine⟨y,h1,fun z hz=> ?_⟩;obtain⟨c,h3,h4⟩:=h2 z hz;subst hz;have:z≠x:=fun e=>by subst e;exact hne (hh.inj l m o q z hl hm hx h1)
   exact⟨c,by rw[Mj this];exact h3,h4⟩
 .have old:∀{m:Nat} {q:AO},oO (AB hp l o') m=some q->∃q,oO hp m=some q:=fun{m q} h=>by
   rw[sA]at h;split at h
   .rename_i e;subst e;exact⟨o,hl⟩
   .exact⟨q,h⟩
  obtain⟨p,hp1⟩:=old hm;obtain⟨p',hp2⟩:=old hm';exact hh.inj m m' p p' y hp1 hp2 hy hy'
 .rw[sA]at hm;split at hm
  .rename_i e0;subst e0;exact⟨x,hx⟩
  .exact hh.fixp m e xs hm
theorem GH.dropR(hh:GH hp nl ρ μ H){l x:Nat}{o:AO}(hl:oO hp l=some o)(hx:μ[l]? =some (some x)):GH (vL hp l) nl ρ μ (H.drop x):=by
 have old:∀{m:Nat} {q:AO},oO (vL hp l) m=some q->l≠m/\oO hp m=some q:=fun{m q} h=>by
  rw[AY]at h;split at h
  .cases h
  .exact⟨‹_›,h⟩
 refine⟨hh.len,fun m q hm=> ?_,fun m m' q q' y hm hm' hy hy'=>hh.inj m m' q q' y (old hm).2 (old hm').2 hy hy',fun m y hy=>hh.lt m y hy,fun m e xs hm=>hh.fixp m e xs (old hm).2,aFq hh.fin _⟩;obtain⟨hne,hm⟩:=old hm;obtain⟨y,h1,h2⟩:=hh.obj m q hm;refine⟨y,h1,fun z hz=> ?_⟩;obtain⟨c,h3,h4⟩:=h2 z hz;subst hz;have:z≠x:=fun e=>by subst e;exact hne (hh.inj l m o q z hl hm hx h1)
 refine⟨c,?_,h4⟩;have ha:(H.drop x).any z=H.any z:=by rw[sJ,if_neg this]
 have:Gp q (H.drop x) z=Gp q H z:=by cases q<;>first|exact ha|exact PG ha
 rw[this];exact h3
theorem GH.newL{hp:fJ}{nl:Nat}{H:Hp}(hh:GH hp nl ρ μ H){o:AO}{b:Ob}(hb:Pq ρ (μ++[some H.next]) o b)(ho:o.plain=false):GH ((nl,o)::hp) (nl+1) ρ (μ++[some H.next]) (H.new b):=by
 refine⟨by simp[hh.len],fun l q hl=> ?_,fun l l' q q' x hl hl' hx hx'=> ?_,fun l x hx=> ?_,fun l e xs hl=> ?_,Vg hh.fin b⟩
 .simp only[oO]at hl;split at hl
  .rename_i e;have e:=aB e;subst e;cases hl;refine⟨some H.next,rR hh.len _,fun x hx=> ?_⟩;cases hx;refine⟨b,?_,hb⟩;have:(H.new b).any H.next=some b:=by rw[uG,if_pos rfl]
   cases o<;>first|exact this|cases ho
  .obtain⟨y,h1,h2,h3⟩:=hh.extM (some H.next) l q hl;refine⟨y,h1,fun x hx=> ?_⟩;obtain⟨c,h4,h5⟩:=h3 x hx;subst hx;exact⟨c,by rw[Mi (hh.lt l x h2)];exact h4,h5⟩
 .rcases uY hh.len hx with⟨e1,e2⟩|⟨e1,e2⟩
  .rcases uY hh.len hx' with⟨e3,e4⟩|⟨e3,e4⟩
   .omega
   .have:=hh.lt _ _ e4;cases e2;omega
  .rcases uY hh.len hx' with⟨e3,e4⟩|⟨e3,e4⟩
   .have:=hh.lt _ _ e2;cases e4;omega
   .simp only[oO]at hl hl';rw[if_neg (by simp;omega)]at hl hl';exact hh.inj l l' q q' x hl hl' e2 e4
 .rcases uY hh.len hx with⟨e1,e2⟩|⟨e1,e2⟩
  .cases e2;simp[Hp.new]
  .have:=hh.lt _ _ e2;simp[Hp.new];omega
 .simp only[oO]at hl;split at hl
  .cases hl;cases ho
  .obtain⟨x,hx⟩:=hh.fixp l e xs hl;exact⟨x,rZ.app _ _ _ _ hx⟩
theorem GH.putL{hp:fJ}{nl:Nat}{H:Hp}(hh:GH hp nl ρ μ H){l x:Nat}{o o':AO}{b':Ob}(hl:oO hp l=some o)(hx:μ[l]? =some (some x))(ho:Pq ρ μ o' b')(hp':o'.plain=false):GH (AB hp l o') nl ρ μ (H.put x b'):=by
 refine⟨hh.len,fun m q hm=> ?_,fun m m' q q' y hm hm' hy hy'=> ?_,fun m y hy=>hh.lt m y hy,fun m e xs hm=> ?_,Vh hh.fin (hh.lt l x hx) _⟩
 .rw[sA]at hm;split at hm
  .rename_i e;subst e;rw[hl]at hm;cases hm;refine⟨some x,hx,fun y hy=> ?_⟩;cases hy;refine⟨b',?_,ho⟩;have:(H.put x b').any x=some b':=by rw[uH,if_pos rfl]
   cases o'<;>first|exact this|cases hp'
  .rename_i hne;obtain⟨y,h1,h2⟩:=hh.obj m q hm;refine⟨y,h1,fun z hz=> ?_⟩;obtain⟨c,h3,h4⟩:=h2 z hz;subst hz;have:z≠x:=fun e=>by subst e;exact hne (hh.inj l m o q z hl hm hx h1)
   exact⟨c,by rw[Mj this];exact h3,h4⟩
 .have old:∀{m:Nat} {q:AO},oO (AB hp l o') m=some q->∃q,oO hp m=some q:=fun{m q} h=>by
   rw[sA]at h;split at h
   .rename_i e;subst e;exact⟨o,hl⟩
   .exact⟨q,h⟩
  obtain⟨p,hp1⟩:=old hm;obtain⟨p',hp2⟩:=old hm';exact hh.inj m m' p p' y hp1 hp2 hy hy'
 .rw[sA]at hm;split at hm
  .rw[hl]at hm;cases hm;cases hp'
  .exact hh.fixp m e xs hm
end
end Go.Ps
namespace Go.Ps
variable[Inhabited Prd]
section
variable{ρ ρ':fI}{μ μ':fB}{n:Nat}{cs:List pO}
theorem oM{a b:Nat}(h:Nat.beq a b=true):a=b:=aB h
theorem pQ{a b:Nat}(h:Nat.blt a b=true):a<b:=by simpa [Nat.blt,Nat.lt_iff_add_one_le]using h
theorem aLo:∀{a b:pO},Yr a b=true->a=b
 | .le x y c,.le x' y' c',h=>by
  simp only[Yr,aA,beq_iff_eq]at h;rw[oM h.1,oM h.2.1,h.2.2]
 | .ne x y c,.ne x' y' c',h=>by
  simp only[Yr,aA,beq_iff_eq]at h;rw[oM h.1,oM h.2.1,h.2.2]
 | .le ..,.ne ..,h=>by simp[Yr]at h| .ne ..,.le ..,h=>by simp[Yr]at h
theorem UB:∀{a b:List pO},UA a b=true->a=b
 |[],[],_ =>rfl
 |a::a_s,b::bs,h=>by
  simp only[UA,aA]at h;rw[aLo h.1,UB h.2]
 |[],_ ::_,h=>by simp[UA]at h|_ ::_,[],h=>by simp[UA]at h
theorem aLn:∀{a b:Bo},Yq a b=true->a=b
 | .lit a,.lit b,h=>by simp only[Yq,beq_iff_eq]at h;rw[h]
 | .imp p q,.imp p' q',h=>by
  simp only[Yq,aA]at h;rw[UB h.1,UB h.2]
 | .lit _,.imp ..,h=>by simp[Yq]at h| .imp ..,.lit _,h=>by simp[Yq]at h
theorem Ei:∀{a b:fV},Qa a b=true->a=b
 |[],[],_ =>rfl
 |a::a_s,b::bs,h=>by
  simp only[Qa,aA,beq_iff_eq]at h;rw[h.1,Ei h.2]
 |[],_ ::_,h=>by simp[Qa]at h|_ ::_,[],h=>by simp[Qa]at h
theorem BS{f:A->A->Bool}(hf:∀a b,f a b=true->a=b):∀{a_s bs:List A},zE f a_s bs=true->a_s=bs
 |[],[],_ =>rfl
 |a::a_s,b::bs,h=>by
  simp only[zE,aA]at h;rw[hf _ _ h.1,BS hf h.2]
 |[],_ ::_,h=>by simp[zE]at h|_ ::_,[],h=>by simp[zE]at h
theorem HP:∀(k:Nat) (a b:A),CB k a b=true->a=b
 |0,_,_,h=>by simp[CB]at h
 |k+1,a,b,h=>by
  have ih:=HP k;unfold CB at h;split at h<;>try rfl
  all_goals(try simp only[aA,beq_iff_eq]at h)
  .obtain⟨h1,h2,h3⟩:=h;rw[h1,oM h2,h3]
  .obtain⟨h1,h2,h3⟩:=h;rw[h1,h2,h3]
  .rw[aLn h]
  .rw[Ei h]
  .rw[oM h.1,h.2]
  .rw[h.1,h.2]
  .rw[oM h]
  .rw[oM h.1,oM h.2]
  .obtain⟨h1,h2,h3,h4,h5⟩:=h;rw[oM h1,oM h2,oM h3,h4,oM h5]
  .rw[ih _ _ h.1,oM h.2]
  .obtain⟨h1,h2,h3⟩:=h;rw[ih _ _ h1,oM h2,h3]
  .rw[oM h.1,h.2]
  .rw[h.1,h.2]
  .obtain⟨h1,h2,h3⟩:=h;rw[ih _ _ h1,h2,h3]
  .obtain⟨h1,h2,h3,h4,h5,h6⟩:=h;rw[oM h1,oM h2,oM h3,h4,oM h5,h6]
  .obtain⟨h1,h2,h3⟩:=h;rw[oM h1,BS ih h2,BS ih h3]
  .rw[oM h.1,ih _ _ h.2]
  .rw[BS ih h]
  .rw[BS ih h]
  .rw[BS ih h]
  .rw[BS ih h]
  .rw[oM h.1,BS ih h.2]
  .rw[oM h]
  .obtain⟨h1,h2,h3,h4⟩:=h;rw[oM h1,ih _ _ h2,oM h3,h4]
  .obtain⟨h1,h2,h3,h4⟩:=h;rw[oM h1,ih _ _ h2,h3,h4]
  .cases h
theorem qB{f:A->Bool}:∀{a_s:List A},BT f a_s=true->∀a∈a_s,f a=true
 |b::bs,h,a,hm=>by
  simp only[BT,aA]at h;rcases aU.1 hm with rfl|hm
  .exact h.1
  .exact qB h.2 a hm
theorem qH{α:Type}{l:List α}{m j:Nat}{v:α}(h:l[j]? =some v)(hj:j<m):(l.take m)[j]? =some v:=by
 rw[bD,if_pos hj];exact h
theorem MO:∀{qs:List pO},WT n qs=true->pG ρ qs->pG (ρ.take n) qs
 |[],_,_ =>pG.nil
 | .le x y c::r,h,hq=>by
  simp only[WT,aA]at h;obtain⟨a,b,h1,h2,h3⟩:=hq _ aR;exact .cons ⟨a,b,qH h1 (pQ h.1),qH h2 (pQ h.2.1),h3⟩ (MO h.2.2 (fun q hm=>hq q (aJ _ hm)))
 | .ne x y c::r,h,hq=>by
  simp only[WT,aA]at h;obtain⟨a,b,h1,h2,h3⟩:=hq _ aR;exact .cons ⟨a,b,qH h1 (pQ h.1),qH h2 (pQ h.2.1),h3⟩ (MO h.2.2 (fun q hm=>hq q (aJ _ hm)))
theorem Gt(n l:Nat):∀(k:Nat) (a:A) (t:T),uA n l k a=true->Gm ρ μ a t->Gm (ρ.take n) (μ.take l) a t
 |0,_,_,h,_ =>by simp[uA]at h
 |k+1,a,t,h,hg=>by
  have ih:=Gt n l k;cases hg with
  |top t=>exact .top t|any t h=>exact .any t h|int k s c v h1 h2=>exact .int k s c v (qH h1 (pQ (by simpa [uA]using h))) h2|ival k lo hi m h1 h2 h3=>exact .ival k lo hi m h1 h2 h3
  |bool B b hb=>
   refine .bool B b ?_;cases B with
   |lit x=>exact hb
   |imp p q=>
    simp only[uA,aA]at h;exact⟨fun e=>MO h.1 (hb.1 e),fun e=>MO h.2 (hb.2 e)⟩
  |strc s=>exact .strc s|str s c v l h1 h2=>exact .str s c v l (qH h1 (pQ (by simpa [uA]using h))) h2|strv lo hi l h1 h2=>exact .strv lo hi l h1 h2|nilp=>exact .nilp|nils=>exact .nils|nilf=>exact .nilf|nili=>exact .nili|nilm=>exact .nilm|mp l l' h1=>exact .mp l l' (qH h1 (pQ (by simpa [uA]using h)))|yl l l' h1=>exact .yl l l' (qH h1 (pQ (by simpa [uA]using h)))|ptr l off l' h1=>exact .ptr l off l' (qH h1 (pQ (by simpa [uA]using h)))
  |elp l sz s c off l' v h1 h2 h3=>
   simp only[uA,aA]at h;exact .elp l sz s c off l' v (qH h1 (pQ h.1)) (qH h2 (pQ h.2)) h3
  |ref x t off h1 h2=>exact .ref x t off h1 (ih _ _ (by simpa [uA]using h) h2)
  |sl e s c t xs v h1 h2 h3 h4=>
   simp only[uA,aA]at h;exact .sl e s c t xs v h1 (qH h2 (pQ h.2)) h3 (fun x hx=>ih _ _ h.1 (h4 x hx))
  |slv e lo hi t xs h1 h2 h3 h4=>exact .slv e lo hi t xs h1 h2 h3 (fun x hx=>ih _ _ (by simpa [uA]using h) (h4 x hx))
  |slp q e s c t xs v h0 h1 h2 h3 h4=>
   simp only[uA,aA]at h;exact .slp q e s c t xs v h0 h1 (qH h2 (pQ h.2)) h3 (fun x hx=>ih _ _ h.1 (h4 x hx))
  |slpv q e lo hi t xs h0 h1 h2 h3 h4=>exact .slpv q e lo hi t xs h0 h1 h2 h3 (fun x hx=>ih _ _ (by simpa [uA]using h) (h4 x hx))|slk es t xs h1 h2 h3=>exact .slk es t xs h1 h2 (fun j a t ha ht=>ih _ _ (qB (by simpa [uA]using h) a (bB ha)) (h3 j a t ha ht))|sx s c full m f v h1 h2=>exact .sx s c full m f v (qH h1 (pQ (by simpa [uA]using h))) h2|sxv lo hi full m f h1 h2=>exact .sxv lo hi full m f h1 h2
  |osl l sz si ci s c l' vi v h1 h2 h3 h4 h5=>
   simp only[uA,aA]at h;exact .osl l sz si ci s c l' vi v (qH h1 (pQ h.1)) (qH h2 (pQ h.2.1)) h3 (qH h4 (pQ h.2.2)) h5
  |osl0 l sz si ci s c vi v h1 h2 h3 h4 h5=>
   simp only[uA,aA]at h;exact .osl0 l sz si ci s c vi v (qH h1 (pQ h.1)) (qH h2 (pQ h.2.1)) h3 (qH h4 (pQ h.2.2)) h5
  |fn f a_s bs as' bs' h1 h2 h3 h4=>
   simp only[uA,aA]at h;exact .fn f a_s bs as' bs' h1 (fun j a t ha ht=>ih _ _ (qB h.1 a (bB ha)) (h2 j a t ha ht)) h3 (fun j a t ha ht=>ih _ _ (qB h.2 a (bB ha)) (h4 j a t ha ht))
  |iface t x y h1=>exact .iface t x y (ih _ _ (by simpa [uA]using h) h1)|ifc t x=>exact .ifc t x|or a_s a t hm h1=>exact .or a_s a t hm (ih _ _ (qB (by simpa [uA]using h) a hm) h1)|agg a_s ts h1 h2=>exact .agg a_s ts h1 (fun j a t ha ht=>ih _ _ (qB (by simpa [uA]using h) a (bB ha)) (h2 j a t ha ht))|prd q a_s ts h0 h1 h2=>exact .prd q a_s ts h0 h1 (fun j a t ha ht=>ih _ _ (qB (by simpa [uA]using h) a (bB ha)) (h2 j a t ha ht))|tup a_s ts h1 h2=>exact .tup a_s ts h1 (fun j a t ha ht=>ih _ _ (qB (by simpa [uA]using h) a (bB ha)) (h2 j a t ha ht))
theorem Ge{f:A->Bool}:∀{a_s:List A},lSm f a_s=true->∃a∈a_s,f a=true
 |b::bs,h=>by
  simp only[lSm,bG]at h;rcases h with h|h
  .exact⟨b,aR,h⟩
  .obtain⟨a,h1,h2⟩:=Ge h;exact⟨a,aJ _ h1,h2⟩
theorem zV{f:A->A->Bool}{ρ1 ρ2:fI}{μ1 μ2:fB}(hf:∀a t x,f a t=true->Gm ρ1 μ1 a x->Gm ρ2 μ2 t x):
  ∀{a_s ts:List A} {xs:eY},zE f a_s ts=true->pH ρ1 μ1 a_s xs->pH ρ2 μ2 ts xs
 |[],[],xs,_,h=>by rw[h.inv_nil];exact .nil
 |a::a_s,t::ts,xs,h,hg=>by
  simp only[zE,aA]at h;obtain⟨x,r,rfl,h1,h2⟩:=hg.inv_cons;exact pH.cons (hf _ _ _ h.1 h1) (zV hf h.2 h2)
 |[],_ ::_,_,h,_ =>by simp[zE]at h|_ ::_,[],_,h,_ =>by simp[zE]at h
theorem xR(hc:pG ρ cs)(h0:ρ[0]? =some 0)(n l:Nat):∀(k:Nat) (a t:A) (x:T),JC cs n l k a t=true->Gm ρ μ a x->Gm (ρ.take n) (μ.take l) t x
 |0,_,_,_,h,_ =>by simp[JC]at h
 |k+1,a,t,x,h,hg=>by
  have ih:=xR hc h0 n l k;have fin:∀{t:A},(CB qX a t&&uA n l qX t)=true->Gm (ρ.take n) (μ.take l) t x:=by
   intro t h;simp only[aA]at h;have:=HP _ _ _ h.1;subst this;exact Gt n l _ _ _ h.2 hg
  unfold JC at h;split at h
  .rename_i q a_s hp;cases a<;>simp only[aRh]at hp<;>try(cases hp;done)
   cases hp;cases hg with
   |prd _ _ ts g0 g1 g2=>
   split at h
   .simp only[aA]at h;have:=oM h.1;subst this;have:=zV ih h.2 ⟨g1,g2⟩;exact .prd _ _ _ g0 this.1 this.2
   .exact ih _ _ _ h (.agg _ _ g1 g2)
  split at h
  .rename_i q e s c hp;cases a<;>simp only[aRm]at hp<;>try(cases hp;done)
   cases hp;cases hg with
   |slp _ _ _ _ _ xs v g0 g1 g2 g3 g4=>
   split at h
   .simp only[aA]at h;have:=oM h.1;subst this;have h1:=oS hc h.2.2.1 h0 g2;have h2:=oS hc h.2.2.2 g2 h0;refine .slpv _ _ _ _ _ xs g0 g1 (by omega) (by omega) (fun x hx=> ?_);rcases bG _ _ |>.mp h.2.1 with q|q
    .have:=oS hc q g2 h0;have:xs=[]:=by cases xs with|nil=>rfl|cons=>simp at g3;omega
     subst this;simp at hx
    .exact ih _ _ _ q (g4 x hx)
   .exact fin h
   .exact ih _ _ _ h (.sl _ _ _ _ xs v g1 g2 g3 g4)
  cases t<;>simp only at h<;>try(exact fin h)
  case top=>exact .top _
  case any=>exact .any _ (PW hg h).1
  case ival q lo hi=>
   split at h
   .simp only[aA,beq_iff_eq]at h;obtain⟨rfl,h1,h2⟩:=h;cases hg with
    |int _ _ _ v hv hi=>
     have h1:=oS hc h1 h0 hv;have h2:=oS hc h2 hv h0;exact .ival _ _ _ _ (by omega) (by omega) hi
   .simp only[aA,beq_iff_eq,sU,aI]at h;obtain⟨rfl,h1,h2⟩:=h;cases hg with
    |ival _ _ _ m g1 g2 g3=>exact .ival _ _ _ _ (by omega) (by omega) g3
   .cases hg with
    |or _ b _ hm hb=>exact ih _ _ _ (qB h b hm) hb
   .cases h
  case strv lo hi=>
   split at h
   .simp only[aA,sU,aI]at h;cases hg;exact .strv _ _ _ h.1 h.2
   .simp only[aA]at h;cases hg with
    |str _ _ v l hv hl=>
     have h1:=oS hc h.1 h0 hv;have h2:=oS hc h.2 hv h0;exact .strv _ _ _ (by omega) (by omega)
   .simp only[aA,sU,aI]at h;cases hg with
    |strv _ _ l g1 g2=>exact .strv _ _ _ (by omega) (by omega)
   .cases h
  case slv e lo hi=>
   split at h
   .simp only[aA,sU,aI]at h;cases hg;exact .slv _ _ _ _ [] (.inl ⟨rfl,rfl⟩) (by simpa using h.1) (by simpa using h.2) (fun x hx=>by simp at hx)
   .simp only[aA,sU,aI]at h;cases hg with
    |slk es _ xs g1 g2 g3=>
     refine .slv _ _ _ _ xs g1 (by omega) (by omega) (fun x hx=> ?_);obtain⟨j,hj,rfl⟩:=bX hx;obtain⟨a,ha,hga⟩:=pH.at' ⟨g2,g3⟩ (aC hj);exact ih _ _ _ (qB h.2.2 a (bB ha)) hga
   .simp only[aA]at h;cases hg with
    |sl _ _ _ _ xs v g1 g2 g3 g4=>
     have h1:=oS hc h.2.1 h0 g2;have h2:=oS hc h.2.2 g2 h0;refine .slv _ _ _ _ xs g1 (by omega) (by omega) (fun x hx=> ?_);rcases bG _ _ |>.mp h.1 with q|q
     .have:=oS hc q g2 h0;have:xs=[]:=by cases xs with|nil=>rfl|cons=>simp at g3;omega
      subst this;simp at hx
     .exact ih _ _ _ q (g4 x hx)
   .simp only[aA,bG,sU,aI]at h;cases hg with
    |slv _ _ _ _ xs g1 g2 g3 g4=>
     refine .slv _ _ _ _ xs g1 (by omega) (by omega) (fun x hx=> ?_);rcases h.1 with q|q
     .have:xs=[]:=by cases xs with|nil=>rfl|cons=>simp at g3;omega
      subst this;simp at hx
     .exact ih _ _ _ q (g4 x hx)
   .cases h
  case sxv lo hi=>
   split at h
   .simp only[aA]at h;cases hg with
    |sx _ _ full m f v g1 g2=>
     have h1:=oS hc h.1 h0 g1;have h2:=oS hc h.2 g1 h0;exact .sxv _ _ _ _ _ (by omega) (by omega)
   .simp only[aA,sU,aI]at h;cases hg with
    |sxv _ _ full m f g1 g2=>exact .sxv _ _ _ _ _ (by omega) (by omega)
   .cases h
  case bool B=>
   rcases B with b|⟨_ |⟨p,ps⟩,_ |⟨q,qs⟩⟩
   .exact fin h
   .simp only at h;split at h
    .cases hg;exact .bool _ _ (rK _)
    .cases h
   .exact fin h
   .exact fin h
   .exact fin h
  case or ts=>
   split at h
   .cases hg with
    |or _ b _ hm hb=>
     obtain⟨y,h1,h2⟩:=Ge (qB h b hm);exact .or _ y _ h1 (ih _ _ _ h2 hb)
   .obtain⟨y,h1,h2⟩:=Ge h;exact .or _ y _ h1 (ih _ _ _ h2 hg)
  case agg ts=>
   split at h
   .cases hg with
    |agg _ xs g1 g2=>
     have:=zV ih h ⟨g1,g2⟩;exact .agg _ _ this.1 this.2
   .cases h
  case tup ts=>
   split at h
   .cases hg with
    |tup _ xs g1 g2=>
     have:=zV ih h ⟨g1,g2⟩;exact .tup _ _ this.1 this.2
   .cases h
theorem Vv(hc:pG ρ cs)(h0:ρ[0]? =some 0){s:Nat}{c v h:Int}(hv:ρ[s]? =some v)(hh:aNn cs s c=some h):v+c<=h:=by
 unfold aNn at hh;split at hh
 .cases hh;have:=oS hc ‹_› hv h0;omega
 .split at hh
  .cases hh;have:=oS hc ‹_› hv h0;omega
  .split at hh
   .cases hh;have:=oS hc ‹_› hv h0;omega
   .split at hh
    .cases hh;have:=oS hc ‹_› hv h0;omega
    .cases hh
theorem IQ(hc:pG ρ cs)(h0:ρ[0]? =some 0){a b:A}{t:T}(h:aCa cs a=some b)(hg:Gm ρ μ a t):
  (∃k m,b= .ival k k.min k.max/\t= .int k m/\FK k m)\/(∃x,b= .bool rJ/\t= .bool x)\/(∃l q,b= .strv 0 q/\t= .str l/\(l.length:Int)<=q):=by
 unfold aCa at h;split at h
 .cases h;cases hg with|int k s c v h1 h2=>exact .inl ⟨_,_,rfl,rfl,h2⟩
 .cases h;cases hg with|ival k lo hi m h1 h2 h3=>exact .inl ⟨_,_,rfl,rfl,h3⟩
 .cases h;cases hg with|bool B x hb=>exact .inr (.inl ⟨x,rfl,rfl⟩)
 .split at h
  .rename_i hl;cases h;cases hg;exact .inr (.inr ⟨_,_,rfl,rfl,by simpa [sU]using hl⟩)
  .cases h
 .split at h
  .rename_i hl;cases h;cases hg with|str s c v l h1 h2=>exact .inr (.inr ⟨_,_,rfl,rfl,by have:=Vv hc h0 h1 hl;omega⟩)
  .cases h
 .cases h;cases hg with|strv lo hi l h1 h2=>exact .inr (.inr ⟨_,_,rfl,rfl,h2⟩)
 .cases h
theorem YG{a b:A}(h:aCa cs a=some b):(∃k,b= .ival k k.min k.max)\/b= .bool rJ\/∃q,b= .strv 0 q:=by
 unfold aCa at h;split at h
 .cases h;exact .inl ⟨_,rfl⟩
 .cases h;exact .inl ⟨_,rfl⟩
 .cases h;exact .inr (.inl rfl)
 .split at h
  .cases h;exact .inr (.inr ⟨_,rfl⟩)
  .cases h
 .split at h
  .cases h;exact .inr (.inr ⟨_,rfl⟩)
  .cases h
 .cases h;exact .inr (.inr ⟨_,rfl⟩)
 .cases h
theorem IE(a b:Int):a<=BL a b/\b<=BL a b:=by
 unfold BL sU;split<;>rename_i h<;>simp at h<;>omega
def aRy(ρ:fI)(μ:fB)(a b x:A):Prop:=(∀t,Gm ρ μ a t->Gm ρ μ x t)/\(∀t,Gm ρ μ b t->Gm ρ μ x t)
theorem Rm{f:A->A->Option A}(hf:∀a b x,f a b=some x->aRy ρ μ a b x):∀(a_s bs xs:List A),jn.jnL f a_s bs=some xs->(∀ts,pH ρ μ a_s ts->pH ρ μ xs ts)/\(∀ts,pH ρ μ bs ts->pH ρ μ xs ts)
 |[],[],xs,h=>by simp only[jn.jnL]at h;cases h;exact⟨fun ts h=>h,fun ts h=>h⟩
 |a::a_s,b::bs,xs,h=>by
  simp only[jn.jnL]at h;split at h
  .rename_i x hx;split at h
   .rename_i r hr;cases h;obtain⟨h1,h2⟩:=hf _ _ _ hx;obtain⟨h3,h4⟩:=Rm hf a_s bs r hr;refine⟨fun ts ht=> ?_,fun ts ht=> ?_⟩
    .obtain⟨t,u,rfl,g1,g2⟩:=ht.inv_cons;exact pH.cons (h1 _ g1) (h3 _ g2)
    .obtain⟨t,u,rfl,g1,g2⟩:=ht.inv_cons;exact pH.cons (h2 _ g1) (h4 _ g2)
   .cases h
  .cases h
 |[],_ ::_,_,h=>by simp[jn.jnL]at h|_ ::_,[],_,h=>by simp[jn.jnL]at h
theorem QJ(hc:pG ρ cs)(h0:ρ[0]? =some 0){a:A}{t:T}{oe:Option A}{h:Int}(hs:sl2 cs a=some (oe,h))(hg:Gm ρ μ a t):
  ∃xs,AK t xs/\(xs.length:Int)<=BL h 0/\∀x∈xs,∃e,oe=some e/\Gm ρ μ e x:=by
 have hm:=IE h 0;unfold sl2 at hs;split at hs
 .cases hs;cases hg;exact⟨[],.inl ⟨rfl,rfl⟩,by simpa using hm.2,fun x hx=>by simp at hx⟩
 .split at hs
  .rename_i hh;cases hs;cases hg with
   |sl _ _ _ _ xs v g1 g2 g3 g4=>
    have:=Vv hc h0 g2 hh;exact⟨xs,g1,by omega,fun x hx=>⟨_,rfl,g4 x hx⟩⟩
  .cases hs
 .cases hs;cases hg with
  |slv _ _ _ _ xs g1 g2 g3 g4=>exact⟨xs,g1,by omega,fun x hx=>⟨_,rfl,g4 x hx⟩⟩
 .cases hs
theorem aQx(hc:pG ρ cs)(h0:ρ[0]? =some 0):∀(k:Nat) (a b x:A),jn cs k a b=some x->aRy ρ μ a b x
 |0,_,_,_,h=>by simp[jn]at h
 |k+1,a,b,x,h=>by
  have ih:=aQx hc h0 k;unfold jn at h;split at h
  .rename_i he;cases h;have:=HP _ _ _ he;subst this;exact⟨fun t h=>h,fun t h=>h⟩
  .split at h
   .obtain⟨xs,hx,rfl⟩:=aF.1 h;obtain⟨h1,h2⟩:=Rm ih _ _ _ hx;refine⟨fun t ht=> ?_,fun t ht=> ?_⟩
    .cases ht with|agg _ ts g1 g2=>have:=h1 ts ⟨g1,g2⟩;exact .agg _ _ this.1 this.2
    .cases ht with|agg _ ts g1 g2=>have:=h2 ts ⟨g1,g2⟩;exact .agg _ _ this.1 this.2
   .obtain⟨xs,hx,rfl⟩:=aF.1 h;obtain⟨h1,h2⟩:=Rm ih _ _ _ hx;refine⟨fun t ht=> ?_,fun t ht=> ?_⟩
    .cases ht with|tup _ ts g1 g2=>have:=h1 ts ⟨g1,g2⟩;exact .tup _ _ this.1 this.2
    .cases ht with|tup _ ts g1 g2=>have:=h2 ts ⟨g1,g2⟩;exact .tup _ _ this.1 this.2
   .split at h
    .rename_i e1 h1 e2 h2 s1 s2;split at h
     .rename_i y hy;cases h;obtain⟨j1,j2⟩:=ih _ _ _ hy;have hm:=IE h1 h2;have hm0:=IE (BL h1 h2) 0;refine⟨fun t ht=> ?_,fun t ht=> ?_⟩
      .obtain⟨xs,q1,q2,q3⟩:=QJ hc h0 s1 ht;refine .slv _ _ _ _ xs q1 (by omega) ?_ (fun x hx=> ?_)
       .have:BL h1 0<=BL (BL h1 h2) 0:=by
         generalize BL (BL h1 h2) 0=z at*;unfold BL;split<;>omega
        omega
       .obtain⟨e,he,hx'⟩:=q3 x hx;cases he;exact j1 x hx'
      .obtain⟨xs,q1,q2,q3⟩:=QJ hc h0 s2 ht;refine .slv _ _ _ _ xs q1 (by omega) ?_ (fun x hx=> ?_)
       .have:BL h2 0<=BL (BL h1 h2) 0:=by
         generalize BL (BL h1 h2) 0=z at*;unfold BL;split<;>omega
        omega
       .obtain⟨e,he,hx'⟩:=q3 x hx;cases he;exact j2 x hx'
     .cases h
    .rename_i e1 h1 _ s1 s2;cases h;refine⟨fun t ht=> ?_,fun t ht=> ?_⟩
     .obtain⟨xs,q1,q2,q3⟩:=QJ hc h0 s1 ht;exact .slv _ _ _ _ xs q1 (by omega) q2 (fun x hx=>by obtain⟨e,he,hx'⟩:=q3 x hx;cases he;exact hx')
     .obtain⟨xs,q1,q2,q3⟩:=QJ hc h0 s2 ht;have hn:xs=[]:=by cases xs with|nil=>rfl|cons x r=>obtain⟨e,he,_⟩:=q3 x (by simp);cases he
      subst hn;have:=IE h1 0;exact .slv _ _ _ _ [] q1 (by simp) (by simpa using this.2) (fun x hx=>by simp at hx)
    .rename_i _ e1 h1 s1 s2;cases h;refine⟨fun t ht=> ?_,fun t ht=> ?_⟩
     .obtain⟨xs,q1,q2,q3⟩:=QJ hc h0 s1 ht;have hn:xs=[]:=by cases xs with|nil=>rfl|cons x r=>obtain⟨e,he,_⟩:=q3 x (by simp);cases he
      subst hn;have:=IE h1 0;exact .slv _ _ _ _ [] q1 (by simp) (by simpa using this.2) (fun x hx=>by simp at hx)
     .obtain⟨xs,q1,q2,q3⟩:=QJ hc h0 s2 ht;exact .slv _ _ _ _ xs q1 (by omega) q2 (fun x hx=>by obtain⟨e,he,hx'⟩:=q3 x hx;cases he;exact hx')
    split at h
    .rename_i k1 lo hi k2 lo2 hi2 e1 e2;split at h
     .rename_i hk;cases h;have hk:k1=k2:=by simpa using hk
      subst hk;refine⟨fun t ht=> ?_,fun t ht=> ?_⟩
      .rcases IQ hc h0 e1 ht with⟨k,m,q1,rfl,q3⟩|⟨_,q1,_⟩|⟨_,_,q1,_⟩<;>cases q1
       exact .ival _ _ _ _ q3.1 q3.2 q3
      .rcases YG e1 with⟨k,q⟩|q|⟨_,q⟩<;>cases q
       rcases IQ hc h0 e2 ht with⟨k,m,q1,rfl,q3⟩|⟨_,q1,_⟩|⟨_,_,q1,_⟩<;>cases q1
       exact .ival _ _ _ _ q3.1 q3.2 q3
     .cases h
    .rename_i e1 e2;cases h;refine⟨fun t ht=> ?_,fun t ht=> ?_⟩
     .rcases IQ hc h0 e1 ht with⟨k,m,q1,rfl,q3⟩|⟨_,q1,rfl⟩|⟨_,_,q1,_⟩<;>cases q1
      exact .bool _ _ (rK _)
     .rcases YG e1 with⟨k,q⟩|q|⟨_,q⟩<;>cases q
      rcases IQ hc h0 e2 ht with⟨k,m,q1,rfl,q3⟩|⟨_,q1,rfl⟩|⟨_,_,q1,_⟩<;>cases q1
      exact .bool _ _ (rK _)
    .rename_i h1 _ h2 e1 e2;cases h;have hm:=IE h1 h2;refine⟨fun t ht=> ?_,fun t ht=> ?_⟩
     .rcases IQ hc h0 e1 ht with⟨k,m,q1,rfl,q3⟩|⟨_,q1,rfl⟩|⟨_,_,q1,rfl,q2⟩<;>cases q1
      exact .strv _ _ _ (by omega) (by omega)
     .rcases IQ hc h0 e2 ht with⟨k,m,q1,rfl,q3⟩|⟨_,q1,rfl⟩|⟨_,_,q1,rfl,q2⟩<;>cases q1
      exact .strv _ _ _ (by omega) (by omega)
    .split at h
     .split at h
      .cases h;refine⟨fun t ht=> ?_,fun t ht=> .or _ b t aR ht⟩;cases ht with
       |or _ c _ hm hcx=>exact .or _ c _ (aJ _ hm) hcx
      .cases h
     .split at h
      .cases h;exact⟨fun t ht=> .or _ a t aR ht,fun t ht=> .or _ b t (aJ _ aR) ht⟩
      .cases h
    .cases h
theorem Gc(hc:pG ρ cs)(h0:ρ[0]? =some 0){a b x:A}(h:jnT cs a b=some x):aRy ρ μ a b x:=by
 unfold jnT at h;split at h
 .rename_i hl;cases h;refine⟨fun t ht=>ht,fun t ht=> ?_⟩;exact(xR hc h0 0 0 qX _ _ _ hl ht).ext (fun j v h=>by simp at h) (fun j v h=>by simp at h)
 .exact aQx hc h0 _ _ _ _ h
theorem VX(hc:pG ρ cs)(h0:ρ[0]? =some 0):∀(r:List A) (a x:A),Bx cs a r=some x->(∀t,Gm ρ μ a t->Gm ρ μ x t)/\∀b∈r,∀t,Gm ρ μ b t->Gm ρ μ x t
 |[],a,x,h=>by simp only[Bx]at h;cases h;exact⟨fun t h=>h,fun b hb=>by simp at hb⟩
 |b::r,a,x,h=>by
  simp only[Bx]at h;split at h
  .rename_i y hy;obtain⟨h1,h2⟩:=Gc (μ:=μ) hc h0 hy;obtain⟨h3,h4⟩:=VX hc h0 r y x h;refine⟨fun t ht=>h3 t (h1 t ht),fun c hm t ht=> ?_⟩;rcases aU.1 hm with rfl|hm
   .exact h3 t (h2 t ht)
   .exact h4 c hm t ht
  .cases h
end
end Go.Ps
namespace Go.Ps
variable[Inhabited Prd]
theorem wF{f:iU}:∀(ts:eY),(∀t∈ts,f t=some t)->mapO f ts=some ts
 |[],_ =>rfl|t::ts,h=>by simp[mapO,h t (by simp),wF ts (fun x hx=>h x (by simp[hx]))]
theorem wA{ρ:fI}{μ:fB}{a_s:List A}{ts:eY}(h1:a_s.length=ts.length)(h2:∀(j:Nat) (a:A) (t:T),a_s[j]? =some a->ts[j]? =some t->Gm ρ μ a t){t:T}(ht:t∈ts):∃a∈a_s,Gm ρ μ a t:=by
 obtain⟨j,hj,rfl⟩:=bX ht;obtain⟨a,ha,hg⟩:=pH.at' ⟨h1,h2⟩ (aC hj);exact⟨a,bB ha,hg⟩
theorem CD{ρ:fI}{μ:fB}{H:Hp}:∀(n:Nat) (a:A) (t:T),pV n a=true->Gm ρ μ a t->∀k,n<=k->pF k H t=some t
 |0,_,_,h,_,_,_ =>by simp[pV]at h
 |n+1,a,t,h,hg,k,hk=>by
  have ih:=CD (ρ:=ρ) (μ:=μ) (H:=H) n;obtain⟨k,rfl⟩:∃k',k=k'+1:=⟨k-1,by omega⟩;have hk:n<=k:=by omega
  have sl:∀{t:T} {xs:eY},AK t xs->(∀x∈xs,pF k H x=some x)->pF (k+1) H t=some t:=by
   intro t xs hs hx;rcases hs with⟨rfl,rfl⟩|⟨f,rfl⟩|⟨full,m,f,rfl,rfl⟩
   .rfl
   .simp only[pF,wF xs hx];simp
   .rfl
  cases hg with
  |int k s c v h1 h2=>rfl|ival k lo hi m h1 h2 h3=>rfl|bool B b hb=>rfl|strc s=>rfl|str s c v l h1 h2=>rfl|strv lo hi l h1 h2=>rfl|sx=>rfl|sxv=>rfl|nilp=>rfl|nils=>rfl|nilf=>rfl|nili=>rfl|nilm=>rfl|top=>simp[pV]at h|any=>simp[pV]at h|ifc=>simp[pV]at h|yl=>simp[pV]at h|ptr=>simp[pV]at h|elp=>simp[pV]at h|osl=>simp[pV]at h|mp=>simp[pV]at h|prd q a_s ts h0 h1 h2=>exact(default:Prd).pure q _ h0 (k+1) H (by simp[pV]at h;omega)|slp q e s c t xs v h0 h1 h2 h3 h4=>exact sl h1 fun x hx=>ih _ _ (by simpa [pV]using h) (h4 x hx) k hk|slpv q e lo hi t xs h0 h1 h2 h3 h4=>exact sl h1 fun x hx=>ih _ _ (by simpa [pV]using h) (h4 x hx) k hk
  |slk es t xs h1 h2 h3=>
   refine sl h1 fun x hx=> ?_;obtain⟨a,ha,hga⟩:=wA h2 h3 hx;exact ih _ _ (qB (by simpa [pV]using h) a ha) hga k hk
  |osl0=>simp[pV]at h
  |ref x t off h1 h2=>
   have:=ih _ _ (by simpa [pV]using h) h2 k hk;simp only[pF,this];simp
  |sl e s c t xs v h1 h2 h3 h4=>exact sl h1 fun x hx=>ih _ _ (by simpa [pV]using h) (h4 x hx) k hk
  |slv e lo hi t xs h1 h2 h3 h4=>
   simp only[pV,bG,sU,aI]at h;rcases h with h|h
   .have:xs=[]:=by cases xs with|nil=>rfl|cons=>simp at h3;omega
    subst this;exact sl h1 fun x hx=>by simp at hx
   .exact sl h1 fun x hx=>ih _ _ h (h4 x hx) k hk
  |fn f a_s bs as' bs' h1 h2 h3 h4=>
   simp only[pV,aA]at h;have e1:=wF (f:=pF k H) as' fun x hx=>by
    obtain⟨a,ha,hg⟩:=wA h1 h2 hx;exact ih _ _ (qB h.1 a ha) hg k hk
   have e2:=wF (f:=pF k H) bs' fun x hx=>by
    obtain⟨a,ha,hg⟩:=wA h3 h4 hx;exact ih _ _ (qB h.2 a ha) hg k hk
   simp only[pF,e1,e2]
  |iface t x y h1=>
   have:=ih _ _ (by simpa [pV]using h) h1 k hk;simp only[pF,this]
  |or a_s a t hm h1=>
   have hp:=qB (by simpa [pV]using h) a hm;exact ih _ _ hp h1 (k+1) (by omega)
  |agg a_s ts h1 h2=>
   have e1:=wF (f:=pF k H) ts fun x hx=>by
    obtain⟨a,ha,hg⟩:=wA h1 h2 hx;exact ih _ _ (qB (by simpa [pV]using h) a ha) hg k hk
   simp only[pF,e1]
  |tup a_s ts h1 h2=>
   have e1:=wF (f:=pF k H) ts fun x hx=>by
    obtain⟨a,ha,hg⟩:=wA h1 h2 hx;exact ih _ _ (qB (by simpa [pV]using h) a ha) hg k hk
   simp only[pF,e1]
theorem VK{ρ:fI}{μ:fB}{f:A->Option A}{g:iU}(hf:∀a b t,f a=some b->Gm ρ μ a t->∃t',g t=some t'/\Gm ρ μ b t'):
  ∀(a_s bs:List A) (ts:eY),frL f a_s=some bs->pH ρ μ a_s ts->∃us,mapO g ts=some us/\pH ρ μ bs us
 |[],bs,ts,h,hg=>by simp only[frL]at h;cases h;rw[hg.inv_nil];exact⟨[],rfl,.nil⟩
 |a::a_s,bs,ts,h,hg=>by
  simp only[frL]at h;obtain⟨t,r,rfl,h1,h2⟩:=hg.inv_cons;split at h
  .rename_i b hb;split at h
   .rename_i cs hcs;cases h;obtain⟨t',e1,e2⟩:=hf a b t hb h1;obtain⟨us,e3,e4⟩:=VK hf a_s cs r hcs h2;exact⟨t'::us,by simp[mapO,e1,e3],pH.cons e2 e4⟩
   .cases h
  .cases h
theorem Lv{f:iU}:∀(a_s bs xs ys:eY),mapO f a_s=some xs->mapO f bs=some ys->mapO f (a_s++bs)=some (xs++ys)
 |[],bs,xs,ys,h,h'=>by simp only[mapO]at h;cases h;simpa using h'
 |a::a_s,bs,xs,ys,h,h'=>by
  simp only[mapO]at h;split at h
  .rename_i r hr;split at h
   .rename_i rs hrs;cases h;simp[mapO,hr,Lv a_s bs rs ys hrs h']
   .cases h
  .cases h
theorem Xi{ρ:fI}{μ:fB}{f:iU}{bs:List A}{sz:Nat}(hb:bs.length=sz)(hpos:0<sz):∀(ts:eY),(∀t∈ts,∃us,mapO f t.cells=some us/\pH ρ μ bs us)->
  ∃cs,mapO f (ts.flatMap T.cells)=some cs/\cs.length=ts.length*sz/\∀x∈BO sz ts.length cs,Gm ρ μ (.agg bs) x
 |[],_ =>⟨[],rfl,by simp,fun x hx=>by simp[BO]at hx⟩
 |t::ts,h=>by
  obtain⟨us,u1,u2⟩:=h t (by simp);obtain⟨cs,c1,c2,c3⟩:=Xi hb hpos ts fun x hx=>h x (by simp[hx]);have hul:us.length=sz:=by rw[<-u2.1];exact hb
  refine⟨us++cs,by rw[bI];exact Lv _ _ _ _ u1 c1,by rw[bK,hul,c2,bL,cJ];omega,fun x hx=> ?_⟩;simp only[bL,BO,aU]at hx;rcases hx with rfl|hx
  .rw[List.take_left' hul];exact .agg _ _ u2.1 u2.2
  .rw[List.drop_left' hul]at hx;exact c3 x hx
theorem Qz{ρ:fI}{μ:fB}{hp:fJ}{nl:Nat}{H:Hp}(h0:ρ[0]? =some 0)(hh:GH hp nl ρ μ H):∀(n:Nat) (a b:A) (t:T),frA hp n a=some b->Gm ρ μ a t->∀k,n<=k->∃t',pF k H t=some t'/\Gm ρ μ b t'
 |0,_,_,_,h,_,_,_ =>by simp[frA]at h
 |n+1,a,b,t,h,hg,k,hk=>by
  have ih:=Qz h0 hh n;simp only[frA]at h;split at h
  .rename_i hp';cases h;exact⟨t,CD (n+1) a t hp' hg k hk,hg⟩
  .obtain⟨k,rfl⟩:∃k',k=k'+1:=⟨k-1,by omega⟩;have hk:n<=k:=by omega
   split at h
   .rename_i l sz si ci s c _;split at h
    .rename_i e0 sz' e s' c' hf;split at h
     .rename_i hc;simp only[aA,beq_iff_eq]at hc;obtain⟨k1,k2,k3,k4,k5⟩:=hc;have k1:=oM k1;have k2:=oM k2;have k4:=oM k4;subst k1 k2 k3 k4 k5;have nilc:∀e',(∃v,ρ[s]? =some v/\v+c=0)->Gm ρ μ (.sl e' s c) .nils:=by
       rintro e' ⟨v,v1,v2⟩;exact .sl e' s c .nils [] v (.inl ⟨rfl,rfl⟩) v1 (by simpa using v2.symm) (fun x hx=>by simp at hx)
      cases hg with
      |osl0 _ _ _ _ _ _ vi v g1 g2 g3 g4 g5=>
       refine⟨.nils,rfl,?_⟩;split at h
       .split at h
        .split at h
         .cases h;exact nilc _ ⟨v,g4,g5⟩
         .cases h
        .cases h
       .split at h
        .split at h
         .split at h
          .cases h;exact nilc _ ⟨v,g4,g5⟩
          .cases h
         .cases h
        .cases h
      |osl _ _ _ _ _ _ l' vi v g1 g2 g3 g4 g5=>
       rw[h0]at g2;cases g2;obtain⟨o,o1,o2,o3,ts,v1,r1,r2,r3,r4⟩:=hh.at hf g1;rw[g4]at r1;cases r1;have hlen:(v+c).toNat=ts.length:=by omega
       have hfl:=vM ts (fun t ht=>(r4 t ht).2);have hcells:(o.cells.drop ((0+0:Int).toNat*sz)).take ((v+c).toNat*sz)=ts.flatMap T.cells:=by
        rw[hlen,r3,<-hfl];show List.take _ (List.drop ((0:Nat)*sz) _)=_;rw[Nat.zero_mul,eP,List.take_length]
       have hfit:((0+0:Int).toNat+(v+c).toNat)*sz<=o.cells.length:=by rw[r3,hfl,hlen];simp
       split at h
       .rename_i es;split at h
        .rename_i hsz;simp only[aA]at hsz;have hsz1:=pQ hsz.1;have hsz2:=oM hsz.2;split at h
         .rename_i bs hbs;cases h;have hbl:bs.length=sz:=by
           rw[<-hsz2];clear hsz2 hf hsz r4 ih
           induction es generalizing bs with
           |nil=>simp only[frL]at hbs;cases hbs;rfl
           |cons x xs ihx=>
            simp only[frL]at hbs;split at hbs
            .split at hbs
             .rename_i q hq;cases hbs;simp[ihx q hq]
             .cases hbs
            .cases hbs
          obtain⟨cs,c1,c2,c3⟩:=Xi (ρ:=ρ) (μ:=μ) (f:=pF k H) hbl (by omega) ts fun t ht=>by
           have hgt:=(r4 t ht).1;cases hgt with
           |agg _ us q1 q2=>exact VK (fun a b t hab hat=>ih a b t hab hat k hk) es bs us hbs ⟨q1,q2⟩
          refine⟨.sl false (BO sz (v+c).toNat cs),?_,?_⟩
          .simp only[pF,o1];rw[if_pos ⟨by omega,o3.1,hfit⟩,hcells,c1];simp only;rw[if_neg (by omega)]
          .have:=(JM sz ts.length cs (by rw[c2])).2.2;rw[hlen];exact .sl _ _ _ _ (BO sz ts.length cs) v (.inr (.inl ⟨_,rfl⟩)) g4 (by rw[this];exact r2) c3
         .cases h
        .cases h
       .rename_i hna;split at h
        .rename_i hsz;simp only[aA]at hsz;have hsz1:=oM hsz.1;split at h
         .rename_i b' hb';split at h
          .rename_i hbo;cases h;have cellsOne:∀t∈ts,t.cells=[t]:=fun t ht=>EA (PW (r4 t ht).1 hsz.2).2;have key:∀(l:eY),(∀t∈l,t∈ts)->∃us,mapO (pF k H) (l.flatMap T.cells)=some us/\us.length=l.length/\∀u∈us,Gm ρ μ b' u:=by
            intro l
            induction l with
            |nil=>intro _;exact⟨[],rfl,rfl,fun u hu=>by simp at hu⟩
            |cons t l ihl=>
             intro hsub;obtain⟨us,u1,u2,u3⟩:=ihl fun x hx=>hsub x (by simp[hx]);obtain⟨t',t1,t2⟩:=ih _ b' t hb' (r4 t (hsub t (by simp))).1 k hk;refine⟨t'::us,?_,by simp[u2],fun u hu=> ?_⟩
             .rw[bI,cellsOne t (hsub t (by simp))];simp[mapO,t1,u1]
             .rcases aU.1 hu with rfl|hu
              .exact t2
              .exact u3 u hu
           obtain⟨us,u1,u2,u3⟩:=key ts fun t ht=>ht;refine⟨.sl false us,?_,.sl _ _ _ _ us v (.inr (.inl ⟨_,rfl⟩)) g4 (by rw[u2];exact r2) u3⟩;simp only[pF,o1];rw[if_pos ⟨by omega,o3.1,hfit⟩,hcells,u1];simp only;rw[if_pos hsz1,if_pos];rw[aG];intro u hu;have:=(PW (u3 u hu) hbo).2;simp[this]
          .cases h
         .cases h
        .cases h
     .cases h
    .cases h
   .rename_i a_s _;split at h
    .rename_i bs hbs;cases h;cases hg with
     |agg _ ts q1 q2=>
      obtain⟨us,u1,u2⟩:=VK (fun a b t hab hat=>ih a b t hab hat k hk) a_s bs ts hbs ⟨q1,q2⟩;exact⟨.agg us,by simp only[pF,u1],.agg _ _ u2.1 u2.2⟩
    .cases h
   .rename_i a_s _;split at h
    .rename_i bs hbs;cases h;cases hg with
     |tup _ ts q1 q2=>
      obtain⟨us,u1,u2⟩:=VK (fun a b t hab hat=>ih a b t hab hat k hk) a_s bs ts hbs ⟨q1,q2⟩;exact⟨.tup us,by simp only[pF,u1],.tup _ _ u2.1 u2.2⟩
    .cases h
   .cases h
theorem aGf{ρ:fI}{μ:fB}{a:A}{t:T}(h:KM a=true)(hg:Gm ρ μ a t):DM t=true:=by
 cases hg<;>first|rfl|(simp[KM]at h)
theorem Fj{ρ:fI}{μ:fB}{p:A->Bool}{q:T->Bool}(hpq:∀a t,p a=true->Gm ρ μ a t->q t=true){a_s:List A}{ts:eY}(h1:a_s.length=ts.length)(h2:∀(j:Nat) (a:A) (t:T),a_s[j]? =some a->ts[j]? =some t->Gm ρ μ a t)(h:a_s.all p=true):ts.all q=true:=by
 rw[aG];intro t ht;obtain⟨a,ha,hg⟩:=wA h1 h2 ht;exact hpq a t (aG.1 h a ha) hg
theorem Kq{ρ:fI}{μ:fB}{a:A}{t:T}(h:Sv a=true)(hg:Gm ρ μ a t):Dd t=true:=by
 cases hg with
 |agg a_s ts h1 h2=>exact Fj (fun a t=>aGf) h1 h2 h|_ =>first|rfl|(simp[Sv,KM]at h)
theorem aNh{ρ:fI}{μ:fB}{a:A}{t:T}(h:aJg a=true)(hg:Gm ρ μ a t):Nn t=true:=by
 cases hg with
 |agg a_s ts h1 h2=>exact Fj (fun a t=>Kq) h1 h2 h|tup a_s ts h1 h2=>exact Fj (fun a t=>Kq) h1 h2 h|_ =>first|rfl|(simp[aJg,KM]at h)
end Go.Ps
namespace Go.Ps
variable[Inhabited Prd]
def PeA(pe:fK)(pa:FuncId->List A->Nat->List pO->Option AV):Prop:=
 ∀g a_s n cs v,pa g a_s n cs=some v->∀(ρ:fI) (μ:fB) (H:Hp) (ts:eY),Sy ρ n cs->pH ρ μ a_s ts->∃r,pe H g ts=some r/\VOk ρ μ v r
structure Cn(X:AX)(gc:fD)(pc:fK):Prop where
 gl:GlA gc X.gl
 pe:PeA pc X.pe
 inl:∀g H ts,X.inl g=true->pc H g ts=none
 fz:∃k,qX<=k/\∀H g ts bs r,mapO (pF k H) ts=some bs->mapO (pF k ⟨0,.nl⟩) bs=some bs->pc H g bs=some r->Nn r=true->pc H g ts=some r
section
variable{ρ ρ':fI}{μ μ':fB}
theorem Nz{sz:Nat}{ag:Bool}:∀(ps:List (Nat×A)) (qs:gN) (xs:eY),ps.map Prod.fst=qs.map Prod.fst->pH ρ μ (ps.map Prod.snd) (qs.map Prod.snd)->TG sz ag xs.length ps=true->
  ∃ys,HI sz ag xs qs=some ys/\ys.length=xs.length/\∀(i:Nat) (y:T),ys[i]? =some y->(xs[i]? =some y/\i∉ps.map Prod.fst)\/∃a∈ps.map Prod.snd,Gm ρ μ a y/\y.cells.length=sz
 |[],[],xs,_,_,_ =>⟨xs,rfl,rfl,fun i y h=> .inl ⟨h,by simp⟩⟩
 |(i,a)::ps,(j,t)::qs,xs,h1,h2,h=>by
  simp only[cG,dW]at h1 h2;obtain⟨rfl,h1⟩:=h1;simp only[TG,aA,beq_iff_eq]at h;obtain⟨k1,k2,k3,k4,k5,k6⟩:=h;obtain⟨q1,q2⟩:=qQ h2.head k1;have k2:=oM k2;have k4:=pQ k4;obtain⟨ys,e1,e2,e3⟩:=Nz ps qs (xs.set i t) h1 h2.tail (by simpa using k6);have htl:t.cells.length=sz:=by rw[<-q2.1];exact k2
  refine⟨ys,?_,by simpa using e2,fun m y hy=> ?_⟩
  .simp only[HI];rw[if_pos ⟨htl,q1.trans k3,k4⟩];exact e1
  .rcases e3 m y hy with⟨g1,g2⟩|⟨b,g1,g2⟩
   .rw[cZ]at g1;split at g1
    .rename_i him;cases g1;exact .inr ⟨a,by simp,h2.head,htl⟩
    .rename_i him;exact .inl ⟨g1,by simp only[cG,aU,not_or];exact⟨fun e=>him e.symm,g2⟩⟩
   .exact .inr ⟨b,by simp only[cG,aU];exact .inr g1,g2⟩
 |[],_ ::_,_,h,_,_ =>by simp at h|_ ::_,[],_,h,_,_ =>by simp at h
theorem RE:∀(ps:List (Nat×A)) (j i:Nat),EL j ps=true->j<=i->i<j+ps.length->i∈ps.map Prod.fst
 |[],j,i,_,h1,h2=>by simp at h2;omega
 |(k,a)::r,j,i,h,h1,h2=>by
  simp only[EL,aA]at h;have:=oM h.1;subst this;by_cases hi:i=k
  .simp[hi]
  .have:=RE r (k+1) i h.2 (by omega) (by simp at h2;omega);simp only[cG,aU];exact .inr this
theorem Ny{sz:Nat}{ag:Bool}:∀(ps:List (Nat×A)) (qs:gN) (xs ys:eY) (j:Nat),HI sz ag xs qs=some ys->ps.map Prod.fst=qs.map Prod.fst->EL j ps=true->(∀i,i<j->ys[i]? =xs[i]?)/\∀m,m<qs.length->ys[j+m]? =(qs.map Prod.snd)[m]?
 |[],[],xs,ys,j,h,_,_ =>by simp only[HI]at h;cases h;exact⟨fun i _ =>rfl,fun m hm=>by simp at hm⟩|[],_ ::_,_,_,_,_,h,_ =>by simp at h|_ ::_,[],_,_,_,_,h,_ =>by simp at h
 |(i,a)::ps,(i',t)::qs,xs,ys,j,h,h1,h2=>by
  simp only[cG,dW]at h1;obtain⟨rfl,h1⟩:=h1;simp only[EL,aA]at h2;have e:=oM h2.1;subst e;simp only[HI]at h;split at h
  .rename_i hc;obtain⟨q1,q2⟩:=Ny ps qs _ ys (i+1) h h1 h2.2;refine⟨fun m hm=> ?_,fun m hm=> ?_⟩
   .rw[q1 m (by omega),cX (by omega)]
   .cases m with
    |zero=>
     rw[Nat.add_zero,q1 i (by omega),List.getElem?_set_self hc.2.2];rfl
    |succ m=>
     have:=q2 m (by simpa using hm);rw[show i+(m+1)=i+1+m by omega,this];rfl
  .cases h
theorem Bk{n:Nat}{cs:List pO}(hs:Sy ρ n cs){P:fA}{t:eX}{len:Nat}{ps:List (Nat×A)}{qs:gN}(h1:ps.map Prod.fst=qs.map Prod.fst)(h2:pH ρ μ (ps.map Prod.snd) (qs.map Prod.snd)){e0:eX}{s0:Nat}{el0:A}
  (h:Ey P cs t len ps=some (e0,s0,el0)):∃xs,P.underlying t=some (.slice e0)/\rW P t len qs=some (.sl true xs)/\tT P e0=some s0/\xs.length=len/\∀y∈xs,Gm ρ μ el0 y/\y.cells.length=s0:=by
 unfold Ey at h;split at h
 .rename_i e hu;split at h
  .rename_i s ag z hsz hag hz;split at h
   .rename_i hc;simp only[aA,beq_iff_eq,aI]at hc;obtain⟨⟨⟨⟨⟨⟨k1,k2⟩,k3⟩,k4⟩,k5⟩,k6⟩,k7⟩:=hc;obtain⟨z',e1,e2⟩:=BF (ρ:=ρ) (μ:=μ) hs.zero hz;obtain⟨kz,kc⟩:=qQ e2 k5;have hzl:z'.cells.length=s:=by rw[<-kc.1];exact oM k3
    obtain⟨ys,g1,g2,g3⟩:=Nz (ρ:=ρ) (μ:=μ) (sz:=s) (ag:=ag) ps qs (List.replicate len z') h1 h2 (by simpa using k7);have hb:rW P t len qs=some (.sl true ys):=by
     simp only[rW,hu,hsz,hag,e1];rw[if_pos ⟨pQ k1,k2,hzl,kz.trans k4⟩,g1];rfl
    split at h
    .rename_i el hel;split at h
     .cases h;have hylen:ys.length=len:=by simpa using g2
      have hall:∀y∈ys,Gm ρ μ el0 y/\y.cells.length=s0:=by
       intro y hy;obtain⟨i,hi,hiy⟩:=bX hy;have hgy:ys[i]? =some y:=by rw[aC hi,hiy]
       have zcase:(∀t,Gm ρ μ z t->Gm ρ μ el0 t)->(∀b∈ps.map Prod.snd,∀t,Gm ρ μ b t->Gm ρ μ el0 t)->Gm ρ μ el0 y/\y.cells.length=s0:=by
        intro q1 q2;rcases g3 i y hgy with⟨r1,r2⟩|⟨a,r1,r2,r3⟩
        .rw[List.getElem?_replicate]at r1;split at r1
         .cases r1;exact⟨q1 _ e2,hzl⟩
         .cases r1
        .exact⟨q2 a r1 y r2,r3⟩
       split at hel
       .rename_i i0 v r;split at hel
        .rename_i ho;simp only[aA]at ho;obtain⟨j1,j2⟩:=VX (μ:=μ) hs.cs hs.zero _ _ _ hel;rcases g3 i y hgy with⟨r1,r2⟩|⟨a,r1,r2,r3⟩
         .exact absurd (RE _ 0 i ho.1 (by omega) (by have:=oM ho.2;omega)) r2
         .refine⟨?_,r3⟩;simp only[cG,aU]at r1;rcases r1 with rfl|r1
          .exact j1 y r2
          .exact j2 a r1 y r2
        .obtain⟨j1,j2⟩:=VX (μ:=μ) hs.cs hs.zero _ _ _ hel;exact zcase j1 j2
       .cases hel;exact zcase (fun t h=>h) (fun b hb=>by simp at hb)
      exact⟨ys,hu,hb,hsz,hylen,hall⟩
     .cases h
    .cases h
   .cases h
  .cases h
 .cases h
end
section
variable{ρ ρ':fI}{μ μ':fB}{n:Nat}{cs:List pO}{X:AX}{gl:fD}{pe:fK}
theorem AA(hs:Sy ρ n cs){a:Option A}{v:AV}(h:Hg n cs a=some v){q:iB}(ha:∀b,a=some b->∃t,q=some t/\Gm ρ μ b t):∃t,q=some t/\VOk ρ μ v t:=by
 cases a with
 |none=>cases h
 |some b=>
  cases h;obtain⟨t,h1,h2⟩:=ha b rfl;exact⟨t,h1,.here hs h2⟩
theorem aLc{P:fA}(hc:Cn X gl pe)(hs:Sy ρ n cs){fa:List A}{fr:eY}(hf:pH ρ μ fa fr){H:Hp}{c:Call}{v:AV}(h:aSf P X fa n cs c=some v):
  ∃t,uN P ⟨gl,pe⟩ H fr c=some t/\VOk ρ μ v t:=by
 unfold aSf at h;unfold uN;split at h
 .rename_i f hcal;rw[hcal];simp only;split at h
  .rename_i g first cap hg
   obtain⟨t,e1,e2⟩:=sX hc.gl hs.zero hf hg;cases e2 with
   |fn _ _ _ f' c' h1 h2 h3 h4=>
   split at h
   .rename_i ars har;obtain⟨ts,e3,e4⟩:=xP hc.gl hs.zero hf har;simp only[e1,e3];exact hc.pe _ _ _ _ _ h ρ μ H _ hs ((pH.app ⟨h1,h2⟩ e4).app ⟨h3,h4⟩)
   .cases h
  .cases h
 .cases h
 .rename_i b hcal;rw[hcal];simp only;split at h
  .simp only;split at h
   .rename_i x t r hx ht;rw[hx,ht];simp only;split at h
    .rename_i a ha;obtain⟨y,hy,rfl⟩:=aF.1 h;obtain⟨u,e1,e2⟩:=sX hc.gl hs.zero hf ha;obtain⟨w,e3,e4⟩:=aOh hs e2 hy;exact⟨w,by simp only[e1];exact aOj e3,.here hs e4⟩
    .cases h
   .cases h
  .simp only;split at h
   .rename_i x r hx;obtain⟨ts,e1,e2⟩:=xP hc.gl hs.zero hf hx;obtain⟨t,us,rfl,e3,e4⟩:=e2.inv_cons;obtain⟨w,e5,e6⟩:=VJ (fun ρ n cs a b x y v hs ha hb h=>aOs hs ha hb h) r ρ n cs x t us v hs e3 e4 h;exact⟨w,by simp only[e1];exact e5,e6⟩
   .cases h
  .simp only;split at h
   .rename_i x r hx;obtain⟨ts,e1,e2⟩:=xP hc.gl hs.zero hf hx;obtain⟨t,us,rfl,e3,e4⟩:=e2.inv_cons;obtain⟨w,e5,e6⟩:=VJ (fun ρ n cs a b x y v hs ha hb h=>aOq hs ha hb h) r ρ n cs x t us v hs e3 e4 h;exact⟨w,by simp only[e1];exact e5,e6⟩
   .cases h
  .cases h
theorem aLe{P:fA}(hc:Cn X gl pe)(hs:Sy ρ n cs){hp:fJ}{nl:Nat}{H:Hp}(hh:GH hp nl ρ μ H){fa:List A}{fr:eY}(hf:pH ρ μ fa fr){c:Call}{v:AV}(h:aSg X hp fa n cs c=some v):
  ∃t,uN P ⟨gl,pe⟩ H fr c=some t/\VOk ρ μ v t:=by
 unfold aSg at h;unfold uN;split at h
 .rename_i f hcal;rw[hcal];simp only;split at h
  .rename_i g first cap hg
   obtain⟨t,e1,e2⟩:=sX hc.gl hs.zero hf hg;cases e2 with
   |fn _ _ _ f' c' h1 h2 h3 h4=>
   split at h
   .rename_i ars har;obtain⟨ts,e3,e4⟩:=xP hc.gl hs.zero hf har;simp only[e1,e3];split at h
    .split at h
     .rename_i bs hbs;split at h
      .rename_i hpu;split at h
       .rename_i w hw;split at h
        .rename_i hsc;cases h;obtain⟨k,hk,hz⟩:=hc.fz;obtain⟨us,q1,q2⟩:=VK (g:=pF k H) (fun a b t hab hgt=>Qz hs.zero hh qX a b t hab hgt k hk) _ _ _ hbs ((pH.app ⟨h1,h2⟩ e4).app ⟨h3,h4⟩);have q3:mapO (pF k ⟨0,.nl⟩) us=some us:=wF us fun t ht=>by
          obtain⟨a,ha,hg⟩:=wA q2.1 q2.2 ht;exact CD qX a t (qB hpu a ha) hg k hk
         obtain⟨r,r1,r2⟩:=hc.pe _ _ _ _ _ hw ρ μ H _ hs q2;obtain⟨ρ',x1,x2,x3⟩:=r2;exact⟨r,hz H _ _ _ _ q1 q3 r1 (aNh hsc x3),ρ',x1,x2,x3⟩
        .cases h
       .cases h
      .cases h
     .cases h
    .cases h
   .cases h
  .cases h
 .cases h
theorem Eb{P:fA}(hc:Cn X gl pe)(hs:Sy ρ n cs){hp:fJ}{nl:Nat}{H:Hp}(hh:GH hp nl ρ μ H){fa:List A}{fr:eY}(hf:pH ρ μ fa fr){own:Bool}{o:Oper}{v:AV}
  (h:aLf P X own hp fa n cs o=some v):∃t,oV P ⟨gl,pe⟩ own H fr o=some t/\VOk ρ μ v t:=by
 have ev:∀{x:gF} {a:A},NY X.gl fa x=some a->∃t,pE gl fr x=some t/\Gm ρ μ a t:=fun h=>sX hc.gl hs.zero hf h;obtain⟨dst,op,type,pos,after,guard⟩:=o;cases op<;>simp only[aLf]at h<;>simp only[oV]<;>try(cases h;done)
 case move x=>exact AA hs h fun b hb=>ev hb
 case assign x=>exact AA hs h fun b hb=>ev hb
 case pick c x y=>
  split at h
  .rename_i b hb;obtain⟨t,e1,e2⟩:=ev hb;cases e2 with
   |bool _ b' hB=>
    simp only[tM]at hB;subst hB;refine AA hs h fun a ha=> ?_;simp only[e1];cases b' with
    |true=>exact ev (by simpa using ha)|false=>exact ev (by simpa using ha)
  .cases h
 case box t x=>
  cases own with
  |true=>simp at h
  |false=>
   simp only[bA,if_false]at h⊢;split at h
   .rename_i y hy;split at h
    .rename_i hk;cases h;obtain⟨t,e1,e2⟩:=ev hy;exact⟨.ref t 0,by simp[e1],.here hs (.ref _ t 0 hk e2)⟩
    .cases h
   .cases h
 case build t parts=>
  split at h
  .rename_i l hl;obtain⟨qs,e1,e2,e3⟩:=II hc.gl hs.zero hf hl;simp only[e1];exact AA hs h fun b hb=>Yu hs.zero e2 e3 hb
  .cases h
 case buildSlice t len parts=>
  cases own with
  |true=>simp at h
  |false=>
   simp only[bA,if_false]at h⊢;split at h
   .rename_i l hl;obtain⟨qs,e1,e2,e3⟩:=II hc.gl hs.zero hf hl;split at h
    .rename_i e s el hel;cases h;obtain⟨xs,q1,q2,q3,q4,q5⟩:=Bk hs e2 e3 hel;refine⟨.sl true xs,by simp only[e1,q2],.here hs ?_⟩;split
     .rename_i hlk;simp only[aA]at hlk;obtain⟨_,ho,hn⟩:=hlk;have hn:=oM hn;have hlq:l.length=qs.length:=by have:=congrArg List.length e2;simpa using this
      have hst:∃sz ag z,HI sz ag (List.replicate len z) qs=some xs:=by
       unfold rW at q2;split at q2
       .split at q2
        .split at q2
         .obtain⟨ys,y1,y2⟩:=aF.1 q2;cases y2;exact⟨_,_,_,y1⟩
         .cases q2
        .cases q2
       .cases q2
      obtain⟨sz,ag,z,hst⟩:=hst;obtain⟨_,r2⟩:=Ny l qs _ xs 0 hst e2 ho;refine .slk _ _ xs (.inr (.inl ⟨_,rfl⟩)) (by simp;omega) fun j a t ha ht=> ?_;have hj:j<qs.length:=by have:=(aK.1 ht).1;omega
      have:=r2 j hj;rw[bN,ht]at this;exact e3.2 j a t ha this.symm
     .exact .sl _ _ _ _ xs 0 (.inr (.inl ⟨_,rfl⟩)) hs.zero (by omega) (fun y hy=>(q5 y hy).1)
    .cases h
   .cases h
 case load t a=>
  split at h
  .rename_i p hp;obtain⟨t',e1,e2⟩:=ev hp;simp only[e1];exact Lp hs hh e2 h
  .cases h
 case nilCheck x=>
  split at h
  .rename_i p hp;obtain⟨t',e1,e2⟩:=ev hp;simp only[e1];exact AA hs h fun b hb=>Gk e2 hb
  .cases h
 case binOp op t x y ty=>
  split at h
  .rename_i a b ha hb;split at h
   .rename_i hn;obtain⟨t1,e1,e2⟩:=ev ha;obtain⟨t2,e3,e4⟩:=ev hb;simp only[e1,e3];rw[if_pos (aAj e2 e4 hn)];exact aLp hs e2 e4 h
   .cases h
  .cases h
 case unOp op t x=>
  split at h
  .rename_i a ha;obtain⟨t1,e1,e2⟩:=ev ha;simp only[e1];exact aWj hs e2 h
  .cases h
 case convert s d x=>
  split at h
  .rename_i a ha;obtain⟨t1,e1,e2⟩:=ev ha;simp only[e1];exact aEq hs e2 h
  .cases h
 case fieldAddr s x f=>
  split at h
  .rename_i a ha;obtain⟨t1,e1,e2⟩:=ev ha;simp only[e1];exact AA hs h fun b hb=>ZD e2 hb
  .cases h
 case field t x f=>
  split at h
  .rename_i a_s ha;obtain⟨t1,e1,e2⟩:=ev ha;cases e2 with
   |agg _ ts hl hg=>
    simp only[e1];split at h
    .rename_i fd hfd;simp only[hfd];exact AA hs h fun b hb=>DI ⟨hl,hg⟩ hb
    .cases h
  .cases h
 case indexAddr t x i=>
  split at h
  .rename_i a b ha hb;obtain⟨t1,e1,e2⟩:=ev ha;obtain⟨t2,e3,e4⟩:=ev hb;simp only[e1,e3];exact ZE hs e2 e4 h
  .cases h
 case index t x i=>
  split at h
  .rename_i a b ha hb;obtain⟨t1,e1,e2⟩:=ev ha;obtain⟨t2,e3,e4⟩:=ev hb;simp only[e1,e3];exact Zo hs e2 e4 h
  .cases h
 case slice t x lo hi mx=>
  cases mx with
  |some m=>cases h
  |none=>
   simp only at h⊢;split at h
   .rename_i a ha;obtain⟨t1,e1,e2⟩:=ev ha;simp only[e1];split at h
    .rename_i l u hl hu;obtain⟨l',e3,e4⟩:=Xa hc.gl hs.zero hf hl;obtain⟨u',e5,e6⟩:=Xa hc.gl hs.zero hf hu;simp only[e3,e5];refine aBi hs e2 (lo:=l) (hi:=u) ?_ ?_ h
     .cases l<;>cases l'<;>exact e4
     .cases u<;>cases u'<;>exact e6
    .cases h
   .cases h
 case extract x i=>
  split at h
  .rename_i xs ha;obtain⟨t1,e1,e2⟩:=ev ha;cases e2 with
   |tup _ ts hl hg=>
    simp only[e1];exact AA hs h fun b hb=>pH.at ⟨hl,hg⟩ hb
  .cases h
 case lookup t x i ok=>
  split at h
  .rename_i a b ha hb;obtain⟨t1,e1,e2⟩:=ev ha;obtain⟨t2,e3,e4⟩:=ev hb;simp only[e1,e3];exact AA hs h fun b hb=>Rp hs.zero hh e2 e4 hb
  .cases h
 case makeFunc f first captured=>
  split at h
  .split at h
   .rename_i a c ha hb;cases h;obtain⟨a_s,e1,e2⟩:=xP hc.gl hs.zero hf ha;obtain⟨bs,e3,e4⟩:=xP hc.gl hs.zero hf hb;simp only[e1,e3];exact⟨_,rfl,.here hs (.fn _ _ _ _ _ e2.1 e2.2 e4.1 e4.2)⟩
   .cases h
  .cases h
 case call c=>
  split at h
  .rename_i w hw;cases h;exact aLc hc hs hf hw
  .exact aLe hc hs hh hf h
end
end Go.Ps
namespace Go.Ps
variable[Inhabited Prd]
abbrev iZ:=Nat->Nat->Prop
def Ev(p:iZ):Prop:=∃m,∀n d,m<=n->m<=d->p n d
theorem Ev.of{p:iZ}(h:∀n d,p n d):Ev p:=⟨0,fun n d _ _ =>h n d⟩
theorem Ev.mono{p q:iZ}(h:Ev p)(hq:∀n d,p n d->q n d):Ev q:=by
 obtain⟨m,hm⟩:=h;exact⟨m,fun n d h1 h2=>hq n d (hm n d h1 h2)⟩
theorem Ev.and{p q:iZ}(h:Ev p)(hq:Ev q):Ev fun n d=>p n d/\q n d:=by
 obtain⟨m,hm⟩:=h;obtain⟨k,hk⟩:=hq;exact⟨max m k,fun n d h1 h2=>⟨hm n d (by omega) (by omega),hk n d (by omega) (by omega)⟩⟩
def ROk(ρ:fI)(μ:fB)(R:AR)(t:T)(H:Hp):Prop:=
 ∃ρ' μ',rZ ρ ρ'/\rZ μ μ'/\Sy ρ' R.nx R.cs/\GH R.hp R.nl ρ' μ' H/\Gm ρ' μ' R.a t
abbrev fO:=Nat->Nat->FuncId->List T->Hp->Option (T×Hp)
def wZ(call:FuncId->List A->AS->Option (List AR))(ee:fO):Prop:=
 ∀f args S rs,call f args S=some rs->∀(ρ:fI) (μ:fB) (H:Hp) (ts:eY),Sy ρ S.nx S.cs->GH S.hp S.nl ρ μ H->pH ρ μ args ts->
  ∃r H',Ev (fun n d=>ee n d f ts H=some (r,H'))/\∃R∈rs,ROk ρ μ R r H'
section
variable{ρ ρ':fI}{μ μ':fB}{X:AX}{gl:fD}{pe:fK}{H:Hp}{S:AS}{P:fA}
theorem PT(hs:Sy ρ S.nx S.cs)(hh:GH S.hp S.nl ρ μ H){o:AO}{b:Ob}(hb:Pq ρ μ o b)(hme:b.me=none:=by rfl):ROk ρ μ ⟨.ptr S.nl 0,(S.nl,o)::S.hp,S.nx,S.nl+1,S.cs⟩ (.ptr H.next 0) (H.new b):=
 ⟨ρ,μ++[some H.next],.refl _,.app _ _,hs,hh.new (hb.ext (.refl _) (.app _ _)) hme,.ptr _ _ _ (rR hh.len _)⟩
theorem XW{cs new:eY}{off:Nat}(h:off+new.length<=cs.length):(qT cs off new).length=cs.length:=by
 simp only[qT,bK,dH,cK];omega
theorem Oa{sz:Nat}{ts:eY}(hs:∀t∈ts,t.cells.length=sz){i off:Nat}{x y:T}{new:eY}(hi:ts[i]? =some x)(hy:y.cells=qT x.cells off new)(ho:off+new.length<=sz):
  qT (ts.flatMap T.cells) (i*sz+off) new=(ts.set i y).flatMap T.cells:=by
 have hil:=(aK.1 hi).1;have hx:x.cells.length=sz:=hs x (bB hi);have e1:ts=ts.take i++x::ts.drop (i+1):=by
  have:ts.drop i=x::ts.drop (i+1):=by
   rw[dX hil];congr 1;exact(aK.1 hi).2
  rw[<-this,List.take_append_drop]
 have e2:ts.set i y=ts.take i++y::ts.drop (i+1):=by rw[List.set_eq_take_append_cons_drop,if_pos hil]
 have hl:((ts.take i).flatMap T.cells).length=i*sz:=by
  rw[vM (sz:=sz) _ (fun t ht=>hs t (dY ht)),dH,Nat.min_eq_left (by omega)]
 have e3:ts.flatMap T.cells=(ts.take i).flatMap T.cells++(x.cells++(ts.drop (i+1)).flatMap T.cells):=by
  conv=>lhs;rw[e1]
  simp
 rw[e2,e3];simp only[dQ,bI,hy];unfold qT;rw[<-hl,List.take_length_add_append,dG,List.drop_length_add_append];have a1:List.take off (x.cells++(ts.drop (i+1)).flatMap T.cells)=x.cells.take off:=List.take_append_of_le_length (by omega);have a2:List.drop (off+new.length) (x.cells++(ts.drop (i+1)).flatMap T.cells)=x.cells.drop (off+new.length)++(ts.drop (i+1)).flatMap T.cells:=List.drop_append_of_le_length (by omega);rw[a1,a2];simp[dB]
theorem Ds(hs:Sy ρ S.nx S.cs)(hh:GH S.hp S.nl ρ μ H){t:eX}{p x:A}{q y:T}(hp:Gm ρ μ p q)(hx:Gm ρ μ x y){R:AR}(h:Ij P S t p x=some R):
  ∃H',tK P H t q y=some H'/\ROk ρ μ R oL H':=by
 unfold Ij at h;split at h
 .rename_i n hn;split at h
  .rename_i hc;simp only[aA]at hc;obtain⟨k1,k2,k3⟩:=hc;obtain⟨_,kc⟩:=qQ hx k1;have k2:x.cells.length=n:=oM k2;have ky:y.cells.length=n:=by rw[<-kc.1];exact k2
   have ko:=AP kc k3;split at h
   .rename_i l off;cases hp with
    |ptr _ _ l' hl'=>
    split at h
    .rename_i e xs hl;split at h
     .rename_i hle;cases h;obtain⟨b,h1,h2⟩:=hh.at hl hl';refine⟨H.put l' {b with cells:=qT b.cells off y.cells},?_,ρ,μ,.refl _,.refl _,hs,?_,sP⟩
      .simp only[tK,h1,hn];rw[if_pos ⟨ky,by rw[<-h2.2.1];exact hle,ko⟩]
      .exact hh.put hl hl' h1 ⟨h2.1,KO h2.2 kc off⟩ (pJ h1).2
     .cases h
    .cases h
   .rename_i l sz s c off;cases hp with
    |elp _ _ _ _ _ l' w hl' hw hw0=>
    split at h
    .rename_i e sz' a s' c' hl;split at h
     .rename_i hc;simp only[aA,aI]at hc;obtain⟨⟨⟨⟨c1,c2⟩,c3⟩,c4⟩,c5⟩:=hc;have c1:=oM c1;subst c1;have c3:=oM c3;obtain⟨b,h1,h2,h3,ts,v',g1,g2,g3,g4⟩:=hh.at hl hl';have hlt:=oS hs.cs c4 hw g1;have hi:(w+c).toNat<ts.length:=by omega
      have hget:=aC hi;have hmem:=bV hi;generalize hz:ts[(w+c).toNat]=z at hget hmem;have hmul:((w+c).toNat+1)*sz<=ts.length*sz:=cI _ hi;rw[cJ]at hmul;have hfl:=vM ts (fun t ht=>(g4 t ht).2);have key:∀(bt:A) (z':T),z'.cells=qT z.cells off y.cells->(∀t,Gm ρ μ a t->Gm ρ μ bt t)->Gm ρ μ bt z'->
        ∃H',tK P H t (.ptr l' ((w+c).toNat*sz+off)) y=some H'/\ROk ρ μ ⟨.tup [],AB S.hp l (.row e sz bt s' c'),S.nx,S.nl,S.cs⟩ oL H':=by
       intro bt z' hz' hb1 hb2;refine⟨H.put l' {b with cells:=qT b.cells ((w+c).toNat*sz+off) y.cells},?_,ρ,μ,.refl _,.refl _,hs,?_,sP⟩
       .simp only[tK,h1,hn];rw[if_pos ⟨ky,by rw[g3,hfl];omega,ko⟩]
       .refine hh.put hl hl' h1 ⟨h2,⟨h3.1,fun h5 e0=>h3.2 h5 (cY.1 (by
         have hs:=XW (cs:=b.cells) (new:=y.cells) (off:=(w+c).toNat*sz+off) (by rw[g3,hfl];omega);have e0:qT b.cells ((w+c).toNat*sz+off) y.cells=[]:=e0;rw[e0]at hs
         exact hs.symm))⟩,ts.set (w+c).toNat z',v',g1,by simpa using g2,?_,fun t ht=> ?_⟩ (pJ h1).2
        .rw[g3];exact Oa (fun t ht=>(g4 t ht).2) hget hz' (by omega)
        .rcases List.mem_or_eq_of_mem_set ht with ht|rfl
         .exact⟨hb1 t (g4 t ht).1,(g4 t ht).2⟩
         .refine⟨hb2,?_⟩;rw[hz',XW (by rw[(g4 z hmem).2];omega)];exact(g4 z hmem).2
      split at h
      .rename_i a_s;split at h
       .rename_i bt hbt;split at h
        .cases h;obtain⟨j1,j2⟩:=Gc (μ:=μ) hs.cs hs.zero hbt;have hzg:=(g4 z hmem).1;cases hzg with
         |agg _ zs q1 q2=>
          have hsp:=KO (off:=off) ⟨q1,q2⟩ kc;exact key bt (.agg (qT zs off y.cells)) rfl j1 (j2 _ (.agg _ _ hsp.1 hsp.2))
        .cases h
       .cases h
      .cases h
      .rename_i hna hnp;split at h
       .rename_i yy hyy;split at h
        .rename_i bt hbt;split at h
         .cases h;obtain⟨j1,j2⟩:=Gc (μ:=μ) hs.cs hs.zero hbt;have hzk:=qQ (g4 z hmem).1 c2;have hag:a.isAgg=false:=by cases a<;>first|rfl|exact(hna _ rfl).elim|exact(hnp _ _ rfl).elim
          have hac:a.cells=[a]:=by cases a<;>first|rfl|exact(hna _ rfl).elim|exact(hnp _ _ rfl).elim
          have hz1:z.cells=[z]:=EA (hzk.1.trans hag);have hsz:sz=1:=by rw[<-(g4 z hmem).2,hz1];rfl
          rw[hyy]at kc k2;obtain⟨u,r,hur,g5,g6⟩:=kc.inv_cons;have:=g6.inv_nil;subst this;have hu1:u.cells=[u]:=by
           have:pY y.cells=true:=ko;rw[hur]at this;simp only[pY,bC]at this;cases u<;>simp_all [T.one,T.cells]
          have h01 : off = 0 := by have:n=1:=by rw[<-k2];rfl
                                   omega
          subst h01;exact key bt u (by rw[hu1,hur,hz1];rfl) j1 (j2 u g5)
         .cases h
        .cases h
       .cases h
     .cases h
    .cases h
   .cases h
  .cases h
 .cases h
theorem Hi{x b:Nat}(h:(x:Int)<=70368744177664/((b:Int)+1)):zP x b=true:=by
 have h1:(x:Int)*(b+1)<=70368744177664:=by
  have:=Int.mul_le_of_le_ediv (by omega) h;exact this
 have h2:x*(b+1)<=70368744177664:=by
  have:((x*(b+1):Nat):Int)<=((70368744177664:Nat):Int):=by rw[Int.natCast_mul,Int.natCast_add];exact h1
  exact Int.ofNat_le.1 this
 rw[Nat.mul_succ]at h2;have h3:x<=x*(b+1):=Nat.le_mul_of_pos_right _ (by omega);rw[Nat.mul_succ]at h3;unfold zP;rw[aA,aI,aI];omega
theorem ZI(hs:Sy ρ S.nx S.cs)(hh:GH S.hp S.nl ρ μ H){t:eX}{l c:A}{x y:T}(hl:Gm ρ μ l x)(hc:Gm ρ μ c y){R:AR}(h:KD P S t l c=some R):
  ∃r H',rC P H t x y=some (r,H')/\ROk ρ μ R r H':=by
 unfold KD at h;split at h
 .rename_i e s c s' c' hu;cases hl with
  |int _ _ _ v hv hi=>cases hc with
   |int _ _ _ v' hv' hi'=>
   split at h
   .rename_i sz bytes z hsz hby hz;split at h
    .rename_i hc;cases h;simp only[aA,beq_iff_eq]at hc;obtain⟨⟨⟨⟨⟨⟨⟨⟨k0,k1⟩,k2⟩,k3⟩,k4⟩,k5⟩,k6⟩,k7⟩,k8⟩:=hc;have k5:=oM k5;subst k5 k6;rw[hv]at hv';cases hv';have k7:=oS hs.cs k7 hs.zero hv;have k8:=oS hs.cs k8 hv hs.zero;obtain⟨z',e1,e2⟩:=BF (ρ:=ρ) (μ:=μ) hs.zero hz;obtain⟨_,kc⟩:=qQ e2 k3;have hzl:z'.cells.length=sz:=by rw[<-kc.1];exact oM k2
     have hroom:=Hi (x:=(v+c).toNat) (b:=bytes) (by omega);unfold zP at hroom;rw[aA,aI,aI]at hroom;have hnew:=hh.new (o:= .row e sz z s c) (b:={elem:=e,sz:=sz,cells:=(List.replicate (v+c).toNat z').flatMap T.cells})
      ⟨rfl,⟨rfl,fun h5 e0=>by
       subst h5;rcases(bG _ _ |>.mp k0)with q|q
       .simp at q
       .have q:=oS hs.cs q hs.zero hv;have k1:=pQ k1;have hfl:=vM (sz:=sz) (List.replicate (v+c).toNat z') (fun t ht=>by rw[List.mem_replicate]at ht;rw[ht.2];exact hzl);have e0:(List.replicate (v+c).toNat z').flatMap T.cells=[]:=e0;rw[e0]at hfl;simp only[List.length_replicate,List.length_nil]at hfl
        rcases Nat.mul_eq_zero.1 hfl.symm with z|z<;>omega⟩,List.replicate (v+c).toNat z',v,hv,by simp;omega,rfl,fun t ht=>by
       rw[List.mem_replicate]at ht;rw[ht.2];exact⟨e2.ext (.refl _) (.app _ _),hzl⟩⟩
     refine⟨.osl H.next sz 0 (v+c).toNat,_,?_,ρ,μ++[some H.next],.refl _,.app _ _,hs,hnew,?_⟩
     .simp only[rC,hu,hsz,hby,e1];rw[if_pos ⟨pQ k1,hzl,by omega,by first|rfl|trivial,hroom.1,by omega⟩]
     .have:=Gm.osl (ρ:=ρ) (μ:=μ++[some H.next]) S.nl sz 0 0 s c H.next 0 v (rR hh.len _) hs.zero (by omega) hv (by omega);simpa using this
    .cases h
   .cases h
 .cases h
end
end Go.Ps
namespace Go.Ps
variable[Inhabited Prd]
section
variable{ρ ρ':fI}{μ μ':fB}{X:AX}{gl:fD}{pe:fK}{H:Hp}{S:AS}{P:fA}
theorem Fh{sz:Nat}{ts:eY}(h:∀t∈ts,t.cells.length=sz)(hs:sz≠0)(hn:ts.length≠0):ts.flatMap T.cells≠[]:=fun e=>by
 have:=vM ts h;rw[e]at this;rcases Nat.mul_eq_zero.1 this.symm with q|q
 .exact hn q
 .exact hs q
theorem PU(hs:Sy ρ S.nx S.cs)(hh:GH S.hp S.nl ρ μ H){e:eX}{sz:Nat}{a:A}{s:Nat}{c v:Int}{ts:eY}(hv:ρ[s]? =some v)(hl:(ts.length:Int)=v+c)(hg:∀t∈ts,Gm ρ μ a t/\t.cells.length=sz)(hne:e=5->ts.flatMap T.cells≠[]):
  ROk ρ μ ⟨.osl S.nl sz 0 0 s c,(S.nl,.row e sz a s c)::S.hp,S.nx,S.nl+1,S.cs⟩ (.osl H.next sz 0 ts.length) (H.new {elem:=e,sz:=sz,cells:=ts.flatMap T.cells}):=by
 refine⟨ρ,μ++[some H.next],.refl _,.app _ _,hs,hh.new ⟨rfl,⟨rfl,hne⟩,ts,v,hv,hl,rfl,fun t ht=>⟨(hg t ht).1.ext (.refl _) (.app _ _),(hg t ht).2⟩⟩,?_⟩;have:=Gm.osl (ρ:=ρ) (μ:=μ++[some H.next]) S.nl sz 0 0 s c H.next 0 v (rR hh.len _) hs.zero (by omega) hv (by omega);rw[<-hl]at this;simpa using this
theorem UD(hs:Sy ρ S.nx S.cs)(hh:GH S.hp S.nl ρ μ H){t:eX}{len:Nat}{ps:List (Nat×A)}{qs:gN}(h1:ps.map Prod.fst=qs.map Prod.fst)(h2:pH ρ μ (ps.map Prod.snd) (qs.map Prod.snd)){R:AR}
  (h:FR P S t len ps=some R):∃e xs s,P.underlying t=some (.slice e)/\rW P t len qs=some (.sl true xs)/\tT P e=some s/\
   ROk ρ μ R (.osl H.next s 0 len) (H.new {elem:=e,sz:=s,cells:=xs.flatMap T.cells}):=by
 unfold FR at h;split at h
 .rename_i e s el hel;split at h
  case isFalse=>cases h
  rename_i hne;cases h;obtain⟨xs,q1,q2,q3,q4,q5⟩:=Bk hs h1 h2 hel;refine⟨e,xs,s,q1,q2,q3,?_⟩
  have:=PU hs hh (e:=e) (sz:=s) (a:=el) (s:=0) (c:=len) (v:=0) (ts:=xs) hs.zero (by omega) q5 (fun h5=>by
   subst h5;rcases(bG _ _ |>.mp hne)with h|h
   .simp at h
   .simp only[aA]at h;have h1:=pQ h.1;have h2:=pQ h.2
    exact Fh (fun x hx=>(q5 x hx).2) (by omega) (by omega))
  rw[q4]at this;exact this
 .cases h
theorem aPp(hs:Sy ρ S.nx S.cs)(hh:GH S.hp S.nl ρ μ H){tx:eX}{size:Nat}{x:A}{y:T}(hx:Gm ρ μ x y){el:A}{s:Nat}{c:Int}(h:aWb P S.hp S.cs tx size x=some (el,s,c))
  (hk:el.known=true) (hsz:el.cells.length=size):
  ∃(us:eY) (v:Int),rA H y=some (us.flatMap T.cells)/\wV y=some us.length/\yC P tx size y=true/\ρ[s]? =some v/\(us.length:Int)=v+c/\∀u∈us,Gm ρ μ el u/\u.cells.length=size:=by
 have cl:∀{u:T},Gm ρ μ el u->u.cells.length=size:=fun hu=>by rw[<-(qQ hu hk).2.1];exact hsz
 unfold aWb at h;split at h
 .rename_i l sz si ci s0 c0 hu;split at h
  .rename_i e0 sz' e s' c' hl;split at h
   .rename_i hc;simp only[aA]at hc;obtain⟨⟨⟨k1,k2⟩,k3⟩,k4⟩:=hc;have k1:=oM k1;have k2:=oM k2;subst k1 k2;split at h
    .rename_i q d hq;split at h
     .rename_i hle;cases h;cases hx with
      |osl _ _ _ _ _ _ l' vi v g1 g2 g3 g4 g5=>
       obtain⟨b,h1,h2,h3,ts,v',r1,r2,r3,r4⟩:=hh.at hl g1;obtain⟨u,u1,u2⟩:=NJ hs.zero g2 g4 hq;have hle:=oS hs.cs hle u1 r1;have hfl:=vM ts (fun t ht=>(r4 t ht).2);have hle2:(vi+ci).toNat+(v+c).toNat<=ts.length:=by omega
       refine⟨(ts.drop (vi+ci).toNat).take (v+c).toNat,v,?_,?_,by simp[yC,hu],g4,?_,fun t ht=> ?_⟩
       .simp only[rA,h1];rw[if_pos (by rw[r3,hfl];exact cI _ hle2),r3,EH ts _ (fun t ht=>(r4 t ht).2) (by omega)];have:=EH (ts.drop (vi+ci).toNat) (v+c).toNat (fun t ht=>(r4 t (eM ht)).2) (by rw[cK];omega);have e1:((ts.drop (vi+ci).toNat).flatMap T.cells)=(((ts.drop (vi+ci).toNat).take (v+c).toNat).flatMap T.cells)++(((ts.drop (vi+ci).toNat).drop (v+c).toNat).flatMap T.cells):=by
         rw[<-dQ,List.take_append_drop]
        have e2:(((ts.drop (vi+ci).toNat).take (v+c).toNat).flatMap T.cells).length=(v+c).toNat*sz:=by
         rw[vM (sz:=sz) _ (fun t ht=>(r4 t (eM (dY ht))).2),dH,cK,Nat.min_eq_left (by omega)]
        rw[e1,<-e2,List.take_left]
       .simp only[wV,dH,cK];congr 1;omega
       .rw[dH,cK];omega
       .exact r4 t (eM (dY ht))
      |osl0 _ _ _ _ _ _ vi v g1 g2 g3 g4 g5=>
       exact⟨[],v,rfl,rfl,by simp[yC,hu],g4,by simp;omega,fun t ht=>by simp at ht⟩
     .cases h
    .cases h
   .cases h
  .cases h
 .have hu:=‹P.underlying tx=_›;cases h;cases hx with
  |sl _ _ _ _ xs v g1 g2 g3 g4=>
   refine⟨xs,v,?_,?_,?_,g2,g3,fun u hu=>⟨g4 u hu,cl (g4 u hu)⟩⟩
   .rcases g1 with⟨rfl,rfl⟩|⟨f,rfl⟩|⟨full,m,f,rfl,rfl⟩
    .rfl
    .rfl
    .simp only[rA,eQ]
   .rcases g1 with⟨rfl,rfl⟩|⟨f,rfl⟩|⟨full,m,f,rfl,rfl⟩
    .rfl
    .rfl
    .simp[wV]
   .rcases g1 with⟨rfl,rfl⟩|⟨f,rfl⟩|⟨full,m,f,rfl,rfl⟩<;>simp[yC,hu]
 .have hu:=‹P.underlying tx=_›;split at h
  .cases h;cases hx;exact⟨[],0,rfl,rfl,by simp[yC,hu],hs.zero,by simp,fun t ht=>by simp at ht⟩
  .cases h
 .rename_i b hu;split at h
  .rename_i h1;cases h;cases hx;have h1:=oM h1;subst h1;refine⟨b.map fun b=> .int .u8 b.toNat,0,?_,by simp[wV],by simp[yC,hu],hs.zero,by simp,fun t ht=> ?_⟩
   .simp only[rA,eQ];congr 1
    induction b with
    |nil=>rfl|cons a r ih=>simp only[cG,bI,T.cells,ih];rfl
   .obtain⟨a,_,rfl⟩:=bU.1 ht;have:=UInt8.toNat_lt a;exact⟨.ival _ _ _ _ (by omega) (by omega) (by simp only[FK,IntKind.min,IntKind.max,IntKind.bits,IntKind.signed];simp;omega),rfl⟩
  .cases h
 .have hu:=‹P.underlying tx=_›;split at h
  .rename_i h1;cases h;cases hx with
   |str _ _ v b g1 g2=>
   have h1:=oM h1;subst h1;refine⟨b.map fun b=> .int .u8 b.toNat,v,?_,by simp[wV],by simp[yC,hu],g1,by simpa using g2,fun t ht=> ?_⟩
   .simp only[rA,eQ];congr 1;clear g2 hsz
    induction b with
    |nil=>rfl|cons a r ih=>simp only[cG,bI,T.cells,ih];rfl
   .obtain⟨a,_,rfl⟩:=bU.1 ht;have:=UInt8.toNat_lt a;exact⟨.ival _ _ _ _ (by omega) (by omega) (by simp only[FK,IntKind.min,IntKind.max,IntKind.bits,IntKind.signed];simp;omega),rfl⟩
  .cases h
 .cases h
end
end Go.Ps
namespace Go.Ps
variable[Inhabited Prd]
section
variable{ρ ρ':fI}{μ μ':fB}{X:AX}{gl:fD}{pe:fK}{H:Hp}{S:AS}{P:fA}
theorem QR{hp:fJ}{n nl:Nat}{cs:List pO}(hs:Sy ρ n cs)(hh:GH hp nl ρ μ H){e:eX}{sz:Nat}{a:A}{s:Nat}{c v:Int}(hv:ρ[s]? =some v){r:T}
  (h:(r= .nils/\v+c=0)\/∃(x:Nat) (ts:eY) (b:Ob),r= .osl x sz 0 ts.length/\(ts.length:Int)=v+c/\x<H.next/\(∀l q,oO hp l=some q->μ[l]? ≠some (some x))/\H.get x=some b/\b.elem=e/\(b.sz=sz/\(e=5->b.cells≠[]))/\b.cells=ts.flatMap T.cells/\∀t∈ts,Gm ρ μ a t/\t.cells.length=sz):
  ROk ρ μ ⟨.osl nl sz 0 0 s c,(nl,.row e sz a s c)::hp,n,nl+1,cs⟩ r H:=by
 rcases h with⟨rfl,h0⟩|⟨x,ts,b,rfl,h1,h2,h3,h4,h5,h6,h7,h8⟩
 .exact⟨ρ,μ++[none],.refl _,.app _ _,hs,hh.alias (fun _ _ h=>by cases h) (fun x hx=>by cases hx),.osl0 _ _ _ _ _ _ 0 v (rR hh.len _) hs.zero (by omega) hv h0⟩
 .refine⟨ρ,μ++[some x],.refl _,.app _ _,hs,hh.alias (fun _ _ h=>by cases h) (fun y hy=> ?_),?_⟩
  .cases hy;exact⟨h2,h3,b,h4,h5,h6,ts,v,hv,h1,h7,fun t ht=>⟨(h8 t ht).1.ext (.refl _) (.app _ _),(h8 t ht).2⟩⟩
  .have:=Gm.osl (ρ:=ρ) (μ:=μ++[some x]) nl sz 0 0 s c x 0 v (rR hh.len _) hs.zero (by omega) hv (by omega);rw[<-h1]at this;simpa using this
theorem ROk.lift{n nl:Nat}{cs:List pO}{hp:fJ}{R:AR}{t:T}{ρ1:fI}(he:rZ ρ ρ1)(h:ROk ρ1 μ R t H):ROk ρ μ R t H:=by
 obtain⟨a,b,h1,h2,h3⟩:=h;exact⟨a,b,he.trans h1,h2,h3⟩
theorem aQc{cs:List pO}(hc:pG ρ cs)(h0:ρ[0]? =some 0){s:Nat}{c v u:Int}(hv:ρ[s]? =some v)(h:aWk cs s c=some u):v+c<=u:=by
 unfold aWk at h;split at h
 .cases h;have:=oS hc ‹_› hv h0;omega
 .split at h
  .cases h;have:=oS hc ‹_› hv h0;omega
  .split at h
   .cases h;have:=oS hc ‹_› hv h0;omega
   .split at h
    .cases h;have:=oS hc ‹_› hv h0;omega
    .cases h
theorem Jf(hs:Sy ρ S.nx S.cs)(hh:GH S.hp S.nl ρ μ H){t tx:eX}{s x:A}{s' y:T}(hS:Gm ρ μ s s')(hx:Gm ρ μ x y){R:AR}(h:TX P S t tx s x=some R):
  ∃r H',BN P H t tx s' y=some (r,H')/\ROk ρ μ R r H':=by
 unfold TX at h;split at h
 .rename_i e es c hu;split at h
  .rename_i e2 i hu2 hi;split at h
   .rename_i hc;simp only[aA,beq_iff_eq,sU,aI]at hc;obtain⟨c1,c2,c3,c4,c5,c6,c7⟩:=hc;have c1:1<i.size:=by simpa using c1
    have c2:=oM c2;cases h;cases hS;cases hx with
    |sl _ _ _ _ xs w h1 q1 q2 q3=>
    rw[hs.zero]at q1;cases q1;have hl:(xs.length:Int)=c:=by omega
    have hne:xs≠[]:=fun e=>by rw[e]at hl;simp at hl;omega
    have hxs:aWq y=some xs:=by
     rcases h1 with⟨rfl,rfl⟩|⟨f,rfl⟩|⟨full,m,f,rfl,rfl⟩
     .exact absurd rfl hne
     .rfl
     .rfl
    have hsrc:yC P tx i.size y=true:=by
     unfold yC;rw[hu2];rcases h1 with⟨rfl,rfl⟩|⟨f,rfl⟩|⟨full,m,f,rfl,rfl⟩<;>rfl
    have hcell:∀u∈xs,u.cells.length=i.size/\pY u.cells=true:=fun u hm=>by
     have:=q3 u hm;cases this with
     |agg _ ts g1 g2=>
      refine⟨by show ts.length=_;rw[<-g1];exact c2,?_⟩;exact AP (⟨g1,g2⟩:pH ρ μ es ts) c3
    have hall:∀l:List T,(∀u∈l,pY u.cells=true)->pY (l.flatMap T.cells)=true:=by
     intro l
     induction l with
     |nil=>intro _;rfl
     |cons u r ih=>
      intro hq;rw[bI];have h1:=hq u (by simp);have h2:=ih (fun w hw=>hq w (by simp[hw]));generalize u.cells=q at h1
      induction q with
      |nil=>exact h2|cons z q ih2=>simp only[pY,aA,List.cons_append]at h1⊢;exact⟨h1.1,ih2 h1.2⟩
    refine⟨.sl false xs,H,?_,?_⟩
    .unfold BN;rw[hu,hxs];simp only[hi];rw[if_neg];rintro(q|q|q|q|q|q|q)
     .omega
     .exact hne (List.isEmpty_iff.1 q)
     .rw[aG.2 (fun u hm=>by simpa using(hcell u hm).1)]at q;cases q
     .rw[hall xs (fun u hm=>(hcell u hm).2)]at q;cases q
     .exact q c4
     .rw[hsrc]at q;cases q
     .have:zP xs.length i.bytes=true:=by
       unfold zP;simp only[aA,aI];constructor
       .have:((xs.length*i.bytes:Nat):Int)<=70368744177664:=by rw[Int.natCast_mul,hl];exact c6
        omega
       .omega
      rw[this]at q;cases q
    .exact⟨ρ,μ,.refl _,.refl _,hs,hh,.sl _ _ _ _ xs 0 (.inr (.inl ⟨false,rfl⟩)) hs.zero (by omega) q3⟩
   .cases h
  .cases h
 .cases h
theorem Pw(hs:Sy ρ S.nx S.cs)(hh:GH S.hp S.nl ρ μ H){t tx:eX}{s x:A}{s' y:T}(hS:Gm ρ μ s s')(hx:Gm ρ μ x y){R:AR}(h:Ee P S t tx s x=some R):
  ∃r H',rT P H t tx s' y=some (r,H')/\ROk ρ μ R r H':=by
 unfold Ee at h;split at h
 .rename_i e hu;split at h
  .rename_i i hi;split at h
   .rename_i el sm cm hsrc;split at h
    .cases h
    .rename_i hc;simp only[bG,not_or,bM,Bool.not_eq_false,beq_iff_eq]at hc;obtain⟨⟨⟨⟨c1,c2⟩,c3⟩,c4⟩,c5⟩:=hc;have c3:el.known=true:=by simpa using c3
     have c4:el.cells.length=i.size:=oM (by simpa using c4);have c5:uX el.cells=true:=by simpa using c5
     obtain⟨us,vm,u1,u2,u3,u4,u5,u6⟩:=aPp hs hh hx hsrc c3 c4;have hall:pY (us.flatMap T.cells)=true:=by
      clear u1 u2 u5
      induction us with
      |nil=>rfl
      |cons u r ih=>
       rw[bI];have h1:=AP (qQ (u6 u (by simp)).1 c3).2 c5;have h2:=ih (fun w hw=>u6 w (by simp[hw]));clear ih u6;generalize u.cells=q at h1
       induction q with
       |nil=>exact h2|cons z q ih2=>simp only[pY,aA,List.cons_append]at h1⊢;exact⟨h1.1,ih2 h1.2⟩
     have hfl:=vM us (fun u hu=>(u6 u hu).2);have guard:¬(i.size=0\/(us.flatMap T.cells).length≠us.length*i.size\/pY (us.flatMap T.cells)=false\/(i.zero.map fun z=>z.cells.size)≠some i.size\/yC P tx i.size y=false):=by
      rintro(q|q|q|q|q)
      .exact c1 q
      .exact q hfl
      .rw[hall]at q;cases q
      .exact q c2
      .rw[u3]at q;cases q
     have nilCase:∀(b:A) (q:Nat) (d w:Int) (ρ1:fI) (n1:Nat) (cs1:List pO) (hp1:fJ),rZ ρ ρ1->Sy ρ1 n1 cs1->GH hp1 S.nl ρ1 μ H->ρ1[q]? =some w->w+d=us.length->
       (us.length:Int)<=70368744177664/((i.bytes:Int)+1)->(∀u,Gm ρ μ el u->Gm ρ μ b u)->
       ∃r H',rT P H t tx .nils y=some (r,H')/\ROk ρ μ ⟨.osl S.nl i.size 0 0 q d,(S.nl,.row e i.size b q d)::hp1,n1,S.nl+1,cs1⟩ r H':=by
      intro b q d w ρ1 n1 cs1 hp1 e1 s1 g1 hw hwd hroom hb;by_cases h0:us.length=0
      .refine⟨.nils,H,?_,ROk.lift (n:=0) (nl:=0) (cs:=[]) (hp:=[]) e1 (QR s1 g1 hw (.inl ⟨rfl,by omega⟩))⟩;simp only[rT,hu,hi,u1,u2];rw[if_neg guard];simp only[h0,if_true]
      .have:=PU (S:=⟨[],hp1,n1,S.nl,cs1⟩) s1 g1 (e:=e) (sz:=i.size) (a:=b) (s:=q) (c:=d) (v:=w) (ts:=us) hw (by omega) (fun u hu=>⟨(hb u (u6 u hu).1).ext e1 (.refl _),(u6 u hu).2⟩) (fun _ =>Fh (fun u hu=>(u6 u hu).2) c1 h0);refine⟨_,_,?_,ROk.lift (n:=0) (nl:=0) (cs:=[]) (hp:=[]) e1 this⟩;simp only[rT,hu,hi,u1,u2];rw[if_neg guard,if_neg h0,if_pos (Hi hroom)]
     split at h
     .split at h
      .rename_i hcc;simp only[aA]at hcc;have k2:=oS hs.cs hcc.2 u4 hs.zero;cases h;cases hS;exact nilCase el sm cm vm ρ S.nx S.cs S.hp (.refl _) hs hh u4 (by omega) (by omega) (fun u hu=>hu)
      .cases h
     .rename_i l sz si ci s0 c0;split at h
      .rename_i e' sz' a q0 d0 hl;split at h
       .rename_i hcc;simp only[aA,beq_iff_eq]at hcc;obtain⟨⟨⟨⟨⟨⟨⟨k1,k2⟩,k3⟩,k4⟩,k5⟩,k6⟩,k7⟩,k8⟩:=hcc;have k1:=oM k1;have k2:=oM k2;have k3:=oM k3;have k4:=oM k4;have k6:=oM k6;subst k3 k4 k5 k6 k7;subst k1;split at h
        .rename_i b hb;split at h
         .rename_i hbb;simp only[aA]at hbb;obtain⟨⟨⟨⟨b1,b2⟩,b3⟩,b4⟩,b5⟩:=hbb;have b4:=oS hs.cs b4 hs.zero u4;obtain⟨j1,j2⟩:=Gc (μ:=μ) hs.cs hs.zero hb;have main:∀(q:Nat) (d w:Int) (ρ1:fI) (n1:Nat) (cs1:List pO),rZ ρ ρ1->Sy ρ1 n1 cs1->ρ1[q]? =some w->(∀v0,ρ[s0]? =some v0->w+d=v0+c0+(vm+cm))->
            w+d<=70368744177664/((i.bytes:Int)+1)->
            ∃r H',rT P H t tx s' y=some (r,H')/\ROk ρ μ ⟨.osl S.nl i.size 0 0 q d,(S.nl,.row e' i.size b q d)::vL S.hp l,n1,S.nl+1,cs1⟩ r H':=by
           intro q d w ρ1 n1 cs1 e1 s1 hw hwd hroom
           have hdrop:GH (vL S.hp l) S.nl ρ μ H:=hh.sub (fun m o hm=>by
            rw[AY]at hm;split at hm
            .cases hm
            .exact hm)
           cases hS with
           |osl0 _ _ _ _ _ _ vi v0 g1 g2 g3 g4 g5=>
            have:=hwd v0 g4;exact nilCase b q d w ρ1 n1 cs1 (vL S.hp l) e1 s1 (hdrop.ext e1) hw (by omega) (by omega) j2
           |osl _ _ _ _ _ _ l' vi v0 g1 g2 g3 g4 g5=>
            have hlen:=hwd v0 g4;obtain⟨ob,o1,o2,o3,ts,v1,r1,r2,r3,r4⟩:=hh.at hl g1;rw[g4]at r1;cases r1;rw[hs.zero]at g2;cases g2;have htl:(v0+c0).toNat=ts.length:=by omega
            by_cases h0:us.length=0
            .refine⟨.osl l' sz' 0 ts.length,H,?_,ROk.lift (n:=0) (nl:=0) (cs:=[]) (hp:=[]) e1 (QR s1 (hdrop.ext e1) hw (.inr ⟨l',ts,ob,by rw[k2],by omega,hh.lt l l' g1,fun m o hm he=> ?_,o1,o2,⟨by rw[o3.1,k2],o3.2⟩,r3,fun u hu=>⟨(j1 u (r4 u hu).1).ext e1 (.refl _),by rw[<-k2];exact(r4 u hu).2⟩⟩))⟩
             .simp only[rT,hu,hi,u1,u2];rw[if_neg guard];simp only[Int.add_zero,Int.toNat_zero,h0,if_true,htl,k2]
             .rw[AY]at hm;split at hm
              .cases hm
              .rename_i hne;exact hne (hh.inj l m _ o l' hl hm g1 he)
            .have hgd:=hh.dropR hl g1
             have hnr:=PU (S:=⟨[],vL S.hp l,n1,S.nl,cs1⟩) (H:=H.drop l') s1 (hgd.ext e1) (e:=e') (sz:=i.size) (a:=b) (s:=q) (c:=d) (v:=w) (ts:=ts++us) hw (by rw[bK];omega) (fun u hu=>by
              rcases bZ.1 hu with hu|hu
              .exact⟨(j1 u (r4 u hu).1).ext e1 (.refl _),by rw[<-k2];exact(r4 u hu).2⟩
              .exact⟨(j2 u (u6 u hu).1).ext e1 (.refl _),(u6 u hu).2⟩) (fun _ =>Fh (sz:=i.size) (fun u hu=>by
              rcases bZ.1 hu with hu|hu
              .rw[<-k2];exact(r4 u hu).2
              .exact(u6 u hu).2) c1 (by rw[bK];omega))
             refine⟨_,_,?_,ROk.lift (n:=0) (nl:=0) (cs:=[]) (hp:=[]) e1 hnr⟩;simp only[rT,hu,hi,u1,u2];rw[if_neg guard];simp only[Int.add_zero,Int.toNat_zero,htl,o1];rw[if_neg h0,if_pos ⟨by first|exact k2|trivial,by rw[o3.1,k2],o2,by rw[r3,vM ts (fun u hu=>(r4 u hu).2),k2],Hi (by push_cast;omega)⟩];simp only[r3,dQ,bK,Hp.drop]
          split at h
          .rename_i q d hq;split at h
           .rename_i hroom;cases h;have:∃v0,ρ[s0]? =some v0:=by cases hS with
             |osl0 _ _ _ _ _ _ vi v0 g1 g2 g3 g4 g5=>exact⟨v0,g4⟩|osl _ _ _ _ _ _ l' vi v0 g1 g2 g3 g4 g5=>exact⟨v0,g4⟩
            obtain⟨v0,hv0⟩:=this;obtain⟨w,w1,w2⟩:=NJ hs.zero hv0 u4 hq;have hroom:=oS hs.cs hroom w1 hs.zero;exact main q d w ρ S.nx S.cs (.refl _) hs w1 (fun v h=>by rw[hv0]at h;cases h;exact w2) (by omega)
           .cases h
          .split at h
           .rename_i hroom;cases h;have:∃v0,ρ[s0]? =some v0:=by cases hS with
             |osl0 _ _ _ _ _ _ vi v0 g1 g2 g3 g4 g5=>exact⟨v0,g4⟩|osl _ _ _ _ _ _ l' vi v0 g1 g2 g3 g4 g5=>exact⟨v0,g4⟩
            obtain⟨v0,hv0⟩:=this;simp only[aA]at hroom;have h1:=oS hs.cs hroom.1 hv0 hs.zero;have h2:=oS hs.cs hroom.2 u4 hs.zero;have b5:=oS hs.cs b5 hs.zero hv0;obtain⟨e1,e2,e3,e4⟩:=hs.new (v0+c0+(vm+cm));have hk:(35184372088832:Int)/((i.bytes:Int)+1)+35184372088832/((i.bytes:Int)+1)<=70368744177664/((i.bytes:Int)+1):=by
             apply Int.le_ediv_of_mul_le (by omega);have:=Int.ediv_mul_le (35184372088832:Int) (b:=(i.bytes:Int)+1) (by omega);rw[Int.add_mul];omega
            have hk2:(70368744177664:Int)/((i.bytes:Int)+1)<=70368744177664:=Int.ediv_le_self _ (by omega);have up:∀{r:List pO},pG (ρ++[v0+c0+(vm+cm)]) r->pG (ρ++[v0+c0+(vm+cm)]) (upC S.cs s0 c0 sm cm S.nx r):=fun{r} hr=>by
             unfold upC;split
             .rename_i u hu;have:=aQc hs.cs hs.zero u4 hu;exact .cons ⟨_,v0,e2,e1 _ _ hv0,by omega⟩ hr
             .exact hr
            exact main S.nx 0 _ (ρ++[v0+c0+(vm+cm)]) (S.nx+1) _ e1 ⟨e3,e4,up<| .cons ⟨v0,_,e1 _ _ hv0,e2,by omega⟩ (.cons ⟨vm,_,e1 _ _ u4,e2,by omega⟩ (.cons ⟨0,_,e4,e2,by omega⟩ (.cons ⟨_,0,e2,e4,by omega⟩ (hs.cs.ext e1))))⟩ e2
             (fun v h=>by rw[hv0]at h;cases h;omega) (by omega)
           .cases h
         .cases h
        .cases h
       .cases h
      .cases h
     .cases h
   .cases h
  .cases h
 .cases h
end
end Go.Ps
