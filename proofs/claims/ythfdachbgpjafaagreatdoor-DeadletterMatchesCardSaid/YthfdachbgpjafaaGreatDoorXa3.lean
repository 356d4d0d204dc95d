/- Texts merged: AtB, AtC, AtD, AtE, AtF, AtG, AtH, AtI, AtJ, AtK, AtKa, AtKb, AtL, AtM, AtN. -/
import Derived.Test.YthfdachbgpjafaaGreatDoorXa2
import Derived.Test.YthfdachbgpjafaaGreatDoorXa1
set_option linter.unusedSimpArgs false
set_option linter.unusedVariables false
set_option linter.unusedSectionVars false
namespace Go.Ps
noncomputable section
structure Post where
 res:A
 oc:List (Nat×Nat×TA):=[]
structure AX where
 gl:Nat→Option A
 pe:FuncId→List A→Nat→List Con→Option AV
 inl:FuncId→Bool
 top:FuncId→Bool
 own:FuncId→Tmp→Bool
 jr:FuncId→Nat→Bool
 an:FuncId→An
 post:FuncId→Option Post
 lk:Bool:=false
structure AR where
 a:A
 hp:List (Nat×AO)
 nx:Nat
 nl:Nat
 cs:List Con
def beqC:Con→Con→Bool
 | .le x y c,.le x' y' c'=>Nat.beq x x'&&(Nat.beq y y'&&c==c')
 | .ne x y c,.ne x' y' c'=>Nat.beq x x'&&(Nat.beq y y'&&c==c')
 |_,_ =>false
def beqCs:List Con→List Con→Bool
 |[],[]=>true
 |a::a_s,b::bs=>beqC a b&&beqCs a_s bs
 |_,_ =>false
def beqB:Bo→Bo→Bool
 | .lit a,.lit b=>a==b
 | .imp p n,.imp p' n'=>beqCs p p'&&beqCs n n'
 |_,_ =>false
def beqS:List UInt8→List UInt8→Bool
 |[],[]=>true
 |a::a_s,b::bs=>a==b&&beqS a_s bs
 |_,_ =>false
def lAll(f:A→A→Bool):List A→List A→Bool
 |[],[]=>true
 |a::a_s,b::bs=>f a b&&lAll f a_s bs
 |_,_ =>false
def beqA:Nat→A→A→Bool
 |0,_,_ =>false
 |n+1,a,b=>match a,b with
  | .top,.top| .any,.any| .nilp,.nilp| .nils,.nils| .nilf,.nilf| .nili,.nili| .nilm,.nilm| .ifc,.ifc=>true
  | .int k s c,.int k' s' c'=>k==k'&&(Nat.beq s s'&&c==c')
  | .ival k s c,.ival k' s' c'=>k==k'&&(s==s'&&c==c')
  | .bool x,.bool y=>beqB x y
  | .strc x,.strc y=>beqS x y
  | .str s c,.str s' c'=>Nat.beq s s'&&c==c'
  | .strv s c,.strv s' c'=>s==s'&&c==c'
  | .yl l,.yl l'=>Nat.beq l l'
  | .ptr l o,.ptr l' o'=>Nat.beq l l'&&Nat.beq o o'
  | .elp l z s c o,.elp l' z' s' c' o'=>Nat.beq l l'&&(Nat.beq z z'&&(Nat.beq s s'&&(c==c'&&Nat.beq o o')))
  | .ref x o,.ref y o'=>beqA n x y&&Nat.beq o o'
  | .sl e s c,.sl e' s' c'=>beqA n e e'&&(Nat.beq s s'&&c==c')
  | .sx s c,.sx s' c'=>Nat.beq s s'&&c==c'
  | .sxv s c,.sxv s' c'=>s==s'&&c==c'
  | .slv e s c,.slv e' s' c'=>beqA n e e'&&(s==s'&&c==c')
  | .osl l z si ci s c,.osl l' z' si' ci' s' c'=>Nat.beq l l'&&(Nat.beq z z'&&(Nat.beq si si'&&(ci==ci'&&(Nat.beq s s'&&c==c'))))
  | .fn f a c,.fn f' a' c'=>Nat.beq f f'&&(lAll (beqA n) a a'&&lAll (beqA n) c c')
  | .iface t x,.iface t' y=>Nat.beq t t'&&beqA n x y
  | .or a_s,.or bs| .agg a_s,.agg bs| .tup a_s,.tup bs| .slk a_s,.slk bs=>lAll (beqA n) a_s bs
  | .prd q a_s,.prd q' bs=>Nat.beq q q'&&lAll (beqA n) a_s bs
  | .mp l,.mp l'=>Nat.beq l l'
  | .slp q e s c,.slp q' e' s' c'=>Nat.beq q q'&&(beqA n e e'&&(Nat.beq s s'&&c==c'))
  | .slpv q e s c,.slpv q' e' s' c'=>Nat.beq q q'&&(beqA n e e'&&(s==s'&&c==c'))
  |_,_ =>false
def lEv(f:A→Bool):List A→Bool
 |[]=>true
 |a::a_s=>f a&&lEv f a_s
def lSm(f:A→Bool):List A→Bool
 |[]=>false
 |a::a_s=>f a||lSm f a_s
def oldCs(n:Nat):List Con→Bool
 |[]=>true
 | .le x y _ ::r=>Nat.blt x n&&(Nat.blt y n&&oldCs n r)
 | .ne x y _ ::r=>Nat.blt x n&&(Nat.blt y n&&oldCs n r)
def oldA(n l:Nat):Nat→A→Bool
 |0,_ =>false
 |k+1,a=>match a with
  | .int _ s _ | .str s _ | .sx s _ =>Nat.blt s n
  | .bool (.lit _)=>true
  | .bool (.imp p q)=>oldCs n p&&oldCs n q
  | .yl m=>Nat.blt m l
  | .ptr m _ =>Nat.blt m l
  | .mp m=>Nat.blt m l
  | .elp m _ s _ _ =>Nat.blt m l&&Nat.blt s n
  | .ref x _ =>oldA n l k x
  | .sl e s _ | .slp _ e s _ =>oldA n l k e&&Nat.blt s n
  | .slv e _ _ | .slpv _ e _ _ =>oldA n l k e
  | .osl m _ si _ s _ =>Nat.blt m l&&(Nat.blt si n&&Nat.blt s n)
  | .fn _ a_s bs=>lEv (oldA n l k) a_s&&lEv (oldA n l k) bs
  | .iface _ x=>oldA n l k x
  | .or a_s| .agg a_s| .tup a_s| .slk a_s| .prd _ a_s=>lEv (oldA n l k) a_s
  |_ =>true
def dep:Nat:=30
def prdOf:A→Option (Nat×List A)
 | .prd q a_s=>some (q,a_s)
 |_ =>none
def slpOf:A→Option (Nat×A×Nat×Int)
 | .slp q e s c=>some (q,e,s,c)
 |_ =>none
def leT(cs:List Con)(n l:Nat):Nat→A→A→Bool
 |0,_,_ =>false
 |k+1,a,t=>match prdOf a with
  |some (q,a_s)=>(match t with
   | .prd q' ts=>Nat.beq q q'&&lAll (leT cs n l k) a_s ts
   |t=>leT cs n l k (.agg a_s) t)
  |none=>match slpOf a with
  |some (q,e,s,c)=>(match t with
   | .slpv q' e' lo hi=>Nat.beq q q'&&((leq cs s c 0 0||leT cs n l k e e')&&(leq cs 0 lo s c&&leq cs s c 0 hi))
   | .slp q' e' s' c'=>beqA dep a (.slp q' e' s' c')&&oldA n l dep (.slp q' e' s' c')
   |t=>leT cs n l k (.sl e s c) t)
  |none=>match t with
  | .top=>true
  | .any=>a.one
  | .ival q lo hi=>match a with
   | .int q' s c=>q==q'&&(leq cs 0 lo s c&&leq cs s c 0 hi)
   | .ival q' lo' hi'=>q==q'&&(ile lo lo'&&ile hi' hi)
   | .or a_s=>lEv (fun x=>leT cs n l k x t) a_s
   |_ =>false
  | .strv lo hi=>match a with
   | .strc s=>ile lo s.length&&ile s.length hi
   | .str s c=>leq cs 0 lo s c&&leq cs s c 0 hi
   | .strv lo' hi'=>ile lo lo'&&ile hi' hi
   |_ =>false
  | .slv e lo hi=>match a with
   | .nils=>ile lo 0&&ile 0 hi
   | .slk es=>ile lo es.length&&(ile es.length hi&&lEv (fun x=>leT cs n l k x e) es)
   | .sl e' s c=>(leq cs s c 0 0||leT cs n l k e' e)&&(leq cs 0 lo s c&&leq cs s c 0 hi)
   | .slv e' lo' hi'=>(ile hi' 0||leT cs n l k e' e)&&(ile lo lo'&&ile hi' hi)
   |_ =>false
  | .sxv lo hi=>match a with
   | .sx s c=>leq cs 0 lo s c&&leq cs s c 0 hi
   | .sxv lo' hi'=>ile lo lo'&&ile hi' hi
   |_ =>false
  | .bool (.imp [] [])=>match a with
   | .bool _ =>true
   |_ =>false
  | .or ts=>match a with
   | .or a_s=>lEv (fun x=>lSm (fun y=>leT cs n l k x y) ts) a_s
   |a=>lSm (fun y=>leT cs n l k a y) ts
  | .agg ts=>match a with
   | .agg a_s=>lAll (leT cs n l k) a_s ts
   |_ =>false
  | .tup ts=>match a with
   | .tup a_s=>lAll (leT cs n l k) a_s ts
   |_ =>false
  |t=>beqA dep a t&&oldA n l dep t
def hiOf(cs:List Con)(s:Nat)(c:Int):Option Int:=
 if leq cs s c 0 100 then some 100 else if leq cs s c 0 1000000 then some 1000000 else if leq cs s c 0 1000000000000000000 then some 1000000000000000000 else if leq cs s c 0 maxStr then some maxStr else none
def top2(cs:List Con)(a:A):Option A:=
 match a with
 | .int k _ _ | .ival k _ _ =>some (.ival k k.min k.max)
 | .bool _ =>some (.bool boTop)
 | .strc s=>if ile s.length 1000000 then some (.strv 0 1000000)else none
 | .str s c=>match hiOf cs s c with
  |some h=>some (.strv 0 h)
  |none=>none
 | .strv _ h=>some (.strv 0 h)
 |_ =>none
def maxI(a b:Int):Int:=if ile a b then b else a
def sl2(cs:List Con):A→Option (Option A×Int)
 | .nils=>some (none,0)
 | .sl e s c=>match hiOf cs s c with
  |some h=>some (some e,h)
  |none=>none
 | .slv e _ h=>some (some e,h)
 |_ =>none
def jn(cs:List Con):Nat→A→A→Option A
 |0,_,_ =>none
 |k+1,a,b=>if beqA dep a b then some a else match a,b with
  | .agg a_s,.agg bs=>(jnL (jn cs k) a_s bs).map .agg
  | .tup a_s,.tup bs=>(jnL (jn cs k) a_s bs).map .tup
  |a,b=>match sl2 cs a,sl2 cs b with
   |some (some e,h),some (some e',h')=>match jn cs k e e' with
    |some x=>some (.slv x 0 (maxI (maxI h h') 0))
    |none=>none
   |some (some e,h),some (none,_)=>some (.slv e 0 (maxI h 0))
   |some (none,_),some (some e,h)=>some (.slv e 0 (maxI h 0))
   |_,_ =>match top2 cs a,top2 cs b with
   |some (.ival k1 lo hi),some (.ival k2 _ _)=>if k1==k2 then some (.ival k1 lo hi)else none
   |some (.bool x),some (.bool _)=>some (.bool x)
   |some (.strv _ h),some (.strv _ h')=>some (.strv 0 (maxI h h'))
   |none,none=>match a with
    | .or a_s=>if b.flat&&allFlat a_s then some (.or (b::a_s))else none
    |a=>if a.flat&&b.flat then some (.or [a,b])else none
   |_,_ =>none
where
 jnL (f:A→A→Option A):List A→List A→Option (List A)
  |[],[]=>some []
  |a::a_s,b::bs=>match f a b with
   |some x=>match jnL f a_s bs with
    |some xs=>some (x::xs)
    |none=>none
   |none=>none
  |_,_ =>none
def jnT(cs:List Con)(a b:A):Option A:=if leT cs 0 0 dep b a then some a else jn cs dep a b
def jnAll(cs:List Con):A→List A→Option A
 |a,[]=>some a
 |a,b::r=>match jnT cs a b with
  |some x=>jnAll cs x r
  |none=>none
def setsOkA(sz:Nat)(ag:Bool)(len:Nat):List (Nat×A)→Bool
 |[]=>true
 |(i,v)::r=>v.known&&(Nat.beq v.cells.length sz&&(v.isAgg==ag&&(Nat.blt i len&&(allOneA v.cells&&setsOkA sz ag len r))))
def inOrder:Nat→List (Nat×A)→Bool
 |_,[]=>true
 |j,(i,_)::r=>Nat.beq i j&&inOrder (j+1) r
def elemsA(P:Program)(cs:List Con)(t:TypeId)(len:Nat)(parts:List (Nat×A)):Option (TypeId×Nat×A):=
 match P.underlying t with
 |some (.slice e)=>match szT P e,aggT P e,zeroA P e with
  | some s,some ag,some z=>if Nat.blt 0 s&&decide (len*s≤65536)&&Nat.beq z.cells.length s&&z.isAgg==ag&&z.known&&allOneA z.cells&&setsOkA s ag len parts then
    match(match parts with
     |(_,v)::r=>if inOrder 0 parts&&Nat.beq parts.length len then jnAll cs v (r.map Prod.snd)else jnAll cs z (parts.map Prod.snd)
     |[]=>some z)with
    |some el=>if el.known&&(Nat.beq el.cells.length s&&(allOneA el.cells&&el.isAgg==ag))then some (e,s,el)else none
    |none=>none
   else none
  |_,_,_ =>none
 |_ =>none
def absC(P:Program)(X:AX)(fr:List A)(n:Nat)(cs:List Con)(c:Call):Option AV:=
 match c.callee with
 | .value f=>match evA X.gl fr f with
  |some (.fn g first cap)=>match evAll X.gl fr c.args.toList with
   |some ars=>X.pe g (first++ars++cap) n cs
   |none=>none
  |_ =>none
 | .invoke _ _ =>none
 | .builtin b=>match b with
  | .len=>match c.args.toList,c.argTypes.toList with
   |[x],t::_ =>match evA X.gl fr x with
    |some a=>(lenA P cs t a).map fun y=>⟨y,n,cs⟩
    |none=>none
   |_,_ =>none
  | .min=>match evAll X.gl fr c.args.toList with
   |some (x::r)=>foldA minA n cs x r
   |_ =>none
  | .max=>match evAll X.gl fr c.args.toList with
   |some (x::r)=>foldA maxA n cs x r
   |_ =>none
  |_ =>none
def optA(ev:Operand→Option A):Option Operand→Option (Option A)
 |none=>some none
 |some x=>match ev x with
  |some t=>some (some t)
  |none=>none
def retV(n:Nat)(cs:List Con):Option A→Option AV
 |some a=>some ⟨a,n,cs⟩
 |none=>none
def pureA:Nat→A→Bool
 |0,_ =>false
 |n+1,a=>match a with
  | .prd .. =>Nat.ble 20 (n+1)
  | .slk es=>lEv (pureA n) es
  | .sx .. | .sxv .. | .int .. | .ival .. | .bool _ | .strc _ | .str .. | .strv .. | .nilp| .nils| .nilf| .nili| .nilm=>true
  | .slv e _ hi=>ile hi 0||pureA n e
  | .sl e _ _ =>pureA n e
  | .slp _ e _ _ | .slpv _ e _ _ =>pureA n e
  | .agg a_s| .tup a_s| .or a_s=>lEv (pureA n) a_s
  | .ref x _ =>pureA n x
  | .fn _ a_s bs=>lEv (pureA n) a_s&&lEv (pureA n) bs
  | .iface _ x=>pureA n x
  |_ =>false
def frL(f:A→Option A):List A→Option (List A)
 |[]=>some []
 |a::a_s=>match f a with
  |some b=>match frL f a_s with
   |some bs=>some (b::bs)
   |none=>none
  |none=>none
def frA(hp:List (Nat×AO)):Nat→A→Option A
 |0,_ =>none
 |n+1,a=>if pureA (n+1) a then some a else match a with
  | .osl l sz si ci s c=>match findA hp l with
   | some (.row _ sz' e s' c')=>if Nat.beq sz sz'&&(Nat.beq si 0&&(ci==0&&(Nat.beq s s'&&c==c')))then match e with
     | .agg es=>if Nat.blt 1 sz&&Nat.beq es.length sz then match frL (frA hp n) es with
       |some bs=>some (.sl (.agg bs) s c)
       |none=>none
      else none
     | e=>if Nat.beq sz 1&&e.one then match frA hp n e with
       |some b=>if b.one then some (.sl b s c)else none
       |none=>none
      else none
    else none
   |_ =>none
  | .agg a_s=>match frL (frA hp n) a_s with
   |some bs=>some (.agg bs)
   |none=>none
  | .tup a_s=>match frL (frA hp n) a_s with
   |some bs=>some (.tup bs)
   |none=>none
  |_ =>none
def isOslA:A→Bool
 | .osl .. =>true
 |_ =>false
def scal1A:A→Bool
 | .int .. | .ival .. | .bool _ | .strc _ | .str .. | .strv .. | .nilp| .nils| .nilf| .nili| .nilm=>true
 |_ =>false
def scal2A:A→Bool
 | .agg a_s=>a_s.all scal1A
 |a=>scal1A a
def scalA:A→Bool
 | .tup a_s| .agg a_s=>a_s.all scal2A
 |a=>scal1A a
def absF(X:AX)(hp:List (Nat×AO))(fr:List A)(n:Nat)(cs:List Con)(c:Call):Option AV:=
 match c.callee with
 | .value f=>match evA X.gl fr f with
  |some (.fn g first cap)=>match evAll X.gl fr c.args.toList with
   | some ars=>if(first++ars++cap).any isOslA then(match frL (frA hp dep) (first++ars++cap)with
     |some bs=>if lEv (pureA dep) bs then(match X.pe g bs n cs with
      |some v=>if scalA v.a then some v else none
      |none=>none)else none
     |none=>none)else none
   |none=>none
  |_ =>none
 |_ =>none
def absP(P:Program)(X:AX)(own:Bool)(hp:List (Nat×AO))(fr:List A)(n:Nat)(cs:List Con)(o:Oper):Option AV:=
 let ev:=evA X.gl fr
 match o.op with
 | .move x| .assign x=>retV n cs (ev x)
 | .pick c a b=>match ev c with
  |some (.bool (.lit b'))=>retV n cs (if b' then ev a else ev b)
  |_ =>none
 | .box _ x=>if own then none else match ev x with
  |some y=>if y.known then some ⟨.ref y 0,n,cs⟩else none
  |none=>none
 | .build t parts=>match pairsA X.gl fr parts.toList with
  |some l=>retV n cs (buildA P t l)
  |none=>none
 | .buildSlice t len parts=>if own then none else match pairsA X.gl fr parts.toList with
  |some l=>match elemsA P cs t len l with
   |some (_,_,el)=>some ⟨if X.lk&&(inOrder 0 l&&Nat.beq l.length len)then .slk (l.map Prod.snd)else .sl el 0 len,n,cs⟩
   |none=>none
  |none=>none
 | .load t a=>match ev a with
  |some p=>loadA P hp n cs t p
  |none=>none
 | .nilCheck x=>match ev x with
  |some p=>retV n cs (nilCheckA p)
  |none=>none
 | .binOp op t x y _ =>match ev x,ev y with
  |some a,some b=>if nilsOkA x y a b then binA P n cs op t a b else none
  |_,_ =>none
 | .unOp op _ x=>match ev x with
  |some a=>unA n cs op a
  |none=>none
 | .convert s d x=>match ev x with
  |some a=>convA P n cs s d a
  |none=>none
 | .makeFunc f first captured=>match f with
  | .func g=>match evAll X.gl fr first.toList,evAll X.gl fr captured.toList with
   |some a,some c=>some ⟨.fn g a c,n,cs⟩
   |_,_ =>none
  |_ =>none
 | .fieldAddr s x f=>match ev x with
  |some a=>retV n cs (fieldAddrA P s a f)
  |none=>none
 | .field t x f=>match ev x with
  |some (.agg a_s)=>match fieldT P t f with
   |some fd=>retV n cs (partA P fd.type a_s fd.offset)
   |none=>none
  |_ =>none
 | .indexAddr t x i=>match ev x,ev i with
  |some a,some b=>indexAddrA P n cs t a b
  |_,_ =>none
 | .index t x i=>match ev x,ev i with
  |some a,some b=>indexA P n cs t a b
  |_,_ =>none
 | .slice t x lo hi mx=>match mx with
  |some _ =>none
  |none=>match ev x with
   |some a=>match optA ev lo,optA ev hi with
    |some l,some h=>sliceA P n cs t a l h
    |_,_ =>none
   |none=>none
 | .extract x i=>match ev x with
  |some (.tup xs)=>retV n cs xs[i]?
  |_ =>none
 | .call c=>match absC P X fr n cs c with
  |some v=>some v
  |none=>absF X hp fr n cs c
 | .lookup t x i ok=>match ev x,ev i with
  |some a,some b=>retV n cs (lookupA P hp t a b ok)
  |_,_ =>none
 |_ =>none
def storeA(P:Program)(S:AS)(t:TypeId)(p x:A):Option AR:=
 match szT P t with
 | some n=>if x.known&&(Nat.beq x.cells.length n&&allOneA x.cells)then match p with
   | .ptr l off=>match findA S.hp l with
    |some (.fix e xs)=>if off+n≤xs.length then some ⟨.tup [],setA S.hp l (.fix e (spliceA xs off x.cells)),S.nx,S.nl,S.cs⟩else none
    |_ =>none
   | .elp l sz s c off=>match findA S.hp l with
    | some (.row e sz' a s' c')=>if Nat.beq sz sz'&&a.known&&Nat.beq a.cells.length sz&&leq S.cs s (c+1) s' c'&&decide (off+n≤sz)then
      match a with
      | .agg a_s=>match jnT S.cs (.agg a_s) (.agg (spliceA a_s off x.cells))with
       |some b=>if allOneA b.cells&&b.known&&Nat.beq b.cells.length sz&&b.isAgg then some ⟨.tup [],setA S.hp l (.row e sz b s' c'),S.nx,S.nl,S.cs⟩else none
       |none=>none
      | .prd .. =>none
      |a=>match x.cells with
       |[y]=>match jnT S.cs a y with
        |some b=>if b.one then some ⟨.tup [],setA S.hp l (.row e sz b s' c'),S.nx,S.nl,S.cs⟩else none
        |none=>none
       |_ =>none
     else none
    |_ =>none
   |_ =>none
  else none
 |none=>none
def srcA(P:Program)(hp:List (Nat×AO))(cs:List Con)(tx:TypeId)(size:Nat)(x:A):Option (A×Nat×Int):=
 match P.underlying tx,x with
 |some (.slice _),.osl l sz si ci s c=>match findA hp l with
  | some (.row _ sz' e s' c')=>if Nat.beq sz sz'&&Nat.beq sz size&&leq cs 0 0 si ci&&leq cs 0 0 s c then match sumL si ci s c with
    |some (q,d)=>if leq cs q d s' c' then some (e,s,c)else none
    |none=>none
   else none
  |_ =>none
 |some (.slice _),.sl e s c=>some (e,s,c)
 |some (.slice e),.nils=>match zeroA P e with
  |some z=>some (z,0,0)
  |none=>none
 |some .string,.strc b=>if Nat.beq size 1 then some (.ival .u8 0 255,0,b.length)else none
 |some .string,.str s c=>if Nat.beq size 1 then some (.ival .u8 0 255,s,c)else none
 |_,_ =>none
def upOf(cs:List Con)(s:Nat)(c:Int):Option Int:=
 if leq cs s c 0 0 then some 0 else if leq cs s c 0 1 then some 1 else if leq cs s c 0 6 then some 6 else if leq cs s c 0 100 then some 100 else none
def upC(cs:List Con)(s0:Nat)(c0:Int)(sm:Nat)(cm:Int)(n:Nat)(r:List Con):List Con:=
 match upOf cs sm cm with
 |some u=> .le n s0 (c0+u)::r
 |none=>r
def appendA(P:Program)(S:AS)(t tx:TypeId)(s x:A):Option AR:=
 match P.underlying t with
 |some (.slice e)=>match P.info? e with
  |some i=>match srcA P S.hp S.cs tx i.size x with
   |some (el,sm,cm)=>
    if(i.size==0)|| !((i.zero.map fun z=>z.cells.size)==some i.size)|| !el.known|| !(Nat.beq el.cells.length i.size)|| !(allOneA el.cells)then none else
    match s with
    | .nils=>if leq S.cs 0 0 sm cm&&leq S.cs sm cm 0 (70368744177664/(i.bytes+1))then
      some ⟨.osl S.nl i.size 0 0 sm cm,(S.nl,.row e i.size el sm cm)::S.hp,S.nx,S.nl+1,S.cs⟩
     else none
    | .osl l sz si ci s0 c0=>match findA S.hp l with
     | some (.row e' sz' a s' c')=>if Nat.beq sz i.size&&Nat.beq sz' i.size&&Nat.beq e' e&&Nat.beq si 0&&(ci==0)&&Nat.beq s0 s'&&(c0==c')&&a.isAgg==el.isAgg then
       match jnT S.cs a el with
       | some b=>if b.known&&Nat.beq b.cells.length i.size&&allOneA b.cells&&leq S.cs 0 0 sm cm&&leq S.cs 0 0 s0 c0 then
         match sumL s0 c0 sm cm with
         | some (q,d)=>if leq S.cs q d 0 (70368744177664/(i.bytes+1))then
           some ⟨.osl S.nl i.size 0 0 q d,(S.nl,.row e i.size b q d)::dropA S.hp l,S.nx,S.nl+1,S.cs⟩
          else none
         | none=>if leq S.cs s0 c0 0 (35184372088832/(i.bytes+1))&&leq S.cs sm cm 0 (35184372088832/(i.bytes+1))then
           some ⟨.osl S.nl i.size 0 0 S.nx 0,(S.nl,.row e i.size b S.nx 0)::dropA S.hp l,S.nx+1,S.nl+1,upC S.cs s0 c0 sm cm S.nx (.le s0 S.nx (-c0):: .le sm S.nx (-cm):: .le 0 S.nx 0:: .le S.nx 0 70368744177664::S.cs)⟩
          else none
        else none
       |none=>none
      else none
     |_ =>none
    |_ =>none
   |none=>none
  |none=>none
 |_ =>none
def makeSliceA(P:Program)(S:AS)(t:TypeId)(l c:A):Option AR:=
 match P.underlying t,l,c with
 |some (.slice e),.int .i64 s c,.int .i64 s' c'=>match szT P e,(P.info? e).map (·.bytes),zeroA P e with
  | some sz,some bytes,some z=>if(!(Nat.beq e 5)||leq S.cs 0 1 s c)&&Nat.blt 0 sz&&Nat.beq z.cells.length sz&&z.known&&allOneA z.cells&&Nat.beq s s'&&c==c'&&leq S.cs 0 0 s c&&leq S.cs s c 0 (70368744177664/(bytes+1))then
    some ⟨.osl S.nl sz 0 0 s c,(S.nl,.row e sz z s c)::S.hp,S.nx,S.nl+1,S.cs⟩
   else none
  |_,_,_ =>none
 |_,_,_ =>none
def buildSliceA(P:Program)(S:AS)(t:TypeId)(len:Nat)(parts:List (Nat×A)):Option AR:=
 match elemsA P S.cs t len parts with
 |some (e,s,el)=>if !(Nat.beq e 5)||(Nat.blt 0 len&&Nat.blt 0 s)then some ⟨.osl S.nl s 0 0 0 len,(S.nl,.row e s el 0 len)::S.hp,S.nx,S.nl+1,S.cs⟩else none
 |none=>none
def insertA(P:Program)(S:AS)(t:TypeId)(m k x:A):Option AR:=
 match m,k with
 | .mp l,.int ik s c=>if ik== .i64&&Nat.beq s 0 then match findA S.hp l with
   |some (.map es)=>match P.underlying t with
    |some (.map kt _)=>match P.underlying kt with
     |some (.int _)=>match findK c es with
      |none=>some ⟨.tup [],setA S.hp l (.map (es++[(c,x)])),S.nx,S.nl,S.cs⟩
      |some _ =>none
     |_ =>none
    |_ =>none
   |_ =>none
  else none
 |_,_ =>none
def appendNA(P:Program)(S:AS)(t tx:TypeId)(s x:A):Option AR:=
 match P.underlying t,s,x with
 |some (.slice e),.nils,.sl (.agg a_s) 0 c=>match P.underlying tx,P.info? e with
  | some (.slice _),some i=>if Nat.blt 1 i.size&&(Nat.beq a_s.length i.size&&(allOneA a_s&&((i.zero.map fun z=>z.cells.size)==some i.size&&(ile 1 c&&(decide (c*i.bytes≤70368744177664)&&ile c 70368744177664)))))then
    some ⟨.sl (.agg a_s) 0 c,S.hp,S.nx,S.nl,S.cs⟩else none
  |_,_ =>none
 |_,_,_ =>none
def absE(P:Program)(X:AX)(pa:Bool)(call:FuncId→List A→AS→Option (List AR))(S:AS)(o:Oper):Option (List AR):=
 let ev:=evA X.gl S.fr
 match o.op with
 | .alloc t=>match zeroA P t with
  |some z=>if z.known then some [⟨.ptr S.nl 0,(S.nl,.fix t z.cells)::S.hp,S.nx,S.nl+1,S.cs⟩]else none
  |none=>none
 | .box t x=>match ev x with
  |some y=>if y.known then some [⟨.ptr S.nl 0,(S.nl,.fix t y.cells)::S.hp,S.nx,S.nl+1,S.cs⟩]else none
  |none=>none
 | .buildSlice t len parts=>match pairsA X.gl S.fr parts.toList with
  |some l=>(buildSliceA P S t len l).map ([·])
  |none=>none
 | .store t p x=>match ev p,ev x with
  |some q,some y=>(storeA P S t q y).map ([·])
  |_,_ =>none
 | .makeSlice t l c=>match ev l,ev c with
  |some n,some m=>(makeSliceA P S t n m).map ([·])
  |_,_ =>none
 | .makeMap _ r=>match r with
  |none=>some [⟨.mp S.nl,(S.nl,.map [])::S.hp,S.nx,S.nl+1,S.cs⟩]
  |some _ =>none
 | .mapUpdate t m k x| .insert t m k x=>match ev m,ev k,ev x with
  |some a,some b,some v=>(insertA P S t a b v).map ([·])
  |_,_,_ =>none
 | .call c=>match c.callee with
  | .value f=>match ev f with
   | some (.fn g first cap)=>if X.inl g then match evAll X.gl S.fr c.args.toList with
     |some ars=>call g (first++ars++cap) S
     |none=>none
    else none
   |_ =>none
  | .builtin .append=>match c.args.toList,c.argTypes.toList with
   |[s,x],[t,t']=>match ev s,ev x with
    |some a,some b=>(if pa then appendNA P S t t' a b else appendA P S t t' a b).map ([·])
    |_,_ =>none
   |_,_ =>none
  |_ =>none
 |_ =>none
structure Af where
 S:AS
 pend:Option (Tmp×TypeId)
 av:List Oper
def opKey(f:Operand→Operand→Bool):Op→Op→Bool
 | .load t a,.load t' a'=>Nat.beq t t'&&f a a'
 | .fieldAddr s x i,.fieldAddr s' x' i'=>Nat.beq s s'&&(Nat.beq i i'&&f x x')
 | .indexAddr t x i,.indexAddr t' x' i'=>Nat.beq t t'&&(f x x'&&f i i')
 | .move x,.move y=>f x y
 |_,_ =>false
def sameTmp:Operand→Operand→Bool
 | .tmp a,.tmp b=>Nat.beq a b
 |_,_ =>false
def dstIs(o:Oper)(d:Tmp):Bool:=
 match o.dst with
 |some e=>Nat.beq e d
 |none=>false
def eqO(av:List Oper):Nat→Operand→Operand→Bool
 |0,x,y=>sameTmp x y
 |n+1,x,y=>sameTmp x y||(match x,y with
  | .tmp a,.tmp b=>av.any fun oa=>dstIs oa a&&av.any fun ob=>dstIs ob b&&opKey (eqO av n) oa.op ob.op
  |_,_ =>false)
def cse(av:List Oper)(o:Oper):Option Tmp:=
 match av.find? fun o1=>opKey (eqO av 6) o1.op o.op with
 |some o1=>o1.dst
 |none=>none
def readsT(o:Oper):List Tmp:=o.op.operands.toList.filterMap fun x=>match x with| .tmp t=>some t|_ =>none
def isKey(o:Oper):Bool:=
 match o.op with
 | .load .. | .fieldAddr .. | .indexAddr .. | .move _ =>true
 |_ =>false
def hitN(d:Tmp):List Tmp→Bool
 |[]=>false
 |x::xs=>Nat.beq x d||hitN d xs
def keepAv(d:Tmp):List Oper→List Oper
 |[]=>[]
 |o::r=>if dstIs o d||hitN d (readsT o)then keepAv d r else o::keepAv d r
def pushAv(fr:List A)(o:Oper)(av:List Oper):List Oper:=
 match o.dst with
 |some d=>if isKey o&&(Nat.blt d fr.length&& !(hitN d (readsT o)))then o::keepAv d av else keepAv d av
 |none=>av
def putA(fr:List A)(dst:Option Tmp)(v:A):List A:=
 match dst with
 |some d=>setS v fr d
 |none=>fr
def AS.ofR(S:AS)(dst:Option Tmp)(r:AR):AS:={fr:=putA S.fr dst r.a,hp:=r.hp,nx:=r.nx,nl:=r.nl,cs:=r.cs}
def isEff(X:AX)(own:Bool)(fr:List A)(o:Oper):Bool:=
 match o.op with
 | .alloc _ | .store .. | .makeSlice .. | .makeMap .. | .mapUpdate .. | .insert .. =>true
 | .box .. | .buildSlice .. =>own
 | .call c=>match c.callee with
  | .builtin .append=>true
  | .value f=>match evA X.gl fr f with
   |some (.fn g _ _)=>X.inl g
   |_ =>false
  |_ =>false
 |_ =>false
def bsOwn(own:Bool)(o:Oper):Bool:=
 match o.op with
 | .buildSlice .. =>own
 |_ =>true
def splitI(S:AS)(i:Tmp)(k:IntKind)(s:Nat)(c:Int):Nat→List AS
 |0=>[]
 |v+1=>if leq S.cs s c 0 ((v:Int)-1)||leq S.cs 0 ((v:Int)+1) s c then splitI S i k s c v
  else{S with fr:=setS (.int k 0 v) S.fr i,cs:= .le s 0 ((v:Int)-c):: .le 0 s (c-(v:Int))::S.cs}::splitI S i k s c v
def splitOp(X:AX)(S:AS)(o:Oper):Option (List AS):=
 match o.op with
 | .pick (.tmp c) _ _ =>match getS S.fr c with
  | .bool (.imp p n)=>some ((splitB S.cs (.imp p n)).map fun q=>{S with fr:=setS (.bool (.lit q.1)) S.fr c,cs:=q.2})
  |_ =>none
 | .call c=>match c.callee with
  | .value (.tmp f)=>match getS S.fr f with
   | .or a_s=>some (a_s.map fun a=>{S with fr:=setS a S.fr f})
   |_ =>none
  |_ =>none
 | .indexAddr _ (.tmp a) (.tmp i)=>match getS S.fr a with
  | .ptr .. =>match getS S.fr i with
   | .int k s c=>if Nat.beq s 0 then none else if leq S.cs 0 0 s c&&leq S.cs s c 0 15 then some (splitI S i k s c 16)else none
   |_ =>none
  |_ =>none
 |_ =>none
def catM{α β:Type}(f:α→Option (List β)):List α→Option (List β)
 |[]=>some []
 |a::a_s=>match f a with
  |some l=>match catM f a_s with
   |some r=>some (l++r)
   |none=>none
  |none=>none
def guard1(S:AS)(d:Tmp)(want:Bool):A→Option (List (Bool×AS))
 | .bool b=>some ((splitB S.cs b).map fun q=>(q.1==want,{S with cs:=q.2,fr:=setS (.bool (.lit q.1)) S.fr d}))
 | .tup []=>some [(false,{S with fr:=setS (.tup []) S.fr d})]
 |_ =>none
def guardA(ops:Array Oper)(S:AS)(o:Oper):Option (List (Bool×AS)):=
 match o.guard with
 |none=>some [(true,S)]
 |some (j,want)=>match(ops[j]?).bind (·.dst)with
  |some d=>match getS S.fr d with
   | .or a_s=>catM (guard1 S d want) a_s
   |a=>guard1 S d want a
  |none=>none
section
variable(P:Program)(X:AX)(call:FuncId→List A→AS→Option (List AR))(F:Tmp→Bool)
def ownO(o:Oper):Bool:=
 match o.dst with
 |some d=>F d
 |none=>false
def pendA(o:Oper):Option (Tmp×TypeId):=
 match o.op with
 | .alloc t=>match o.dst with
  |some d=>if F d then none else some (d,t)
  |none=>none
 |_ =>none
def coreA(s:Af)(o:Oper):Option (List Af):=
 match pendA F o with
 |some (d,t)=>if s.pend.isSome then none else match szT P t,zeroA P t with
  |some n,some z=>if Nat.beq z.cells.length n&&z.known&&Nat.blt d s.S.fr.length then some [{S:={s.S with fr:=setS (.tup []) s.S.fr d},pend:=some (d,t),av:=[]}]else none
  |_,_ =>none
 | none=>if isEff X (ownO F o) s.S.fr o then
   if bsOwn (ownO F o) o then match absE P X (pureApp F o.dst) call s.S o with
    |some l=>some (l.map fun r=>{S:=s.S.ofR o.dst r,pend:=s.pend,av:=[]})
    |none=>none
   else none
  else match cse s.av o with
   |some d1=>some [{S:={s.S with fr:=putA s.S.fr o.dst (getS s.S.fr d1)},pend:=s.pend,av:=pushAv s.S.fr o s.av}]
   |none=>match absP P X (ownO F o) s.S.hp s.S.fr s.S.nx s.S.cs o with
    |some v=>some [{S:={s.S with fr:=putA s.S.fr o.dst v.a,nx:=v.nx,cs:=v.cs},pend:=s.pend,av:=pushAv s.S.fr o s.av}]
    |none=>none
def plainA(ops:Array Oper)(s:Af)(o:Oper):Option (List Af):=
 match guardA ops s.S o with
 |some l=>catM (fun q=>if q.1 then(match splitOp X q.2 o with
    |some ss=>catM (fun S'=>coreA P X call F {s with S:=S'} o) ss
    |none=>coreA P X call F {s with S:=q.2} o)
   else some [{S:={q.2 with fr:=putA q.2.fr o.dst (.tup [])},pend:=s.pend,av:=[]}]) l
 |none=>none
def pendSA(s:Af)(d:Tmp)(t:TypeId)(y:A):Af:=
 if F (d+1000)then{S:={s.S with fr:=setS (.ptr s.S.nl 0) s.S.fr d,hp:=(s.S.nl,.fix t y.cells)::s.S.hp,nl:=s.S.nl+1},pend:=none,av:=[]}
 else{S:={s.S with fr:=setS (.ref y 0) s.S.fr d},pend:=none,av:=[]}
def stepA(ops:Array Oper)(s:Af)(o:Oper):Option (List Af):=
 match s.pend with
 |none=>plainA P X call F ops s o
 |some (d,t)=>
  match o.op,o.dst,o.guard with
  | .store t' (.tmp d') x,none,none=>
   if Nat.beq d' d then
    if t'=t∧notSlot x d=true then
     match evA X.gl s.S.fr x,szT P t with
     |some y,some n=>if y.known&&(Nat.beq y.cells.length n&&allOneA y.cells)then some [pendSA F s d t y]else none
     |_,_ =>none
    else none
   else if touchesT ops o d then none else plainA P X call F ops s o
  |_,_,_ =>if touchesT ops o d then none else plainA P X call F ops s o
def seqA(ops:Array Oper):List Oper→Af→Option (List Af)
 |[],s=>some [s]
 |o::rest,s=>match stepA P X call F ops s o with
  |some l=>catM (seqA ops rest) l
  |none=>none
def pendHitA(ops:Array Oper)(s:Af)(o:Oper):Bool:=
 match s.pend with
 |some (d,_)=>touchesT ops o d
 |none=>false
def dstInA(s:Af)(o:Oper):Bool:=
 match o.dst with
 |some d=>Nat.blt d s.S.fr.length
 |none=>true
def drawA(ops:Array Oper):List Oper→Nat→Af→Option (List Af)
 |[],_,s=>match s.pend with
  |none=>some [s]
  |some _ =>none
 |o::rest,m,s=>
  if pendHitA ops s o then
   if chained (ancs ops.toList []) m ops.size then seqA P X call F ops (o::rest) s else none
  else if dstInA s o=false then none
  else match guardA ops s.S o with
   |some l=>catM (fun q=>if q.1 then(match pendA F o with
      |some _ =>match coreA P X call F {s with S:=q.2} o with
       |some ss=>catM (drawA ops rest (m+1)) ss
       |none=>none
      |none=>match splitOp X q.2 o with
       |some ss=>catM (fun S'=>if isEff X (ownO F o) S'.fr o then
          (if bsOwn (ownO F o) o&&chained (ancs ops.toList []) m ops.size then seqA P X call F ops (o::rest) {s with S:=S'}else none)
         else match coreA P X call F {s with S:=S'} o with
          |some ss=>catM (drawA ops rest (m+1)) ss
          |none=>none) ss
       |none=>if isEff X (ownO F o) q.2.fr o then
          (if bsOwn (ownO F o) o&&chained (ancs ops.toList []) m ops.size then seqA P X call F ops (o::rest) {s with S:=q.2}else none)
         else match coreA P X call F {s with S:=q.2} o with
          |some ss=>catM (drawA ops rest (m+1)) ss
          |none=>none)
     else drawA ops rest (m+1) {S:={q.2 with fr:=putA q.2.fr o.dst (.tup [])},pend:=s.pend,av:=[]}) l
   |none=>none
def hOkA(l:Nat)(S:AS)(o:Oper):Bool:=
 match o.op with
 | .load _ a=>match evA X.gl S.fr a with
  |some (.ref ..)=>true
  |some (.ptr l' _)=> !(Nat.beq l' l)&&((findA S.hp l).isSome&&(findA S.hp l').isSome)
  |some (.elp l' _ _ _ _)=> !(Nat.beq l' l)&&((findA S.hp l).isSome&&(findA S.hp l').isSome)
  |_ =>false
 | .call c=>match c.callee with
  | .builtin .len=>c.args.toList.all fun x=>match evA X.gl S.fr x with
   |some (.str ..)|some (.strc _)|some (.sl ..)|some (.osl ..)|some .nils|some (.sx ..)|some .nilm=>true
   |_ =>false
  | .builtin _ =>true
  |_ =>false
 | .lookup .. =>false
 |_ =>true
def drawSA(ops:Array Oper)(A:List Nat)(p l:Nat):List Oper→Nat→Bool→Af→Option (List Af)
 |[],_,af,s=>if af then some [s]else none
 |o::rest,m,af,s=>
  if(af&&chained A m ops.size)=true then seqA P X call F ops (o::rest) s
  else if dstInA s o=false then none
  else if isStore o then(if af then none else match o.op with
   | .store t x y=>match evA X.gl s.S.fr x,evA X.gl s.S.fr y with
    | some (.ptr l' off),some v=>if Nat.beq l' l then match storeA P s.S t (.ptr l' off) v with
      |some R=>drawSA ops A p l rest (m+1) true {S:={s.S with hp:=R.hp,nx:=R.nx,nl:=R.nl,cs:=R.cs},pend:=none,av:=[]}
      |none=>none
     else none
    |_,_ =>none
   |_ =>none)
  else match guardA ops s.S o with
   |some gs=>catM (fun q=>if q.1 then
      (if((if af then prec A m p else prec A p m)||hOkA X l q.2 o)&&((pendA F o).isNone&& !(isEff X (ownO F o) q.2.fr o))then match coreA P X call F {s with S:=q.2} o with
       |some ss=>catM (drawSA ops A p l rest (m+1) af) ss
       |none=>none
      else none)
     else drawSA ops A p l rest (m+1) af {S:={q.2 with fr:=putA q.2.fr o.dst (.tup [])},pend:=s.pend,av:=[]}) gs
   |none=>none
def hIndA(S:AS)(o:Oper):Bool:=
 match o.op with
 | .load _ a=>match evA X.gl S.fr a with
  |some (.ref ..)=>true
  |_ =>false
 | .call c=>match c.callee with
  | .builtin .len=>c.args.toList.all fun x=>match evA X.gl S.fr x with
   |some (.str ..)|some (.strc _)|some (.sl ..)|some (.osl ..)|some .nils|some (.sx ..)|some .nilm|some (.slk _)|some (.slp ..)=>true
   |_ =>false
  | .builtin _ =>true
  |_ =>false
 | .lookup .. =>false
 |_ =>true
def bindA(m:Nat)(e d:Bool)(l:Option (List (AS×List Nat×List Nat))):Option (List (AS×List Nat×List Nat)):=
 match l with
 |some l=>some (l.map fun q=>(q.1,(if e then m::q.2.1 else q.2.1),(if d then m::q.2.2 else q.2.2)))
 |none=>none
def effsA(ops:Array Oper):List Oper→Nat→AS→Option (List (AS×List Nat×List Nat))
 |[],_,S=>some [(S,[],[])]
 |o::rest,m,S=>
  if dstInA ⟨S,none,[]⟩ o=false then none
  else match guardA ops S o with
   |some gs=>catM (fun q=>if q.1 then catM (fun S'=>
      if isEff X (ownO F o) S'.fr o then
       (if bsOwn (ownO F o) o then match absE P X (pureApp F o.dst) call S' o with
        |some rs=>catM (fun R=>bindA m true false (effsA ops rest (m+1) (S'.ofR o.dst R))) rs
        |none=>none
       else none)
      else match absP P X (ownO F o) S'.hp S'.fr S'.nx S'.cs o with
       |some v=>bindA m false (!(hIndA X S' o)) (effsA ops rest (m+1) {S' with fr:=putA S'.fr o.dst v.a,nx:=v.nx,cs:=v.cs})
       |none=>none) (match splitOp X q.2 o with
        |some ss=>ss
        |none=>[q.2])
     else effsA ops rest (m+1) {q.2 with fr:=putA q.2.fr o.dst (.tup [])}) gs
   |none=>none
def draw2A(ops:Array Oper)(S:AS):Option (List Af):=
 match effsA P X call F ops ops.toList 0 S with
 |some l=>if l.all fun q=>okWin (ancs ops.toList []) q.2.1 q.2.2 then some (l.map fun q=>⟨q.1,none,[]⟩)else none
 |none=>none
def drawXA(fl:Bool)(ops:Array Oper)(S:AS):Option (List Af):=
 if lkp ops|| !fl then draw2A P X call F ops S else
 if late ops then match storeRoot ops,firstStore ops.toList 0 with
  |some b,some p=>match getS S.fr b with
   | .ptr l _ =>drawSA P X call F ops (ancs ops.toList []) p l ops.toList 0 false ⟨S,none,[]⟩
   |_ =>none
  |_,_ =>none
 else drawA P X call F ops ops.toList 0 ⟨S,none,[]⟩
end
def numA:A→Option (Nat×Int)
 | .int _ s c| .str s c| .sl _ s c| .sx s c| .osl _ _ _ _ s c=>some (s,c)
 | .slp _ _ s c=>some (s,c)
 | .strc b=>some (0,b.length)
 | .nils=>some (0,0)
 |_ =>none
def ocPtr:Nat→List (Nat×AO)→List A→Nat→Option Nat
 |0,_,_,_ =>none
 | k+1,hp,fr,d=>if Nat.blt d 1000 then match getS fr d with
   | .ptr l _ =>some l
   |_ =>none
  else match getS fr (Nat.mod d 1000)with
   | .yl l=>match findA hp l with
    |some (.loop _ _ fr' ..)=>ocPtr k hp fr' (Nat.div d 1000-1)
    |_ =>none
   |_ =>none
def refA(S:AS)(gs:Nat)(gc:Int):Ref→Option (Nat×Int)
 | .slot d=>numA (getS S.fr d)
 | .cell d j=>match ocPtr 5 S.hp S.fr d with
  |some l=>match findA S.hp l with
   |some (.fix _ xs)=>match xs[j]? with
    |some a=>numA a
    |none=>none
   |_ =>none
  |none=>none
 | .ghost=>some (gs,gc)
 | .zero=>some (0,0)
def dstsO:List Oper→List Tmp
 |[]=>[]
 |o::os=>match o.dst with
  |some d=>d::dstsO os
  |none=>dstsO os
def memN(d:Nat):List Nat→Bool
 |[]=>false
 |x::xs=>Nat.beq x d||memN d xs
def topF(n l:Nat)(w:List Tmp):Nat→List A→List A
 |_,[]=>[]
 |j,a::a_s=>(if memN j w|| !oldA n l dep a then .top else a)::topF n l w (j+1) a_s
def anyCells(oc:List (Nat×Nat×TA))(l:Nat):Nat→List A→List A
 |_,[]=>[]
 |j,a::a_s=>(if oc.any fun q=>Nat.beq q.1 l&&Nat.beq q.2.1 j then .any else a)::anyCells oc l (j+1) a_s
def anyHp(oc:List (Nat×Nat×TA)):List (Nat×AO)→List (Nat×AO)
 |[]=>[]
 |(l,.fix e xs)::r=>(l,.fix e (anyCells oc l 0 xs))::anyHp oc r
 |(l,o)::r=>(l,o)::anyHp oc r
def dropRows(fr:List A):List (Tmp×TA)→List (Nat×AO)→List (Nat×AO)
 |[],hp=>hp
 |(d,.row ..)::r,hp=>match getS fr d with
  | .osl l .. =>dropRows fr r (dropA hp l)
  |_ =>dropRows fr r hp
 |_ ::r,hp=>dropRows fr r hp
def cellA(hp:List (Nat×AO))(l j:Nat):A:=
 match findA hp l with
 |some (.fix _ xs)=>match xs[j]? with
  |some a=>a
  |none=> .top
 |_ => .top
def dropRowsC(hp0:List (Nat×AO)):List (Nat×Nat×TA)→List (Nat×AO)→List (Nat×AO)
 |[],hp=>hp
 |(l,j,.row ..)::r,hp=>match cellA hp0 l j with
  | .osl m .. =>dropRowsC hp0 r (dropA hp m)
  |_ =>dropRowsC hp0 r hp
 |_ ::r,hp=>dropRowsC hp0 r hp
def dropMaps:List (Nat×AO)→List (Nat×AO)→List (Nat×AO)
 |[],hp=>hp
 |(l,.map _)::r,hp=>dropMaps r (dropA hp l)
 |_ ::r,hp=>dropMaps r hp
def baseHp(S:AS)(sp:List (Tmp×TA))(oc:List (Nat×Nat×TA)):List (Nat×AO):=dropRowsC S.hp oc (dropRows S.fr sp (dropMaps S.hp S.hp))
def baseS(S:AS)(w:List Tmp)(sp:List (Tmp×TA))(oc:List (Nat×Nat×TA))(m0:Int):AS:=
 {fr:=topF S.nx S.nl w 0 S.fr,hp:=anyHp oc (baseHp S sp oc),nx:=S.nx+1,nl:=S.nl,cs:= .le 0 S.nx 0:: .le S.nx 0 m0::S.cs}
def addSp:List (Tmp×TA)→AS→AS
 |[],S=>S
 |(d,.a a)::r,S=>match matV a S.nx S.cs with
  |⟨b,n,cs⟩=>addSp r {S with fr:=setS b S.fr d,nx:=n,cs:=cs}
 |(d,.row e sz a lo hi)::r,S=>addSp r {fr:=setS (.osl S.nl sz 0 0 S.nx 0) S.fr d,hp:=(S.nl,.row e sz a S.nx 0)::S.hp,nx:=S.nx+1,nl:=S.nl+1,cs:= .le 0 S.nx (-lo):: .le S.nx 0 hi::S.cs}
def setCell(l j:Nat)(a:A):List (Nat×AO)→List (Nat×AO)
 |[]=>[]
 |(m,.fix e xs)::r=>if Nat.beq m l then(m,.fix e (xs.set j a))::setCell l j a r else(m,.fix e xs)::setCell l j a r
 |q::r=>q::setCell l j a r
def addOc:List (Nat×Nat×TA)→AS→AS
 |[],S=>S
 |(l,j,.a a)::r,S=>match matV a S.nx S.cs with
  |⟨b,n,cs⟩=>addOc r {S with hp:=setCell l j b S.hp,nx:=n,cs:=cs}
 |(l,j,.row e sz a lo hi)::r,S=>addOc r {S with hp:=setCell l j (.osl S.nl sz 0 0 S.nx 0) ((S.nl,.row e sz a S.nx 0)::S.hp),nx:=S.nx+1,nl:=S.nl+1,cs:= .le 0 S.nx (-lo):: .le S.nx 0 hi::S.cs}
def addCons(gs:Nat):List (Ref×Ref×Int)→AS→Option (List Con)
 |[],S=>some S.cs
 |(p,q,c)::r,S=>match refA S gs 0 p,refA S gs 0 q with
  |some (x,a),some (y,b)=>match addCons gs r S with
   |some cs=>some (.le x y (c+b-a)::cs)
   |none=>none
  |_,_ =>none
def invS(S:AS)(w:List Tmp)(sp:List (Tmp×TA))(oc:List (Nat×Nat×TA))(cons:List (Ref×Ref×Int))(m0:Int):Option AS:=
 let S1:=addOc oc (addSp sp (baseS S w sp oc m0))
 match addCons S.nx cons S1 with
 |some cs=>some {S1 with cs:=cs}
 |none=>none
def sameF(n l:Nat)(w:List Tmp):Nat→List A→List A→Bool
 |_,[],[]=>true
 |j,a::a_s,b::bs=>((memN j w|| !oldA n l dep a)||beqA dep a b)&&sameF n l w (j+1) a_s bs
 |_,_,_ =>false
def sameC(n l:Nat)(oc:List (Nat×Nat×TA))(m:Nat):Nat→List A→List A→Bool
 |_,[],[]=>true
 |j,a::a_s,b::bs=>(if oc.any fun q=>Nat.beq q.1 m&&Nat.beq q.2.1 j then b.one else beqA dep a b&&oldA n l dep a)&&sameC n l oc m (j+1) a_s bs
 |_,_,_ =>false
def sameSt:LoopState→LoopState→Bool
 | .ready,.ready| .busy,.busy| .done,.done| .exhausted,.exhausted=>true
 |_,_ =>false
def samePe:Option (Option Nat)→Option (Option Nat)→Bool
 |none,none|some none,some none=>true
 |some (some a),some (some b)=>Nat.beq a b
 |_,_ =>false
def sameH(n l:Nat)(oc:List (Nat×Nat×TA))(hp1:List (Nat×AO)):List (Nat×AO)→Bool
 |[]=>true
 |(m,.fix e xs)::r=>Nat.blt m l&&((match findA hp1 m with
  |some (.fix e' ys)=>Nat.beq e e'&&sameC n l oc m 0 xs ys
  |_ =>false)&&sameH n l oc hp1 r)
 |(m,.row e sz a s c)::r=>Nat.blt m l&&((match findA hp1 m with
  |some (.row e' sz' b s' c')=>Nat.beq e e'&&(Nat.beq sz sz'&&(beqA dep a b&&(oldA n l dep a&&(Nat.beq s s'&&(c==c'&&Nat.blt s n)))))
  |_ =>false)&&sameH n l oc hp1 r)
 |(_,.map _)::_ =>false
 |(m,.loop st pe ..)::r=>Nat.blt m l&&((match findA hp1 m with
  |some (.loop st' pe' ..)=>sameSt st st'&&samePe pe pe'
  |_ =>false)&&sameH n l oc hp1 r)
def findsA(hp:List (Nat×AO))(m:Nat):Bool:=(findA hp m).isSome
def okSp(n l:Nat)(base:List (Nat×AO))(S1:AS):List (Tmp×TA)→List Nat→Bool
 |[],_ =>true
 |(d,.a t)::r,used=>leT S1.cs n l dep (getS S1.fr d) t&&okSp n l base S1 r used
 |(d,.row e sz t lo hi)::r,used=>match getS S1.fr d with
  | .nils=>ile lo 0&&(ile 0 hi&&okSp n l base S1 r used)
  | .osl m sz' si ci s c=>match findA S1.hp m with
   | some (.row e' sz2 a s' c')=>Nat.beq sz sz'&&(Nat.beq sz2 sz&&(Nat.beq e e'&&(Nat.beq si 0&&(ci==0&&(Nat.beq s s'&&(c==c'&&(leT S1.cs n l dep a t&&(leq S1.cs 0 lo s c&&(leq S1.cs s c 0 hi&&
     (!(memN m used)&&(!(findsA base m)&&okSp n l base S1 r (m::used))))))))))))
   |_ =>false
  |_ =>false
def usedSp(S1:AS):List (Tmp×TA)→List Nat→List Nat
 |[],u=>u
 |(_,.a _)::r,u=>usedSp S1 r u
 |(d,.row ..)::r,u=>match getS S1.fr d with
  | .osl m .. =>usedSp S1 r (m::u)
  |_ =>usedSp S1 r u
def okOc(n l:Nat)(base:List (Nat×AO))(S1:AS):List (Nat×Nat×TA)→List Nat→Bool
 |[],_ =>true
 |(m,j,.a t)::r,used=>(match findA S1.hp m with
  |some (.fix _ xs)=>match xs[j]? with
   |some a=>leT S1.cs n l dep a t
   |none=>false
  |_ =>false)&&okOc n l base S1 r used
 |(m,j,.row e sz t lo hi)::r,used=>match findA S1.hp m with
  |some (.fix _ xs)=>match xs[j]? with
   |some .nils=>ile lo 0&&(ile 0 hi&&okOc n l base S1 r used)
   |some (.osl q sz' si ci s c)=>match findA S1.hp q with
    | some (.row e' sz2 a s' c')=>Nat.beq sz sz'&&(Nat.beq sz2 sz&&(Nat.beq e e'&&(Nat.beq si 0&&(ci==0&&(Nat.beq s s'&&(c==c'&&(leT S1.cs n l dep a t&&(leq S1.cs 0 lo s c&&(leq S1.cs s c 0 hi&&
      (!(memN q used)&&(!(findsA base q)&&okOc n l base S1 r (q::used))))))))))))
    |_ =>false
   |_ =>false
  |_ =>false
def okCons(gs:Nat)(gc:Int)(S1:AS):List (Ref×Ref×Int)→Bool
 |[]=>true
 |(p,q,c)::r=>(match refA S1 gs gc p,refA S1 gs gc q with
  |some (x,a),some (y,b)=>leq S1.cs x a y (b+c)
  |_,_ =>false)&&okCons gs gc S1 r
def distinctOc:List (Nat×Nat×TA)→Bool
 |[]=>true
 |(m,j,_)::r=> !(r.any fun q=>Nat.beq q.1 m&&Nat.beq q.2.1 j)&&distinctOc r
def distinctSp:List (Tmp×TA)→Bool
 |[]=>true
 |(d,_)::r=> !(r.any fun q=>Nat.beq q.1 d)&&distinctSp r
def inW(w:List Tmp):List (Tmp×TA)→Bool
 |[]=>true
 |(d,_)::r=>memN d w&&inW w r
def okS(S:AS)(w:List Tmp)(sp:List (Tmp×TA))(oc:List (Nat×Nat×TA))(cons:List (Ref×Ref×Int))(S1:AS)(gs:Nat)(gc:Int):Bool:=
 sameF S.nx S.nl w 0 S.fr S1.fr&&(sameH S.nx S.nl oc S1.hp (baseHp S sp oc)&&(okSp S.nx S.nl (baseHp S sp oc) S1 sp []&&(okOc S.nx S.nl (baseHp S sp oc) S1 oc (usedSp S1 sp [])&&okCons gs gc S1 cons)))
def measOk(S1 Sh S2:AS)(m0:Int):Meas→Bool
 | .down p=>(match refA S1 0 0 p with
   |some (x,a)=>leq S1.cs x a 0 m0
   |none=>false)&&(match refA Sh 0 0 p,refA S2 0 0 p with
   |some (x,a),some (y,b)=>leq S2.cs y (b+1) x a&&leq S2.cs 0 0 y b
   |_,_ =>false)
 | .up p q c=>(match refA S1 0 0 p,refA S1 0 0 q with
   |some (x,a),some (y,b)=>leq S1.cs y (b+c-m0) x a
   |_,_ =>false)&&(match refA Sh 0 0 p,refA Sh 0 0 q,refA S2 0 0 p,refA S2 0 0 q with
   |some (x,a),some (y,b),some (x',a'),some (y',b')=>Nat.beq y y'&&(b==b'&&(leq S2.cs x (a+1) x' a'&&leq S2.cs x' a' y (b+c)))
   |_,_,_,_ =>false)
end
end Go.Ps
namespace Go.Ps
noncomputable section
def dstsC:Code→List Tmp
 | .region _ ops _ =>dstsO ops.toList
 | .seq a b=>dstsC a++dstsC b
 | .cond _ a b=>dstsC a++dstsC b
 | .block _ c| .loop c| .scope c=>dstsC c
 |_ =>[]
def liftN(l:List Af):Option (List (X×AS)):=
 match l with
 |[]=>some []
 |s::r=>match s.pend with
  |none=>match liftN r with
   |some q=>some ((.normal,s.S)::q)
   |none=>none
  |some _ =>none
def exitsB(id:Nat):List (X×AS)→List (X×AS)
 |[]=>[]
 |(.exit id',S)::r=>(if Nat.beq id' id then(.normal,S)else(.exit id',S))::exitsB id r
 |q::r=>q::exitsB id r
def loopOuts(S:AS)(w:List Tmp)(la:LA)(oc:List (Nat×Nat×TA))(Sh:AS):List (X×AS)→Option (List (X×AS))
 |[]=>some []
 |(.normal,S2)::r=>if okS S w la.sp oc la.cons S2 S.nx (Int.ofNat la.gk)&&measOk S Sh S2 la.m0 la.ms then loopOuts S w la oc Sh r else none
 |q::r=>match loopOuts S w la oc Sh r with
  |some l=>some (q::l)
  |none=>none
def tpl1(n l:Nat)(a:A):A:=
 if oldA n l dep a then a else match a with
 | .bool _ => .bool boTop
 | .or [.bool _,.tup []]=> .or [.bool boTop,.tup []]
 | .int k _ _ | .ival k _ _ => .ival k k.min k.max
 | .str .. | .strc _ | .strv .. => .strv 0 1000000000000000000
 |_ => .top
def tpl2(n l:Nat)(a b:A):A:=
 if beqA dep a b then a else match a,b with
 | .bool _,.bool _ => .bool boTop
 | .bool _,.tup []| .tup [],.bool _ | .or [.bool _,.tup []],.bool _ | .or [.bool _,.tup []],.tup []=> .or [.bool boTop,.tup []]
 | .int k _ _,.int _ _ _ | .ival k _ _,.int _ _ _ => .ival k k.min k.max
 | .strv ..,_ => .strv 0 1000000000000000000
 | .strc _,.strc _ | .str ..,.strc _ | .strc _,.str .. | .str ..,.str .. => .strv 0 1000000000000000000
 |_,_ => .top
def tplOf(n l:Nat)(d:Tmp):A→List Af→A
 |a,[]=>a
 |a,s::r=>tplOf n l d (tpl2 n l a (tpl1 n l (getS s.S.fr d))) r
def spOf(n l:Nat)(s:Af)(r:List Af):List Tmp→List (Tmp×TA)
 |[]=>[]
 |d::ds=>if memN d ds then spOf n l s r ds else(d,.a (tplOf n l d (tpl1 n l (getS s.S.fr d)) r))::spOf n l s r ds
def allIn(S:AS)(w:List Tmp)(sp:List (Tmp×TA)):List Af→Bool
 |[]=>true
 |s::r=>s.pend.isNone&&(okS S w sp [] [] s.S 0 0&&allIn S w sp r)
def joinAf(S:AS)(w:List Tmp):List Af→Option (List Af)
 |[]=>some []
 |[s]=>some [s]
 | s::r=>if allIn S w (spOf S.nx S.nl s r w) (s::r)then match invS S w (spOf S.nx S.nl s r w) [] [] 0 with
   |some S'=>some [⟨S',none,[]⟩]
   |none=>none
  else none
def undefA:A→Bool
 | .tup []=>true
 |_ =>false
def sigEq(s t:Af):List Tmp→Bool
 |[]=>true
 |d::ds=>undefA (getS s.S.fr d)==undefA (getS t.S.fr d)&&sigEq s t ds
def joinG(S:AS)(w:List Tmp):Nat→List Af→Option (List Af)
 |0,l=>some l
 |_ +1,[]=>some []
 |n+1,s::r=>match joinAf S w (s::r.filter fun t=>sigEq s t w)with
  |some a=>match joinG S w n (r.filter fun t=> !sigEq s t w)with
   |some b=>some (a++b)
   |none=>none
  |none=>none
def isPick(o:Oper):Bool:=
 match o.op with
 | .pick .. =>true
 |_ =>false
def yOf(gl:Nat→Option A)(fr:List A)(o:Oper):Option (Nat×List Operand):=
 match o.op with
 | .call c=>match c.callee with
  | .value f=>match evA gl fr f with
   |some (.yl l)=>some (l,c.args.toList)
   |_ =>none
  |_ =>none
 |_ =>none
def ocIdsH(S:AS):List (Tmp×Nat×TA)→Option (List (Nat×Nat×TA))
 |[]=>some []
 |(d,j,a)::r=>match ocPtr 5 S.hp S.fr d with
  |some l=>match ocIdsH S r with
   |some q=>some ((l,j,a)::q)
   |none=>none
  |none=>none
def jmpA:Option (Option Nat)→X
 |none=> .normal
 |some (some id)=> .exit id
 |some none=> .ret
def endR(S:AS)(l:Nat):List AR→Option (List (X×AS))
 |[]=>some []
 |R::rs=>match findA R.hp l with
  |some (.loop st pe ..)=>if sameSt st .busy then none else match endR S l rs with
   |some q=>some ((jmpA pe,{fr:=S.fr,hp:=dropA R.hp l,nx:=R.nx,nl:=R.nl,cs:=R.cs})::q)
   |none=>none
  |_ =>none
def roA(S:AS):Option Nat→Bool
 |none=>true
 |some l=>match findA S.hp l with
  |some (.loop ..)=>true
  |_ =>false
section
variable(P:Program)(Y:AX)(call:FuncId→List A→AS→Option (List AR))(yld:Nat→List A→AS→Option (List AR))(F:Tmp→Bool)
def oneY(S:AS)(o:Oper):Option (List Af):=
 match yOf Y.gl S.fr o with
 |some (l,xs)=>match evAll Y.gl S.fr xs with
  |some ars=>match yld l ars S with
   |some rs=>some (rs.map fun R=>{S:=S.ofR o.dst R,pend:=none,av:=[]})
   |none=>none
  |none=>none
 |none=>none
def stepY(ops:Array Oper)(s:Af)(o:Oper):Option (List Af):=
 match yOf Y.gl s.S.fr o with
 |some _ =>if s.pend.isSome then none else match guardA ops s.S o with
  |some gs=>catM (fun q=>if q.1 then oneY Y yld q.2 o else some [{S:={q.2 with fr:=putA q.2.fr o.dst (.tup [])},pend:=none,av:=[]}]) gs
  |none=>none
 |none=>stepA P Y call F ops s o
def seqY(ops:Array Oper):List Oper→Af→Option (List Af)
 |[],s=>some [s]
 |o::rest,s=>match stepY P Y call yld F ops s o with
  |some l=>catM (seqY ops rest) l
  |none=>none
def seqJ(S:AS)(ops:Array Oper):List Tmp→List Oper→List Af→Option (List Af)
 |_,[],l=>some l
 |w,o::rest,l=>match catM (fun s=>stepY P Y call yld F ops s o) l with
  |some l'=>match(if isPick o then joinG S (o.dst.toList++w) 40 l' else some l')with
   |some l2=>seqJ S ops (o.dst.toList++w) rest l2
   |none=>none
  |none=>none
def symA:Nat→Nat→A→Nat
 |0,m,_ =>m
 |k+1,m,a=>match a with
  | .int _ s _ | .str s _ | .sx s _ =>Nat.lor m (Nat.shiftLeft 1 s)
  | .elp _ _ s _ _ =>Nat.lor m (Nat.shiftLeft 1 s)
  | .bool (.imp p q)=>symC (symC m p) q
  | .ref x _ | .iface _ x=>symA k m x
  | .sl e s _ | .slp _ e s _ =>symA k (Nat.lor m (Nat.shiftLeft 1 s)) e
  | .osl _ _ si _ s _ =>Nat.lor (Nat.lor m (Nat.shiftLeft 1 si)) (Nat.shiftLeft 1 s)
  | .fn _ a_s bs=>(a_s++bs).foldl (symA k) m
  | .or a_s| .agg a_s| .tup a_s| .slk a_s| .prd _ a_s=>a_s.foldl (symA k) m
  |_ =>m
where
 symC:Nat→List Con→Nat
  |m,[]=>m
  |m,.le x y _ ::r=>symC (Nat.lor (Nat.lor m (Nat.shiftLeft 1 x)) (Nat.shiftLeft 1 y)) r
  |m,.ne x y _ ::r=>symC (Nat.lor (Nat.lor m (Nat.shiftLeft 1 x)) (Nat.shiftLeft 1 y)) r
def symO(m:Nat):AO→Nat
 | .fix _ xs=>xs.foldl (symA 8) m
 | .row _ _ e s _ =>symA 8 (Nat.lor m (Nat.shiftLeft 1 s)) e
 | .map es=>es.foldl (fun m q=>symA 8 m q.2) m
 | .loop _ _ fr .. =>fr.foldl (symA 8) m
def keepC(m:Nat):List Con→List Con
 |[]=>[]
 | .le x y c::r=>if Nat.testBit m x&&Nat.testBit m y then .le x y c::keepC m r else keepC m r
 | .ne x y c::r=>if Nat.testBit m x&&Nat.testBit m y then .ne x y c::keepC m r else keepC m r
def gcS(S:AS):AS:={S with cs:=keepC (S.hp.foldl (fun m q=>symO m q.2) (S.fr.foldl (symA 8) 1)) S.cs}
def unrA(f:An→AS→Option (List (X×AS))):List An→AS→Option (List (X×AS))
 |[],_ =>none
 |b::k,S=>match f b S with
  |some l=>catM (fun q=>match q with
   |(.normal,S')=>unrA f k (gcS S')
   |q=>some [(q.1,gcS q.2)]) l
  |none=>none
def codeA(J:Nat→Bool)(ro:Option Nat):Code→An→AS→Option (List (X×AS))
 | .skip,_,S| .label _,_,S=>some [(.normal,S)]
 | .region id ops draw,_,S=>match(if draw then drawXA P Y call F (F (9000000+id)) ops S else if J id then(match seqJ P Y call yld F S ops [] ops.toList [⟨S,none,[]⟩]with
    |some l=>joinAf S (dstsO ops.toList) l
    |none=>none)else seqY P Y call yld F ops ops.toList ⟨S,none,[]⟩)with
  |some l=>liftN l
  |none=>none
 | .seq a b,an,S=>match codeA J ro a an.l S with
  |some l=>catM (fun q=>match q with
   |(.normal,S')=>codeA J ro b an.r S'
   |q=>some [q]) l
  |none=>none
 | .cond c a b,an,S=>match evA Y.gl S.fr c with
  |some (.bool t)=>catM (fun q=>if q.1 then codeA J ro a an.l {S with cs:=q.2}else codeA J ro b an.r {S with cs:=q.2}) (splitB S.cs t)
  |_ =>none
 | .block id c,an,S=>match codeA J ro c an S with
  |some l=>some (exitsB id l)
  |none=>none
 | .loop c,an,S=>match an with
  | .unl bs=>unrA (fun b S=>codeA J ro c b S) bs S
  | .loop la b=>match ocIdsH S la.oc with
   | some oc=>if ile 0 la.m0&&distinctOc oc&&distinctSp la.sp&&inW (dstsC c) la.sp&&okS S (dstsC c) la.sp oc la.cons S 0 0 then match invS S (dstsC c) la.sp oc la.cons (Int.ofNat la.gk*la.m0)with
     |some Sh=>match codeA J ro c b Sh with
      |some l=>loopOuts S (dstsC c) la oc Sh l
      |none=>none
     |none=>none
    else none
   |none=>none
  |_ =>none
 | .rangeFunc g ps asg bd,an,S=>match evA Y.gl S.fr g with
  | some (.fn gf [] cap)=>if roA S ro then match call gf (.yl S.nl::cap) {S with hp:=(S.nl,.loop .ready none S.fr ps asg bd F an.l an.r)::S.hp,nl:=S.nl+1}with
    |some rs=>endR S S.nl rs
    |none=>none
   else none
  |_ =>none
 | .exit id,_,S=>some [(.exit id,S)]
 | .ret,_,S=>some [(.ret,S)]
 |_,_,_ =>none
end
def updL(S:AS)(l:Nat)(st:LoopState)(pe:Option (Option Nat)):Option AS:=
 match findA S.hp l with
 |some (.loop st' pe' fr ps asg bd ow aa ab)=>some {S with hp:=setA S.hp l (.loop st pe fr ps asg bd ow aa ab)}
 |_ =>none
def peX:X→Option (Option Nat)
 | .normal=>none
 | .exit id=>some (some id)
 | .ret=>some none
def normX:X→Bool
 | .normal=>true
 |_ =>false
def rndEnds(l:Nat):List (X×AS)→Option (List AR)
 |[]=>some []
 |(x,S)::r=>match updL S l (if normX x then .ready else .done) (peX x)with
  |some S'=>match rndEnds l r with
   |some q=>some (⟨.bool (.lit (normX x)),S'.hp,S'.nx,S'.nl,S'.cs⟩::q)
   |none=>none
  |none=>none
def setPsA(ps:List Tmp)(x:List A)(fr:List A):List A:=(ps.zip x).foldl (fun f p=>f.set p.1 p.2) fr
def isReady(S:AS)(l:Nat):Bool:=
 match findA S.hp l with
 |some (.loop st ..)=>sameSt st .ready
 |_ =>false
def peAt(S:AS)(l:Nat):Option (Option Nat):=
 match findA S.hp l with
 |some (.loop _ pe ..)=>pe
 |_ =>none
def sameX:X→X→Bool
 | .normal,.normal| .ret,.ret=>true
 | .exit a,.exit b=>Nat.beq a b
 |_,_ =>false
def memX(x:X):List (X×AS)→Bool
 |[]=>false
 |(y,_)::r=>sameX y x||memX x r
def okEnds(S:AS)(oc:List (Nat×Nat×TA)):List (X×AS)→Bool
 |[]=>true
 |(_,S1)::r=>okS {S with fr:=[.top]} [0] [] oc [] {S1 with fr:=[.top]} 0 0&&okEnds S oc r
def bndEnds(S':AS):List (X×AS)→List (X×AS)
 |[]=>[]
 |(x,_)::r=>if memX x r then bndEnds S' r else(x,S')::bndEnds S' r
def boundRd(S:AS)(ab:An)(r:List (X×AS)):Option (List (X×AS)):=
 match ab with
 | .loop la _ =>match ocIdsH S la.oc with
  | some oc=>if distinctOc oc&&okEnds S oc r then match invS {S with fr:=[.top]} [0] [] oc [] 0 with
    |some S'=>some (bndEnds S' r)
    |none=>none
   else none
  |none=>none
 |_ =>some r
def An.body:An→An
 | .loop _ b=>b
 |a=>a
section
variable(P:Program)(Y:AX)(call:FuncId→List A→AS→Option (List AR))(yld:Nat→List A→AS→Option (List AR))
def rndA1(l:Nat)(bd:Code)(ow:Tmp→Bool)(ab:An)(q:X×AS):Option (List AR):=
 if normX q.1&&isReady q.2 l then match updL q.2 l .busy (peAt q.2 l)with
  |some S2=>match codeA P Y call yld ow (Y.jr 100000) (some l) bd ab.body S2 with
   |some r=>match boundRd S2 ab r with
    |some r'=>rndEnds l r'
    |none=>none
   |none=>none
  |none=>none
 else none
def rndA(l:Nat)(args:List A)(S:AS):Option (List AR):=
 match findA S.hp l with
 | some (.loop _ _ fr ps asg bd ow aa ab)=>if Nat.beq args.length ps.size&&(codeOk2 asg&&codeOk2 bd)then match codeA P Y call yld ow (Y.jr 100000) (some l) asg aa {S with fr:=setPsA ps.toList args fr}with
   |some r=>catM (rndA1 P Y call yld l bd ow ab) r
   |none=>none
  else none
 |_ =>none
end
def resA(P:Program)(fr:List A)(S:AS):ResultVar→Option AV
 | .tmp t=>some ⟨getS fr t,S.nx,S.cs⟩
 | .cell a t=>loadA P S.hp S.nx S.cs t (getS fr a)
def resAllA(P:Program)(fr:List A):List ResultVar→AS→Option (List A×AS)
 |[],S=>some ([],S)
 |r::rs,S=>match resA P fr S r with
  |some v=>match resAllA P fr rs {S with nx:=v.nx,cs:=v.cs}with
   |some (l,S')=>some (v.a::l,S')
   |none=>none
  |none=>none
def tup1:List A→A
 |[a]=>a
 |l=> .tup l
def endsA(P:Program)(rs:List ResultVar):List (X×AS)→Option (List AR)
 |[]=>some []
 |(x,S)::r=>match x with
  | .exit _ =>none
  |_ =>match resAllA P S.fr rs S with
   |some (l,S')=>match endsA P rs r with
    |some q=>some (⟨tup1 l,S'.hp,S'.nx,S'.nl,S'.cs⟩::q)
    |none=>none
   |none=>none
def postOc(args:List A):List (Nat×Nat×TA)→Option (List (Nat×Nat×TA))
 |[]=>some []
 |(d,j,a)::r=>match args[d]? with
  |some (.ptr l _)=>match postOc args r with
   |some q=>some ((l,j,a)::q)
   |none=>none
  |_ =>none
def postA(S:AS)(oc:List (Nat×Nat×TA))(res:A):List AR→Bool
 |[]=>true
 |r::rs=>okS {S with fr:=[.top]} [0] [(0,.a res)] oc [] {fr:=[r.a],hp:=r.hp,nx:=r.nx,nl:=r.nl,cs:=r.cs} 0 0&&postA S oc res rs
def boundR(S:AS)(args:List A)(p:Post)(l:List AR):Option (List AR):=
 match postOc args p.oc with
 | some oc=>if distinctOc oc&&postA S oc p.res l then match invS {S with fr:=[.top]} [0] [(0,.a p.res)] oc [] 0 with
   |some S'=>some [⟨getS S'.fr 0,S'.hp,S'.nx,S'.nl,S'.cs⟩]
   |none=>none
  else none
 |none=>none
structure RunA where
 fn:FuncId→List A→AS→Option (List AR)
 yd:Nat→List A→AS→Option (List AR)
def fnA1(P:Program)(Y:AX)(call:FuncId→List A→AS→Option (List AR))(yld:Nat→List A→AS→Option (List AR))(f:FuncId)(args:List A)(S:AS):Option (List AR):=
 if !(Y.top f)then none else match P.funcs[f]? with
  |some fn=>match fn.body with
   |some c=>match codeA P Y call yld (Y.own f) (Y.jr f) none c (Y.an f) {S with fr:=args++List.replicate (fn.ntmps-args.length) (.tup [])}with
    |some l=>match endsA P fn.results.toList l with
     |some rs=>match Y.post f with
      |some p=>boundR S args p rs
      |none=>some rs
     |none=>none
    |none=>none
   |none=>none
  |none=>none
end
end Go.Ps
namespace Go.Ps
def InK(k:IntKind)(n:Int):Prop:=k.min≤n∧n≤k.max
def HoldC(ρ:List Int):Con→Prop
 | .le x y c=>∃vx vy,ρ[x]? =some vx∧ρ[y]? =some vy∧vx≤vy+c
 | .ne x y c=>∃vx vy,ρ[x]? =some vx∧ρ[y]? =some vy∧vx≠vy+c
def HoldCs(ρ:List Int)(cs:List Con):Prop:=∀q∈cs,HoldC ρ q
def HoldB(ρ:List Int):Bo→Bool→Prop
 | .lit b,x=>x=b
 | .imp p n,x=>(x=true→HoldCs ρ p)∧(x=false→HoldCs ρ n)
def IsSl(t:T)(xs:List T):Prop:=(t= .nils∧xs=[])∨(∃f,t= .sl f xs)∨(∃full n f,t= .slf full n f∧xs=(List.range n).map f)
structure Prd where
 q:Nat→T→Prop
 pure:∀(j:Nat) (t:T),q j t→∀(k:Nat) (H:Hp),20≤k→frzT k H t=some t
variable[Inhabited Prd]
inductive Gm(ρ:List Int)(μ:List (Option Nat)):A→T→Prop
 |top (t):Gm ρ μ .top t
 |any (t):t.one=true→Gm ρ μ .any t
 |int (k s c v):ρ[s]? =some v→InK k (v+c)→Gm ρ μ (.int k s c) (.int k (v+c))
 |ival (k:IntKind) (lo hi n:Int):lo≤n→n≤hi→InK k n→Gm ρ μ (.ival k lo hi) (.int k n)
 |bool (B b):HoldB ρ B b→Gm ρ μ (.bool B) (.bool b)
 |strc (s):Gm ρ μ (.strc s) (.str s)
 |str (s c v l):ρ[s]? =some v→(l.length:Int)=v+c→Gm ρ μ (.str s c) (.str l)
 |strv (lo hi:Int) (l:List UInt8):lo≤(l.length:Int)→(l.length:Int)≤hi→Gm ρ μ (.strv lo hi) (.str l)
 |nilp:Gm ρ μ .nilp .nilp
 |nils:Gm ρ μ .nils .nils
 |nilf:Gm ρ μ .nilf .nilf
 |nili:Gm ρ μ .nili .nili
 |nilm:Gm ρ μ .nilm .nilm
 |mp (l l'):μ[l]? =some (some l')→Gm ρ μ (.mp l) (.mp l')
 |yl (l l'):μ[l]? =some (some l')→Gm ρ μ (.yl l) (.yl l')
 |ptr (l off l'):μ[l]? =some (some l')→Gm ρ μ (.ptr l off) (.ptr l' off)
 |elp (l sz s c off l' v):μ[l]? =some (some l')→ρ[s]? =some v→0≤v+c→Gm ρ μ (.elp l sz s c off) (.ptr l' ((v+c).toNat*sz+off))
 |ref (x t off):x.known=true→Gm ρ μ x t→Gm ρ μ (.ref x off) (.ref t off)
 |sl (e s c t xs v):IsSl t xs→ρ[s]? =some v→(xs.length:Int)=v+c→(∀x∈xs,Gm ρ μ e x)→Gm ρ μ (.sl e s c) t
 |slv (e:A) (lo hi:Int) (t:T) (xs:List T):IsSl t xs→lo≤(xs.length:Int)→(xs.length:Int)≤hi→(∀x∈xs,Gm ρ μ e x)→Gm ρ μ (.slv e lo hi) t
 |slk (es t xs):IsSl t xs→es.length=xs.length→(∀(j:Nat) (a:A) (t:T),es[j]? =some a→xs[j]? =some t→Gm ρ μ a t)→Gm ρ μ (.slk es) t
 |slp (q e s c t xs v):(default:Prd).q q t→IsSl t xs→ρ[s]? =some v→(xs.length:Int)=v+c→(∀x∈xs,Gm ρ μ e x)→Gm ρ μ (.slp q e s c) t
 |slpv (q:Nat) (e:A) (lo hi:Int) (t:T) (xs:List T):(default:Prd).q q t→IsSl t xs→lo≤(xs.length:Int)→(xs.length:Int)≤hi→(∀x∈xs,Gm ρ μ e x)→Gm ρ μ (.slpv q e lo hi) t
 |sx (s c full n f v):ρ[s]? =some v→((n:Nat):Int)=v+c→Gm ρ μ (.sx s c) (.slf full n f)
 |sxv (lo hi:Int) (full:Bool) (n:Nat) (f:Nat→T):lo≤(n:Int)→(n:Int)≤hi→Gm ρ μ (.sxv lo hi) (.slf full n f)
 |osl (l sz si ci s c l' vi v):μ[l]? =some (some l')→ρ[si]? =some vi→0≤vi+ci→ρ[s]? =some v→0≤v+c→Gm ρ μ (.osl l sz si ci s c) (.osl l' sz (vi+ci).toNat (v+c).toNat)
 |osl0 (l sz si ci s c vi v):μ[l]? =some none→ρ[si]? =some vi→vi+ci=0→ρ[s]? =some v→v+c=0→Gm ρ μ (.osl l sz si ci s c) .nils
 | fn (f a_s bs as' bs'):a_s.length=as'.length→(∀(j:Nat) (a:A) (t:T),a_s[j]? =some a→as'[j]? =some t→Gm ρ μ a t)→
   bs.length=bs'.length→(∀(j:Nat) (a:A) (t:T),bs[j]? =some a→bs'[j]? =some t→Gm ρ μ a t)→Gm ρ μ (.fn f a_s bs) (.fn (.func f) as' bs')
 |iface (t x y):Gm ρ μ x y→Gm ρ μ (.iface t x) (.iface t y)
 |ifc (t x):Gm ρ μ .ifc (.iface t x)
 |or (a_s a t):a∈a_s→Gm ρ μ a t→Gm ρ μ (.or a_s) t
 |agg (a_s ts):a_s.length=ts.length→(∀(j:Nat) (a:A) (t:T),a_s[j]? =some a→ts[j]? =some t→Gm ρ μ a t)→Gm ρ μ (.agg a_s) (.agg ts)
 |prd (q a_s ts):(default:Prd).q q (.agg ts)→a_s.length=ts.length→(∀(j:Nat) (a:A) (t:T),a_s[j]? =some a→ts[j]? =some t→Gm ρ μ a t)→Gm ρ μ (.prd q a_s) (.agg ts)
 |tup (a_s ts):a_s.length=ts.length→(∀(j:Nat) (a:A) (t:T),a_s[j]? =some a→ts[j]? =some t→Gm ρ μ a t)→Gm ρ μ (.tup a_s) (.tup ts)
def GmL(ρ:List Int)(μ:List (Option Nat))(a_s:List A)(ts:List T):Prop:=a_s.length=ts.length∧∀(j:Nat) (a:A) (t:T),a_s[j]? =some a→ts[j]? =some t→Gm ρ μ a t
def Ext{α:Type}(r r':List α):Prop:=∀(j:Nat) (v:α),r[j]? =some v→r'[j]? =some v
theorem Ext.refl{α:Type}(r:List α):Ext r r:=fun _ _ h=>h
theorem Ext.trans{α:Type}{a b c:List α}(h:Ext a b)(h':Ext b c):Ext a c:=fun j v q=>h' j v (h j v q)
theorem Ext.app{α:Type}(r s:List α):Ext r (r++s):=fun j v h=>by
 have:=(List.getElem?_eq_some_iff.1 h).1;rw[List.getElem?_append_left this];exact h
section
variable{ρ ρ':List Int}{μ μ':List (Option Nat)}
theorem HoldC.ext(h:Ext ρ ρ'){q:Con}(hq:HoldC ρ q):HoldC ρ' q:=by
 cases q<;>(obtain⟨a,b,h1,h2,h3⟩:=hq;exact⟨a,b,h _ _ h1,h _ _ h2,h3⟩)
theorem HoldCs.ext(h:Ext ρ ρ'){cs:List Con}(hq:HoldCs ρ cs):HoldCs ρ' cs:=fun q m=>(hq q m).ext h
theorem HoldB.ext(h:Ext ρ ρ'){B:Bo}{b:Bool}(hq:HoldB ρ B b):HoldB ρ' B b:=by
 cases B with
 |lit x=>exact hq
 |imp p n=>exact⟨fun e=>(hq.1 e).ext h,fun e=>(hq.2 e).ext h⟩
theorem Gm.ext(h:Ext ρ ρ')(h':Ext μ μ'){a:A}{t:T}(hg:Gm ρ μ a t):Gm ρ' μ' a t:=by
 induction hg with
 |top t=>exact .top t
 |any t h=>exact .any t h
 |int k s c v h1 h2=>exact .int k s c v (h _ _ h1) h2
 |ival k lo hi n h1 h2 h3=>exact .ival k lo hi n h1 h2 h3
 |bool B b hb=>exact .bool B b (hb.ext h)
 |strc s=>exact .strc s
 |str s c v l h1 h2=>exact .str s c v l (h _ _ h1) h2
 |strv lo hi l h1 h2=>exact .strv lo hi l h1 h2
 |nilp=>exact .nilp
 |nils=>exact .nils
 |nilf=>exact .nilf
 |nili=>exact .nili
 |nilm=>exact .nilm
 |mp l l' h1=>exact .mp l l' (h' _ _ h1)
 |yl l l' h1=>exact .yl l l' (h' _ _ h1)
 |ptr l off l' h1=>exact .ptr l off l' (h' _ _ h1)
 |elp l sz s c off l' v h1 h2 h3=>exact .elp l sz s c off l' v (h' _ _ h1) (h _ _ h2) h3
 |ref x t off h1 _ ih=>exact .ref x t off h1 ih
 |sl e s c t xs v h1 h2 h3 _ ih=>exact .sl e s c t xs v h1 (h _ _ h2) h3 ih
 |slv e lo hi t xs h1 h2 h3 _ ih=>exact .slv e lo hi t xs h1 h2 h3 ih
 |slk es t xs h1 h2 _ ih=>exact .slk es t xs h1 h2 ih
 |slp q e s c t xs v h0 h1 h2 h3 _ ih=>exact .slp q e s c t xs v h0 h1 (h _ _ h2) h3 ih
 |slpv q e lo hi t xs h0 h1 h2 h3 _ ih=>exact .slpv q e lo hi t xs h0 h1 h2 h3 ih
 |sx s c full n f v h1 h2=>exact .sx s c full n f v (h _ _ h1) h2
 |sxv lo hi full n f h1 h2=>exact .sxv lo hi full n f h1 h2
 |osl l sz si ci s c l' vi v h1 h2 h3 h4 h5=>exact .osl l sz si ci s c l' vi v (h' _ _ h1) (h _ _ h2) h3 (h _ _ h4) h5
 |osl0 l sz si ci s c vi v h1 h2 h3 h4 h5=>exact .osl0 l sz si ci s c vi v (h' _ _ h1) (h _ _ h2) h3 (h _ _ h4) h5
 |fn f a_s bs as' bs' h1 _ h3 _ ih1 ih2=>exact .fn f a_s bs as' bs' h1 ih1 h3 ih2
 |iface t x y _ ih=>exact .iface t x y ih
 |ifc t x=>exact .ifc t x
 |or a_s a t hm _ ih=>exact .or a_s a t hm ih
 |agg a_s ts h1 _ ih=>exact .agg a_s ts h1 ih
 |prd q a_s ts h0 h1 _ ih=>exact .prd q a_s ts h0 h1 ih
 |tup a_s ts h1 _ ih=>exact .tup a_s ts h1 ih
theorem Gm.unp{a:A}{t:T}(hg:Gm ρ μ a t):Gm ρ μ a.unp t:=by
 cases hg with
 |slp q e s c t xs v h0 h1 h2 h3 h4=>exact .sl e s c t xs v h1 h2 h3 h4
 |_ =>simp only[A.unp];constructor<;>assumption
theorem GmL.ext(h:Ext ρ ρ')(h':Ext μ μ'){a_s:List A}{ts:List T}(hg:GmL ρ μ a_s ts):GmL ρ' μ' a_s ts:=⟨hg.1,fun j a t ha ht=>(hg.2 j a t ha ht).ext h h'⟩
theorem GmL.nil:GmL ρ μ [] []:=⟨rfl,fun j a t h=>by simp at h⟩
theorem GmL.cons{a:A}{t:T}{a_s:List A}{ts:List T}(h:Gm ρ μ a t)(hs:GmL ρ μ a_s ts):GmL ρ μ (a::a_s) (t::ts):=by
 refine⟨by simp[hs.1],fun j b u hb hu=> ?_⟩;cases j with
 |zero=>simp at hb hu;subst hb hu;exact h
 |succ j=>exact hs.2 j b u (by simpa using hb) (by simpa using hu)
theorem GmL.head{a:A}{t:T}{a_s:List A}{ts:List T}(h:GmL ρ μ (a::a_s) (t::ts)):Gm ρ μ a t:=h.2 0 a t rfl rfl
theorem GmL.tail{a:A}{t:T}{a_s:List A}{ts:List T}(h:GmL ρ μ (a::a_s) (t::ts)):GmL ρ μ a_s ts:=⟨by simpa using h.1,fun j b u hb hu=>h.2 (j+1) b u (by simpa using hb) (by simpa using hu)⟩
theorem GmL.inv_nil{ts:List T}(h:GmL ρ μ [] ts):ts=[]:=by have:=h.1;simp at this;cases ts<;>simp_all
theorem GmL.inv_cons{a:A}{a_s:List A}{ts:List T}(h:GmL ρ μ (a::a_s) ts):∃t r,ts=t::r∧Gm ρ μ a t∧GmL ρ μ a_s r:=by
 cases ts with
 |nil=>have:=h.1;simp at this
 |cons t r=>exact⟨t,r,rfl,h.head,h.tail⟩
theorem GmL.app{a_s bs:List A}{ts us:List T}(h:GmL ρ μ a_s ts)(h':GmL ρ μ bs us):GmL ρ μ (a_s++bs) (ts++us):=by
 induction a_s generalizing ts with
 |nil=>rw[h.inv_nil];exact h'
 |cons a a_s ih=>obtain⟨t,r,rfl,h1,h2⟩:=h.inv_cons;exact(ih h2).cons h1
theorem GmL.at{a_s:List A}{ts:List T}(h:GmL ρ μ a_s ts){j:Nat}{a:A}(ha:a_s[j]? =some a):∃t,ts[j]? =some t∧Gm ρ μ a t:=by
 have hj:=(List.getElem?_eq_some_iff.1 ha).1;have hj':j<ts.length:=by rw[←h.1];exact hj
 exact⟨ts[j],List.getElem?_eq_getElem hj',h.2 j a _ ha (List.getElem?_eq_getElem hj')⟩
theorem GmL.at'{a_s:List A}{ts:List T}(h:GmL ρ μ a_s ts){j:Nat}{t:T}(ht:ts[j]? =some t):∃a,a_s[j]? =some a∧Gm ρ μ a t:=by
 have hj:=(List.getElem?_eq_some_iff.1 ht).1;have hj':j<a_s.length:=by rw[h.1];exact hj
 exact⟨a_s[j],List.getElem?_eq_getElem hj',h.2 j _ t (List.getElem?_eq_getElem hj') ht⟩
theorem GmL.drop{a_s:List A}{ts:List T}(h:GmL ρ μ a_s ts)(n:Nat):GmL ρ μ (a_s.drop n) (ts.drop n):=
 ⟨by simp[h.1],fun j a t ha ht=>h.2 (n+j) a t (by rw[List.getElem?_drop]at ha;exact ha) (by rw[List.getElem?_drop]at ht;exact ht)⟩
theorem GmL.take{a_s:List A}{ts:List T}(h:GmL ρ μ a_s ts)(n:Nat):GmL ρ μ (a_s.take n) (ts.take n):=by
 refine⟨by simp[h.1],fun j a t ha ht=> ?_⟩;rw[List.getElem?_take]at ha ht;split at ha
 ·rw[if_pos ‹_›]at ht;exact h.2 j a t ha ht
 ·cases ha
theorem GmL.set{a_s:List A}{ts:List T}(h:GmL ρ μ a_s ts){a:A}{t:T}(ha:Gm ρ μ a t)(d:Nat):GmL ρ μ (a_s.set d a) (ts.set d t):=by
 refine⟨by simp[h.1],fun j b u hb hu=> ?_⟩;rw[List.getElem?_set]at hb hu;split at hb
 ·rename_i hd;rw[if_pos hd]at hu;split at hb
  ·cases hb;split at hu
   ·cases hu;exact ha
   ·cases hu
  ·cases hb
 ·rename_i hd;rw[if_neg hd]at hu;exact h.2 j b u hb hu
theorem GmL.replicate{a:A}{t:T}(h:Gm ρ μ a t)(n:Nat):GmL ρ μ (List.replicate n a) (List.replicate n t):=by
 refine⟨by simp,fun j b u hb hu=> ?_⟩;rw[List.getElem?_replicate]at hb hu;split at hb
 ·rename_i hj;rw[if_pos hj]at hu;cases hb;cases hu;exact h
 ·cases hb
theorem getS_eq:∀(fr:List A) (t:Tmp),getS fr t=fr.getD t (.tup [])
 |[],_ =>rfl
 |_ ::_,0=>rfl
 |_ ::xs,n+1=>(getS_eq xs n).trans rfl
theorem setS_eq(v:A):∀(fr:List A) (t:Nat),setS v fr t=fr.set t v
 |[],_ =>rfl
 |_ ::_,0=>rfl
 |x::xs,n+1=>congrArg (x:: ·) (setS_eq v xs n)
theorem gm_undef:Gm ρ μ (.tup []) undefT:= .tup [] [] rfl (fun j a t h=>by simp at h)
theorem GmL.get{a_s:List A}{ts:List T}(h:GmL ρ μ a_s ts)(d:Tmp):Gm ρ μ (getS a_s d) (getT ts d):=by
 rw[getS_eq,getT_eq];simp only[List.getD_eq_getElem?_getD];cases ha:a_s[d]? with
 |none=>
  have:ts[d]? =none:=by rw[List.getElem?_eq_none_iff]at ha⊢;rw[←h.1];exact ha
  rw[this];exact gm_undef
 |some a=>obtain⟨t,ht,hg⟩:=h.at ha;rw[ht];exact hg
theorem fwdP_ok{cs:List Con}(h:HoldCs ρ cs):∀(n x y:Nat) (c:Int),fwdP cs n x y c=true→∀vx vy,ρ[x]? =some vx→ρ[y]? =some vy→vx≤vy+c
 |0,x,y,c,hp,vx,vy,hx,hy=>by
  simp only[fwdP,Bool.and_eq_true,ile,decide_eq_true_eq]at hp;have:x=y:=Nat.eq_of_beq_eq_true hp.1;subst this;rw[hx]at hy;cases hy;omega
 |n+1,x,y,c,hp,vx,vy,hx,hy=>by
  simp only[fwdP]at hp;split at hp
  ·rename_i e;have:x=y:=Nat.eq_of_beq_eq_true e;subst this;simp only[ile,decide_eq_true_eq]at hp;rw[hx]at hy;cases hy;omega
  ·split at hp
   ·rename_i e;have:x=0:=Nat.eq_of_beq_eq_true e;subst this;rw[List.any_eq_true]at hp;obtain⟨q,hq,hp⟩:=hp;cases q with
    |ne a b d=>simp at hp
    |le a b d=>
     simp only[Bool.and_eq_true,ile,decide_eq_true_eq]at hp;have h1:a=0:=Nat.eq_of_beq_eq_true hp.1;have h2:b=y:=Nat.eq_of_beq_eq_true hp.2.1;subst h1 h2;obtain⟨va,vb,ha,hb,hle⟩:=h _ hq;rw[hx]at ha;cases ha;rw[hy]at hb;cases hb;omega
   ·rw[List.any_eq_true]at hp;obtain⟨q,hq,hp⟩:=hp;cases q with
    |ne a b d=>simp at hp
    |le a b d=>
     simp only[Bool.and_eq_true]at hp;have:a=x:=Nat.eq_of_beq_eq_true hp.1;subst this;obtain⟨va,vb,ha,hb,hle⟩:=h _ hq;rw[hx]at ha;cases ha;have:=fwdP_ok h n b y (c-d) hp.2 vb vy hb hy;omega
theorem bwdP_ok{cs:List Con}(h:HoldCs ρ cs):∀(n y:Nat) (c:Int),bwdP cs n y c=true→∀vx vy,ρ[0]? =some vx→ρ[y]? =some vy→vx≤vy+c
 |0,y,c,hp,vx,vy,hx,hy=>by
  simp only[bwdP,Bool.and_eq_true,ile,decide_eq_true_eq]at hp;have:0=y:=Nat.eq_of_beq_eq_true hp.1;subst this;rw[hx]at hy;cases hy;omega
 |n+1,y,c,hp,vx,vy,hx,hy=>by
  simp only[bwdP]at hp;split at hp
  ·rename_i e;have:0=y:=Nat.eq_of_beq_eq_true e;subst this;simp only[ile,decide_eq_true_eq]at hp;rw[hx]at hy;cases hy;omega
  ·rw[List.any_eq_true]at hp;obtain⟨q,hq,hp⟩:=hp;cases q with
   |ne a b d=>simp at hp
   |le a b d=>
    simp only[Bool.and_eq_true]at hp;have:b=y:=Nat.eq_of_beq_eq_true hp.1;subst this;obtain⟨va,vb,ha,hb,hle⟩:=h _ hq;rw[hy]at hb;cases hb;have:=bwdP_ok h n a (c-d) hp.2 vx va hx ha;omega
theorem prv_ok{cs:List Con}(h:HoldCs ρ cs)(n x y:Nat)(c:Int)(hp:prv cs n x y c=true)(vx vy:Int)(hx:ρ[x]? =some vx)(hy:ρ[y]? =some vy):vx≤vy+c:=by
 unfold prv at hp;split at hp
 ·rename_i e;have:x=0:=Nat.eq_of_beq_eq_true e;subst this;exact bwdP_ok h n y c hp vx vy hx hy
 ·exact fwdP_ok h n x y c hp vx vy hx hy
theorem leq_ok{cs:List Con}(h:HoldCs ρ cs){x y:Nat}{a b:Int}(hp:leq cs x a y b=true){vx vy:Int}(hx:ρ[x]? =some vx)(hy:ρ[y]? =some vy):vx+a≤vy+b:=by
 have:=prv_ok h pf x y (b-a) hp vx vy hx hy;omega
theorem inK_ok{cs:List Con}(h:HoldCs ρ cs)(h0:ρ[0]? =some 0){k:IntKind}{s:Nat}{c v:Int}(hp:inK cs k s c=true)(hs:ρ[s]? =some v):InK k (v+c):=by
 simp only[inK,Bool.and_eq_true]at hp;have h1:=leq_ok h hp.1 h0 hs;have h2:=leq_ok h hp.2 hs h0;exact⟨by omega,by omega⟩
theorem assume_ok:∀(q cs:List Con),HoldCs ρ cs→HoldCs ρ q→∃cs',assume cs q=some cs'∧HoldCs ρ cs'
 |[],cs,h,_ =>⟨cs,rfl,h⟩
 | .le x y c::r,cs,h,hq=>by
  obtain⟨vx,vy,hx,hy,hle⟩:=hq _ List.mem_cons_self;simp only[assume];split
  ·rename_i hp;have:=prv_ok h _ _ _ _ hp vy vx hy hx;omega
  ·refine assume_ok r _ (fun q hm=> ?_) (fun q hm=>hq q (List.mem_cons_of_mem _ hm));rcases List.mem_cons.1 hm with rfl|hm
   ·exact⟨vx,vy,hx,hy,hle⟩
   ·exact h q hm
 | .ne x y c::r,cs,h,hq=>by
  obtain⟨vx,vy,hx,hy,hne⟩:=hq _ List.mem_cons_self;have hr:HoldCs ρ r:=fun q hm=>hq q (List.mem_cons_of_mem _ hm);simp only[assume];split
  ·rename_i h1;have g1:=prv_ok h _ _ _ _ h1 vx vy hx hy;split
   ·rename_i h2;have g2:=prv_ok h _ _ _ _ h2 vy vx hy hx;omega
   ·refine assume_ok r _ (fun q hm=> ?_) hr;rcases List.mem_cons.1 hm with rfl|hm
    ·exact⟨vx,vy,hx,hy,by omega⟩
    ·exact h q hm
  ·split
   ·rename_i h2;have g2:=prv_ok h _ _ _ _ h2 vy vx hy hx;refine assume_ok r _ (fun q hm=> ?_) hr;rcases List.mem_cons.1 hm with rfl|hm
    ·exact⟨vy,vx,hy,hx,by omega⟩
    ·exact h q hm
   ·exact assume_ok r _ h hr
theorem not_ok{B:Bo}{b:Bool}(h:HoldB ρ B b):HoldB ρ B.not (!b):=by
 cases B with
 |lit x=>simp only[HoldB,Bo.not]at h⊢;rw[h]
 |imp p n=>exact⟨fun e=>h.2 (by simpa using e),fun e=>h.1 (by simpa using e)⟩
theorem splitB_ok{cs:List Con}(h:HoldCs ρ cs){B:Bo}{b:Bool}(hb:HoldB ρ B b):∃cs',(b,cs')∈splitB cs B∧HoldCs ρ cs':=by
 cases B with
 |lit x=>simp only[HoldB]at hb;subst hb;exact⟨cs,by simp[splitB],h⟩
 |imp p n=>
  cases b with
  |true=>
   obtain⟨c,h1,h2⟩:=assume_ok p cs h (hb.1 rfl);exact⟨c,by simp[splitB,h1],h2⟩
  |false=>
   obtain⟨c,h1,h2⟩:=assume_ok n cs h (hb.2 rfl);exact⟨c,by simp[splitB,h1],h2⟩
theorem boLe_ok{cs:List Con}(h:HoldCs ρ cs){x y:Nat}{c vx vy:Int}(hx:ρ[x]? =some vx)(hy:ρ[y]? =some vy):HoldB ρ (boLe cs x y c) (decide (vx≤vy+c)):=by
 unfold boLe;split
 ·rename_i hp;have:=prv_ok h _ _ _ _ hp vx vy hx hy;simpa [HoldB]using this
 ·split
  ·rename_i hp;have:=prv_ok h _ _ _ _ hp vy vx hy hx;simp only[HoldB,decide_eq_false_iff_not];omega
  ·refine⟨fun e q hq=> ?_,fun e q hq=> ?_⟩
   ·simp only[List.mem_singleton]at hq;subst hq;exact⟨vx,vy,hx,hy,by simpa using e⟩
   ·simp only[List.mem_singleton]at hq;subst hq;have:¬vx≤vy+c:=by simpa using e
    exact⟨vy,vx,hy,hx,by omega⟩
theorem boEq_ok{cs:List Con}(h:HoldCs ρ cs){x y:Nat}{c vx vy:Int}(hx:ρ[x]? =some vx)(hy:ρ[y]? =some vy):HoldB ρ (boEq cs x y c) (decide (vx=vy+c)):=by
 unfold boEq;split
 ·rename_i hp;simp only[Bool.and_eq_true]at hp;have h1:=prv_ok h _ _ _ _ hp.1 vx vy hx hy;have h2:=prv_ok h _ _ _ _ hp.2 vy vx hy hx;simp only[HoldB,decide_eq_true_eq];omega
 ·split
  ·rename_i hp;simp only[Bool.or_eq_true]at hp;simp only[HoldB,decide_eq_false_iff_not];rcases hp with hp|hp
   ·have:=prv_ok h _ _ _ _ hp vx vy hx hy;omega
   ·have:=prv_ok h _ _ _ _ hp vy vx hy hx;omega
  ·refine⟨fun e q hq=> ?_,fun e q hq=> ?_⟩
   ·have e:vx=vy+c:=by simpa using e
    simp only[List.mem_cons,List.not_mem_nil,or_false]at hq;rcases hq with rfl|rfl
    ·exact⟨vx,vy,hx,hy,by omega⟩
    ·exact⟨vy,vx,hy,hx,by omega⟩
   ·have e:¬vx=vy+c:=by simpa using e
    simp only[List.mem_singleton]at hq;subst hq;exact⟨vx,vy,hx,hy,by omega⟩
theorem boTop_ok(b:Bool):HoldB ρ boTop b:=⟨fun _ q h=>by simp at h,fun _ q h=>by simp at h⟩
end
end Go.Ps
namespace Go.Ps
variable[Inhabited Prd]
section
variable{ρ ρ':List Int}{μ μ':List (Option Nat)}{n:Nat}{cs:List Con}
structure Sy(ρ:List Int)(n:Nat)(cs:List Con):Prop where
 len:ρ.length=n
 zero:ρ[0]? =some 0
 cs:HoldCs ρ cs
def VOk(ρ:List Int)(μ:List (Option Nat))(v:AV)(t:T):Prop:=∃ρ',Ext ρ ρ'∧Sy ρ' v.nx v.cs∧Gm ρ' μ v.a t
theorem VOk.here(hs:Sy ρ n cs){a:A}{t:T}(h:Gm ρ μ a t):VOk ρ μ ⟨a,n,cs⟩ t:=⟨ρ,.refl _,hs,h⟩
theorem Sy.new(hs:Sy ρ n cs)(v:Int):Ext ρ (ρ++[v])∧(ρ++[v])[n]? =some v∧(ρ++[v]).length=n+1∧(ρ++[v])[0]? =some 0:=by
 refine⟨.app _ _,?_,by simp[hs.len],(Ext.app ρ [v]) _ _ hs.zero⟩;rw[←hs.len];simp
theorem Sy.push(hs:Sy ρ n cs)(v:Int)(qs:List Con)(h:HoldCs (ρ++[v]) qs):Sy (ρ++[v]) (n+1) (qs++cs):=by
 obtain⟨h1,h2,h3,h4⟩:=hs.new v;refine⟨h3,h4,fun q hq=> ?_⟩;rcases List.mem_append.1 hq with hq|hq
 ·exact h q hq
 ·exact(hs.cs q hq).ext h1
theorem HoldCs.cons{q:Con}{r:List Con}(h:HoldC ρ q)(hr:HoldCs ρ r):HoldCs ρ (q::r):=fun x hx=>by
 rcases List.mem_cons.1 hx with rfl|hx
 ·exact h
 ·exact hr x hx
theorem HoldCs.nil:HoldCs ρ []:=fun q h=>by simp at h
theorem holdIf{b:Bool}{q:Con}(h:b=true→HoldC ρ q)(hc:HoldCs ρ cs):HoldCs ρ (conIf b q cs):=by
 unfold conIf;split
 ·exact .cons (h ‹_›) hc
 ·exact hc
theorem Sy.fresh(hs:Sy ρ n cs){v lo hi:Int}(h1:lo≤v)(h2:v≤hi):Sy (ρ++[v]) (n+1) (.le 0 n (-lo):: .le n 0 hi::cs):=by
 obtain⟨e1,e2,e3,e4⟩:=hs.new v;exact hs.push v [.le 0 n (-lo),.le n 0 hi] (.cons ⟨0,v,e4,e2,by omega⟩ (.cons ⟨v,0,e2,e4,by omega⟩ .nil))
theorem wrap_has(k:IntKind)(n:Int):InK k (k.wrap n):=by
 cases k<;>simp[InK,IntKind.wrap,IntKind.min,IntKind.max,IntKind.bits,IntKind.signed]<;>omega
theorem wrap_id{k:IntKind}{n:Int}(h:InK k n):k.wrap n=n:=by
 revert h;cases k<;>simp[InK,IntKind.wrap,IntKind.min,IntKind.max,IntKind.bits,IntKind.signed]<;>omega
theorem matC_ok(hs:Sy ρ n cs):∀(a:A) (t:T),Gm ρ μ a t→∃ρ',Ext ρ ρ'∧Sy ρ' (matC a n cs).2.1 (matC a n cs).2.2∧Gm ρ' μ (matC a n cs).1 t:=by
 intro a t h;cases h with
 |ival k lo hi m h1 h2 h3=>
  simp only[matC];split
  ·rename_i hle;simp only[ile,decide_eq_true_eq]at hle;obtain rfl:m=lo:=by omega
   have e:=Gm.int (ρ:=ρ) (μ:=μ) k 0 m 0 hs.zero (by rw[Int.zero_add];exact h3);rw[Int.zero_add]at e;exact⟨ρ,.refl _,hs,e⟩
  ·refine⟨ρ++[m],.app _ _,hs.fresh h1 h2,?_⟩;have:=(hs.new m).2.1;have e:=Gm.int (ρ:=ρ++[m]) (μ:=μ) k n 0 m this (by simpa using h3);rw[Int.add_zero]at e;exact e
 |strv lo hi l h1 h2=>
  exact⟨ρ++[(l.length:Int)],.app _ _,hs.fresh h1 h2,.str n 0 _ l (hs.new _).2.1 (by simp)⟩
 |slv e lo hi t xs h1 h2 h3 h4=>
  exact⟨ρ++[(xs.length:Int)],.app _ _,hs.fresh h2 h3,.sl e n 0 t xs _ h1 (hs.new _).2.1 (by simp) (fun x hx=>(h4 x hx).ext (.app _ _) (.refl _))⟩
 |slpv q e lo hi t xs h0 h1 h2 h3 h4=>
  exact⟨ρ++[(xs.length:Int)],.app _ _,hs.fresh h2 h3,.slp q e n 0 t xs _ h0 h1 (hs.new _).2.1 (by simp) (fun x hx=>(h4 x hx).ext (.app _ _) (.refl _))⟩
 |sxv lo hi full m f h1 h2=>
  exact⟨ρ++[(m:Int)],.app _ _,hs.fresh h1 h2,.sx n 0 full m f _ (hs.new _).2.1 (by simp)⟩
 |_ =>exact⟨ρ,.refl _,hs,by first|(constructor<;>assumption)|(simp only[matC];first|constructor;assumption|skip)⟩
theorem matL_ok:∀(a_s:List A) (n:Nat) (cs:List Con) (ρ:List Int) (ts:List T),Sy ρ n cs→GmL ρ μ a_s ts→∃ρ',Ext ρ ρ'∧Sy ρ' (matL a_s n cs).2.1 (matL a_s n cs).2.2∧GmL ρ' μ (matL a_s n cs).1 ts
 |[],n,cs,ρ,ts,hs,h=>⟨ρ,.refl _,hs,h⟩
 |a::a_s,n,cs,ρ,ts,hs,h=>by
  obtain⟨t,r,rfl,h1,h2⟩:=h.inv_cons;obtain⟨ρ1,e1,s1,g1⟩:=matC_ok hs a t h1;obtain⟨ρ2,e2,s2,g2⟩:=matL_ok a_s _ _ ρ1 r s1 (h2.ext e1 (.refl _));exact⟨ρ2,e1.trans e2,s2,GmL.cons (g1.ext e2 (.refl _)) g2⟩
theorem mat0_ok(hs:Sy ρ n cs){a:A}{t:T}(h:Gm ρ μ a t):∃ρ',Ext ρ ρ'∧Sy ρ' (mat0 a n cs).2.1 (mat0 a n cs).2.2∧Gm ρ' μ (mat0 a n cs).1 t:=by
 by_cases h1:∃a_s,a= .agg a_s
 ·obtain⟨a_s,rfl⟩:=h1;cases h with
  |agg _ ts hl hg=>
   obtain⟨ρ',e1,s1,g1⟩:=matL_ok a_s n cs ρ ts hs ⟨hl,hg⟩;exact⟨ρ',e1,s1,.agg _ _ g1.1 g1.2⟩
 ·have e:mat0 a n cs=matC a n cs:=by cases a<;>first|rfl|exact absurd ⟨_,rfl⟩ h1
  rw[e];exact matC_ok hs a t h
theorem matL2_ok:∀(a_s:List A) (n:Nat) (cs:List Con) (ρ:List Int) (ts:List T),Sy ρ n cs→GmL ρ μ a_s ts→∃ρ',Ext ρ ρ'∧Sy ρ' (matL2 a_s n cs).2.1 (matL2 a_s n cs).2.2∧GmL ρ' μ (matL2 a_s n cs).1 ts
 |[],n,cs,ρ,ts,hs,h=>⟨ρ,.refl _,hs,h⟩
 |a::a_s,n,cs,ρ,ts,hs,h=>by
  obtain⟨t,r,rfl,h1,h2⟩:=h.inv_cons;obtain⟨ρ1,e1,s1,g1⟩:=mat0_ok hs h1;obtain⟨ρ2,e2,s2,g2⟩:=matL2_ok a_s _ _ ρ1 r s1 (h2.ext e1 (.refl _));exact⟨ρ2,e1.trans e2,s2,GmL.cons (g1.ext e2 (.refl _)) g2⟩
theorem matV_ok(hs:Sy ρ n cs){a:A}{t:T}(h:Gm ρ μ a t):VOk ρ μ (matV a n cs) t:=by
 by_cases h2:∃a_s,a= .tup a_s
 ·obtain⟨a_s,rfl⟩:=h2;cases h with
  |tup _ ts hl hg=>
   obtain⟨ρ',e1,s1,g1⟩:=matL2_ok a_s n cs ρ ts hs ⟨hl,hg⟩;exact⟨ρ',e1,s1,.tup _ _ g1.1 g1.2⟩
 ·have e:mat a n cs=mat0 a n cs:=by cases a<;>first|rfl|exact absurd ⟨_,rfl⟩ h2
  unfold matV VOk;rw[e];exact mat0_ok hs h
theorem ofCellA_ok(h0:ρ[0]? =some 0){v:Value}{a:A}(h:ofCellA v=some a):∃t,ofCell v=some t∧Gm ρ μ a t∧ofValA v=some a∧ofVal v=some t:=by
 unfold ofCellA at h;split at h
 ·rename_i k m;split at h
  ·rename_i hk;cases h;simp only[Bool.and_eq_true,ile,decide_eq_true_eq]at hk;have e:=Gm.int (ρ:=ρ) (μ:=μ) k 0 m 0 h0 (by rw[Int.zero_add];exact hk);rw[Int.zero_add]at e;exact⟨_,rfl,e,by simp[ofValA,ofCellA,ile,hk],rfl⟩
  ·cases h
 all_goals first|(cases h;done)|skip
 ·cases h;exact⟨_,rfl,.bool _ _ rfl,rfl,rfl⟩
 ·cases h;exact⟨_,rfl,.strc _,rfl,rfl⟩
 ·cases h;exact⟨_,rfl,.nilp,rfl,rfl⟩
 ·cases h;exact⟨_,rfl,.nils,rfl,rfl⟩
 ·cases h;exact⟨_,rfl,.nilf,rfl,rfl⟩
 ·cases h;exact⟨_,rfl,.nili,rfl,rfl⟩
 ·cases h;exact⟨_,rfl,.nilm,rfl,rfl⟩
theorem ofCellsA_ok(h0:ρ[0]? =some 0):∀(vs:List Value) (a_s:List A),ofCellsA vs=some a_s→∃ts,ofCells vs=some ts∧GmL ρ μ a_s ts
 |[],a_s,h=>by simp[ofCellsA]at h;subst h;exact⟨[],rfl,.nil⟩
 |v::vs,a_s,h=>by
  simp only[ofCellsA]at h;split at h
  ·rename_i a ha;split at h
   ·rename_i r hr;cases h;obtain⟨t,h1,h2,_⟩:=ofCellA_ok (μ:=μ) h0 ha;obtain⟨ts,h3,h4⟩:=ofCellsA_ok h0 vs r hr;exact⟨t::ts,by simp[ofCells,h1,h3],GmL.cons h2 h4⟩
   ·cases h
  ·cases h
theorem ofValA_ok(h0:ρ[0]? =some 0){v:Value}{a:A}(h:ofValA v=some a):∃t,ofVal v=some t∧Gm ρ μ a t:=by
 unfold ofValA at h;split at h
 ·split at h
  ·rename_i cs ts hts;cases h;obtain⟨us,h1,h2⟩:=ofCellsA_ok (μ:=μ) h0 _ _ hts;exact⟨.agg us,by simp[ofVal,h1],.agg _ _ h2.1 h2.2⟩
  ·cases h
 ·split at h
  ·rename_i vs hvs;cases h;exact⟨.tup [],by simp[ofVal,hvs],gm_undef⟩
  ·cases h
 ·obtain⟨t,_,h2,_,h4⟩:=ofCellA_ok (μ:=μ) h0 h;exact⟨t,h4,h2⟩
def GlA(gl:Nat→Option T)(ga:Nat→Option A):Prop:=∀g a,ga g=some a→∃t,gl g=some t∧∀(ρ:List Int) (μ:List (Option Nat)),ρ[0]? =some 0→Gm ρ μ a t
section
variable{gl:Nat→Option T}{ga:Nat→Option A}{fa:List A}{fr:List T}
theorem evA_ok(hg:GlA gl ga)(h0:ρ[0]? =some 0)(hf:GmL ρ μ fa fr){x:Operand}{a:A}(h:evA ga fa x=some a):∃t,evalT gl fr x=some t∧Gm ρ μ a t:=by
 cases x with
 |tmp t=>simp only[evA]at h;cases h;exact⟨_,rfl,hf.get t⟩
 |const v=>exact ofValA_ok h0 h
 |global g=>obtain⟨t,h1,h2⟩:=hg g a h;exact⟨t,h1,h2 ρ μ h0⟩
 |func f=>simp only[evA]at h;cases h;exact⟨_,rfl,.fn f [] [] [] [] rfl (fun j a t h=>by simp at h) rfl (fun j a t h=>by simp at h)⟩
theorem evAll_ok(hg:GlA gl ga)(h0:ρ[0]? =some 0)(hf:GmL ρ μ fa fr):∀{xs:List Operand} {a_s:List A},evAll ga fa xs=some a_s→∃ts,evalAll gl fr xs=some ts∧GmL ρ μ a_s ts
 |[],a_s,h=>by simp[evAll]at h;subst h;exact⟨[],rfl,.nil⟩
 |x::xs,a_s,h=>by
  simp only[evAll]at h;split at h
  ·rename_i a ha;split at h
   ·rename_i r hr;cases h;obtain⟨t,h1,h2⟩:=evA_ok hg h0 hf ha;obtain⟨ts,h3,h4⟩:=evAll_ok hg h0 hf hr;exact⟨t::ts,by simp[evalAll,h1,h3],GmL.cons h2 h4⟩
   ·cases h
  ·cases h
theorem pairsA_ok(hg:GlA gl ga)(h0:ρ[0]? =some 0)(hf:GmL ρ μ fa fr):∀{xs:List (Nat×Operand)} {a_s:List (Nat×A)},pairsA ga fa xs=some a_s→
  ∃ts,pairsT gl fr xs=some ts∧a_s.map Prod.fst=ts.map Prod.fst∧GmL ρ μ (a_s.map Prod.snd) (ts.map Prod.snd)
 |[],a_s,h=>by simp[pairsA]at h;subst h;exact⟨[],rfl,rfl,.nil⟩
 |(i,x)::xs,a_s,h=>by
  simp only[pairsA]at h;split at h
  ·rename_i a ha;split at h
   ·rename_i r hr;cases h;obtain⟨t,h1,h2⟩:=evA_ok hg h0 hf ha;obtain⟨ts,h3,h4,h5⟩:=pairsA_ok hg h0 hf hr;exact⟨(i,t)::ts,by simp[pairsT,h1,h3],by simp[h4],GmL.cons h2 h5⟩
   ·cases h
  ·cases h
theorem optA_ok(hg:GlA gl ga)(h0:ρ[0]? =some 0)(hf:GmL ρ μ fa fr){x:Option Operand}{a:Option A}(h:optA (evA ga fa) x=some a):
  ∃t,optT (evalT gl fr) x=some t∧(match a,t with|none,none=>True|some a,some t=>Gm ρ μ a t|_,_ =>False):=by
 cases x with
 |none=>simp only[optA]at h;cases h;exact⟨none,rfl,trivial⟩
 |some x=>
  simp only[optA]at h;split at h
  ·rename_i b hb;cases h;obtain⟨t,h1,h2⟩:=evA_ok hg h0 hf hb;exact⟨some t,by simp[optT,h1],h2⟩
  ·cases h
end
theorem zeroA_ok(h0:ρ[0]? =some 0){P:Program}{t:TypeId}{a:A}(h:zeroA P t=some a):∃z,zeroT P t=some z∧Gm ρ μ a z:=by
 unfold zeroA at h;unfold zeroT;split at h
 ·rename_i i hi;split at h
  ·rename_i v hv;rw[hi];simp only[hv];exact ofValA_ok h0 h
  ·cases h
 ·cases h
theorem flat_gm{a:A}{t:T}(h:Gm ρ μ a t)(hf:a.flat=true):t.one=true∧t.isAgg=false:=by
 cases h with
 |top=>simp[A.flat]at hf
 |or=>simp[A.flat]at hf
 |agg=>simp[A.flat]at hf
 |tup=>simp[A.flat]at hf
 |prd=>simp[A.flat]at hf
 |slp q e s c _ xs v h0 h1=>rcases h1 with⟨rfl,_⟩|⟨_,rfl⟩|⟨_,_,_,rfl,_⟩<;>exact⟨rfl,rfl⟩
 |slpv q e lo hi _ xs h0 h1=>rcases h1 with⟨rfl,_⟩|⟨_,rfl⟩|⟨_,_,_,rfl,_⟩<;>exact⟨rfl,rfl⟩
 |slk es _ xs h1=>rcases h1 with⟨rfl,_⟩|⟨_,rfl⟩|⟨_,_,_,rfl,_⟩<;>exact⟨rfl,rfl⟩
 |any _ h=>exact⟨h,by cases t<;>simp_all [T.one,T.isAgg]⟩
 |sl e s c _ xs v h1=>rcases h1 with⟨rfl,_⟩|⟨_,rfl⟩|⟨_,_,_,rfl,_⟩<;>exact⟨rfl,rfl⟩
 |slv e lo hi _ xs h1=>rcases h1 with⟨rfl,_⟩|⟨_,rfl⟩|⟨_,_,_,rfl,_⟩<;>exact⟨rfl,rfl⟩
 |_ =>exact⟨rfl,rfl⟩
theorem allFlat_mem:∀{a_s:List A} {a:A},allFlat a_s=true→a∈a_s→a.flat=true
 |b::bs,a,h,hm=>by
  simp only[allFlat,Bool.and_eq_true]at h;rcases List.mem_cons.1 hm with rfl|hm
  ·exact h.1
  ·exact allFlat_mem h.2 hm
theorem one_gm{a:A}{t:T}(h:Gm ρ μ a t)(hf:a.one=true):t.one=true∧t.isAgg=false:=by
 by_cases ho:∃a_s,a= .or a_s
 ·obtain⟨a_s,rfl⟩:=ho;cases h with
  |or _ b _ hm hb=>exact flat_gm hb (allFlat_mem hf hm)
 ·refine flat_gm h ?_;cases a<;>first|exact hf|exact absurd ⟨_,rfl⟩ ho
theorem cells_single{t:T}(h:t.isAgg=false):t.cells=[t]:=by cases t<;>simp_all [T.isAgg,T.cells]
theorem one_isAgg{a:A}(h:a.one=true):a.isAgg=false∧a.cells=[a]:=by
 cases a<;>simp_all [A.one,A.isAgg,A.cells,A.flat]
theorem known_gm{a:A}{t:T}(h:Gm ρ μ a t)(hk:a.known=true):t.isAgg=a.isAgg∧GmL ρ μ a.cells t.cells:=by
 by_cases h1:∃a_s,a= .agg a_s
 ·obtain⟨a_s,rfl⟩:=h1;cases h with
  |agg _ ts hl hg=>exact⟨rfl,hl,hg⟩
 ·by_cases h2:∃a_s,a= .tup a_s
  ·obtain⟨a_s,rfl⟩:=h2;cases h with
   |tup _ ts hl hg=>exact⟨rfl,GmL.nil.cons (.tup _ _ hl hg)⟩
  ·by_cases h3:∃q a_s,a= .prd q a_s
   ·obtain⟨q,a_s,rfl⟩:=h3;cases h with
    |prd _ _ ts _ hl hg=>exact⟨rfl,hl,hg⟩
   have ho:a.one=true:=by cases a<;>first|exact hk|exact absurd ⟨_,rfl⟩ h1|exact absurd ⟨_,rfl⟩ h2|exact absurd ⟨_,_,rfl⟩ h3
   obtain⟨_,q⟩:=one_gm h ho;obtain⟨q1,q2⟩:=one_isAgg ho;rw[q2,cells_single q];exact⟨q.trans q1.symm,GmL.nil.cons h⟩
theorem allOneA_ok{a_s:List A}{ts:List T}(h:GmL ρ μ a_s ts)(ho:allOneA a_s=true):allOne ts=true:=by
 induction a_s generalizing ts with
 |nil=>rw[h.inv_nil];rfl
 |cons a a_s ih=>
  obtain⟨t,r,rfl,h1,h2⟩:=h.inv_cons;simp only[allOneA,Bool.and_eq_true]at ho;simp only[allOne,Bool.and_eq_true];exact⟨(one_gm h1 ho.1).1,ih h2 ho.2⟩
theorem partA_ok{P:Program}{t:TypeId}{a_s:List A}{ts:List T}(h:GmL ρ μ a_s ts){off:Nat}{a:A}(hp:partA P t a_s off=some a):∃r,partT P t ts off=some r∧Gm ρ μ a r:=by
 unfold partA at hp;unfold partT;split at hp
 ·rename_i hg;rw[hg];split at hp
  ·rename_i m hm;simp only[hm];split at hp
   ·rename_i hle;cases hp;rw[if_pos (by rw[←h.1];exact hle)];have:=(h.drop off).take m;exact⟨_,rfl,.agg _ _ this.1 this.2⟩
   ·cases hp
  ·cases hp
 ·rename_i hg;rw[hg];exact h.at hp
 ·cases hp
theorem partW_ok{P:Program}{t:TypeId}{x:A}{u:T}(h:Gm ρ μ x u)(hk:x.known=true){off:Nat}{a:A}(hp:partW P t x off=some a):∃r,partT P t u.cells off=some r∧Gm ρ μ a r:=by
 unfold partW at hp;split at hp
 ·rename_i q cs;split at hp
  ·rename_i hc;cases hp;cases h with
   |prd _ _ ts h0 hl hg=>
   simp only[Bool.and_eq_true,beq_iff_eq]at hc;obtain⟨⟨c1,c2⟩,c3⟩:=hc;have c1:=Nat.eq_of_beq_eq_true c1;subst c1;refine⟨.agg ts,?_,.prd q cs ts h0 hl hg⟩;simp only[partT,c2,c3,T.cells,hl,Nat.zero_add,Nat.le_refl,if_true,List.drop_zero,List.take_length]
  ·exact partA_ok (known_gm h hk).2 hp
 ·exact partA_ok (known_gm h hk).2 hp
end
end Go.Ps
namespace Go.Ps
variable[Inhabited Prd]
section
variable{ρ:List Int}{μ:List (Option Nat)}{n:Nat}{cs:List Con}
theorem gm_int{k:IntKind}{s:Nat}{c v x:Int}(h:ρ[s]? =some v)(hx:x=v+c)(hi:InK k x):Gm ρ μ (.int k s c) (.int k x):=by
 subst hx;exact .int k s c v h hi
theorem full_ok(hs:Sy ρ n cs){k:IntKind}{x:Int}(h:InK k x):VOk ρ μ (matV (.ival k k.min k.max) n cs) (.int k x):=
 matV_ok hs (.ival k _ _ x h.1 h.2 h)
theorem linA_ok(hs:Sy ρ n cs){k:IntKind}{s:Nat}{c v x:Int}(h:ρ[s]? =some v)(hx:x=v+c):VOk ρ μ (linA n cs k s c) (.int k (k.wrap x)):=by
 unfold linA;split
 ·rename_i hk;have:=inK_ok hs.cs hs.zero hk h;rw[←hx]at this;rw[wrap_id this];exact .here hs (gm_int h hx this)
 ·exact full_ok hs (wrap_has k x)
theorem new_ok(hs:Sy ρ n cs){k:IntKind}{x:Int}(hi:InK k x){qs:List Con}(hq:HoldCs (ρ++[x]) qs):VOk ρ μ ⟨.int k n 0,n+1,qs⟩ (.int k x):=by
 obtain⟨h1,h2,h3,h4⟩:=hs.new x;exact⟨ρ++[x],h1,⟨h3,h4,hq⟩,gm_int h2 (by omega) hi⟩
theorem small_ok(hs:Sy ρ n cs){s:Nat}{c v:Int}(h:smallB cs s c=true)(hv:ρ[s]? =some v):-1000000000000000000≤v+c∧v+c≤1000000000000000000:=by
 simp only[smallB,Bool.and_eq_true]at h;have h1:=leq_ok hs.cs h.1 hs.zero hv;have h2:=leq_ok hs.cs h.2 hv hs.zero;omega
theorem i64_of{x:Int}(h:-9223372036854775808≤x∧x≤9223372036854775807):InK .i64 x:=by
 simp only[InK,IntKind.min,IntKind.max,IntKind.bits,IntKind.signed];simp;omega
theorem ubS_ok{s:Nat}{v:Int}(h0:ρ[0]? =some 0)(hv:ρ[s]? =some v):∀{cs:List Con},HoldCs ρ cs→∀{u:Int},ubS s cs=some u→v≤u
 |[],_,u,h=>by
  simp only[ubS]at h;split at h
  ·rename_i e;have:=Nat.eq_of_beq_eq_true e;subst this;rw[h0]at hv;cases hv;cases h;omega
  ·cases h
 | .le x y d::r,hc,u,h=>by
  have hr:HoldCs ρ r:=fun q hm=>hc q (List.mem_cons_of_mem _ hm);simp only[ubS]at h;split at h
  ·rename_i e;simp only[Bool.and_eq_true]at e;have e1:=Nat.eq_of_beq_eq_true e.1;have e2:=Nat.eq_of_beq_eq_true e.2;subst e1 e2;obtain⟨vx,vy,q1,q2,q3⟩:=hc _ List.mem_cons_self;rw[hv]at q1;cases q1;rw[h0]at q2;cases q2;split at h
   ·rename_i hu;have:=ubS_ok h0 hv hr hu;cases h;split<;>omega
   ·cases h;omega
  ·exact ubS_ok h0 hv hr h
 | .ne x y d::r,hc,u,h=>ubS_ok h0 hv (fun q hm=>hc q (List.mem_cons_of_mem _ hm)) h
theorem ub2_ok{s:Nat}{v:Int}(h0:ρ[0]? =some 0)(hv:ρ[s]? =some v){c0:List Con}(hc0:HoldCs ρ c0):∀{cs:List Con},HoldCs ρ cs→∀{u:Int},ub2 c0 s cs=some u→v≤u
 |[],_,u,h=>by
  simp only[ub2]at h;split at h
  ·rename_i e;have:=Nat.eq_of_beq_eq_true e;subst this;rw[h0]at hv;cases hv;cases h;omega
  ·cases h
 | .le x y d::r,hc,u,h=>by
  have hr:HoldCs ρ r:=fun q hm=>hc q (List.mem_cons_of_mem _ hm);simp only[ub2]at h;split at h
  ·rename_i e;have e1:=Nat.eq_of_beq_eq_true e;subst e1;obtain⟨vx,vy,q1,q2,q3⟩:=hc _ List.mem_cons_self;rw[hv]at q1;cases q1;split at h
   ·rename_i w hw;have hyw:vy≤w:=by
     split at hw
     ·rename_i e2;have e2:=Nat.eq_of_beq_eq_true e2;subst e2;rw[h0]at q2;cases q2;cases hw;omega
     ·exact ubS_ok h0 q2 hc0 hw
    split at h
    ·rename_i hu;have:=ub2_ok h0 hv hc0 hr hu;cases h;split<;>omega
    ·cases h;omega
   ·exact ub2_ok h0 hv hc0 hr h
  ·exact ub2_ok h0 hv hc0 hr h
 | .ne x y d::r,hc,u,h=>ub2_ok h0 hv hc0 (fun q hm=>hc q (List.mem_cons_of_mem _ hm)) h
theorem ub_ok{s:Nat}{v:Int}{cs:List Con}(h0:ρ[0]? =some 0)(hv:ρ[s]? =some v)(hc:HoldCs ρ cs){u:Int}(h:ub s cs=some u):v≤u:=ub2_ok h0 hv hc hc h
theorem lbS_ok{s:Nat}{v:Int}(h0:ρ[0]? =some 0)(hv:ρ[s]? =some v):∀{cs:List Con},HoldCs ρ cs→∀{u:Int},lbS s cs=some u→u≤v
 |[],_,u,h=>by
  simp only[lbS]at h;split at h
  ·rename_i e;have:=Nat.eq_of_beq_eq_true e;subst this;rw[h0]at hv;cases hv;cases h;omega
  ·cases h
 | .le x y d::r,hc,u,h=>by
  have hr:HoldCs ρ r:=fun q hm=>hc q (List.mem_cons_of_mem _ hm);simp only[lbS]at h;split at h
  ·rename_i e;simp only[Bool.and_eq_true]at e;have e1:=Nat.eq_of_beq_eq_true e.1;have e2:=Nat.eq_of_beq_eq_true e.2;subst e1 e2;obtain⟨vx,vy,q1,q2,q3⟩:=hc _ List.mem_cons_self;rw[h0]at q1;cases q1;rw[hv]at q2;cases q2;split at h
   ·rename_i hu;have:=lbS_ok h0 hv hr hu;cases h;split<;>omega
   ·cases h;omega
  ·exact lbS_ok h0 hv hr h
 | .ne x y d::r,hc,u,h=>lbS_ok h0 hv (fun q hm=>hc q (List.mem_cons_of_mem _ hm)) h
theorem upN_ok{m:Int}(h:ρ[n]? =some m)(h0:ρ[0]? =some 0){r:List Con}(hr:HoldCs ρ r){o:Option Int}(hm:m≤2000000000000000000)(ho:∀u,o=some u→m≤u):HoldCs ρ (upN n r o):=by
 cases o with
 |none=>exact .cons ⟨_,_,h,h0,by omega⟩ hr
 |some u=>exact .cons ⟨_,_,h,h0,by have:=ho u rfl;omega⟩ hr
theorem loN_ok{m:Int}(h:ρ[n]? =some m)(h0:ρ[0]? =some 0){r:List Con}(hr:HoldCs ρ r){o:Option Int}(hm:-2000000000000000000≤m)(ho:∀u,o=some u→u≤m):HoldCs ρ (loN n r o):=by
 cases o with
 |none=>exact .cons ⟨_,_,h0,h,by omega⟩ hr
 |some u=>exact .cons ⟨_,_,h0,h,by have:=ho u rfl;omega⟩ hr
theorem addO_eq{a b:Option Int}{c u:Int}(h:addO a b c=some u):∃x y,a=some x∧b=some y∧u=x+y+c:=by
 cases a<;>cases b<;>simp only[addO]at h<;>cases h;exact⟨_,_,rfl,rfl,rfl⟩
theorem subO_eq{a b:Option Int}{c u:Int}(h:subO a b c=some u):∃x y,a=some x∧b=some y∧u=x-y+c:=by
 cases a<;>cases b<;>simp only[subO]at h<;>cases h;exact⟨_,_,rfl,rfl,rfl⟩
theorem farC_ok{m w:Int}{s:Nat}{c:Int}(h:ρ[n]? =some m)(h1:ρ[s]? =some w){r:List Con}(hr:HoldCs ρ r){o:Option Int}(ho:∀u,o=some u→m≤w+(u+c)):HoldCs ρ (farC n s c r o):=by
 cases o with
 |none=>exact hr
 |some u=>
  simp only[farC];split
  ·exact .cons ⟨_,_,h,h1,ho u rfl⟩ hr
  ·exact hr
theorem addA_ok(hs:Sy ρ n cs){k:IntKind}{s1 s2:Nat}{c1 c2 v1 v2:Int}(h1:ρ[s1]? =some v1)(h2:ρ[s2]? =some v2):
  VOk ρ μ (addA n cs k s1 c1 s2 c2) (.int k (k.wrap (v1+c1+(v2+c2)))):=by
 unfold addA;split
 ·rename_i e;have:s2=0:=Nat.eq_of_beq_eq_true e;subst this;rw[hs.zero]at h2;cases h2;exact linA_ok hs h1 (by omega)
 ·split
  ·rename_i _ e;have:s1=0:=Nat.eq_of_beq_eq_true e;subst this;rw[hs.zero]at h1;cases h1;exact linA_ok hs h2 (by omega)
  ·split
   ·rename_i hc;simp only[Bool.and_eq_true,beq_iff_eq]at hc;obtain⟨⟨rfl,b1⟩,b2⟩:=hc;have b1:=small_ok hs b1 h1;have b2:=small_ok hs b2 h2;have hi:InK .i64 (v1+c1+(v2+c2)):=i64_of (by omega);rw[wrap_id hi];obtain⟨e1,e2,e3,e4⟩:=hs.new (v1+c1+(v2+c2));refine new_ok hs hi (holdIf (fun h=>⟨v2,_,e1 _ _ h2,e2,?_⟩) (holdIf (fun h=>⟨v1,_,e1 _ _ h1,e2,?_⟩) (loN_ok e2 e4 (upN_ok e2 e4 (farC_ok e2 (e1 _ _ h1) (farC_ok e2 (e1 _ _ h2) (hs.cs.ext e1) fun u hu=> ?_) fun u hu=> ?_) (by omega) fun u hu=> ?_) (by omega) fun u hu=> ?_)))
    ·have:=leq_ok hs.cs h hs.zero h1;split
     ·rename_i h;have:=leq_ok hs.cs h hs.zero h1;omega
     ·omega
    ·have:=leq_ok hs.cs h hs.zero h2;split
     ·rename_i h;have:=leq_ok hs.cs h hs.zero h2;omega
     ·omega
    ·have:=ub_ok hs.zero h1 hs.cs hu;omega
    ·have:=ub_ok hs.zero h2 hs.cs hu;omega
    ·obtain⟨x,y,q1,q2,rfl⟩:=addO_eq hu;have:=ub_ok hs.zero h1 hs.cs q1;have:=ub_ok hs.zero h2 hs.cs q2;omega
    ·obtain⟨x,y,q1,q2,rfl⟩:=addO_eq hu;have:=lbS_ok hs.zero h1 hs.cs q1;have:=lbS_ok hs.zero h2 hs.cs q2;omega
   ·exact full_ok hs (wrap_has k _)
theorem subA_ok(hs:Sy ρ n cs){k:IntKind}{s1 s2:Nat}{c1 c2 v1 v2:Int}(h1:ρ[s1]? =some v1)(h2:ρ[s2]? =some v2):
  VOk ρ μ (subA n cs k s1 c1 s2 c2) (.int k (k.wrap (v1+c1-(v2+c2)))):=by
 unfold subA;split
 ·rename_i e;have:s2=0:=Nat.eq_of_beq_eq_true e;subst this;rw[hs.zero]at h2;cases h2;exact linA_ok hs h1 (by omega)
 ·split
  ·rename_i _ e;have:s1=s2:=Nat.eq_of_beq_eq_true e;subst this;rw[h1]at h2;cases h2;exact linA_ok hs hs.zero (by omega)
  ·split
   ·rename_i hc;simp only[Bool.and_eq_true,beq_iff_eq]at hc;obtain⟨⟨rfl,b1⟩,b2⟩:=hc;have b1:=small_ok hs b1 h1;have b2:=small_ok hs b2 h2;have hi:InK .i64 (v1+c1-(v2+c2)):=i64_of (by omega);rw[wrap_id hi];obtain⟨e1,e2,e3,e4⟩:=hs.new (v1+c1-(v2+c2));refine new_ok hs hi (holdIf (fun h=>⟨_,v1,e2,e1 _ _ h1,?_⟩) (holdIf (fun h=>⟨0,_,e4,e2,?_⟩) (loN_ok e2 e4 (upN_ok e2 e4 (hs.cs.ext e1) (by omega) fun u hu=> ?_) (by omega) fun u hu=> ?_)))
    ·have:=leq_ok hs.cs h hs.zero h2;omega
    ·have:=leq_ok hs.cs h h2 h1;omega
    ·obtain⟨x,y,q1,q2,rfl⟩:=subO_eq hu;have:=ub_ok hs.zero h1 hs.cs q1;have:=lbS_ok hs.zero h2 hs.cs q2;omega
    ·obtain⟨x,y,q1,q2,rfl⟩:=subO_eq hu;have:=lbS_ok hs.zero h1 hs.cs q1;have:=ub_ok hs.zero h2 hs.cs q2;omega
   ·exact full_ok hs (wrap_has k _)
theorem ofLitA_ok(h0:ρ[0]? =some 0){o:Option T}{a:A}(h:ofLitA o=some a):∃t,o=some t∧Gm ρ μ a t:=by
 unfold ofLitA at h;split at h
 ·rename_i k m;split at h
  ·rename_i hk;cases h;simp only[Bool.and_eq_true,ile,decide_eq_true_eq]at hk;exact⟨_,rfl,gm_int h0 (by omega) hk⟩
  ·cases h
 ·cases h;exact⟨_,rfl,.bool _ _ rfl⟩
 ·cases h
theorem tmod_has{k:IntKind}{a:Int}(b:Int)(h:InK k a):InK k (a.tmod b):=by
 have hm:k.min≤0:=by cases k<;>simp[IntKind.min,IntKind.bits,IntKind.signed]
 have hM:0≤k.max:=by cases k<;>simp[IntKind.max,IntKind.bits,IntKind.signed]
 rcases Int.le_total 0 a with ha|ha
 ·have h1:0≤a.tmod b:=Int.tmod_nonneg b ha;have h2:a.tmod b≤a:=by
   have:=Int.natAbs_tmod a b;have h3:(a.natAbs%b.natAbs)≤a.natAbs:=Nat.mod_le _ _;omega
  exact⟨by omega,by have:=h.2;omega⟩
 ·have h1:0≤(-a).tmod b:=Int.tmod_nonneg b (by omega);rw[Int.neg_tmod]at h1;have h2:a≤a.tmod b:=by
   have:=Int.natAbs_tmod a b;have h3:(a.natAbs%b.natAbs)≤a.natAbs:=Nat.mod_le _ _;omega
  exact⟨by have:=h.1;omega,by omega⟩
theorem mulA_ok(hs:Sy ρ n cs){k:IntKind}{s1 s2:Nat}{c1 c2 v1 v2:Int}(h1:ρ[s1]? =some v1)(h2:ρ[s2]? =some v2):VOk ρ μ (mulA n cs k s1 c1 s2 c2) (.int k (k.wrap ((v1+c1)*(v2+c2)))):=by
 unfold mulA;split
 ·rename_i l1 u1 l2 u2 e1 e2 e3 e4;have a1:=lbS_ok hs.zero h1 hs.cs e1;have a2:=ubS_ok hs.zero h1 hs.cs e2;have a3:=lbS_ok hs.zero h2 hs.cs e3;have a4:=ubS_ok hs.zero h2 hs.cs e4;split
  ·rename_i hc;simp only[Bool.and_eq_true,ile,decide_eq_true_eq]at hc;obtain⟨b1,b2,b3⟩:=hc;have q1:(l1+c1)*(l2+c2)≤(v1+c1)*(v2+c2):=Int.mul_le_mul (by omega) (by omega) b2 (by omega);have q2:(v1+c1)*(v2+c2)≤(u1+c1)*(u2+c2):=Int.mul_le_mul (by omega) (by omega) (by omega) (by omega);have q3:0≤(l1+c1)*(l2+c2):=Int.mul_nonneg b1 b2;have hi:InK k ((v1+c1)*(v2+c2)):=by
    refine⟨?_,by omega⟩;have:k.min≤0:=by(cases k<;>simp[IntKind.min,IntKind.bits,IntKind.signed])
    omega
   rw[wrap_id hi];exact matV_ok hs (.ival _ _ _ _ q1 q2 hi)
  ·exact full_ok hs (wrap_has k _)
 ·exact full_ok hs (wrap_has k _)
theorem negA_ok(hs:Sy ρ n cs){k:IntKind}{s:Nat}{c v:Int}(h:ρ[s]? =some v)(hin:InK k (v+c)):VOk ρ μ (negA n cs k s c) (.int k (k.wrap (0-(v+c)))):=by
 unfold negA;split
 ·rename_i l e1;have a1:=lbS_ok hs.zero h hs.cs e1;split
  ·rename_i hc;simp only[Bool.and_eq_true,ile,decide_eq_true_eq]at hc;obtain⟨hk,b1⟩:=hc;have hk:k= .i64:=by simpa using hk
   subst hk;have hv:v+c≤9223372036854775807:=hin.2
   ·have hi:InK .i64 (0-(v+c)):=i64_of (by omega);rw[wrap_id hi];refine matV_ok hs (.ival _ _ _ _ ?_ (by omega) hi);split
    ·rename_i u e2;have:=ubS_ok hs.zero h hs.cs e2;omega
    ·omega
  ·exact full_ok hs (wrap_has k _)
 ·exact full_ok hs (wrap_has k _)
theorem divA_ok(hs:Sy ρ n cs){op:BinOp}{k:IntKind}{s1 s2:Nat}{c1 c2 v1 v2:Int}(h1:ρ[s1]? =some v1)(h2:ρ[s2]? =some v2)(i1:InK k (v1+c1)){v:AV}
  (h:divA n cs op k s1 c1 s2 c2=some v):∃t,intBin op k (v1+c1) (v2+c2)=some t∧VOk ρ μ v t:=by
 have nz:∀{b:Bool},(b=true→True)→(leq cs 0 1 s2 c2||leq cs s2 c2 0 (-1))=true→v2+c2≠0:=by
  intro _ _ hh;simp only[Bool.or_eq_true]at hh;rcases hh with hh|hh
  ·have:=leq_ok hs.cs hh hs.zero h2;omega
  ·have:=leq_ok hs.cs hh h2 hs.zero;omega
 cases op<;>simp only[divA]at h<;>try(cases h;done)
 case mul=>cases h;exact⟨_,rfl,mulA_ok hs h1 h2⟩
 case and=>cases h;exact⟨_,rfl,full_ok hs (wrap_has k _)⟩
 case or=>cases h;exact⟨_,rfl,full_ok hs (wrap_has k _)⟩
 case xor=>cases h;exact⟨_,rfl,full_ok hs (wrap_has k _)⟩
 case andNot=>cases h;exact⟨_,rfl,full_ok hs (wrap_has k _)⟩
 case quo=>
  split at h
  ·rename_i hc;cases h;simp only[Bool.and_eq_true,ile,decide_eq_true_eq]at hc;have e:s2=0:=Nat.eq_of_beq_eq_true hc.1.1;subst e;rw[hs.zero]at h2;cases h2;have ha:=leq_ok hs.cs hc.2 hs.zero h1;have hb:0+c2≠0:=by omega
   have q1:0≤(v1+c1).tdiv (0+c2):=Int.tdiv_nonneg (by omega) (by omega);have q2:(v1+c1).tdiv (0+c2)≤v1+c1:=by
    rw[Int.tdiv_eq_ediv_of_nonneg (by omega)];exact Int.ediv_le_self _ (by omega)
   have hi : InK k ((v1 + c1).tdiv (0 + c2)) := ⟨by have:k.min≤0:=by(cases k<;>simp[IntKind.min,IntKind.bits,IntKind.signed])
                                                    omega,by have:=i1.2;omega⟩
   refine⟨.int k ((v1+c1).tdiv (0+c2)),by simp only[intBin];rw[if_neg hb,wrap_id hi],?_⟩;obtain⟨e1,e2,e3,e4⟩:=hs.new ((v1+c1).tdiv (0+c2));refine new_ok hs hi (.cons ⟨0,_,e4,e2,by omega⟩ (.cons ⟨_,v1,e2,e1 _ _ h1,by omega⟩ (.cons ⟨_,0,e2,e4,?_⟩ (hs.cs.ext e1))));split
   ·rename_i u hu;have q3:=ubS_ok hs.zero h1 hs.cs hu;have q4:(v1+c1).tdiv (0+c2)≤(u+c1)/(0+c2):=by
     rw[Int.tdiv_eq_ediv_of_nonneg (by omega)];exact Int.ediv_le_ediv (by omega) (by omega)
    rw[Int.zero_add]at q4⊢;omega
   ·have:=hi.2;omega
  ·split at h
   ·rename_i hc;cases h;have hb:=nz (b:=true) (fun _ =>trivial) hc;exact⟨_,by simp only[intBin];rw[if_neg hb],full_ok hs (wrap_has k _)⟩
   ·cases h
 case rem=>
  split at h
  ·rename_i hc;simp only[Bool.and_eq_true,ile,decide_eq_true_eq]at hc;have e:s2=0:=Nat.eq_of_beq_eq_true hc.1;subst e;rw[hs.zero]at h2;cases h2;have hb:0+c2≠0:=by omega
   have hi:=tmod_has (0+c2) i1;obtain⟨e1,e2,e3,e4⟩:=hs.new ((v1+c1).tmod (0+c2));refine⟨.int k ((v1+c1).tmod (0+c2)),by simp only[intBin];rw[if_neg hb],?_⟩;have hlt:(v1+c1).tmod (0+c2)<0+c2:=Int.tmod_lt_of_pos _ (by omega);split at h
   ·rename_i hp;cases h;have ha:=leq_ok hs.cs hp hs.zero h1;have q1:0≤(v1+c1).tmod (0+c2):=Int.tmod_nonneg _ (by omega);have q2:(v1+c1).tmod (0+c2)≤v1+c1:=by
     have:=Int.natAbs_tmod (v1+c1) (0+c2);have h3:((v1+c1).natAbs%(0+c2).natAbs)≤(v1+c1).natAbs:=Nat.mod_le _ _;omega
    exact new_ok hs hi (.cons ⟨0,_,e4,e2,by omega⟩ (.cons ⟨_,v1,e2,e1 _ _ h1,by omega⟩ (.cons ⟨_,0,e2,e4,by omega⟩ (hs.cs.ext e1))))
   ·cases h;have q1:-(0+c2)<(v1+c1).tmod (0+c2):=by
     have:=Int.natAbs_tmod (v1+c1) (0+c2);have h3:((v1+c1).natAbs%(0+c2).natAbs)<(0+c2).natAbs:=Nat.mod_lt _ (by omega);omega
    exact new_ok hs hi (.cons ⟨0,_,e4,e2,by omega⟩ (.cons ⟨_,0,e2,e4,by omega⟩ (hs.cs.ext e1)))
  ·split at h
   ·rename_i hc;cases h;have hb:=nz (b:=true) (fun _ =>trivial) hc;exact⟨_,by simp only[intBin];rw[if_neg hb],full_ok hs (tmod_has _ i1)⟩
   ·cases h
theorem intA_ok(hs:Sy ρ n cs){op:BinOp}{k:IntKind}{s1 s2:Nat}{c1 c2 v1 v2:Int}(h1:ρ[s1]? =some v1)(h2:ρ[s2]? =some v2)(i1:InK k (v1+c1)){v:AV}
  (h:intA n cs op k s1 c1 s2 c2=some v):∃t,intBin op k (v1+c1) (v2+c2)=some t∧VOk ρ μ v t:=by
 have eqB:∀{x y:Nat} {c vx vy:Int} {b:Bool},ρ[x]? =some vx→ρ[y]? =some vy→b=decide (vx=vy+c)→HoldB ρ (boEq cs x y c) b:=fun hx hy e=>e▸boEq_ok hs.cs hx hy;have leB:∀{x y:Nat} {c vx vy:Int} {b:Bool},ρ[x]? =some vx→ρ[y]? =some vy→b=decide (vx≤vy+c)→HoldB ρ (boLe cs x y c) b:=fun hx hy e=>e▸boLe_ok hs.cs hx hy;have oth:∀{op:BinOp},(match(if Nat.beq s1 0&&Nat.beq s2 0 then ofLitA (intBin op k c1 c2)else none)with|some a=>some ⟨a,n,cs⟩|none=>divA n cs op k s1 c1 s2 c2)=some v→
   ∃t,intBin op k (v1+c1) (v2+c2)=some t∧VOk ρ μ v t:=by
  intro op h;split at h
  ·rename_i a ha;cases h;split at ha
   ·rename_i hc;simp only[Bool.and_eq_true]at hc;have e1:s1=0:=Nat.eq_of_beq_eq_true hc.1;have e2:s2=0:=Nat.eq_of_beq_eq_true hc.2;subst e1 e2;rw[hs.zero]at h1 h2;cases h1;cases h2;obtain⟨t,q1,q2⟩:=ofLitA_ok (μ:=μ) hs.zero ha;exact⟨t,by simpa using q1,.here hs q2⟩
   ·cases ha
  ·exact divA_ok hs h1 h2 i1 h
 cases op<;>simp only[intA]at h<;>try(exact oth h)
 case add=>cases h;exact⟨_,rfl,addA_ok hs h1 h2⟩
 case sub=>cases h;exact⟨_,rfl,subA_ok hs h1 h2⟩
 case eql=>cases h;exact⟨_,rfl,.here hs (.bool _ _ (eqB h1 h2 (by rw[Bool.eq_iff_iff];simp;omega)))⟩
 case neq=>
  cases h;refine⟨_,rfl,.here hs (.bool _ _ ?_)⟩;have:=not_ok (eqB (c:=c2-c1) h1 h2 rfl);have e:(v1+c1 !=v2+c2)= !(decide (v1=v2+(c2-c1))):=by
   rw[Bool.eq_iff_iff];simp;omega
  rw[e];exact this
 case lss=>cases h;exact⟨_,rfl,.here hs (.bool _ _ (leB h1 h2 (by rw[Bool.eq_iff_iff];simp;omega)))⟩
 case leq=>cases h;exact⟨_,rfl,.here hs (.bool _ _ (leB h1 h2 (by rw[Bool.eq_iff_iff];simp;omega)))⟩
 case gtr=>cases h;exact⟨_,rfl,.here hs (.bool _ _ (leB h2 h1 (by rw[Bool.eq_iff_iff];simp;omega)))⟩
 case geq=>cases h;exact⟨_,rfl,.here hs (.bool _ _ (leB h2 h1 (by rw[Bool.eq_iff_iff];simp;omega)))⟩
end
end Go.Ps
namespace Go.Ps
variable[Inhabited Prd]
section
variable{ρ:List Int}{μ:List (Option Nat)}{n:Nat}{cs:List Con}
theorem shiftA_ok(hs:Sy ρ n cs){op:BinOp}{k:IntKind}{s1 s2:Nat}{c1 c2 v1 v2:Int}(h1:ρ[s1]? =some v1)(h2:ρ[s2]? =some v2)(i1:InK k (v1+c1)){v:AV}
  (h:shiftA n cs op k s1 c1 s2 c2=some v):∃t,shiftBin op k (v1+c1) (v2+c2)=some t∧VOk ρ μ v t:=by
 unfold shiftA at h;split at h
 ·rename_i a ha;cases h;split at ha
  ·rename_i hc;simp only[Bool.and_eq_true]at hc;have e1:s1=0:=Nat.eq_of_beq_eq_true hc.1;have e2:s2=0:=Nat.eq_of_beq_eq_true hc.2;subst e1 e2;rw[hs.zero]at h1 h2;cases h1;cases h2;obtain⟨t,q1,q2⟩:=ofLitA_ok (μ:=μ) hs.zero ha;exact⟨t,by simpa using q1,.here hs q2⟩
  ·cases ha
 ·split at h
  ·rename_i hb;have hb:=leq_ok hs.cs hb hs.zero h2;have hn:¬(v2+c2<0):=by omega
   cases op<;>simp only at h<;>try(cases h;done)
   ·cases h;exact⟨_,by simp only[shiftBin];rw[if_neg hn],full_ok hs (wrap_has k _)⟩
   ·split at h
    ·rename_i ha;cases h;have ha:=leq_ok hs.cs ha hs.zero h1;have hp:(0:Int)<2^(min (v2+c2).toNat k.bits):=Int.pow_pos (by omega);have q1:0≤(v1+c1).fdiv (2^(min (v2+c2).toNat k.bits)):=by
      rw[Int.fdiv_eq_ediv_of_nonneg _ (by omega)];exact Int.ediv_nonneg (by omega) (by omega)
     have q2:(v1+c1).fdiv (2^(min (v2+c2).toNat k.bits))≤v1+c1:=by
      rw[Int.fdiv_eq_ediv_of_nonneg _ (by omega)];exact Int.ediv_le_self _ (by omega)
     have hm:k.min≤0:=by cases k<;>simp[IntKind.min,IntKind.bits,IntKind.signed]
     have hi:InK k ((v1+c1).fdiv (2^(min (v2+c2).toNat k.bits))):=⟨by omega,by have:=i1.2;omega⟩;refine⟨_,by simp only[shiftBin];rw[if_neg hn],?_⟩;obtain⟨e1,e2,e3,e4⟩:=hs.new ((v1+c1).fdiv (2^(min (v2+c2).toNat k.bits)));exact new_ok hs hi (.cons ⟨0,_,e4,e2,by omega⟩ (.cons ⟨_,v1,e2,e1 _ _ h1,by omega⟩ (.cons ⟨_,0,e2,e4,by have:=hi.2;omega⟩ (hs.cs.ext e1))))
    ·cases h
  ·cases h
theorem lenS_ok(h0:ρ[0]? =some 0){a:A}{t:T}(h:Gm ρ μ a t){s:Nat}{c:Int}(hl:lenS a=some (s,c)):∃l v,t= .str l∧ρ[s]? =some v∧(l.length:Int)=v+c:=by
 cases h<;>simp[lenS]at hl
 ·rename_i l;obtain⟨rfl,rfl⟩:=hl;exact⟨l,0,rfl,h0,by omega⟩
 ·rename_i c l v h1 h2;obtain⟨rfl,rfl⟩:=hl;exact⟨_,_,rfl,h1,h2⟩
theorem emptyA_ok{a:A}{l:List UInt8}(h:Gm ρ μ a (.str l))(he:emptyA a=true):l=[]:=by
 cases h<;>simp[emptyA]at he
 ·split at he
  ·rename_i h;cases h;rfl
  ·cases he
theorem beq_str(l m:List UInt8):(l==m)=true↔l=m:=by simp
theorem boStr_ok(hs:Sy ρ n cs){a b:A}{l m:List UInt8}{s1 s2:Nat}{c1 c2:Int}(ha:Gm ρ μ a (.str l))(hb:Gm ρ μ b (.str m))(h1:lenS a=some (s1,c1))(h2:lenS b=some (s2,c2)):
  HoldB ρ (boStr cs a b s1 c1 s2 c2) (l==m):=by
 unfold boStr;split
 ·cases ha;cases hb;rfl
 ·obtain⟨l',v1,e1,q1,w1⟩:=lenS_ok hs.zero ha h1;obtain⟨m',v2,e2,q2,w2⟩:=lenS_ok hs.zero hb h2;cases e1;cases e2;have key:=boEq_ok hs.cs (c:=c2-c1) q1 q2;have hlen:l=m→v1=v2+(c2-c1):=fun e=>by subst e;omega
  have hemp:(emptyA a||emptyA b)=true→v1=v2+(c2-c1)→l=m:=by
   intro he hv;have hll:l.length=m.length:=by omega
   simp only[Bool.or_eq_true]at he;rcases he with he|he
   ·have:=emptyA_ok ha he;subst this;simp at hll;exact(List.eq_nil_of_length_eq_zero hll.symm).symm
   ·have:=emptyA_ok hb he;subst this;simp at hll;exact hll
  split
  ·rename_i hq;rw[hq]at key;simp only[HoldB,decide_eq_false_iff_not]at key;simp only[HoldB];exact Bool.eq_false_iff.2 fun hh=>key (hlen ((beq_str l m).1 hh))
  ·rename_i hq;rw[hq]at key;simp only[HoldB,decide_eq_true_eq]at key;split
   ·rename_i he;simp only[HoldB];exact(beq_str l m).2 (hemp he key)
   ·exact boTop_ok _
  ·rename_i p q hq;rw[hq]at key;split
   ·rename_i he;refine⟨fun hh=>key.1 ?_,fun hh=>key.2 ?_⟩
    ·simpa using hlen ((beq_str l m).1 hh)
    ·simp only[decide_eq_false_iff_not];intro hv;have:=(beq_str l m).2 (hemp he hv);rw[this]at hh;cases hh
   ·refine⟨fun hh=>key.1 ?_,fun _ q h=>by simp at h⟩;simpa using hlen ((beq_str l m).1 hh)
theorem strA_ok(hs:Sy ρ n cs){op:BinOp}{a b:A}{x y:T}(ha:Gm ρ μ a x)(hb:Gm ρ μ b y){v:AV}(h:strA n cs op a b=some v):
  ∃l m t,x= .str l∧y= .str m∧strBin op l m=some t∧VOk ρ μ v t:=by
 unfold strA at h;split at h
 ·rename_i s1 c1 s2 c2 h1 h2;obtain⟨l,v1,rfl,q1,w1⟩:=lenS_ok hs.zero ha h1;obtain⟨m,v2,rfl,q2,w2⟩:=lenS_ok hs.zero hb h2;have key:=boStr_ok hs ha hb h1 h2;refine⟨l,m,?_⟩;cases op<;>simp only at h<;>try(cases h;done)
  case add=>
   split at h
   ·cases ha;cases hb;split at h
    ·rename_i hm;cases h;simp only[ile,decide_eq_true_eq]at hm;exact⟨_,rfl,rfl,by simp only[strBin];rw[if_pos (by omega)],.here hs (.strc _)⟩
    ·cases h
   ·split at h
    ·rename_i hc;simp only[Bool.and_eq_true]at hc;obtain⟨⟨⟨b1,b2⟩,b3⟩,b4⟩:=hc;have b3:=leq_ok hs.cs b3 q1 hs.zero;have b4:=leq_ok hs.cs b4 q2 hs.zero;have hle:l.length+m.length≤maxStr:=by unfold maxStr;omega
     have hst:strBin .add l m=some (.str (l++m)):=by simp only[strBin];rw[if_pos hle]
     split at h
     ·rename_i e;have:s2=0:=Nat.eq_of_beq_eq_true e;subst this;rw[hs.zero]at q2;cases q2;cases h;exact⟨_,rfl,rfl,hst,.here hs (.str s1 _ v1 _ q1 (by simp;omega))⟩
     ·split at h
      ·rename_i e;have:s1=0:=Nat.eq_of_beq_eq_true e;subst this;rw[hs.zero]at q1;cases q1;cases h;exact⟨_,rfl,rfl,hst,.here hs (.str s2 _ v2 _ q2 (by simp;omega))⟩
      ·cases h;obtain⟨e1,e2,e3,e4⟩:=hs.new ((l++m).length:Int);refine⟨_,rfl,rfl,hst,ρ++[((l++m).length:Int)],e1,⟨e3,e4,?_⟩,.str n 0 _ _ e2 (by simp)⟩;have hll:((l++m).length:Int)=l.length+m.length:=by simp
       exact .cons ⟨v1,_,e1 _ _ q1,e2,by omega⟩ (.cons ⟨v2,_,e1 _ _ q2,e2,by omega⟩ (.cons ⟨0,_,e4,e2,by omega⟩ (upN_ok e2 e4 (hs.cs.ext e1) (by omega) fun u hu=>by
        obtain⟨x,y,p1,p2,rfl⟩:=addO_eq hu;have:=ub_ok hs.zero q1 hs.cs p1;have:=ub_ok hs.zero q2 hs.cs p2
        omega)))
    ·cases h
  case eql=>cases h;exact⟨_,rfl,rfl,rfl,.here hs (.bool _ _ key)⟩
  case neq=>cases h;exact⟨_,rfl,rfl,rfl,.here hs (.bool _ _ (not_ok key))⟩
  case lss=>cases h;exact⟨_,rfl,rfl,rfl,.here hs (.bool _ _ (boTop_ok _))⟩
  case leq=>cases h;exact⟨_,rfl,rfl,rfl,.here hs (.bool _ _ (boTop_ok _))⟩
  case gtr=>cases h;exact⟨_,rfl,rfl,rfl,.here hs (.bool _ _ (boTop_ok _))⟩
  case geq=>cases h;exact⟨_,rfl,rfl,rfl,.here hs (.bool _ _ (boTop_ok _))⟩
 ·cases h
theorem nilP_ok{a:A}{t:T}(h:Gm ρ μ a t){b:Bool}(hb:eqA.nilP a=some b):(t= .nilp∧b=true)∨(((∃l o,t= .ptr l o)∨∃x o,t= .ref x o)∧b=false):=by
 cases h<;>simp[eqA.nilP]at hb<;>subst hb
 ·exact .inl ⟨rfl,rfl⟩
 ·exact .inr ⟨.inl ⟨_,_,rfl⟩,rfl⟩
 ·exact .inr ⟨.inl ⟨_,_,rfl⟩,rfl⟩
 ·exact .inr ⟨.inr ⟨_,_,rfl⟩,rfl⟩
theorem nilI_ok{a:A}{t:T}(h:Gm ρ μ a t){b:Bool}(hb:eqA.nilI a=some b):(t= .nili∧b=true)∨((∃u x,t= .iface u x)∧b=false):=by
 cases h<;>simp[eqA.nilI]at hb<;>subst hb
 ·exact .inl ⟨rfl,rfl⟩
 ·exact .inr ⟨⟨_,_,rfl⟩,rfl⟩
 ·exact .inr ⟨⟨_,_,rfl⟩,rfl⟩
theorem nilF_ok{a:A}{t:T}(h:Gm ρ μ a t){b:Bool}(hb:eqA.nilF a=some b):(t= .nilf∧b=true)∨((∃f x y,t= .fn f x y)∧b=false):=by
 cases h<;>simp[eqA.nilF]at hb<;>subst hb
 ·exact .inl ⟨rfl,rfl⟩
 ·exact .inr ⟨⟨_,_,_,rfl⟩,rfl⟩
theorem ifaces_mem:∀{a_s:List A} {a:A},eqA.ifaces a_s=true→a∈a_s→∃b,eqA.nilI a=some b
 |c::r,a,h,hm=>by
  simp only[eqA.ifaces,Bool.and_eq_true]at h;rcases List.mem_cons.1 hm with rfl|hm
  ·exact Option.isSome_iff_exists.1 h.1
  ·exact ifaces_mem h.2 hm
def oddT:T→T→Bool
 | .int ..,_ |_,.int .. | .str _,_ |_,.str _ | .agg _,_ |_,.agg _ =>false
 |_,_ =>true
theorem eqA_ok{P:Program}{ty:TypeId}{a b:A}{x y:T}(ha:Gm ρ μ a x)(hb:Gm ρ μ b y){B:Bo}(h:eqA P ty a b=some B):∃r,eqT P ty x y=some r∧HoldB ρ B r∧oddT x y=true:=by
 unfold eqA at h;split at h
 ·have hu:=‹P.underlying ty=_›;cases h;cases ha;rename_i h1;cases hb;rename_i h2;simp only[HoldB]at h1 h2;subst h1 h2;exact⟨_,by simp[eqT,hu],rfl,rfl⟩
 ·have hu:=‹P.underlying ty=_›;cases h;cases ha with
  |bool _ b1=>cases hb with
   |bool _ b2=>exact⟨b1==b2,by simp[eqT,hu],boTop_ok _,rfl⟩
 ·have hu:=‹P.underlying ty=_›;cases ha;obtain⟨r,hr,rfl⟩:=Option.map_eq_some_iff.1 h;rcases nilP_ok hb hr with⟨rfl,rfl⟩|⟨⟨_,_,rfl⟩|⟨_,_,rfl⟩,rfl⟩<;>exact⟨_,by simp[eqT,hu],rfl,rfl⟩
 ·have hu:=‹P.underlying ty=_›;cases hb;obtain⟨r,hr,rfl⟩:=Option.map_eq_some_iff.1 h;rcases nilP_ok ha hr with⟨rfl,rfl⟩|⟨⟨_,_,rfl⟩|⟨_,_,rfl⟩,rfl⟩<;>exact⟨_,by simp[eqT,hu],rfl,rfl⟩
 ·have hu:=‹P.underlying ty=_›;split at h
  ·rename_i hi;cases h;cases ha;cases hb with
   |or _ c _ hm hc=>
    obtain⟨r,hr⟩:=ifaces_mem hi hm;rcases nilI_ok hc hr with⟨rfl,rfl⟩|⟨⟨_,_,rfl⟩,rfl⟩
    ·exact⟨true,by simp[eqT,hu],boTop_ok _,rfl⟩
    ·exact⟨false,by simp[eqT,hu],boTop_ok _,rfl⟩
  ·cases h
 ·have hu:=‹P.underlying ty=_›;split at h
  ·rename_i hi;cases h;cases hb;cases ha with
   |or _ c _ hm hc=>
    obtain⟨r,hr⟩:=ifaces_mem hi hm;rcases nilI_ok hc hr with⟨rfl,rfl⟩|⟨⟨_,_,rfl⟩,rfl⟩
    ·exact⟨true,by simp[eqT,hu],boTop_ok _,rfl⟩
    ·exact⟨false,by simp[eqT,hu],boTop_ok _,rfl⟩
  ·cases h
 ·have hu:=‹P.underlying ty=_›;cases ha;obtain⟨r,hr,rfl⟩:=Option.map_eq_some_iff.1 h;rcases nilI_ok hb hr with⟨rfl,rfl⟩|⟨⟨_,_,rfl⟩,rfl⟩<;>exact⟨_,by simp[eqT,hu],rfl,rfl⟩
 ·have hu:=‹P.underlying ty=_›;cases hb;obtain⟨r,hr,rfl⟩:=Option.map_eq_some_iff.1 h;rcases nilI_ok ha hr with⟨rfl,rfl⟩|⟨⟨_,_,rfl⟩,rfl⟩<;>exact⟨_,by simp[eqT,hu],rfl,rfl⟩
 ·have hu:=‹P.underlying ty=_›;cases ha;obtain⟨r,hr,rfl⟩:=Option.map_eq_some_iff.1 h;rcases nilF_ok hb hr with⟨rfl,rfl⟩|⟨⟨_,_,_,rfl⟩,rfl⟩<;>exact⟨_,by simp[eqT,hu],rfl,rfl⟩
 ·have hu:=‹P.underlying ty=_›;cases hb;obtain⟨r,hr,rfl⟩:=Option.map_eq_some_iff.1 h;rcases nilF_ok ha hr with⟨rfl,rfl⟩|⟨⟨_,_,_,rfl⟩,rfl⟩<;>exact⟨_,by simp[eqT,hu],rfl,rfl⟩
 ·cases h
theorem nilsOk_ok{X Y:Operand}{a b:A}{x y:T}(ha:Gm ρ μ a x)(hb:Gm ρ μ b y)(h:nilsOkA X Y a b=true):nilsOk X Y x y=true:=by
 unfold nilsOkA at h;unfold nilsOk;cases hx:constO X<;>cases hy:constO Y<;>simp[hx,hy]at h⊢;split at h<;>first|(cases ha<;>simp[bothNil];done)|(cases hb<;>cases x<;>simp[bothNil];done)|cases h
theorem binT_int{P:Program}{ty:TypeId}{op:BinOp}{k:IntKind}{a b:Int}(h1:op≠ .shl)(h2:op≠ .shr):binT P op ty (.int k a) (.int k b)=intBin op k a b:=by
 cases op<;>simp[binT]at*
theorem eqS_eqT{P:Program}{ty:TypeId}{x y:T}(h:oddT x y=true):eqS P ty x y=eqT P ty x y:=by
 unfold eqS;split
 ·simp[oddT]at h
 ·rfl
theorem binT_eql{P:Program}{ty:TypeId}{x y:T}(h:oddT x y=true):binT P .eql ty x y=(eqT P ty x y).map .bool:=by
 unfold binT;split<;>first|rfl|(simp[oddT]at h;done)|(simp_all;done)|(rw[eqS_eqT h])
theorem binT_neq{P:Program}{ty:TypeId}{x y:T}(h:oddT x y=true):binT P .neq ty x y=(eqT P ty x y).map fun b=> .bool (!b):=by
 unfold binT;split<;>first|rfl|(simp[oddT]at h;done)|(simp_all;done)|(rw[eqS_eqT h])
theorem binT_str{P:Program}{ty:TypeId}{op:BinOp}{a b:List UInt8}:binT P op ty (.str a) (.str b)=strBin op a b:=by
 cases op<;>rfl
theorem binA_ok(hs:Sy ρ n cs){P:Program}{op:BinOp}{ty:TypeId}{a b:A}{x y:T}(ha:Gm ρ μ a x)(hb:Gm ρ μ b y){v:AV}(h:binA P n cs op ty a b=some v):
  ∃t,binT P op ty x y=some t∧VOk ρ μ v t:=by
 unfold binA at h;split at h
 ·rename_i k s1 c1 k' s2 c2;cases ha with
  |int _ _ _ v1 q1 i1=>
  cases hb with
  |int _ _ _ v2 q2 i2=>
  split at h
  ·obtain⟨t,e1,e2⟩:=shiftA_ok (μ:=μ) hs q1 q2 i1 h;exact⟨t,by simpa [binT]using e1,e2⟩
  ·obtain⟨t,e1,e2⟩:=shiftA_ok (μ:=μ) hs q1 q2 i1 h;exact⟨t,by simpa [binT]using e1,e2⟩
  ·rename_i n1 n2;split at h
   ·rename_i hk;have hk:k=k':=by simpa using hk
    obtain⟨t,e1,e2⟩:=intA_ok (μ:=μ) hs q1 q2 i1 h;exact⟨t,by rw[←hk,binT_int (fun h=>n1 h) (fun h=>n2 h)];exact e1,e2⟩
   ·cases h
 ·rename_i n1;split at h
  ·rename_i B hB;cases h;split at hB
   ·obtain⟨r,e1,e2,e3⟩:=eqA_ok ha hb hB;exact⟨.bool r,by rw[binT_eql e3,e1];rfl,.here hs (.bool _ _ e2)⟩
   ·obtain⟨B',hB',rfl⟩:=Option.map_eq_some_iff.1 hB;obtain⟨r,e1,e2,e3⟩:=eqA_ok ha hb hB';exact⟨.bool (!r),by rw[binT_neq e3,e1];rfl,.here hs (.bool _ _ (not_ok e2))⟩
   ·cases hB
  ·obtain⟨l,m,t,rfl,rfl,e1,e2⟩:=strA_ok hs ha hb h;exact⟨t,by rw[binT_str];exact e1,e2⟩
theorem unA_ok(hs:Sy ρ n cs){op:UnOp}{a:A}{x:T}(ha:Gm ρ μ a x){v:AV}(h:unA n cs op a=some v):∃t,unT op x=some t∧VOk ρ μ v t:=by
 unfold unA at h;split at h
 ·cases ha with
  |int _ _ _ v1 q1 i1=>
   split at h
   ·rename_i e;rename_i s c;cases h;have e0:s=0:=Nat.eq_of_beq_eq_true e;rw[e0,hs.zero]at q1;cases q1;exact⟨_,rfl,linA_ok hs hs.zero (by omega)⟩
   ·cases h;exact⟨_,rfl,negA_ok hs q1 i1⟩
 ·cases h;cases ha with
  |bool _ b hb=>exact⟨_,rfl,.here hs (.bool _ _ (not_ok hb))⟩
 ·cases h
theorem convA_ok(hs:Sy ρ n cs){P:Program}{src dst:TypeId}{a:A}{x:T}(ha:Gm ρ μ a x){v:AV}(h:convA P n cs src dst a=some v):∃t,convB P src dst x=some t∧VOk ρ μ v t:=by
 have conv:∀{t:T},convT P src dst x=some t→convB P src dst x=some t:=fun h=>by unfold convB;rw[h]
 unfold convA at h;split at h
 ·rename_i hu1 hu2;cases h;cases ha with
  |int _ _ _ v1 q1 i1=>exact⟨_,conv (by simp[convT,hu1,hu2]),linA_ok hs q1 rfl⟩
 ·rename_i hu1 hu2;cases h;cases ha with
  |str _ _ v1 l q1 i1=>exact⟨.str l,conv (by simp[convT,hu1,hu2]),.here hs (.str _ _ v1 l q1 i1)⟩
 ·rename_i hu1 hu2;cases h;cases ha;exact⟨_,conv (by simp[convT,hu1,hu2]),.here hs (.strc _)⟩
 ·rename_i hu1 hu2;split at h
  ·rename_i s c hl he;split at h
   ·rename_i hle;cases h;obtain⟨l,w,rfl,q1,w1⟩:=lenS_ok hs.zero ha hl;have:=leq_ok hs.cs hle q1 hs.zero;refine⟨.sl false (l.map fun b=> .int .u8 b.toNat),?_,.here hs (.sl _ _ _ _ _ w (.inr (.inl ⟨_,rfl⟩)) q1 (by simpa using w1) (fun y hy=> ?_))⟩
    ·have hn:convT P src dst (.str l)=none:=by simp[convT,hu1,hu2]
     unfold convB;rw[hn];simp only[bytesT,hu1,hu2,he];rw[if_pos (by omega)]
    ·obtain⟨b,_,rfl⟩:=List.mem_map.1 hy;have:=UInt8.toNat_lt b;exact .ival _ _ _ _ (by omega) (by omega) (by simp only[InK,IntKind.min,IntKind.max,IntKind.bits,IntKind.signed];simp;omega)
   ·cases h
  ·cases h
 ·cases h
end
end Go.Ps
namespace Go.Ps
variable[Inhabited Prd]
def peC:Option (Option Nat)→Option Code
 |none=>none
 |some (some id)=>some (.exit id)
 |some none=>some .ret
def GmO(ρ:List Int)(μ:List (Option Nat)):AO→Ob→Prop
 | .fix e xs,o=>(o.elem=e∧o.sz=0)∧GmL ρ μ xs o.cells
 | .map es,o=>∃(c:Nat) (ms:List (Nat×T×T)),o.me=some (.map c ms)∧es.length=ms.length∧∀(j:Nat) (k:Int) (a:A),es[j]? =some (k,a)→∃c' v,ms[j]? =some (c',.int .i64 k,v)∧Gm ρ μ a v
 | .loop st pe fr ps asg bd ow _ _,o=>∃r:Lr,o.me=some (.loop r)∧r.st=st∧r.pe=peC pe∧r.ps=ps∧r.asg=asg∧r.bd=bd∧r.ow=ow∧GmL ρ μ fr (r.fr.view r.n)
 | .row e sz a s c,o=>o.elem=e∧(o.sz=sz∧(e=5→o.cells≠[]))∧∃(ts:List T) (v:Int),ρ[s]? =some v∧(ts.length:Int)=v+c∧o.cells=ts.flatMap T.cells∧∀t∈ts,Gm ρ μ a t∧t.cells.length=sz
theorem fin_new{H:Hp}(h:∀(m:Nat) (o:Ob),H.any m=some o→m<H.next)(b:Ob):∀(m:Nat) (o:Ob),(H.new b).any m=some o→m<(H.new b).next:=by
 intro m o e;rw[any_new]at e;split at e
 ·rename_i q;rw[←q];exact Nat.lt_succ_self _
 ·exact Nat.lt_succ_of_lt (h m o e)
theorem fin_put{H:Hp}(h:∀(m:Nat) (o:Ob),H.any m=some o→m<H.next){x:Nat}(hx:x<H.next)(b:Ob):∀(m:Nat) (o:Ob),(H.put x b).any m=some o→m<(H.put x b).next:=by
 intro m o e;rw[any_put]at e;split at e
 ·rename_i q;rw[q];exact hx
 ·exact h m o e
theorem fin_drop{H:Hp}(h:∀(m:Nat) (o:Ob),H.any m=some o→m<H.next)(x:Nat):∀(m:Nat) (o:Ob),(H.drop x).any m=some o→m<(H.drop x).next:=by
 intro m o e;rw[any_drop]at e;split at e
 ·cases e
 ·exact h m o e
noncomputable def obAt:AO→Hp→Nat→Option Ob
 | .loop ..,H,x=>H.any x
 | .map _,H,x=>H.any x
 |_,H,x=>H.get x
structure GH(hp:List (Nat×AO))(nl:Nat)(ρ:List Int)(μ:List (Option Nat))(H:Hp):Prop where
 len:μ.length=nl
 obj:∀(l:Nat) (o:AO),findA hp l=some o→∃y,μ[l]? =some y∧∀x,y=some x→∃b,obAt o H x=some b∧GmO ρ μ o b
 inj:∀(l l':Nat) (o o':AO) (x:Nat),findA hp l=some o→findA hp l'=some o'→μ[l]? =some (some x)→μ[l']? =some (some x)→l=l'
 lt:∀(l x:Nat),μ[l]? =some (some x)→x<H.next
 fixp:∀(l:Nat) (e:TypeId) (xs:List A),findA hp l=some (.fix e xs)→∃x,μ[l]? =some (some x)
 fin:∀(m:Nat) (o:Ob),H.any m=some o→m<H.next
section
variable{ρ ρ':List Int}{μ μ':List (Option Nat)}{n:Nat}{cs:List Con}
theorem GmO.ext(h:Ext ρ ρ')(h':Ext μ μ'){a:AO}{o:Ob}(hg:GmO ρ μ a o):GmO ρ' μ' a o:=by
 cases a with
 |fix e xs=>exact⟨hg.1,hg.2.ext h h'⟩
 |row e sz a s c=>
  obtain⟨h1,h2,ts,v,h3,h4,h5,h6⟩:=hg;exact⟨h1,h2,ts,v,h _ _ h3,h4,h5,fun t ht=>⟨(h6 t ht).1.ext h h',(h6 t ht).2⟩⟩
 |map es=>
  obtain⟨c,ms,h1,h2,h3⟩:=hg;exact⟨c,ms,h1,h2,fun j k a hj=>by obtain⟨c',v,h4,h5⟩:=h3 j k a hj;exact⟨c',v,h4,h5.ext h h'⟩⟩
 |loop st pe fr ps asg bd ow aa ab=>
  obtain⟨r,h1,h2,h3,h4,h5,h6,h7,h8⟩:=hg;exact⟨r,h1,h2,h3,h4,h5,h6,h7,h8.ext h h'⟩
theorem GH.ext{hp:List (Nat×AO)}{nl:Nat}{H:Hp}(h:Ext ρ ρ')(hg:GH hp nl ρ μ H):GH hp nl ρ' μ H:=
 ⟨hg.len,fun l o hl=>by
  obtain⟨y,h1,h2⟩:=hg.obj l o hl
  exact⟨y,h1,fun x hx=>by obtain⟨b,h3,h4⟩:=h2 x hx;exact⟨b,h3,h4.ext h (.refl _)⟩⟩,hg.inj,hg.lt,hg.fixp,hg.fin⟩
def AO.plain:AO→Bool
 | .loop .. | .map _ =>false
 |_ =>true
theorem obAt_plain{o:AO}(h:o.plain=true)(H:Hp)(x:Nat):obAt o H x=H.get x:=by cases o<;>first|rfl|cases h
theorem GH.at{hp:List (Nat×AO)}{nl:Nat}{H:Hp}(hg:GH hp nl ρ μ H){l x:Nat}{o:AO}(h:findA hp l=some o)(hx:μ[l]? =some (some x))(ho:o.plain=true:=by rfl):∃b,H.get x=some b∧GmO ρ μ o b:=by
 obtain⟨y,h1,h2⟩:=hg.obj l o h;rw[hx]at h1;cases h1;have:=h2 x rfl
 rwa [obAt_plain ho]at this
theorem flat_dropA{sz:Nat}:∀(ts:List T) (i:Nat),(∀t∈ts,t.cells.length=sz)→i≤ts.length→(ts.flatMap T.cells).drop (i*sz)=(ts.drop i).flatMap T.cells
 |ts,0,_,_ =>by simp
 |[],i+1,_,h=>by simp at h
 |t::ts,i+1,hs,h=>by
  rw[List.flatMap_cons,List.drop_succ_cons,←flat_dropA ts i (fun x hx=>hs x (by simp[hx])) (by simpa using h)];have:t.cells.length=sz:=hs t (by simp);rw[Nat.succ_mul,Nat.add_comm,←List.drop_drop,←this,List.drop_left]
theorem flat_len{sz:Nat}:∀(ts:List T),(∀t∈ts,t.cells.length=sz)→(ts.flatMap T.cells).length=ts.length*sz
 |[],_ =>by simp
 |t::ts,hs=>by
  rw[List.flatMap_cons,List.length_append,flat_len ts (fun x hx=>hs x (by simp[hx])),hs t (by simp),List.length_cons,Nat.succ_mul];omega
theorem part_row{P:Program}{t:TypeId}{sz:Nat}{ts:List T}(hs:∀t∈ts,t.cells.length=sz){i off:Nat}{x r:T}(hi:ts[i]? =some x)(hp:partT P t x.cells off=some r):
  partT P t (ts.flatMap T.cells) (i*sz+off)=some r:=by
 have hil:=(List.getElem?_eq_some_iff.1 hi).1;have hd:=flat_dropA ts i hs (by omega);have hx:ts.drop i=x::ts.drop (i+1):=by
  rw[List.drop_eq_getElem_cons hil];congr 1;exact(List.getElem?_eq_some_iff.1 hi).2
 rw[hx,List.flatMap_cons]at hd;have hxl:=hs x (List.mem_of_getElem? hi);have hfl:=flat_len ts hs;have hmul:(i+1)*sz≤ts.length*sz:=Nat.mul_le_mul_right _ hil;rw[Nat.succ_mul]at hmul;unfold partT at hp⊢;split at hp
 ·split at hp
  ·rename_i m hm;split at hp
   ·rename_i hle;cases hp;rw[if_pos (by rw[hfl];omega),←List.drop_drop,hd,List.drop_append_of_le_length (by omega),List.take_append_of_le_length (by rw[List.length_drop];omega)]
   ·cases hp
  ·cases hp
 ·have ho:=(List.getElem?_eq_some_iff.1 hp).1;rw[←List.getElem?_drop,hd,List.getElem?_append_left ho];exact hp
 ·cases hp
theorem matV_known{a:A}(h:a.known=true):(matV a n cs).a.known=true:=by
 cases a<;>first|exact h|rfl|(simp only[matV,mat,mat0,matC];split<;>rfl)
theorem loadA_ok{P:Program}{hp:List (Nat×AO)}{nl:Nat}{H:Hp}(hs:Sy ρ n cs)(hh:GH hp nl ρ μ H){t:TypeId}{a:A}{x:T}(ha:Gm ρ μ a x){v:AV}(h:loadA P hp n cs t a=some v):
  ∃r,loadT P H t x=some r∧VOk ρ μ v r:=by
 unfold loadA at h;split at h
 ·split at h
  ·rename_i hk;obtain⟨y,hy,rfl⟩:=Option.map_eq_some_iff.1 h;cases ha with
   |ref _ u off _ hu=>
    obtain⟨r,h1,h2⟩:=partW_ok hu hk hy;exact⟨r,h1,matV_ok hs h2⟩
  ·cases h
 ·split at h
  ·rename_i l off e xs hl;obtain⟨y,hy,rfl⟩:=Option.map_eq_some_iff.1 h;cases ha with
   |ptr _ _ l' hl'=>
    obtain⟨b,h1,h2⟩:=hh.at hl hl';obtain⟨r,h3,h4⟩:=partA_ok h2.2 hy;exact⟨r,by simp only[loadT,cellsAt,h1];exact h3,matV_ok hs h4⟩
  ·cases h
 ·rename_i l sz s c off;split at h
  ·rename_i sz' e s' c' hl;split at h
   ·rename_i hc;obtain⟨y,hy,rfl⟩:=Option.map_eq_some_iff.1 h;simp only[Bool.and_eq_true]at hc;obtain⟨⟨⟨c1,c2⟩,c3⟩,c4⟩:=hc;have c1:=Nat.eq_of_beq_eq_true c1;subst c1;cases ha with
    |elp _ _ _ _ _ l' w hl' hw hw0=>
     obtain⟨b,h1,h2,h3,ts,v',g1,g2,g3,g4⟩:=hh.at hl hl';have hlt:=leq_ok hs.cs c4 hw g1;have hi:(w+c).toNat<ts.length:=by omega
     have hx:=List.getElem?_eq_getElem hi;have hg:=g4 _ (List.getElem_mem hi);obtain⟨r,h5,h6⟩:=partA_ok (known_gm hg.1 c2).2 hy;refine⟨r,?_,matV_ok hs h6⟩;simp only[loadT,cellsAt,h1,g3];exact part_row (fun t ht=>(g4 t ht).2) hx h5
   ·cases h
  ·cases h
 ·cases h
theorem GH.atN{hp:List (Nat×AO)}{nl:Nat}{H:Hp}(hg:GH hp nl ρ μ H){l x:Nat}{o:AO}(h:findA hp l=some o)(hx:μ[l]? =some (some x))(ho:o.plain=false:=by rfl):∃b,H.any x=some b∧GmO ρ μ o b:=by
 obtain⟨y,h1,h2⟩:=hg.obj l o h;rw[hx]at h1;cases h1;have:=h2 x rfl;cases o<;>first|exact this|cases ho
theorem findK_ok{P:Program}{kt:TypeId}{ik:IntKind}(hk:P.underlying kt=some (.int ik)){k:Int}:∀(es:List (Int×A)) (ms:List (Nat×T×T)) (i:Nat),es.length=ms.length→
  (∀(j:Nat) (k:Int) (a:A),es[j]? =some (k,a)→∃c' v,ms[j]? =some (c',.int .i64 k,v)∧Gm ρ μ a v)→
  (∀a,findK k es=some a→∃j b v,findM P kt (.int .i64 k) ms i=some (some (j,b,v))∧Gm ρ μ a v)∧(findK k es=none→findM P kt (.int .i64 k) ms i=some none)
 |[],[],_,_,_ =>⟨fun a h=>by simp[findK]at h,fun _ =>rfl⟩
 |[],_ ::_,_,h,_ =>by simp at h
 |_ ::_,[],_,h,_ =>by simp at h
 |(k',a')::es,(c0,k0,v0)::ms,i,hl,h=>by
  obtain⟨c',v,h1,h2⟩:=h 0 k' a' rfl;simp only[List.getElem?_cons_zero,Option.some.injEq,Prod.mk.injEq]at h1;obtain⟨rfl,rfl,rfl⟩:=h1;have ih:=findK_ok hk (k:=k) es ms (i+1) (by simpa using hl) (fun j k a hj=>h (j+1) k a (by simpa using hj));have he:eqK P kt (.int .i64 k) (.int .i64 k')=some (k==k'):=by simp[eqK,eq1,hk]
  simp only[findK,findM,he];by_cases hkk:k'=k
  ·subst hkk;simp only[beq_self_eq_true,if_true];exact⟨fun a h=>by cases h;exact⟨_,_,_,rfl,h2⟩,fun h=>by cases h⟩
  ·have h1:(k'==k)=false:=by simpa using hkk
   have h2:(k==k')=false:=by simp;exact fun e=>hkk e.symm
   simp only[h1,h2,Bool.false_eq_true,if_false];exact ih
theorem lookupA_ok{P:Program}{hp:List (Nat×AO)}{nl:Nat}{H:Hp}(h0:ρ[0]? =some 0)(hh:GH hp nl ρ μ H){t:TypeId}{x k:A}{y z:T}(hx:Gm ρ μ x y)(hk:Gm ρ μ k z){ok:Bool}{b:A}(h:lookupA P hp t x k ok=some b):
  ∃r,lookupT P H t y z ok=some r∧Gm ρ μ b r:=by
 unfold lookupA at h;split at h
 ·rename_i l ik s c;split at h
  ·rename_i hc;simp only[Bool.and_eq_true,beq_iff_eq]at hc;obtain⟨rfl,hc⟩:=hc;have hc:s=0:=Nat.eq_of_beq_eq_true hc;subst hc;cases hx with
   |mp _ l' hl'=>
   cases hk with
   |int _ _ _ v hv hin=>
   rw[h0]at hv;cases hv;simp only[Int.zero_add]at*;split at h
   ·rename_i es hf;split at h
    ·rename_i kt et hu;split at h
     ·rename_i ik hik;obtain⟨o,o1,c0,ms,o2,o3,o4⟩:=hh.atN hf hl';have hkey:keyOk P kt (.int .i64 c)=true:=by simp[keyOk,keyOk1,hik]
      have hent:entsT H (.mp l')=some ms:=by simp only[entsT,o1,o2]
      have:=findK_ok (ρ:=ρ) (μ:=μ) hik (k:=c) es ms 0 o3 o4;simp only[lookupT,hu,hkey,hent,if_true];split at h
      ·rename_i a ha;cases h;obtain⟨j,b,v,q1,q2⟩:=this.1 a ha;simp only[q1];cases ok with
       |true=>exact⟨_,rfl,.tup _ _ rfl fun j a t h1 h2=>(GmL.cons q2 (GmL.cons (show Gm ρ μ (.bool (.lit _)) (.bool _)from .bool (.lit _) _ (by simp[HoldB])) .nil)).2 j a t h1 h2⟩
       |false=>exact⟨_,rfl,q2⟩
      ·rename_i ha;have q1:=this.2 ha;simp only[q1];split at h
       ·rename_i z hz;cases h;obtain⟨z',e1,e2⟩:=zeroA_ok (ρ:=ρ) (μ:=μ) h0 hz;simp only[e1];cases ok with
        |true=>exact⟨_,rfl,.tup _ _ rfl fun j a t h1 h2=>(GmL.cons e2 (GmL.cons (show Gm ρ μ (.bool (.lit _)) (.bool _)from .bool (.lit _) _ (by simp[HoldB])) .nil)).2 j a t h1 h2⟩
        |false=>exact⟨_,rfl,e2⟩
       ·cases h
     ·cases h
    ·cases h
   ·cases h
  ·cases h
 ·cases h
theorem addrA_ok{a:A}{x:T}(ha:Gm ρ μ a x){m:Nat}{b:A}(h:addrA a m=some b):∃y,addT x m=some y∧Gm ρ μ b y:=by
 unfold addrA at h;split at h
 ·cases h;cases ha with
  |ref _ u off hk hu=>exact⟨_,rfl,.ref _ _ _ hk hu⟩
 ·cases h;cases ha with
  |ptr _ _ l' hl'=>exact⟨_,rfl,.ptr _ _ l' hl'⟩
 ·cases h;cases ha with
  |elp _ _ _ _ _ l' w hl' hw hw0=>exact⟨_,rfl,by rw[Nat.add_assoc];exact .elp _ _ _ _ _ l' w hl' hw hw0⟩
 ·cases h
theorem fieldAddrA_ok{P:Program}{s:TypeId}{a:A}{x:T}(ha:Gm ρ μ a x){f:Nat}{b:A}(h:fieldAddrA P s a f=some b):∃y,fieldAddrT P s x f=some y∧Gm ρ μ b y:=by
 unfold fieldAddrA at h;unfold fieldAddrT;split at h
 ·rename_i fd hfd;rw[hfd];simp only;split at h
  ·rename_i m hm;rw[hm];simp only;split at h
   ·cases h
   ·rename_i h0;rw[if_neg h0];exact addrA_ok ha h
  ·cases h
 ·cases h
theorem sumL_ok(h0:ρ[0]? =some 0){s1 s2:Nat}{c1 c2 v1 v2:Int}(h1:ρ[s1]? =some v1)(h2:ρ[s2]? =some v2){q:Nat}{d:Int}(h:sumL s1 c1 s2 c2=some (q,d)):
  ∃v,ρ[q]? =some v∧v+d=v1+c1+(v2+c2):=by
 unfold sumL at h;split at h
 ·rename_i e;cases h;have:s2=0:=Nat.eq_of_beq_eq_true e;subst this;rw[h0]at h2;cases h2;exact⟨v1,h1,by omega⟩
 ·split at h
  ·rename_i e;cases h;have:s1=0:=Nat.eq_of_beq_eq_true e;subst this;rw[h0]at h1;cases h1;exact⟨v2,h2,by omega⟩
  ·cases h
theorem indexAddrA0_ok{P:Program}(hs:Sy ρ n cs){t:TypeId}{a b:A}{x i:T}(ha:Gm ρ μ a x)(hb:Gm ρ μ b i){v:AV}(h:indexAddrA0 P n cs t a b=some v):
  ∃r,indexAddrT P t x i=some r∧VOk ρ μ v r:=by
 unfold indexAddrA0 at h;split at h
 ·rename_i k s c;cases hb with
  |int _ _ _ w hw hin=>
  split at h
  ·rename_i e el s' c' hu;split at h
   ·rename_i z hz;split at h
    ·rename_i hc;simp only[Bool.and_eq_true]at hc;obtain⟨⟨⟨k1,k2⟩,k3⟩,k4⟩:=hc;have k3:=leq_ok hs.cs k3 hs.zero hw;cases ha with
     |sl _ _ _ _ xs v' h1 h2 h3 h4=>
      have k4:=leq_ok hs.cs k4 hw h2;have hi:(w+c).toNat<xs.length:=by omega
      have hg:=h4 _ (List.getElem_mem hi);have hlen:(xs[(w+c).toNat]).cells.length=z:=by rw[←(known_gm hg k1).2.1];exact Nat.eq_of_beq_eq_true k2
      obtain⟨ρ',e1,e2,e3⟩:=matV_ok hs hg;have hk:=matV_known (n:=n) (cs:=cs) k1;cases h;refine⟨.ref xs[(w+c).toNat] 0,?_,ρ',e1,e2,.ref _ _ _ hk e3⟩;rcases h1 with⟨rfl,rfl⟩|⟨f,rfl⟩|⟨full,m,f,rfl,rfl⟩
      ·simp at hi
      ·simp only[indexAddrT,hu];rw[if_pos (by omega),List.getElem?_eq_getElem hi];simp only[hz];rw[if_pos hlen]
      ·simp only[List.length_map,List.length_range]at hi h3;simp only[List.getElem_map,List.getElem_range]at hlen⊢;simp only[indexAddrT,hu];rw[if_pos (by omega)];simp only[hz];rw[if_pos hlen]
    ·cases h
   ·cases h
  ·rename_i e es hu;split at h
   ·rename_i z hz;split at h
    ·rename_i hc;simp only[Bool.and_eq_true,ile,decide_eq_true_eq]at hc;obtain⟨k1,k2⟩:=hc;have k1:s=0:=Nat.eq_of_beq_eq_true k1;subst k1;rw[hs.zero]at hw;cases hw;split at h
     ·rename_i a0 ha0;split at h
      ·rename_i hc2;simp only[Bool.and_eq_true]at hc2;obtain⟨m1,m2⟩:=hc2;cases ha with
       |slk _ _ xs g1 g2 g3=>
        have hi:c.toNat<xs.length:=by rw[←g2];exact(List.getElem?_eq_some_iff.1 ha0).1
        have hx:=List.getElem?_eq_getElem hi;have hg:=g3 _ _ _ ha0 hx;have hlen:(xs[c.toNat]).cells.length=z:=by rw[←(known_gm hg m1).2.1];exact Nat.eq_of_beq_eq_true m2
        obtain⟨ρ',e1,e2,e3⟩:=matV_ok hs hg;have hk:=matV_known (n:=n) (cs:=cs) m1;cases h;refine⟨.ref xs[c.toNat] 0,?_,ρ',e1,e2,.ref _ _ _ hk e3⟩;simp only[Int.zero_add];rcases g1 with⟨rfl,rfl⟩|⟨f,rfl⟩|⟨full,m,f,rfl,rfl⟩
        ·simp at hi
        ·simp only[indexAddrT,hu];rw[if_pos k2,hx];simp only[hz];rw[if_pos hlen]
        ·simp only[List.length_map,List.length_range]at hi;simp only[List.getElem_map,List.getElem_range]at hlen⊢;simp only[indexAddrT,hu];rw[if_pos (by omega)];simp only[hz];rw[if_pos hlen]
      ·cases h
     ·cases h
    ·cases h
   ·cases h
  ·rename_i e l sz si ci s' c' hu;split at h
   ·rename_i z hz;split at h
    ·rename_i hc;simp only[Bool.and_eq_true]at hc;obtain⟨⟨⟨k1,k2⟩,k3⟩,k4⟩:=hc;have k1:sz=z:=Nat.eq_of_beq_eq_true k1;have k2:=leq_ok hs.cs k2 hs.zero hw;split at h
     ·rename_i q d hq;cases h;cases ha with
      |osl _ _ _ _ _ _ l' vi v' g1 g2 g3 g4 g5=>
       have k3:=leq_ok hs.cs k3 hw g4;obtain⟨u,u1,u2⟩:=sumL_ok hs.zero g2 hw hq;have e:=Gm.elp (ρ:=ρ) (μ:=μ) l sz q d 0 l' u g1 u1 (by omega);refine⟨.ptr l' ((u+d).toNat*sz+0),?_,.here hs e⟩;simp only[indexAddrT,hu];rw[if_pos (by omega)];simp only[hz];rw[if_pos k1];have:(vi+ci).toNat+(w+c).toNat=(u+d).toNat:=by omega
       rw[this,Nat.add_zero]
      |osl0 _ _ _ _ _ _ vi v' g1 g2 g3 g4 g5=>
       have k3:=leq_ok hs.cs k3 hw g4;omega
     ·cases h
    ·cases h
   ·cases h
  ·rename_i len e _ hu;split at h
   ·rename_i z hz;split at h
    ·rename_i hc;simp only[Bool.and_eq_true,ile,decide_eq_true_eq]at hc;obtain⟨⟨k1,k2⟩,k3⟩:=hc;have k1:s=0:=Nat.eq_of_beq_eq_true k1;subst k1;rw[hs.zero]at hw;cases hw;obtain⟨y,hy,rfl⟩:=Option.map_eq_some_iff.1 h;obtain⟨r,r1,r2⟩:=addrA_ok ha hy;refine⟨r,?_,.here hs r2⟩;simp only[indexAddrT,hu];rw[if_pos (by omega)];simp only[hz];rw[←r1];congr 2;simp
    ·cases h
   ·cases h
  ·cases h
 ·cases h
theorem indexAddrA_ok{P:Program}(hs:Sy ρ n cs){t:TypeId}{a b:A}{x i:T}(ha:Gm ρ μ a x)(hb:Gm ρ μ b i){v:AV}(h:indexAddrA P n cs t a b=some v):
  ∃r,indexAddrT P t x i=some r∧VOk ρ μ v r:=indexAddrA0_ok hs ha.unp hb h
theorem pickA_mem(hs:Sy ρ n cs){s:Nat}{c w:Int}(hw:ρ[s]? =some w):∀(a_s:List A) (j:Nat) (a:A) (i:Nat),a_s[i]? =some a→((j+i:Nat):Int)=w+c→a∈pickA cs s c j a_s
 |b::bs,j,a,0,ha,he=>by
  simp at ha;subst ha;have he:(j:Int)=w+c:=by simpa using he
  simp only[pickA];split
  ·rename_i hc;simp only[Bool.or_eq_true]at hc;rcases hc with hc|hc
   ·have:=leq_ok hs.cs hc hw hs.zero;omega
   ·have q:=leq_ok hs.cs hc hs.zero hw;omega
  ·exact List.mem_cons_self
 |b::bs,j,a,i+1,ha,he=>by
  have:=pickA_mem (c:=c) hs hw bs (j+1) a i (by simpa using ha) (by omega);simp only[pickA];split
  ·exact this
  ·exact List.mem_cons_of_mem _ this
theorem indexA_ok{P:Program}(hs:Sy ρ n cs){t:TypeId}{a b:A}{x i:T}(ha:Gm ρ μ a x)(hb:Gm ρ μ b i){v:AV}(h:indexA P n cs t a b=some v):
  ∃r,indexT P t x i=some r∧VOk ρ μ v r:=by
 unfold indexA at h;split at h
 ·rename_i k s c;cases hb with
  |int _ _ _ w hw hin=>
  split at h
  ·rename_i len e a_s hu;split at h
   ·rename_i z hz;split at h
    ·rename_i hc;simp only[Bool.and_eq_true]at hc;have k1:=leq_ok hs.cs hc.1 hs.zero hw;have k2:=leq_ok hs.cs hc.2 hw hs.zero;cases ha with
     |agg _ ts hl hg=>
     split at h
     ·rename_i e0;have e0:s=0:=Nat.eq_of_beq_eq_true e0;subst e0;rw[hs.zero]at hw;cases hw;obtain⟨y,hy,rfl⟩:=Option.map_eq_some_iff.1 h;obtain⟨r,r1,r2⟩:=partA_ok ⟨hl,hg⟩ hy;refine⟨r,?_,.here hs r2⟩;simp only[indexT,hu];rw[if_pos (by omega)];simp only[hz];rw[←r1];congr 2;simp
     ·split at h
      ·rename_i hag;split at h
       ·rename_i hc2;cases h;simp only[Bool.and_eq_true]at hc2;have z1:z=1:=Nat.eq_of_beq_eq_true hc2.1;have hlen:a_s.length=len:=Nat.eq_of_beq_eq_true hc2.2;subst z1;have hi:(w+c).toNat<a_s.length:=by omega
        have hget:=List.getElem?_eq_getElem hi;obtain⟨r,r1,r2⟩:=GmL.at (ρ:=ρ) (μ:=μ) ⟨hl,hg⟩ hget;refine⟨r,?_,.here hs (.or _ _ r (pickA_mem hs hw a_s 0 _ _ hget (by omega)) r2)⟩;simp only[indexT,hu];rw[if_pos (by omega)];simp only[hz,partT,hag,Nat.mul_one];exact r1
       ·cases h
      ·cases h
    ·cases h
   ·cases h
  ·rename_i hu;split at h
   ·rename_i s' c' hl;obtain⟨l,v',rfl,q1,w1⟩:=lenS_ok hs.zero ha hl;split at h
    ·rename_i hc;cases h;simp only[Bool.and_eq_true]at hc;have k1:=leq_ok hs.cs hc.1 hs.zero hw;have k2:=leq_ok hs.cs hc.2 hw q1;have hi:(w+c).toNat<l.length:=by omega
     refine⟨.int .u8 l[(w+c).toNat].toNat,?_,matV_ok hs (.ival _ _ _ _ (by omega) ?_ ?_)⟩
     ·simp only[indexT,hu];rw[if_pos (by omega),List.getElem?_eq_getElem hi];rfl
     ·have:=UInt8.toNat_lt l[(w+c).toNat];omega
     ·have:=UInt8.toNat_lt l[(w+c).toNat];simp only[InK,IntKind.min,IntKind.max,IntKind.bits,IntKind.signed];simp;omega
    ·cases h
   ·cases h
  ·cases h
 ·cases h
end
end Go.Ps
namespace Go.Ps
variable[Inhabited Prd]
section
variable{ρ ρ':List Int}{μ μ':List (Option Nat)}{n:Nat}{cs:List Con}
def OptR(ρ:List Int)(μ:List (Option Nat)):Option A→Option T→Prop
 |none,none=>True
 |some a,some t=>Gm ρ μ a t
 |_,_ =>False
theorem boundA_ok{x:Option A}{y:Option T}(hr:OptR ρ μ x y){s:Nat}{c w:Int}(hw:ρ[s]? =some w){s':Nat}{c':Int}(h:boundA x s c=some (s',c')):
  ∃w',ρ[s']? =some w'∧∀(d top:Nat),(d:Int)=w+c→0≤w'+c'→w'+c'≤top→boundT y d top=some (w'+c').toNat:=by
 unfold boundA at h;split at h
 ·cases h;cases y with
  |some y=>exact hr.elim
  |none=>exact⟨w,hw,fun d top hd h0 ht=>by simp only[boundT];rw[←hd];simp⟩
 ·cases h;cases y with
  |none=>exact hr.elim
  |some y=>
   cases hr with
   |int _ _ _ w' hw' _ =>exact⟨w',hw',fun d top hd h0 ht=>by simp only[boundT];rw[if_pos ⟨h0,ht⟩]⟩
 ·cases h
theorem betwA_ok(hs:Sy ρ n cs){sl sh:Nat}{cl ch l h:Int}(hl:ρ[sl]? =some l)(hh:ρ[sh]? =some h)(h0:0≤l+cl)(hlh:l+cl≤h+ch):
  ∃ρ',Ext ρ ρ'∧Sy ρ' (betwA n cs sl cl sh ch).2.2.1 (betwA n cs sl cl sh ch).2.2.2∧∃v,ρ'[(betwA n cs sl cl sh ch).1]? =some v∧v+(betwA n cs sl cl sh ch).2.1=h+ch-(l+cl):=by
 unfold betwA;split
 ·rename_i e;have:sl=0:=Nat.eq_of_beq_eq_true e;subst this;rw[hs.zero]at hl;cases hl;exact⟨ρ,.refl _,hs,h,hh,by simp;omega⟩
 ·split
  ·rename_i e;have:sl=sh:=Nat.eq_of_beq_eq_true e;subst this;rw[hl]at hh;cases hh;exact⟨ρ,.refl _,hs,0,hs.zero,by simp;omega⟩
  ·obtain⟨e1,e2,e3,e4⟩:=hs.new (h+ch-(l+cl));refine⟨_,e1,⟨e3,e4,holdIf (fun q=>⟨_,h,e2,e1 _ _ hh,?_⟩) (.cons ⟨0,_,e4,e2,?_⟩ (.cons ⟨_,h,e2,e1 _ _ hh,by omega⟩ (hs.cs.ext e1)))⟩,_,e2,by simp⟩
   ·have:=leq_ok hs.cs q hs.zero hl;omega
   ·split
    ·rename_i q;have:=leq_ok hs.cs q hl hh;omega
    ·omega
theorem isSl_slice{t:T}{xs:List T}(h:IsSl t xs){P:Program}{ty e:TypeId}(hu:P.underlying ty=some (.slice e)){z:Nat}(hz:szT P e=some z)(hc:∀x∈xs,x.cells.length=z)
  {lo hi:Option T} {l h':Nat} (hlo:boundT lo 0 h'=some l) (hhi:boundT hi xs.length xs.length=some h') (hle:l≤h') (hh:h'≤xs.length):
  ∃r,sliceT P ty t lo hi=some r∧IsSl r ((xs.take h').drop l):=by
 rcases h with⟨rfl,rfl⟩|⟨f,rfl⟩|⟨full,m,f,rfl,rfl⟩
 ·simp at hhi hh;subst hh;have:l=0:=by omega
  subst this;exact⟨.nils,by simp[sliceT,hu,hhi,hlo,hz],.inl ⟨rfl,by simp⟩⟩
 ·refine⟨.sl (f&&h'==xs.length) ((xs.take h').drop l),?_,.inr (.inl ⟨_,rfl⟩)⟩;have hk:headOk z xs=true:=by
   cases xs with
   |nil=>rfl
   |cons x r=>simp only[headOk,beq_iff_eq];exact hc x (by simp)
  simp only[sliceT,hu,hhi,hlo,hz];rw[if_pos hk]
 ·simp only[List.length_map,List.length_range]at hhi hh;refine⟨.slf (full&&h'==m) (h'-l) (fun i=>f (l+i)),?_,.inr (.inr ⟨_,_,_,rfl,?_⟩)⟩
  ·simp only[sliceT,hu,hhi,hlo,hz];rw[if_neg];intro⟨q1,q2⟩;exact q2 (hc (f l) (List.mem_map.2 ⟨l,by simp;omega,rfl⟩))
  ·apply List.ext_getElem?;intro j;rw[List.getElem?_drop,List.getElem?_take,List.getElem?_map,List.getElem?_map];by_cases hj:l+j<h'
   ·rw[if_pos hj,List.getElem?_range (by omega),List.getElem?_range (by omega)];rfl
   ·rw[if_neg hj,List.getElem?_eq_none (by simp;omega)];rfl
theorem sliceA_ok{P:Program}(hs:Sy ρ n cs){t:TypeId}{a:A}{x:T}{lo hi:Option A}{lo' hi':Option T}(ha:Gm ρ μ a x)(hlo:OptR ρ μ lo lo')(hhi:OptR ρ μ hi hi'){v:AV}
  (h:sliceA P n cs t a lo hi=some v):∃r,sliceT P t x lo' hi'=some r∧VOk ρ μ v r:=by
 unfold sliceA at h;split at h
 ·rename_i hu;split at h
  ·rename_i s c hl;obtain⟨l,w,rfl,q1,w1⟩:=lenS_ok hs.zero ha hl;split at h
   ·rename_i sh ch hbh;obtain⟨h',r1,r2⟩:=boundA_ok hhi q1 hbh;split at h
    ·rename_i s0 c0 hbl;obtain⟨l',r3,r4⟩:=boundA_ok hlo hs.zero hbl;split at h
     ·rename_i hc;simp only[Bool.and_eq_true]at hc;have k1:=leq_ok hs.cs hc.1.1 hs.zero r3;have k2:=leq_ok hs.cs hc.1.2 r3 r1;have k3:=leq_ok hs.cs hc.2 r1 q1;obtain⟨ρ',b1,b2,u,b3,b4⟩:=betwA_ok hs r3 r1 (by omega) k2;generalize betwA n cs s0 c0 sh ch=bw at h b2 b3 b4;obtain⟨s1,c1,n1,cs1⟩:=bw;simp only at b2 b3 b4 h;cases h;have e1:=r2 l.length l.length (by omega) (by omega) (by omega);have e2:=r4 0 (h'+ch).toNat (by omega) (by omega) (by omega);refine⟨.str ((l.take (h'+ch).toNat).drop (l'+c0).toNat),by simp only[sliceT,hu,e1,e2],ρ',b1,b2,.str _ _ u _ b3 ?_⟩;rw[List.length_drop,List.length_take];omega
     ·cases h
    ·cases h
   ·cases h
  ·cases h
 ·rename_i e hu;split at h
  ·rename_i el s c;cases ha with
   |sl _ _ _ _ xs w h1 h2 h3 h4=>
   split at h
   ·rename_i sh ch hbh;obtain⟨h',r1,r2⟩:=boundA_ok hhi h2 hbh;split at h
    ·rename_i s0 c0 hbl;obtain⟨l',r3,r4⟩:=boundA_ok hlo hs.zero hbl;split at h
     ·rename_i z hz;split at h
      ·rename_i hc;simp only[Bool.and_eq_true]at hc;obtain⟨⟨⟨⟨k0,k0'⟩,k1⟩,k2⟩,k3⟩:=hc;have k1:=leq_ok hs.cs k1 hs.zero r3;have k2:=leq_ok hs.cs k2 r3 r1;have k3:=leq_ok hs.cs k3 r1 h2;obtain⟨ρ',b1,b2,u,b3,b4⟩:=betwA_ok hs r3 r1 (by omega) k2;generalize betwA n cs s0 c0 sh ch=bw at h b2 b3 b4;obtain⟨s1,c1,n1,cs1⟩:=bw;simp only at b2 b3 b4 h;cases h;have e1:=r2 xs.length xs.length (by omega) (by omega) (by omega);have e2:=r4 0 (h'+ch).toNat (by omega) (by omega) (by omega);have hcl:∀x∈xs,x.cells.length=z:=fun x hx=>by
        rw[←(known_gm (h4 x hx) k0).2.1];exact Nat.eq_of_beq_eq_true k0'
       obtain⟨r,g1,g2⟩:=isSl_slice h1 hu hz hcl e2 e1 (by omega) (by omega);refine⟨r,g1,ρ',b1,b2,.sl _ _ _ r _ u g2 b3 (by rw[List.length_drop,List.length_take];omega) (fun x hx=> ?_)⟩;exact(h4 x (List.mem_of_mem_take (List.mem_of_mem_drop hx))).ext b1 (.refl _)
      ·cases h
     ·cases h
    ·cases h
   ·cases h
  ·rename_i l sz si ci s c;split at h
   ·rename_i sh ch hbh;split at h
    ·rename_i s0 c0 hbl;split at h
     ·rename_i z hz;split at h
      ·rename_i hc;simp only[Bool.and_eq_true]at hc;obtain⟨⟨⟨⟨k0,k0'⟩,k1⟩,k2⟩,k3⟩:=hc;have k0:sz=z:=Nat.eq_of_beq_eq_true k0;split at h
       ·rename_i q d hq;cases ha with
        |osl _ _ _ _ _ _ l' vi w g1 g2 g3 g4 g5=>
         obtain⟨h',r1,r2⟩:=boundA_ok hhi g4 hbh;obtain⟨l0,r3,r4⟩:=boundA_ok hlo hs.zero hbl;have k1:=leq_ok hs.cs k1 hs.zero r3;have k2:=leq_ok hs.cs k2 r3 r1;have k3:=leq_ok hs.cs k3 r1 g4;obtain⟨ρ',b1,b2,u,b3,b4⟩:=betwA_ok hs r3 r1 (by omega) k2;generalize betwA n cs s0 c0 sh ch=bw at h b2 b3 b4;obtain⟨s1,c1,n1,cs1⟩:=bw;simp only at b2 b3 b4 h;have e1:=r2 (w+c).toNat (w+c).toNat (by omega) (by omega) (by omega);have e2:=r4 0 (h'+ch).toNat (by omega) (by omega) (by omega);obtain⟨m,u1,u2⟩:=sumL_ok hs.zero g2 r3 hq;cases h;refine⟨.osl l' sz ((vi+ci).toNat+(l0+c0).toNat) ((h'+ch).toNat-(l0+c0).toNat),?_,ρ',b1,b2,?_⟩
         ·simp only[sliceT,hu,e1,e2,hz];rw[if_pos k0.symm]
         ·have a1:(vi+ci).toNat+(l0+c0).toNat=(m+d).toNat:=by omega
          have a2:(h'+ch).toNat-(l0+c0).toNat=(u+c1).toNat:=by omega
          rw[a1,a2];exact .osl _ _ _ _ _ _ l' m u g1 (b1 _ _ u1) (by omega) b3 (by omega)
        |osl0 _ _ _ _ _ _ vi w g1 g2 g3 g4 g5=>
         obtain⟨h',r1,r2⟩:=boundA_ok hhi g4 hbh;obtain⟨l0,r3,r4⟩:=boundA_ok hlo hs.zero hbl;have k1:=leq_ok hs.cs k1 hs.zero r3;have k2:=leq_ok hs.cs k2 r3 r1;have k3:=leq_ok hs.cs k3 r1 g4;obtain⟨ρ',b1,b2,u,b3,b4⟩:=betwA_ok hs r3 r1 (by omega) k2;generalize betwA n cs s0 c0 sh ch=bw at h b2 b3 b4;obtain⟨s1,c1,n1,cs1⟩:=bw;simp only at b2 b3 b4 h;have e1:=r2 0 0 (by omega) (by omega) (by omega);have e2:=r4 0 0 (by omega) (by omega) (by omega);obtain⟨m,u1,u2⟩:=sumL_ok hs.zero g2 r3 hq;cases h;refine⟨.nils,?_,ρ',b1,b2,.osl0 _ _ _ _ _ _ m u g1 (b1 _ _ u1) (by omega) b3 (by omega)⟩;simp only[sliceT,hu,e1,e2,hz];rfl
       ·cases h
      ·cases h
     ·cases h
    ·cases h
   ·cases h
  ·cases h
 ·cases h
theorem i64_len{m:Nat}(h:(m:Int)≤9000000000000000000):InK .i64 (m:Int):=i64_of (by omega)
theorem lenA0_ok{P:Program}(hs:Sy ρ n cs){t:TypeId}{a:A}{x:T}(ha:Gm ρ μ a x){b:A}(h:lenA0 P cs t a=some b):∃r,lenT P t x=some r∧Gm ρ μ b r:=by
 unfold lenA0 at h;split at h
 ·have hu:=‹P.underlying t=_›;split at h
  ·rename_i hl;cases h;cases ha;simp only[ile,decide_eq_true_eq]at hl;exact⟨_,by simp only[lenT,hu],gm_int hs.zero (by omega) (i64_len hl)⟩
  ·cases h
 ·have hu:=‹P.underlying t=_›;split at h
  ·rename_i hk;cases h;cases ha with
   |str _ _ w l q1 q2=>
    have:=inK_ok hs.cs hs.zero hk q1;rw[←q2]at this;exact⟨_,by simp only[lenT,hu],gm_int q1 q2 this⟩
  ·cases h
 ·have hu:=‹P.underlying t=_›;cases h;cases ha;exact⟨.int .i64 0,by simp only[lenT,hu],gm_int hs.zero (by omega) (i64_of (by omega))⟩
 ·have hu:=‹P.underlying t=_›;split at h
  ·rename_i hk;cases h;simp only[ile,decide_eq_true_eq]at hk;cases ha with
   |slk es _ xs h1 h2 h3=>
    have hi:=i64_len hk;rw[h2]at hi;rcases h1 with⟨rfl,rfl⟩|⟨f,rfl⟩|⟨full,m,f,rfl,rfl⟩
    ·exact⟨.int .i64 0,by simp only[lenT,hu],gm_int hs.zero (by rw[h2];simp) (i64_of (by omega))⟩
    ·exact⟨_,by simp only[lenT,hu],gm_int hs.zero (by rw[h2];simp) hi⟩
    ·simp only[List.length_map,List.length_range]at hi h2;exact⟨_,by simp only[lenT,hu],gm_int hs.zero (by rw[h2];simp) hi⟩
  ·cases h
 ·have hu:=‹P.underlying t=_›;split at h
  ·rename_i hk;cases h;cases ha with
   |sl _ _ _ _ xs w h1 q1 q2 _ =>
    have hi:=inK_ok hs.cs hs.zero hk q1;rw[←q2]at hi;rcases h1 with⟨rfl,rfl⟩|⟨f,rfl⟩|⟨full,m,f,rfl,rfl⟩
    ·exact⟨.int .i64 0,by simp only[lenT,hu],gm_int q1 (by simpa using q2) (i64_of (by omega))⟩
    ·exact⟨_,by simp only[lenT,hu],gm_int q1 q2 hi⟩
    ·simp only[List.length_map,List.length_range]at q2 hi;exact⟨_,by simp only[lenT,hu],gm_int q1 q2 hi⟩
  ·cases h
 ·have hu:=‹P.underlying t=_›;split at h
  ·rename_i hk;cases h;cases ha with
   |osl _ _ _ _ _ _ l' vi w g1 g2 g3 g4 g5=>
    have hi:=inK_ok hs.cs hs.zero hk g4;refine⟨_,by simp only[lenT,hu];rfl,?_⟩;rw[Int.toNat_of_nonneg g5];exact gm_int g4 rfl hi
   |osl0 _ _ _ _ _ _ vi w g1 g2 g3 g4 g5=>
    exact⟨.int .i64 0,by simp only[lenT,hu],gm_int g4 g5.symm (i64_of (by omega))⟩
  ·cases h
 ·have hu:=‹P.underlying t=_›;split at h
  ·rename_i hk;cases h;cases ha with
   |sx _ _ full m f w q1 q2=>
    have hi:=inK_ok hs.cs hs.zero hk q1;rw[←q2]at hi;exact⟨.int .i64 m,by simp only[lenT,hu],gm_int q1 q2 hi⟩
  ·cases h
 ·have hu:=‹P.underlying t=_›;split at h
  ·rename_i hl;cases h;simp only[ile,decide_eq_true_eq]at hl;exact⟨_,by simp only[lenT,hu],gm_int hs.zero (by omega) (i64_len hl)⟩
  ·cases h
 ·have hu:=‹P.underlying t=_›;cases h;cases ha;exact⟨.int .i64 0,by simp only[lenT,hu],gm_int hs.zero (by omega) (i64_of (by omega))⟩
 ·cases h
theorem lenA_ok{P:Program}(hs:Sy ρ n cs){t:TypeId}{a:A}{x:T}(ha:Gm ρ μ a x){b:A}(h:lenA P cs t a=some b):∃r,lenT P t x=some r∧Gm ρ μ b r:=lenA0_ok hs ha.unp h
theorem undC_ok{s s':Nat}{c c' m w w':Int}{ρ':List Int}(hs:Sy ρ n cs)(hw:ρ[s]? =some w)(hw':ρ[s']? =some w')(hm:m=w+c∨m=w'+c')(e1:Ext ρ ρ')(e2:ρ'[n]? =some m){r:List Con}(hr:HoldCs ρ' r):∀k,k≤n→HoldCs ρ' (undC n cs s c s' c' r k)
 |0,_ =>hr
 |k+1,hk=>by
  unfold undC;split
  ·rename_i h;simp only[Bool.and_eq_true]at h;have hkl:k<ρ.length:=by rw[hs.len];omega
   have hy:ρ[k]? =some ρ[k]:=List.getElem?_eq_getElem hkl;have q1:=leq_ok hs.cs h.2.1 hy hw;have q2:=leq_ok hs.cs h.2.2 hy hw';exact .cons ⟨_,_,e1 _ _ hy,e2,by omega⟩ (undC_ok hs hw hw' hm e1 e2 hr k (by omega))
  ·exact undC_ok hs hw hw' hm e1 e2 hr k (by omega)
theorem minA_ok(hs:Sy ρ n cs){a b:A}{x y:T}(ha:Gm ρ μ a x)(hb:Gm ρ μ b y){v:AV}(h:minA n cs a b=some v):∃r,minT x y=some r∧VOk ρ μ v r:=by
 unfold minA at h;split at h
 ·rename_i k s c k' s' c';cases ha with
  |int _ _ _ w hw hi=>cases hb with
   |int _ _ _ w' hw' hi'=>
   split at h
   ·cases h
   rename_i hk;have hk:k=k':=by simpa using hk
   subst hk;refine⟨_,rfl,?_⟩;split at h
   ·rename_i hc;have:=leq_ok hs.cs hc hw hw';cases h;rw[if_neg (by omega)];exact .here hs (gm_int hw rfl hi)
   ·split at h
    ·rename_i hc;have:=leq_ok hs.cs hc hw' hw;cases h;have e:(if w'+c'<w+c then w'+c' else w+c)=w'+c':=by split<;>omega
     rw[e];exact .here hs (gm_int hw' rfl hi')
    ·cases h;have hin:InK k (if w'+c'<w+c then w'+c' else w+c):=by split<;>assumption
     generalize he:(if w'+c'<w+c then w'+c' else w+c)=m at hin;have h1:m≤w+c∧m≤w'+c'∧(m=w+c∨m=w'+c'):=by rw[←he];split<;>omega
     obtain⟨e1,e2,e3,e4⟩:=hs.new m;refine new_ok hs hin (.cons ⟨m,w,e2,e1 _ _ hw,h1.1⟩ (.cons ⟨m,w',e2,e1 _ _ hw',h1.2.1⟩ (.cons ⟨m,0,e2,e4,by have:=hin.2;omega⟩ (.cons ⟨0,m,e4,e2,?_⟩ (undC_ok hs hw hw' h1.2.2 e1 e2 (hs.cs.ext e1) n (Nat.le_refl _))))));split
     ·rename_i hc;simp only[Bool.and_eq_true]at hc;have q1:=leq_ok hs.cs hc.1 hs.zero hw;have q2:=leq_ok hs.cs hc.2 hs.zero hw';omega
     ·have:=hin.1;omega
 ·cases h
theorem ubM_ok{s s':Nat}{c c' m w w':Int}{ρ':List Int}(hs:Sy ρ n cs)(hw:ρ[s]? =some w)(hw':ρ[s']? =some w')(hm:m=w+c∨m=w'+c')(e2:ρ'[n]? =some m)(e4:ρ'[0]? =some 0){r:List Con}(hr:HoldCs ρ' r):HoldCs ρ' (ubM cs n s c s' c' r):=by
 unfold ubM;split
 ·rename_i u u' h1 h2;have a1:=ubS_ok hs.zero hw hs.cs h1;have a2:=ubS_ok hs.zero hw' hs.cs h2;refine .cons ⟨_,_,e2,e4,?_⟩ hr;split
  ·rename_i hc;simp only[ile,decide_eq_true_eq]at hc;omega
  ·rename_i hc;simp only[ile,decide_eq_true_eq]at hc;omega
 ·exact hr
theorem maxA_ok(hs:Sy ρ n cs){a b:A}{x y:T}(ha:Gm ρ μ a x)(hb:Gm ρ μ b y){v:AV}(h:maxA n cs a b=some v):∃r,maxT x y=some r∧VOk ρ μ v r:=by
 unfold maxA at h;split at h
 ·rename_i k s c k' s' c';cases ha with
  |int _ _ _ w hw hi=>cases hb with
   |int _ _ _ w' hw' hi'=>
   split at h
   ·cases h
   rename_i hk;have hk:k=k':=by simpa using hk
   subst hk;refine⟨_,rfl,?_⟩;split at h
   ·rename_i hc;have:=leq_ok hs.cs hc hw hw';cases h;have e:(if w+c<w'+c' then w'+c' else w+c)=w'+c':=by split<;>omega
    rw[e];exact .here hs (gm_int hw' rfl hi')
   ·split at h
    ·rename_i hc;have:=leq_ok hs.cs hc hw' hw;cases h;rw[if_neg (by omega)];exact .here hs (gm_int hw rfl hi)
    ·cases h;have hin:InK k (if w+c<w'+c' then w'+c' else w+c):=by split<;>assumption
     generalize he:(if w+c<w'+c' then w'+c' else w+c)=m at hin;have h1:w+c≤m∧w'+c'≤m∧(m=w+c∨m=w'+c'):=by rw[←he];split<;>omega
     obtain⟨e1,e2,e3,e4⟩:=hs.new m;exact new_ok hs hin (.cons ⟨w,m,e1 _ _ hw,e2,by omega⟩ (.cons ⟨w',m,e1 _ _ hw',e2,by omega⟩ (.cons ⟨0,m,e4,e2,by have:=hin.1;omega⟩ (.cons ⟨m,0,e2,e4,by have:=hin.2;omega⟩ (ubM_ok hs hw hw' h1.2.2 e2 e4 (hs.cs.ext e1))))))
 ·cases h
theorem foldA_ok{f:Nat→List Con→A→A→Option AV}{g:T→T→Option T}
  (hf:∀(ρ:List Int) (n:Nat) (cs:List Con) (a b:A) (x y:T) (v:AV),Sy ρ n cs→Gm ρ μ a x→Gm ρ μ b y→f n cs a b=some v→∃r,g x y=some r∧VOk ρ μ v r):
  ∀(bs:List A) (ρ:List Int) (n:Nat) (cs:List Con) (a:A) (x:T) (ys:List T) (v:AV),Sy ρ n cs→Gm ρ μ a x→GmL ρ μ bs ys→foldA f n cs a bs=some v→∃r,foldT g x ys=some r∧VOk ρ μ v r
 |[],ρ,n,cs,a,x,ys,v,hs,ha,hb,h=>by
  rw[hb.inv_nil];simp only[foldA]at h;cases h;exact⟨x,rfl,.here hs ha⟩
 |b::bs,ρ,n,cs,a,x,ys,v,hs,ha,hb,h=>by
  obtain⟨y,r,rfl,h1,h2⟩:=hb.inv_cons;simp only[foldA]at h;split at h
  ·rename_i z n1 cs1 hz;obtain⟨q,e1,ρ1,e2,e3,e4⟩:=hf ρ n cs a b x y _ hs ha h1 hz;obtain⟨w,e5,ρ2,e6,e7,e8⟩:=foldA_ok hf bs ρ1 n1 cs1 z q r v e3 e4 (h2.ext e2 (.refl _)) h;exact⟨w,by simp only[foldT,e1];exact e5,ρ2,e2.trans e6,e7,e8⟩
  ·cases h
theorem spliceA_ok{a_s bs:List A}{ts us:List T}(h:GmL ρ μ a_s ts)(h':GmL ρ μ bs us)(off:Nat):GmL ρ μ (spliceA a_s off bs) (spliceT ts off us):=by
 unfold spliceA spliceT;rw[h'.1];exact((h.take off).app h').app (h.drop _)
theorem fillA_ok{place:Nat→Option (Nat×Nat)}:∀(ps:List (Nat×A)) (qs:List (Nat×T)) (a_s:List A) (ts:List T) (bs:List A),ps.map Prod.fst=qs.map Prod.fst→GmL ρ μ (ps.map Prod.snd) (qs.map Prod.snd)→GmL ρ μ a_s ts→fillA place a_s ps=some bs→
  ∃us,fillT place ts qs=some us∧GmL ρ μ bs us
 |[],[],a_s,ts,bs,_,_,h,he=>by simp only[fillA]at he;cases he;exact⟨ts,rfl,h⟩
 |(i,a)::ps,(j,t)::qs,a_s,ts,bs,h1,h2,h,he=>by
  simp only[List.map_cons,List.cons.injEq]at h1 h2;obtain⟨rfl,h1⟩:=h1;simp only[fillA]at he;split at he
  ·cases he
  ·rename_i off size hp;split at he
   ·rename_i hc;obtain⟨c1,c2,c3⟩:=hc;obtain⟨_,k2⟩:=known_gm h2.head c1;obtain⟨us,g1,g2⟩:=fillA_ok ps qs _ _ bs h1 h2.tail (spliceA_ok h k2 off) he;refine⟨us,?_,g2⟩;simp only[fillT,hp];rw[if_pos ⟨by rw[←k2.1];exact c2,by rw[←h.1];exact c3⟩];exact g1
   ·cases he
 |[],_ ::_,_,_,_,h,_,_,_ =>by simp at h
 |_ ::_,[],_,_,_,h,_,_,_ =>by simp at h
theorem ofValA_known{v:Value}{a:A}(h:ofValA v=some a):a.known=true:=by
 unfold ofValA at h;split at h
 ·split at h
  ·cases h;rfl
  ·cases h
 ·split at h
  ·cases h;rfl
  ·cases h
 ·unfold ofCellA at h;split at h<;>first|(cases h;rfl)|cases h|skip
  split at h<;>cases h;rfl
theorem zeroA_known{P:Program}{t:TypeId}{a:A}(h:zeroA P t=some a):a.known=true:=by
 unfold zeroA at h;split at h
 ·split at h
  ·exact ofValA_known h
  ·cases h
 ·cases h
theorem buildA_ok{P:Program}(h0:ρ[0]? =some 0){t:TypeId}{ps:List (Nat×A)}{qs:List (Nat×T)}(h1:ps.map Prod.fst=qs.map Prod.fst)(h2:GmL ρ μ (ps.map Prod.snd) (qs.map Prod.snd)){b:A}(h:buildA P t ps=some b):
  ∃r,buildT P t qs=some r∧Gm ρ μ b r:=by
 unfold buildA at h;split at h
 ·rename_i z hz;obtain⟨z',e1,e2⟩:=zeroA_ok (ρ:=ρ) (μ:=μ) h0 hz;obtain⟨_,k2⟩:=known_gm e2 (zeroA_known hz);unfold buildT;rw[e1];simp only;split at h
  ·rename_i fs hu;rw[hu];simp only;split at h
   ·rename_i pl hpl;rw[hpl];obtain⟨us,g,rfl⟩:=Option.map_eq_some_iff.1 h;obtain⟨vs,g1,g2⟩:=fillA_ok ps qs _ _ us h1 h2 k2 g;exact⟨.agg vs,by simp only[g1];rfl,.agg _ _ g2.1 g2.2⟩
   ·cases h
  ·rename_i e hu;rw[hu];simp only;split at h
   ·rename_i s hsz;rw[hsz];obtain⟨us,g,rfl⟩:=Option.map_eq_some_iff.1 h;obtain⟨vs,g1,g2⟩:=fillA_ok ps qs _ _ us h1 h2 k2 g;exact⟨.agg vs,by simp only[g1];rfl,.agg _ _ g2.1 g2.2⟩
   ·cases h
  ·cases h
 ·cases h
theorem allSome_mem:∀{a_s:List A} {a:A},nilCheckA.allSome a_s=true→a∈a_s→∃f x y,a= .fn f x y
 |b::bs,a,h,hm=>by
  cases b<;>simp only[nilCheckA.allSome]at h<;>try(cases h;done)
  rcases List.mem_cons.1 hm with rfl|hm
  ·exact⟨_,_,_,rfl⟩
  ·exact allSome_mem h hm
theorem nilCheckA_ok{a:A}{x:T}(ha:Gm ρ μ a x){b:A}(h:nilCheckA a=some b):∃r,nilCheckT x=some r∧Gm ρ μ b r:=by
 cases a<;>simp only[nilCheckA]at h<;>try(cases h;done)
 case ptr=>cases h;cases ha with|ptr _ _ l' hl=>exact⟨_,rfl,.ptr _ _ l' hl⟩
 case elp=>cases h;cases ha with|elp _ _ _ _ _ l' w h1 h2 h3=>exact⟨_,rfl,.elp _ _ _ _ _ l' w h1 h2 h3⟩
 case ref=>cases h;cases ha with|ref _ t _ h1 h2=>exact⟨_,rfl,.ref _ t _ h1 h2⟩
 case fn=>cases h;cases ha with|fn _ _ _ a' b' h1 h2 h3 h4=>exact⟨_,rfl,.fn _ _ _ a' b' h1 h2 h3 h4⟩
 case iface=>cases h;cases ha with|iface _ _ y h1=>exact⟨_,rfl,.iface _ _ y h1⟩
 case or a_s=>
  split at h
  ·rename_i hs;cases h;cases ha with
   |or _ c _ hm hc=>
    obtain⟨f,p,q,rfl⟩:=allSome_mem hs hm;cases hc with
    |fn _ _ _ a' b' h1 h2 h3 h4=>exact⟨_,rfl,.or _ _ _ hm (.fn _ _ _ a' b' h1 h2 h3 h4)⟩
  ·cases h
end
end Go.Ps
namespace Go.Ps
variable[Inhabited Prd]
section
variable{ρ ρ':List Int}{μ μ':List (Option Nat)}{n:Nat}{cs:List Con}{X:AX}{gl:Nat→Option T}{pe:Hp→FuncId→List T→Option T}
theorem nat_beq0{a b:Nat}(h:Nat.beq a b=true):a=b:=Nat.eq_of_beq_eq_true h
theorem findA_set:∀(hp:List (Nat×AO)) (l m:Nat) (o:AO),findA (setA hp l o) m=if l=m then(findA hp l).map (fun _ =>o)else findA hp m
 |[],l,m,o=>by simp[setA,findA]
 |(k,q)::r,l,m,o=>by
  have ih:=findA_set r l m o;by_cases hk:k=l
  ·by_cases hm:k=m
   ·simp[setA,findA,←hk,←hm]
   ·have:¬l=m:=fun e=>hm (hk.trans e);simp[setA,findA,hk,this,ih]
  ·by_cases hm:k=m
   ·have:¬l=m:=fun e=>hk (hm.trans e.symm);simp[setA,findA,hk,hm,this];simp[←hm,hk,findA]
   ·simp[setA,findA,hk,hm,ih]
theorem findA_drop:∀(hp:List (Nat×AO)) (l m:Nat),findA (dropA hp l) m=if l=m then none else findA hp m
 |[],l,m=>by simp[dropA,findA]
 |(k,q)::r,l,m=>by
  have ih:=findA_drop r l m;by_cases hk:k=l
  ·by_cases hm:k=m
   ·subst hk;subst hm;simp[dropA];simpa using ih
   ·have:¬l=m:=fun e=>hm (hk.trans e);simp[dropA,findA,hk,this,ih]
  ·by_cases hm:k=m
   ·have:¬l=m:=fun e=>hk (hm.trans e.symm);simp[dropA,findA,hk,hm,this];simp[←hm,hk,findA]
   ·simp[dropA,findA,hk,hm,ih]
variable{hp:List (Nat×AO)}{nl:Nat}{H:Hp}
theorem GH.extM(hh:GH hp nl ρ μ H)(y:Option Nat):∀l o,findA hp l=some o→∃q,(μ++[y])[l]? =some q∧μ[l]? =some q∧∀x,q=some x→∃b,obAt o H x=some b∧GmO ρ (μ++[y]) o b:=fun l o hl=>by
 obtain⟨q,h1,h2⟩:=hh.obj l o hl;exact⟨q,Ext.app _ _ _ _ h1,h1,fun x hx=>by obtain⟨b,h3,h4⟩:=h2 x hx;exact⟨b,h3,h4.ext (.refl _) (.app _ _)⟩⟩
theorem app_last{α:Type}{l:List α}{m:Nat}(h:l.length=m)(y:α):(l++[y])[m]? =some y:=by subst h;simp
theorem app_inv{α:Type}{l:List α}{m:Nat}(h:l.length=m){y z:α}{j:Nat}(hj:(l++[y])[j]? =some z):(j=m∧y=z)∨(j<m∧l[j]? =some z):=by
 subst h;rw[List.getElem?_append]at hj;split at hj
 ·exact .inr ⟨‹_›,hj⟩
 ·rename_i hlt;have:j=l.length:=by
   have:=(List.getElem?_eq_some_iff.1 hj).1;simp at this;omega
  subst this;simp at hj;exact .inl ⟨rfl,hj⟩
theorem plain_of{o:AO}{b:Ob}(h:GmO ρ μ o b)(hme:b.me=none):o.plain=true:=by
 cases o with
 |loop=>obtain⟨r,h1,_⟩:=h;rw[hme]at h1;cases h1
 |map=>obtain⟨c,ms,h1,_⟩:=h;rw[hme]at h1;cases h1
 |_ =>rfl
theorem obAt_new{q:AO}{b:Ob}{x:Nat}(hx:x<H.next):obAt q (H.new b) x=obAt q H x:=by
 have h1:(H.new b).any x=H.any x:=by rw[any_new,if_neg (by omega)]
 cases q<;>first|exact h1|exact get_eq h1
theorem obAt_put{q:AO}{b:Ob}{x z:Nat}(hz:z≠x):obAt q (H.put x b) z=obAt q H z:=by
 have h1:(H.put x b).any z=H.any z:=by rw[any_put,if_neg hz]
 cases q<;>first|exact h1|exact get_eq h1
theorem GH.new(hh:GH hp nl ρ μ H){o:AO}{b:Ob}(hb:GmO ρ (μ++[some H.next]) o b)(hme:b.me=none:=by rfl):GH ((nl,o)::hp) (nl+1) ρ (μ++[some H.next]) (H.new b):=by
 refine⟨by simp[hh.len],fun l q hl=> ?_,fun l l' q q' x hl hl' hx hx'=> ?_,fun l x hx=> ?_,fun l e xs hl=> ?_,fin_new hh.fin b⟩
 ·simp only[findA]at hl;split at hl
  ·rename_i e;have e:=Nat.eq_of_beq_eq_true e;subst e;cases hl;exact⟨some H.next,app_last hh.len _,fun x hx=>by cases hx;exact⟨b,by rw[obAt_plain (plain_of hb hme),findOb_new _ _ _ hme,if_pos rfl],hb⟩⟩
  ·obtain⟨y,h1,h2,h3⟩:=hh.extM (some H.next) l q hl;refine⟨y,h1,fun x hx=> ?_⟩;obtain⟨c,h4,h5⟩:=h3 x hx;subst hx;exact⟨c,by rw[obAt_new (hh.lt l x h2)];exact h4,h5⟩
 ·rcases app_inv hh.len hx with⟨e1,e2⟩|⟨e1,e2⟩
  ·rcases app_inv hh.len hx' with⟨e3,e4⟩|⟨e3,e4⟩
   ·omega
   ·have:=hh.lt _ _ e4;cases e2;omega
  ·rcases app_inv hh.len hx' with⟨e3,e4⟩|⟨e3,e4⟩
   ·have:=hh.lt _ _ e2;cases e4;omega
   ·simp only[findA]at hl hl';rw[if_neg (by simp;omega)]at hl hl';exact hh.inj l l' q q' x hl hl' e2 e4
 ·rcases app_inv hh.len hx with⟨e1,e2⟩|⟨e1,e2⟩
  ·cases e2;simp[Hp.new]
  ·have:=hh.lt _ _ e2;simp[Hp.new];omega
 ·simp only[findA]at hl;split at hl
  ·rename_i e0;have e0:=nat_beq0 e0;subst e0;exact⟨_,app_last hh.len _⟩
  ·obtain⟨x,hx⟩:=hh.fixp l e xs hl;exact⟨x,Ext.app _ _ _ _ hx⟩
theorem GH.alias(hh:GH hp nl ρ μ H){o:AO}{y:Option Nat}(hnf:∀e xs,o≠ .fix e xs)(hb:∀x,y=some x→x<H.next∧(∀l q,findA hp l=some q→μ[l]? ≠some (some x))∧∃b,H.get x=some b∧GmO ρ (μ++[y]) o b):GH ((nl,o)::hp) (nl+1) ρ (μ++[y]) H:=by
 refine⟨by simp[hh.len],fun l q hl=> ?_,fun l l' q q' x hl hl' hx hx'=> ?_,fun l x hx=> ?_,fun l e xs hl=> ?_,hh.fin⟩
 ·simp only[findA]at hl;split at hl
  ·rename_i e;have e:=Nat.eq_of_beq_eq_true e;subst e;cases hl;exact⟨y,app_last hh.len _,fun x hx=>by obtain⟨b,h1,h2⟩:=(hb x hx).2.2;exact⟨b,by rw[obAt_plain (plain_of h2 (get_any h1).2)];exact h1,h2⟩⟩
  ·obtain⟨y',h1,h2,h3⟩:=hh.extM y l q hl;exact⟨y',h1,h3⟩
 ·have old:∀{l:Nat} {q:AO},l<nl→findA ((nl,o)::hp) l=some q→findA hp l=some q:=fun h1 h2=>by
   simp only[findA]at h2;rw[if_neg (by simp;omega)]at h2;exact h2
  rcases app_inv hh.len hx with⟨e1,e2⟩|⟨e1,e2⟩
  ·rcases app_inv hh.len hx' with⟨e3,e4⟩|⟨e3,e4⟩
   ·omega
   ·exact absurd e4 ((hb x e2).2.1 l' q' (old e3 hl'))
  ·rcases app_inv hh.len hx' with⟨e3,e4⟩|⟨e3,e4⟩
   ·exact absurd e2 ((hb x e4).2.1 l q (old e1 hl))
   ·exact hh.inj l l' q q' x (old e1 hl) (old e3 hl') e2 e4
 ·rcases app_inv hh.len hx with⟨e1,e2⟩|⟨e1,e2⟩
  ·exact(hb x e2).1
  ·exact hh.lt _ _ e2
 ·simp only[findA]at hl;split at hl
  ·cases hl;exact absurd rfl (hnf _ _)
  ·obtain⟨x,hx⟩:=hh.fixp l e xs hl;exact⟨x,Ext.app _ _ _ _ hx⟩
theorem GH.sub(hh:GH hp nl ρ μ H){hp':List (Nat×AO)}(h:∀l o,findA hp' l=some o→findA hp l=some o):GH hp' nl ρ μ H:=
 ⟨hh.len,fun l o hl=>hh.obj l o (h l o hl),fun l l' q q' x hl hl'=>hh.inj l l' q q' x (h _ _ hl) (h _ _ hl'),hh.lt,fun l e xs hl=>hh.fixp l e xs (h _ _ hl),hh.fin⟩
theorem GH.put(hh:GH hp nl ρ μ H){l x:Nat}{o o':AO}{b b':Ob}(hl:findA hp l=some o)(hx:μ[l]? =some (some x))(hg:H.get x=some b)(ho:GmO ρ μ o' b')(hme:b'.me=none:=by rfl):GH (setA hp l o') nl ρ μ (H.put x b'):=by
 refine⟨hh.len,fun m q hm=> ?_,fun m m' q q' y hm hm' hy hy'=> ?_,fun m y hy=>hh.lt m y hy,fun m e xs hm=> ?_,fin_put hh.fin (hh.lt l x hx) _⟩
 ·rw[findA_set]at hm;split at hm
  ·rename_i e;subst e;rw[hl]at hm;cases hm;refine⟨some x,hx,fun y hy=> ?_⟩;cases hy;exact⟨b',by rw[obAt_plain (plain_of ho hme),get_put _ _ _ _ hme,if_pos rfl],ho⟩
  ·rename_i hne;obtain⟨y,h1,h2⟩:=hh.obj m q hm;refine⟨y,h1,fun z hz=> ?_⟩;obtain⟨c,h3,h4⟩:=h2 z hz;subst hz;have:z≠x:=fun e=>by subst e;exact hne (hh.inj l m o q z hl hm hx h1)
   exact⟨c,by rw[obAt_put this];exact h3,h4⟩
 ·have old:∀{m:Nat} {q:AO},findA (setA hp l o') m=some q→∃q,findA hp m=some q:=fun{m q} h=>by
   rw[findA_set]at h;split at h
   ·rename_i e;subst e;exact⟨o,hl⟩
   ·exact⟨q,h⟩
  obtain⟨p,hp1⟩:=old hm;obtain⟨p',hp2⟩:=old hm';exact hh.inj m m' p p' y hp1 hp2 hy hy'
 ·rw[findA_set]at hm;split at hm
  ·rename_i e0;subst e0;exact⟨x,hx⟩
  ·exact hh.fixp m e xs hm
theorem GH.dropR(hh:GH hp nl ρ μ H){l x:Nat}{o:AO}(hl:findA hp l=some o)(hx:μ[l]? =some (some x)):GH (dropA hp l) nl ρ μ (H.drop x):=by
 have old:∀{m:Nat} {q:AO},findA (dropA hp l) m=some q→l≠m∧findA hp m=some q:=fun{m q} h=>by
  rw[findA_drop]at h;split at h
  ·cases h
  ·exact⟨‹_›,h⟩
 refine⟨hh.len,fun m q hm=> ?_,fun m m' q q' y hm hm' hy hy'=>hh.inj m m' q q' y (old hm).2 (old hm').2 hy hy',fun m y hy=>hh.lt m y hy,fun m e xs hm=>hh.fixp m e xs (old hm).2,fin_drop hh.fin _⟩;obtain⟨hne,hm⟩:=old hm;obtain⟨y,h1,h2⟩:=hh.obj m q hm;refine⟨y,h1,fun z hz=> ?_⟩;obtain⟨c,h3,h4⟩:=h2 z hz;subst hz;have:z≠x:=fun e=>by subst e;exact hne (hh.inj l m o q z hl hm hx h1)
 refine⟨c,?_,h4⟩;have ha:(H.drop x).any z=H.any z:=by rw[any_drop,if_neg this]
 have:obAt q (H.drop x) z=obAt q H z:=by cases q<;>first|exact ha|exact get_eq ha
 rw[this];exact h3
theorem GH.newL{hp:List (Nat×AO)}{nl:Nat}{H:Hp}(hh:GH hp nl ρ μ H){o:AO}{b:Ob}(hb:GmO ρ (μ++[some H.next]) o b)(ho:o.plain=false):GH ((nl,o)::hp) (nl+1) ρ (μ++[some H.next]) (H.new b):=by
 refine⟨by simp[hh.len],fun l q hl=> ?_,fun l l' q q' x hl hl' hx hx'=> ?_,fun l x hx=> ?_,fun l e xs hl=> ?_,fin_new hh.fin b⟩
 ·simp only[findA]at hl;split at hl
  ·rename_i e;have e:=Nat.eq_of_beq_eq_true e;subst e;cases hl;refine⟨some H.next,app_last hh.len _,fun x hx=> ?_⟩;cases hx;refine⟨b,?_,hb⟩;have:(H.new b).any H.next=some b:=by rw[any_new,if_pos rfl]
   cases o<;>first|exact this|cases ho
  ·obtain⟨y,h1,h2,h3⟩:=hh.extM (some H.next) l q hl;refine⟨y,h1,fun x hx=> ?_⟩;obtain⟨c,h4,h5⟩:=h3 x hx;subst hx;exact⟨c,by rw[obAt_new (hh.lt l x h2)];exact h4,h5⟩
 ·rcases app_inv hh.len hx with⟨e1,e2⟩|⟨e1,e2⟩
  ·rcases app_inv hh.len hx' with⟨e3,e4⟩|⟨e3,e4⟩
   ·omega
   ·have:=hh.lt _ _ e4;cases e2;omega
  ·rcases app_inv hh.len hx' with⟨e3,e4⟩|⟨e3,e4⟩
   ·have:=hh.lt _ _ e2;cases e4;omega
   ·simp only[findA]at hl hl';rw[if_neg (by simp;omega)]at hl hl';exact hh.inj l l' q q' x hl hl' e2 e4
 ·rcases app_inv hh.len hx with⟨e1,e2⟩|⟨e1,e2⟩
  ·cases e2;simp[Hp.new]
  ·have:=hh.lt _ _ e2;simp[Hp.new];omega
 ·simp only[findA]at hl;split at hl
  ·cases hl;cases ho
  ·obtain⟨x,hx⟩:=hh.fixp l e xs hl;exact⟨x,Ext.app _ _ _ _ hx⟩
theorem GH.putL{hp:List (Nat×AO)}{nl:Nat}{H:Hp}(hh:GH hp nl ρ μ H){l x:Nat}{o o':AO}{b':Ob}(hl:findA hp l=some o)(hx:μ[l]? =some (some x))(ho:GmO ρ μ o' b')(hp':o'.plain=false):GH (setA hp l o') nl ρ μ (H.put x b'):=by
 refine⟨hh.len,fun m q hm=> ?_,fun m m' q q' y hm hm' hy hy'=> ?_,fun m y hy=>hh.lt m y hy,fun m e xs hm=> ?_,fin_put hh.fin (hh.lt l x hx) _⟩
 ·rw[findA_set]at hm;split at hm
  ·rename_i e;subst e;rw[hl]at hm;cases hm;refine⟨some x,hx,fun y hy=> ?_⟩;cases hy;refine⟨b',?_,ho⟩;have:(H.put x b').any x=some b':=by rw[any_put,if_pos rfl]
   cases o'<;>first|exact this|cases hp'
  ·rename_i hne;obtain⟨y,h1,h2⟩:=hh.obj m q hm;refine⟨y,h1,fun z hz=> ?_⟩;obtain⟨c,h3,h4⟩:=h2 z hz;subst hz;have:z≠x:=fun e=>by subst e;exact hne (hh.inj l m o q z hl hm hx h1)
   exact⟨c,by rw[obAt_put this];exact h3,h4⟩
 ·have old:∀{m:Nat} {q:AO},findA (setA hp l o') m=some q→∃q,findA hp m=some q:=fun{m q} h=>by
   rw[findA_set]at h;split at h
   ·rename_i e;subst e;exact⟨o,hl⟩
   ·exact⟨q,h⟩
  obtain⟨p,hp1⟩:=old hm;obtain⟨p',hp2⟩:=old hm';exact hh.inj m m' p p' y hp1 hp2 hy hy'
 ·rw[findA_set]at hm;split at hm
  ·rw[hl]at hm;cases hm;cases hp'
  ·exact hh.fixp m e xs hm
end
end Go.Ps
namespace Go.Ps
variable[Inhabited Prd]
section
variable{ρ ρ':List Int}{μ μ':List (Option Nat)}{n:Nat}{cs:List Con}
theorem nat_beq{a b:Nat}(h:Nat.beq a b=true):a=b:=Nat.eq_of_beq_eq_true h
theorem nat_blt{a b:Nat}(h:Nat.blt a b=true):a<b:=by simpa [Nat.blt,Nat.lt_iff_add_one_le]using h
theorem beqC_ok:∀{a b:Con},beqC a b=true→a=b
 | .le x y c,.le x' y' c',h=>by
  simp only[beqC,Bool.and_eq_true,beq_iff_eq]at h;rw[nat_beq h.1,nat_beq h.2.1,h.2.2]
 | .ne x y c,.ne x' y' c',h=>by
  simp only[beqC,Bool.and_eq_true,beq_iff_eq]at h;rw[nat_beq h.1,nat_beq h.2.1,h.2.2]
 | .le ..,.ne ..,h=>by simp[beqC]at h
 | .ne ..,.le ..,h=>by simp[beqC]at h
theorem beqCs_ok:∀{a b:List Con},beqCs a b=true→a=b
 |[],[],_ =>rfl
 |a::a_s,b::bs,h=>by
  simp only[beqCs,Bool.and_eq_true]at h;rw[beqC_ok h.1,beqCs_ok h.2]
 |[],_ ::_,h=>by simp[beqCs]at h
 |_ ::_,[],h=>by simp[beqCs]at h
theorem beqB_ok:∀{a b:Bo},beqB a b=true→a=b
 | .lit a,.lit b,h=>by simp only[beqB,beq_iff_eq]at h;rw[h]
 | .imp p q,.imp p' q',h=>by
  simp only[beqB,Bool.and_eq_true]at h;rw[beqCs_ok h.1,beqCs_ok h.2]
 | .lit _,.imp ..,h=>by simp[beqB]at h
 | .imp ..,.lit _,h=>by simp[beqB]at h
theorem beqS_ok:∀{a b:List UInt8},beqS a b=true→a=b
 |[],[],_ =>rfl
 |a::a_s,b::bs,h=>by
  simp only[beqS,Bool.and_eq_true,beq_iff_eq]at h;rw[h.1,beqS_ok h.2]
 |[],_ ::_,h=>by simp[beqS]at h
 |_ ::_,[],h=>by simp[beqS]at h
theorem lAll_eq{f:A→A→Bool}(hf:∀a b,f a b=true→a=b):∀{a_s bs:List A},lAll f a_s bs=true→a_s=bs
 |[],[],_ =>rfl
 |a::a_s,b::bs,h=>by
  simp only[lAll,Bool.and_eq_true]at h;rw[hf _ _ h.1,lAll_eq hf h.2]
 |[],_ ::_,h=>by simp[lAll]at h
 |_ ::_,[],h=>by simp[lAll]at h
theorem beqA_ok:∀(k:Nat) (a b:A),beqA k a b=true→a=b
 |0,_,_,h=>by simp[beqA]at h
 |k+1,a,b,h=>by
  have ih:=beqA_ok k;unfold beqA at h;split at h<;>try rfl
  all_goals(try simp only[Bool.and_eq_true,beq_iff_eq]at h)
  ·obtain⟨h1,h2,h3⟩:=h;rw[h1,nat_beq h2,h3]
  ·obtain⟨h1,h2,h3⟩:=h;rw[h1,h2,h3]
  ·rw[beqB_ok h]
  ·rw[beqS_ok h]
  ·rw[nat_beq h.1,h.2]
  ·rw[h.1,h.2]
  ·rw[nat_beq h]
  ·rw[nat_beq h.1,nat_beq h.2]
  ·obtain⟨h1,h2,h3,h4,h5⟩:=h;rw[nat_beq h1,nat_beq h2,nat_beq h3,h4,nat_beq h5]
  ·rw[ih _ _ h.1,nat_beq h.2]
  ·obtain⟨h1,h2,h3⟩:=h;rw[ih _ _ h1,nat_beq h2,h3]
  ·rw[nat_beq h.1,h.2]
  ·rw[h.1,h.2]
  ·obtain⟨h1,h2,h3⟩:=h;rw[ih _ _ h1,h2,h3]
  ·obtain⟨h1,h2,h3,h4,h5,h6⟩:=h;rw[nat_beq h1,nat_beq h2,nat_beq h3,h4,nat_beq h5,h6]
  ·obtain⟨h1,h2,h3⟩:=h;rw[nat_beq h1,lAll_eq ih h2,lAll_eq ih h3]
  ·rw[nat_beq h.1,ih _ _ h.2]
  ·rw[lAll_eq ih h]
  ·rw[lAll_eq ih h]
  ·rw[lAll_eq ih h]
  ·rw[lAll_eq ih h]
  ·rw[nat_beq h.1,lAll_eq ih h.2]
  ·rw[nat_beq h]
  ·obtain⟨h1,h2,h3,h4⟩:=h;rw[nat_beq h1,ih _ _ h2,nat_beq h3,h4]
  ·obtain⟨h1,h2,h3,h4⟩:=h;rw[nat_beq h1,ih _ _ h2,h3,h4]
  ·cases h
theorem lEv_mem{f:A→Bool}:∀{a_s:List A},lEv f a_s=true→∀a∈a_s,f a=true
 |b::bs,h,a,hm=>by
  simp only[lEv,Bool.and_eq_true]at h;rcases List.mem_cons.1 hm with rfl|hm
  ·exact h.1
  ·exact lEv_mem h.2 a hm
theorem take_get{α:Type}{l:List α}{m j:Nat}{v:α}(h:l[j]? =some v)(hj:j<m):(l.take m)[j]? =some v:=by
 rw[List.getElem?_take,if_pos hj];exact h
theorem oldCs_ok:∀{qs:List Con},oldCs n qs=true→HoldCs ρ qs→HoldCs (ρ.take n) qs
 |[],_,_ =>HoldCs.nil
 | .le x y c::r,h,hq=>by
  simp only[oldCs,Bool.and_eq_true]at h;obtain⟨a,b,h1,h2,h3⟩:=hq _ List.mem_cons_self;exact .cons ⟨a,b,take_get h1 (nat_blt h.1),take_get h2 (nat_blt h.2.1),h3⟩ (oldCs_ok h.2.2 (fun q hm=>hq q (List.mem_cons_of_mem _ hm)))
 | .ne x y c::r,h,hq=>by
  simp only[oldCs,Bool.and_eq_true]at h;obtain⟨a,b,h1,h2,h3⟩:=hq _ List.mem_cons_self;exact .cons ⟨a,b,take_get h1 (nat_blt h.1),take_get h2 (nat_blt h.2.1),h3⟩ (oldCs_ok h.2.2 (fun q hm=>hq q (List.mem_cons_of_mem _ hm)))
theorem oldA_ok(n l:Nat):∀(k:Nat) (a:A) (t:T),oldA n l k a=true→Gm ρ μ a t→Gm (ρ.take n) (μ.take l) a t
 |0,_,_,h,_ =>by simp[oldA]at h
 |k+1,a,t,h,hg=>by
  have ih:=oldA_ok n l k;cases hg with
  |top t=>exact .top t
  |any t h=>exact .any t h
  |int k s c v h1 h2=>exact .int k s c v (take_get h1 (nat_blt (by simpa [oldA]using h))) h2
  |ival k lo hi m h1 h2 h3=>exact .ival k lo hi m h1 h2 h3
  |bool B b hb=>
   refine .bool B b ?_;cases B with
   |lit x=>exact hb
   |imp p q=>
    simp only[oldA,Bool.and_eq_true]at h;exact⟨fun e=>oldCs_ok h.1 (hb.1 e),fun e=>oldCs_ok h.2 (hb.2 e)⟩
  |strc s=>exact .strc s
  |str s c v l h1 h2=>exact .str s c v l (take_get h1 (nat_blt (by simpa [oldA]using h))) h2
  |strv lo hi l h1 h2=>exact .strv lo hi l h1 h2
  |nilp=>exact .nilp
  |nils=>exact .nils
  |nilf=>exact .nilf
  |nili=>exact .nili
  |nilm=>exact .nilm
  |mp l l' h1=>exact .mp l l' (take_get h1 (nat_blt (by simpa [oldA]using h)))
  |yl l l' h1=>exact .yl l l' (take_get h1 (nat_blt (by simpa [oldA]using h)))
  |ptr l off l' h1=>exact .ptr l off l' (take_get h1 (nat_blt (by simpa [oldA]using h)))
  |elp l sz s c off l' v h1 h2 h3=>
   simp only[oldA,Bool.and_eq_true]at h;exact .elp l sz s c off l' v (take_get h1 (nat_blt h.1)) (take_get h2 (nat_blt h.2)) h3
  |ref x t off h1 h2=>exact .ref x t off h1 (ih _ _ (by simpa [oldA]using h) h2)
  |sl e s c t xs v h1 h2 h3 h4=>
   simp only[oldA,Bool.and_eq_true]at h;exact .sl e s c t xs v h1 (take_get h2 (nat_blt h.2)) h3 (fun x hx=>ih _ _ h.1 (h4 x hx))
  |slv e lo hi t xs h1 h2 h3 h4=>exact .slv e lo hi t xs h1 h2 h3 (fun x hx=>ih _ _ (by simpa [oldA]using h) (h4 x hx))
  |slp q e s c t xs v h0 h1 h2 h3 h4=>
   simp only[oldA,Bool.and_eq_true]at h;exact .slp q e s c t xs v h0 h1 (take_get h2 (nat_blt h.2)) h3 (fun x hx=>ih _ _ h.1 (h4 x hx))
  |slpv q e lo hi t xs h0 h1 h2 h3 h4=>exact .slpv q e lo hi t xs h0 h1 h2 h3 (fun x hx=>ih _ _ (by simpa [oldA]using h) (h4 x hx))
  |slk es t xs h1 h2 h3=>exact .slk es t xs h1 h2 (fun j a t ha ht=>ih _ _ (lEv_mem (by simpa [oldA]using h) a (List.mem_of_getElem? ha)) (h3 j a t ha ht))
  |sx s c full m f v h1 h2=>exact .sx s c full m f v (take_get h1 (nat_blt (by simpa [oldA]using h))) h2
  |sxv lo hi full m f h1 h2=>exact .sxv lo hi full m f h1 h2
  |osl l sz si ci s c l' vi v h1 h2 h3 h4 h5=>
   simp only[oldA,Bool.and_eq_true]at h;exact .osl l sz si ci s c l' vi v (take_get h1 (nat_blt h.1)) (take_get h2 (nat_blt h.2.1)) h3 (take_get h4 (nat_blt h.2.2)) h5
  |osl0 l sz si ci s c vi v h1 h2 h3 h4 h5=>
   simp only[oldA,Bool.and_eq_true]at h;exact .osl0 l sz si ci s c vi v (take_get h1 (nat_blt h.1)) (take_get h2 (nat_blt h.2.1)) h3 (take_get h4 (nat_blt h.2.2)) h5
  |fn f a_s bs as' bs' h1 h2 h3 h4=>
   simp only[oldA,Bool.and_eq_true]at h;exact .fn f a_s bs as' bs' h1 (fun j a t ha ht=>ih _ _ (lEv_mem h.1 a (List.mem_of_getElem? ha)) (h2 j a t ha ht)) h3 (fun j a t ha ht=>ih _ _ (lEv_mem h.2 a (List.mem_of_getElem? ha)) (h4 j a t ha ht))
  |iface t x y h1=>exact .iface t x y (ih _ _ (by simpa [oldA]using h) h1)
  |ifc t x=>exact .ifc t x
  |or a_s a t hm h1=>exact .or a_s a t hm (ih _ _ (lEv_mem (by simpa [oldA]using h) a hm) h1)
  |agg a_s ts h1 h2=>exact .agg a_s ts h1 (fun j a t ha ht=>ih _ _ (lEv_mem (by simpa [oldA]using h) a (List.mem_of_getElem? ha)) (h2 j a t ha ht))
  |prd q a_s ts h0 h1 h2=>exact .prd q a_s ts h0 h1 (fun j a t ha ht=>ih _ _ (lEv_mem (by simpa [oldA]using h) a (List.mem_of_getElem? ha)) (h2 j a t ha ht))
  |tup a_s ts h1 h2=>exact .tup a_s ts h1 (fun j a t ha ht=>ih _ _ (lEv_mem (by simpa [oldA]using h) a (List.mem_of_getElem? ha)) (h2 j a t ha ht))
theorem lSm_mem{f:A→Bool}:∀{a_s:List A},lSm f a_s=true→∃a∈a_s,f a=true
 |b::bs,h=>by
  simp only[lSm,Bool.or_eq_true]at h;rcases h with h|h
  ·exact⟨b,List.mem_cons_self,h⟩
  ·obtain⟨a,h1,h2⟩:=lSm_mem h;exact⟨a,List.mem_cons_of_mem _ h1,h2⟩
theorem lAll_gm{f:A→A→Bool}{ρ1 ρ2:List Int}{μ1 μ2:List (Option Nat)}(hf:∀a t x,f a t=true→Gm ρ1 μ1 a x→Gm ρ2 μ2 t x):
  ∀{a_s ts:List A} {xs:List T},lAll f a_s ts=true→GmL ρ1 μ1 a_s xs→GmL ρ2 μ2 ts xs
 |[],[],xs,_,h=>by rw[h.inv_nil];exact .nil
 |a::a_s,t::ts,xs,h,hg=>by
  simp only[lAll,Bool.and_eq_true]at h;obtain⟨x,r,rfl,h1,h2⟩:=hg.inv_cons;exact GmL.cons (hf _ _ _ h.1 h1) (lAll_gm hf h.2 h2)
 |[],_ ::_,_,h,_ =>by simp[lAll]at h
 |_ ::_,[],_,h,_ =>by simp[lAll]at h
theorem leT_ok(hc:HoldCs ρ cs)(h0:ρ[0]? =some 0)(n l:Nat):∀(k:Nat) (a t:A) (x:T),leT cs n l k a t=true→Gm ρ μ a x→Gm (ρ.take n) (μ.take l) t x
 |0,_,_,_,h,_ =>by simp[leT]at h
 |k+1,a,t,x,h,hg=>by
  have ih:=leT_ok hc h0 n l k;have fin:∀{t:A},(beqA dep a t&&oldA n l dep t)=true→Gm (ρ.take n) (μ.take l) t x:=by
   intro t h;simp only[Bool.and_eq_true]at h;have:=beqA_ok _ _ _ h.1;subst this;exact oldA_ok n l _ _ _ h.2 hg
  unfold leT at h;split at h
  ·rename_i q a_s hp;cases a<;>simp only[prdOf]at hp<;>try(cases hp;done)
   cases hp;cases hg with
   |prd _ _ ts g0 g1 g2=>
   split at h
   ·simp only[Bool.and_eq_true]at h;have:=nat_beq h.1;subst this;have:=lAll_gm ih h.2 ⟨g1,g2⟩;exact .prd _ _ _ g0 this.1 this.2
   ·exact ih _ _ _ h (.agg _ _ g1 g2)
  split at h
  ·rename_i q e s c hp;cases a<;>simp only[slpOf]at hp<;>try(cases hp;done)
   cases hp;cases hg with
   |slp _ _ _ _ _ xs v g0 g1 g2 g3 g4=>
   split at h
   ·simp only[Bool.and_eq_true]at h;have:=nat_beq h.1;subst this;have h1:=leq_ok hc h.2.2.1 h0 g2;have h2:=leq_ok hc h.2.2.2 g2 h0;refine .slpv _ _ _ _ _ xs g0 g1 (by omega) (by omega) (fun x hx=> ?_);rcases Bool.or_eq_true _ _ |>.mp h.2.1 with q|q
    ·have:=leq_ok hc q g2 h0;have:xs=[]:=by cases xs with|nil=>rfl|cons=>simp at g3;omega
     subst this;simp at hx
    ·exact ih _ _ _ q (g4 x hx)
   ·exact fin h
   ·exact ih _ _ _ h (.sl _ _ _ _ xs v g1 g2 g3 g4)
  cases t<;>simp only at h<;>try(exact fin h)
  case top=>exact .top _
  case any=>exact .any _ (one_gm hg h).1
  case ival q lo hi=>
   split at h
   ·simp only[Bool.and_eq_true,beq_iff_eq]at h;obtain⟨rfl,h1,h2⟩:=h;cases hg with
    |int _ _ _ v hv hi=>
     have h1:=leq_ok hc h1 h0 hv;have h2:=leq_ok hc h2 hv h0;exact .ival _ _ _ _ (by omega) (by omega) hi
   ·simp only[Bool.and_eq_true,beq_iff_eq,ile,decide_eq_true_eq]at h;obtain⟨rfl,h1,h2⟩:=h;cases hg with
    |ival _ _ _ m g1 g2 g3=>exact .ival _ _ _ _ (by omega) (by omega) g3
   ·cases hg with
    |or _ b _ hm hb=>exact ih _ _ _ (lEv_mem h b hm) hb
   ·cases h
  case strv lo hi=>
   split at h
   ·simp only[Bool.and_eq_true,ile,decide_eq_true_eq]at h;cases hg;exact .strv _ _ _ h.1 h.2
   ·simp only[Bool.and_eq_true]at h;cases hg with
    |str _ _ v l hv hl=>
     have h1:=leq_ok hc h.1 h0 hv;have h2:=leq_ok hc h.2 hv h0;exact .strv _ _ _ (by omega) (by omega)
   ·simp only[Bool.and_eq_true,ile,decide_eq_true_eq]at h;cases hg with
    |strv _ _ l g1 g2=>exact .strv _ _ _ (by omega) (by omega)
   ·cases h
  case slv e lo hi=>
   split at h
   ·simp only[Bool.and_eq_true,ile,decide_eq_true_eq]at h;cases hg;exact .slv _ _ _ _ [] (.inl ⟨rfl,rfl⟩) (by simpa using h.1) (by simpa using h.2) (fun x hx=>by simp at hx)
   ·simp only[Bool.and_eq_true,ile,decide_eq_true_eq]at h;cases hg with
    |slk es _ xs g1 g2 g3=>
     refine .slv _ _ _ _ xs g1 (by omega) (by omega) (fun x hx=> ?_);obtain⟨j,hj,rfl⟩:=List.getElem_of_mem hx;obtain⟨a,ha,hga⟩:=GmL.at' ⟨g2,g3⟩ (List.getElem?_eq_getElem hj);exact ih _ _ _ (lEv_mem h.2.2 a (List.mem_of_getElem? ha)) hga
   ·simp only[Bool.and_eq_true]at h;cases hg with
    |sl _ _ _ _ xs v g1 g2 g3 g4=>
     have h1:=leq_ok hc h.2.1 h0 g2;have h2:=leq_ok hc h.2.2 g2 h0;refine .slv _ _ _ _ xs g1 (by omega) (by omega) (fun x hx=> ?_);rcases Bool.or_eq_true _ _ |>.mp h.1 with q|q
     ·have:=leq_ok hc q g2 h0;have:xs=[]:=by cases xs with|nil=>rfl|cons=>simp at g3;omega
      subst this;simp at hx
     ·exact ih _ _ _ q (g4 x hx)
   ·simp only[Bool.and_eq_true,Bool.or_eq_true,ile,decide_eq_true_eq]at h;cases hg with
    |slv _ _ _ _ xs g1 g2 g3 g4=>
     refine .slv _ _ _ _ xs g1 (by omega) (by omega) (fun x hx=> ?_);rcases h.1 with q|q
     ·have:xs=[]:=by cases xs with|nil=>rfl|cons=>simp at g3;omega
      subst this;simp at hx
     ·exact ih _ _ _ q (g4 x hx)
   ·cases h
  case sxv lo hi=>
   split at h
   ·simp only[Bool.and_eq_true]at h;cases hg with
    |sx _ _ full m f v g1 g2=>
     have h1:=leq_ok hc h.1 h0 g1;have h2:=leq_ok hc h.2 g1 h0;exact .sxv _ _ _ _ _ (by omega) (by omega)
   ·simp only[Bool.and_eq_true,ile,decide_eq_true_eq]at h;cases hg with
    |sxv _ _ full m f g1 g2=>exact .sxv _ _ _ _ _ (by omega) (by omega)
   ·cases h
  case bool B=>
   rcases B with b|⟨_ |⟨p,ps⟩,_ |⟨q,qs⟩⟩
   ·exact fin h
   ·simp only at h;split at h
    ·cases hg;exact .bool _ _ (boTop_ok _)
    ·cases h
   ·exact fin h
   ·exact fin h
   ·exact fin h
  case or ts=>
   split at h
   ·cases hg with
    |or _ b _ hm hb=>
     obtain⟨y,h1,h2⟩:=lSm_mem (lEv_mem h b hm);exact .or _ y _ h1 (ih _ _ _ h2 hb)
   ·obtain⟨y,h1,h2⟩:=lSm_mem h;exact .or _ y _ h1 (ih _ _ _ h2 hg)
  case agg ts=>
   split at h
   ·cases hg with
    |agg _ xs g1 g2=>
     have:=lAll_gm ih h ⟨g1,g2⟩;exact .agg _ _ this.1 this.2
   ·cases h
  case tup ts=>
   split at h
   ·cases hg with
    |tup _ xs g1 g2=>
     have:=lAll_gm ih h ⟨g1,g2⟩;exact .tup _ _ this.1 this.2
   ·cases h
theorem hiOf_ok(hc:HoldCs ρ cs)(h0:ρ[0]? =some 0){s:Nat}{c v h:Int}(hv:ρ[s]? =some v)(hh:hiOf cs s c=some h):v+c≤h:=by
 unfold hiOf at hh;split at hh
 ·cases hh;have:=leq_ok hc ‹_› hv h0;omega
 ·split at hh
  ·cases hh;have:=leq_ok hc ‹_› hv h0;omega
  ·split at hh
   ·cases hh;have:=leq_ok hc ‹_› hv h0;omega
   ·split at hh
    ·cases hh;have:=leq_ok hc ‹_› hv h0;omega
    ·cases hh
theorem top2_ok(hc:HoldCs ρ cs)(h0:ρ[0]? =some 0){a b:A}{t:T}(h:top2 cs a=some b)(hg:Gm ρ μ a t):
  (∃k m,b= .ival k k.min k.max∧t= .int k m∧InK k m)∨(∃x,b= .bool boTop∧t= .bool x)∨(∃l q,b= .strv 0 q∧t= .str l∧(l.length:Int)≤q):=by
 unfold top2 at h;split at h
 ·cases h;cases hg with|int k s c v h1 h2=>exact .inl ⟨_,_,rfl,rfl,h2⟩
 ·cases h;cases hg with|ival k lo hi m h1 h2 h3=>exact .inl ⟨_,_,rfl,rfl,h3⟩
 ·cases h;cases hg with|bool B x hb=>exact .inr (.inl ⟨x,rfl,rfl⟩)
 ·split at h
  ·rename_i hl;cases h;cases hg;exact .inr (.inr ⟨_,_,rfl,rfl,by simpa [ile]using hl⟩)
  ·cases h
 ·split at h
  ·rename_i hl;cases h;cases hg with|str s c v l h1 h2=>exact .inr (.inr ⟨_,_,rfl,rfl,by have:=hiOf_ok hc h0 h1 hl;omega⟩)
  ·cases h
 ·cases h;cases hg with|strv lo hi l h1 h2=>exact .inr (.inr ⟨_,_,rfl,rfl,h2⟩)
 ·cases h
theorem top2_shape{a b:A}(h:top2 cs a=some b):(∃k,b= .ival k k.min k.max)∨b= .bool boTop∨∃q,b= .strv 0 q:=by
 unfold top2 at h;split at h
 ·cases h;exact .inl ⟨_,rfl⟩
 ·cases h;exact .inl ⟨_,rfl⟩
 ·cases h;exact .inr (.inl rfl)
 ·split at h
  ·cases h;exact .inr (.inr ⟨_,rfl⟩)
  ·cases h
 ·split at h
  ·cases h;exact .inr (.inr ⟨_,rfl⟩)
  ·cases h
 ·cases h;exact .inr (.inr ⟨_,rfl⟩)
 ·cases h
theorem maxI_le(a b:Int):a≤maxI a b∧b≤maxI a b:=by
 unfold maxI ile;split<;>rename_i h<;>simp at h<;>omega
def JnOk(ρ:List Int)(μ:List (Option Nat))(a b x:A):Prop:=(∀t,Gm ρ μ a t→Gm ρ μ x t)∧(∀t,Gm ρ μ b t→Gm ρ μ x t)
theorem jnL_ok{f:A→A→Option A}(hf:∀a b x,f a b=some x→JnOk ρ μ a b x):∀(a_s bs xs:List A),jn.jnL f a_s bs=some xs→(∀ts,GmL ρ μ a_s ts→GmL ρ μ xs ts)∧(∀ts,GmL ρ μ bs ts→GmL ρ μ xs ts)
 |[],[],xs,h=>by simp only[jn.jnL]at h;cases h;exact⟨fun ts h=>h,fun ts h=>h⟩
 |a::a_s,b::bs,xs,h=>by
  simp only[jn.jnL]at h;split at h
  ·rename_i x hx;split at h
   ·rename_i r hr;cases h;obtain⟨h1,h2⟩:=hf _ _ _ hx;obtain⟨h3,h4⟩:=jnL_ok hf a_s bs r hr;refine⟨fun ts ht=> ?_,fun ts ht=> ?_⟩
    ·obtain⟨t,u,rfl,g1,g2⟩:=ht.inv_cons;exact GmL.cons (h1 _ g1) (h3 _ g2)
    ·obtain⟨t,u,rfl,g1,g2⟩:=ht.inv_cons;exact GmL.cons (h2 _ g1) (h4 _ g2)
   ·cases h
  ·cases h
 |[],_ ::_,_,h=>by simp[jn.jnL]at h
 |_ ::_,[],_,h=>by simp[jn.jnL]at h
theorem sl2_ok(hc:HoldCs ρ cs)(h0:ρ[0]? =some 0){a:A}{t:T}{oe:Option A}{h:Int}(hs:sl2 cs a=some (oe,h))(hg:Gm ρ μ a t):
  ∃xs,IsSl t xs∧(xs.length:Int)≤maxI h 0∧∀x∈xs,∃e,oe=some e∧Gm ρ μ e x:=by
 have hm:=maxI_le h 0;unfold sl2 at hs;split at hs
 ·cases hs;cases hg;exact⟨[],.inl ⟨rfl,rfl⟩,by simpa using hm.2,fun x hx=>by simp at hx⟩
 ·split at hs
  ·rename_i hh;cases hs;cases hg with
   |sl _ _ _ _ xs v g1 g2 g3 g4=>
    have:=hiOf_ok hc h0 g2 hh;exact⟨xs,g1,by omega,fun x hx=>⟨_,rfl,g4 x hx⟩⟩
  ·cases hs
 ·cases hs;cases hg with
  |slv _ _ _ _ xs g1 g2 g3 g4=>exact⟨xs,g1,by omega,fun x hx=>⟨_,rfl,g4 x hx⟩⟩
 ·cases hs
theorem jn_ok(hc:HoldCs ρ cs)(h0:ρ[0]? =some 0):∀(k:Nat) (a b x:A),jn cs k a b=some x→JnOk ρ μ a b x
 |0,_,_,_,h=>by simp[jn]at h
 |k+1,a,b,x,h=>by
  have ih:=jn_ok hc h0 k;unfold jn at h;split at h
  ·rename_i he;cases h;have:=beqA_ok _ _ _ he;subst this;exact⟨fun t h=>h,fun t h=>h⟩
  ·split at h
   ·obtain⟨xs,hx,rfl⟩:=Option.map_eq_some_iff.1 h;obtain⟨h1,h2⟩:=jnL_ok ih _ _ _ hx;refine⟨fun t ht=> ?_,fun t ht=> ?_⟩
    ·cases ht with|agg _ ts g1 g2=>have:=h1 ts ⟨g1,g2⟩;exact .agg _ _ this.1 this.2
    ·cases ht with|agg _ ts g1 g2=>have:=h2 ts ⟨g1,g2⟩;exact .agg _ _ this.1 this.2
   ·obtain⟨xs,hx,rfl⟩:=Option.map_eq_some_iff.1 h;obtain⟨h1,h2⟩:=jnL_ok ih _ _ _ hx;refine⟨fun t ht=> ?_,fun t ht=> ?_⟩
    ·cases ht with|tup _ ts g1 g2=>have:=h1 ts ⟨g1,g2⟩;exact .tup _ _ this.1 this.2
    ·cases ht with|tup _ ts g1 g2=>have:=h2 ts ⟨g1,g2⟩;exact .tup _ _ this.1 this.2
   ·split at h
    ·rename_i e1 h1 e2 h2 s1 s2;split at h
     ·rename_i y hy;cases h;obtain⟨j1,j2⟩:=ih _ _ _ hy;have hm:=maxI_le h1 h2;have hm0:=maxI_le (maxI h1 h2) 0;refine⟨fun t ht=> ?_,fun t ht=> ?_⟩
      ·obtain⟨xs,q1,q2,q3⟩:=sl2_ok hc h0 s1 ht;refine .slv _ _ _ _ xs q1 (by omega) ?_ (fun x hx=> ?_)
       ·have:maxI h1 0≤maxI (maxI h1 h2) 0:=by
         generalize maxI (maxI h1 h2) 0=z at*;unfold maxI;split<;>omega
        omega
       ·obtain⟨e,he,hx'⟩:=q3 x hx;cases he;exact j1 x hx'
      ·obtain⟨xs,q1,q2,q3⟩:=sl2_ok hc h0 s2 ht;refine .slv _ _ _ _ xs q1 (by omega) ?_ (fun x hx=> ?_)
       ·have:maxI h2 0≤maxI (maxI h1 h2) 0:=by
         generalize maxI (maxI h1 h2) 0=z at*;unfold maxI;split<;>omega
        omega
       ·obtain⟨e,he,hx'⟩:=q3 x hx;cases he;exact j2 x hx'
     ·cases h
    ·rename_i e1 h1 _ s1 s2;cases h;refine⟨fun t ht=> ?_,fun t ht=> ?_⟩
     ·obtain⟨xs,q1,q2,q3⟩:=sl2_ok hc h0 s1 ht;exact .slv _ _ _ _ xs q1 (by omega) q2 (fun x hx=>by obtain⟨e,he,hx'⟩:=q3 x hx;cases he;exact hx')
     ·obtain⟨xs,q1,q2,q3⟩:=sl2_ok hc h0 s2 ht;have hn:xs=[]:=by cases xs with|nil=>rfl|cons x r=>obtain⟨e,he,_⟩:=q3 x (by simp);cases he
      subst hn;have:=maxI_le h1 0;exact .slv _ _ _ _ [] q1 (by simp) (by simpa using this.2) (fun x hx=>by simp at hx)
    ·rename_i _ e1 h1 s1 s2;cases h;refine⟨fun t ht=> ?_,fun t ht=> ?_⟩
     ·obtain⟨xs,q1,q2,q3⟩:=sl2_ok hc h0 s1 ht;have hn:xs=[]:=by cases xs with|nil=>rfl|cons x r=>obtain⟨e,he,_⟩:=q3 x (by simp);cases he
      subst hn;have:=maxI_le h1 0;exact .slv _ _ _ _ [] q1 (by simp) (by simpa using this.2) (fun x hx=>by simp at hx)
     ·obtain⟨xs,q1,q2,q3⟩:=sl2_ok hc h0 s2 ht;exact .slv _ _ _ _ xs q1 (by omega) q2 (fun x hx=>by obtain⟨e,he,hx'⟩:=q3 x hx;cases he;exact hx')
    split at h
    ·rename_i k1 lo hi k2 lo2 hi2 e1 e2;split at h
     ·rename_i hk;cases h;have hk:k1=k2:=by simpa using hk
      subst hk;refine⟨fun t ht=> ?_,fun t ht=> ?_⟩
      ·rcases top2_ok hc h0 e1 ht with⟨k,m,q1,rfl,q3⟩|⟨_,q1,_⟩|⟨_,_,q1,_⟩<;>cases q1
       exact .ival _ _ _ _ q3.1 q3.2 q3
      ·rcases top2_shape e1 with⟨k,q⟩|q|⟨_,q⟩<;>cases q
       rcases top2_ok hc h0 e2 ht with⟨k,m,q1,rfl,q3⟩|⟨_,q1,_⟩|⟨_,_,q1,_⟩<;>cases q1
       exact .ival _ _ _ _ q3.1 q3.2 q3
     ·cases h
    ·rename_i e1 e2;cases h;refine⟨fun t ht=> ?_,fun t ht=> ?_⟩
     ·rcases top2_ok hc h0 e1 ht with⟨k,m,q1,rfl,q3⟩|⟨_,q1,rfl⟩|⟨_,_,q1,_⟩<;>cases q1
      exact .bool _ _ (boTop_ok _)
     ·rcases top2_shape e1 with⟨k,q⟩|q|⟨_,q⟩<;>cases q
      rcases top2_ok hc h0 e2 ht with⟨k,m,q1,rfl,q3⟩|⟨_,q1,rfl⟩|⟨_,_,q1,_⟩<;>cases q1
      exact .bool _ _ (boTop_ok _)
    ·rename_i h1 _ h2 e1 e2;cases h;have hm:=maxI_le h1 h2;refine⟨fun t ht=> ?_,fun t ht=> ?_⟩
     ·rcases top2_ok hc h0 e1 ht with⟨k,m,q1,rfl,q3⟩|⟨_,q1,rfl⟩|⟨_,_,q1,rfl,q2⟩<;>cases q1
      exact .strv _ _ _ (by omega) (by omega)
     ·rcases top2_ok hc h0 e2 ht with⟨k,m,q1,rfl,q3⟩|⟨_,q1,rfl⟩|⟨_,_,q1,rfl,q2⟩<;>cases q1
      exact .strv _ _ _ (by omega) (by omega)
    ·split at h
     ·split at h
      ·cases h;refine⟨fun t ht=> ?_,fun t ht=> .or _ b t List.mem_cons_self ht⟩;cases ht with
       |or _ c _ hm hcx=>exact .or _ c _ (List.mem_cons_of_mem _ hm) hcx
      ·cases h
     ·split at h
      ·cases h;exact⟨fun t ht=> .or _ a t List.mem_cons_self ht,fun t ht=> .or _ b t (List.mem_cons_of_mem _ List.mem_cons_self) ht⟩
      ·cases h
    ·cases h
theorem jnT_ok(hc:HoldCs ρ cs)(h0:ρ[0]? =some 0){a b x:A}(h:jnT cs a b=some x):JnOk ρ μ a b x:=by
 unfold jnT at h;split at h
 ·rename_i hl;cases h;refine⟨fun t ht=>ht,fun t ht=> ?_⟩;exact(leT_ok hc h0 0 0 dep _ _ _ hl ht).ext (fun j v h=>by simp at h) (fun j v h=>by simp at h)
 ·exact jn_ok hc h0 _ _ _ _ h
theorem jnAll_ok(hc:HoldCs ρ cs)(h0:ρ[0]? =some 0):∀(r:List A) (a x:A),jnAll cs a r=some x→(∀t,Gm ρ μ a t→Gm ρ μ x t)∧∀b∈r,∀t,Gm ρ μ b t→Gm ρ μ x t
 |[],a,x,h=>by simp only[jnAll]at h;cases h;exact⟨fun t h=>h,fun b hb=>by simp at hb⟩
 |b::r,a,x,h=>by
  simp only[jnAll]at h;split at h
  ·rename_i y hy;obtain⟨h1,h2⟩:=jnT_ok (μ:=μ) hc h0 hy;obtain⟨h3,h4⟩:=jnAll_ok hc h0 r y x h;refine⟨fun t ht=>h3 t (h1 t ht),fun c hm t ht=> ?_⟩;rcases List.mem_cons.1 hm with rfl|hm
   ·exact h3 t (h2 t ht)
   ·exact h4 c hm t ht
  ·cases h
end
end Go.Ps
namespace Go.Ps
variable[Inhabited Prd]
theorem mapO_id{f:T→Option T}:∀(ts:List T),(∀t∈ts,f t=some t)→mapO f ts=some ts
 |[],_ =>rfl
 |t::ts,h=>by simp[mapO,h t (by simp),mapO_id ts (fun x hx=>h x (by simp[hx]))]
theorem gmL_mem{ρ:List Int}{μ:List (Option Nat)}{a_s:List A}{ts:List T}(h1:a_s.length=ts.length)(h2:∀(j:Nat) (a:A) (t:T),a_s[j]? =some a→ts[j]? =some t→Gm ρ μ a t){t:T}(ht:t∈ts):∃a∈a_s,Gm ρ μ a t:=by
 obtain⟨j,hj,rfl⟩:=List.getElem_of_mem ht;obtain⟨a,ha,hg⟩:=GmL.at' ⟨h1,h2⟩ (List.getElem?_eq_getElem hj);exact⟨a,List.mem_of_getElem? ha,hg⟩
theorem frz_id{ρ:List Int}{μ:List (Option Nat)}{H:Hp}:∀(n:Nat) (a:A) (t:T),pureA n a=true→Gm ρ μ a t→∀k,n≤k→frzT k H t=some t
 |0,_,_,h,_,_,_ =>by simp[pureA]at h
 |n+1,a,t,h,hg,k,hk=>by
  have ih:=frz_id (ρ:=ρ) (μ:=μ) (H:=H) n;obtain⟨k,rfl⟩:∃k',k=k'+1:=⟨k-1,by omega⟩;have hk:n≤k:=by omega
  have sl:∀{t:T} {xs:List T},IsSl t xs→(∀x∈xs,frzT k H x=some x)→frzT (k+1) H t=some t:=by
   intro t xs hs hx;rcases hs with⟨rfl,rfl⟩|⟨f,rfl⟩|⟨full,m,f,rfl,rfl⟩
   ·rfl
   ·simp only[frzT,mapO_id xs hx];simp
   ·rfl
  cases hg with
  |int k s c v h1 h2=>rfl
  |ival k lo hi m h1 h2 h3=>rfl
  |bool B b hb=>rfl
  |strc s=>rfl
  |str s c v l h1 h2=>rfl
  |strv lo hi l h1 h2=>rfl
  |sx=>rfl
  |sxv=>rfl
  |nilp=>rfl
  |nils=>rfl
  |nilf=>rfl
  |nili=>rfl
  |nilm=>rfl
  |top=>simp[pureA]at h
  |any=>simp[pureA]at h
  |ifc=>simp[pureA]at h
  |yl=>simp[pureA]at h
  |ptr=>simp[pureA]at h
  |elp=>simp[pureA]at h
  |osl=>simp[pureA]at h
  |mp=>simp[pureA]at h
  |prd q a_s ts h0 h1 h2=>exact(default:Prd).pure q _ h0 (k+1) H (by simp[pureA]at h;omega)
  |slp q e s c t xs v h0 h1 h2 h3 h4=>exact sl h1 fun x hx=>ih _ _ (by simpa [pureA]using h) (h4 x hx) k hk
  |slpv q e lo hi t xs h0 h1 h2 h3 h4=>exact sl h1 fun x hx=>ih _ _ (by simpa [pureA]using h) (h4 x hx) k hk
  |slk es t xs h1 h2 h3=>
   refine sl h1 fun x hx=> ?_;obtain⟨a,ha,hga⟩:=gmL_mem h2 h3 hx;exact ih _ _ (lEv_mem (by simpa [pureA]using h) a ha) hga k hk
  |osl0=>simp[pureA]at h
  |ref x t off h1 h2=>
   have:=ih _ _ (by simpa [pureA]using h) h2 k hk;simp only[frzT,this];simp
  |sl e s c t xs v h1 h2 h3 h4=>exact sl h1 fun x hx=>ih _ _ (by simpa [pureA]using h) (h4 x hx) k hk
  |slv e lo hi t xs h1 h2 h3 h4=>
   simp only[pureA,Bool.or_eq_true,ile,decide_eq_true_eq]at h;rcases h with h|h
   ·have:xs=[]:=by cases xs with|nil=>rfl|cons=>simp at h3;omega
    subst this;exact sl h1 fun x hx=>by simp at hx
   ·exact sl h1 fun x hx=>ih _ _ h (h4 x hx) k hk
  |fn f a_s bs as' bs' h1 h2 h3 h4=>
   simp only[pureA,Bool.and_eq_true]at h;have e1:=mapO_id (f:=frzT k H) as' fun x hx=>by
    obtain⟨a,ha,hg⟩:=gmL_mem h1 h2 hx;exact ih _ _ (lEv_mem h.1 a ha) hg k hk
   have e2:=mapO_id (f:=frzT k H) bs' fun x hx=>by
    obtain⟨a,ha,hg⟩:=gmL_mem h3 h4 hx;exact ih _ _ (lEv_mem h.2 a ha) hg k hk
   simp only[frzT,e1,e2]
  |iface t x y h1=>
   have:=ih _ _ (by simpa [pureA]using h) h1 k hk;simp only[frzT,this]
  |or a_s a t hm h1=>
   have hp:=lEv_mem (by simpa [pureA]using h) a hm;exact ih _ _ hp h1 (k+1) (by omega)
  |agg a_s ts h1 h2=>
   have e1:=mapO_id (f:=frzT k H) ts fun x hx=>by
    obtain⟨a,ha,hg⟩:=gmL_mem h1 h2 hx;exact ih _ _ (lEv_mem (by simpa [pureA]using h) a ha) hg k hk
   simp only[frzT,e1]
  |tup a_s ts h1 h2=>
   have e1:=mapO_id (f:=frzT k H) ts fun x hx=>by
    obtain⟨a,ha,hg⟩:=gmL_mem h1 h2 hx;exact ih _ _ (lEv_mem (by simpa [pureA]using h) a ha) hg k hk
   simp only[frzT,e1]
theorem frL_ok{ρ:List Int}{μ:List (Option Nat)}{f:A→Option A}{g:T→Option T}(hf:∀a b t,f a=some b→Gm ρ μ a t→∃t',g t=some t'∧Gm ρ μ b t'):
  ∀(a_s bs:List A) (ts:List T),frL f a_s=some bs→GmL ρ μ a_s ts→∃us,mapO g ts=some us∧GmL ρ μ bs us
 |[],bs,ts,h,hg=>by simp only[frL]at h;cases h;rw[hg.inv_nil];exact⟨[],rfl,.nil⟩
 |a::a_s,bs,ts,h,hg=>by
  simp only[frL]at h;obtain⟨t,r,rfl,h1,h2⟩:=hg.inv_cons;split at h
  ·rename_i b hb;split at h
   ·rename_i cs hcs;cases h;obtain⟨t',e1,e2⟩:=hf a b t hb h1;obtain⟨us,e3,e4⟩:=frL_ok hf a_s cs r hcs h2;exact⟨t'::us,by simp[mapO,e1,e3],GmL.cons e2 e4⟩
   ·cases h
  ·cases h
theorem mapO_app{f:T→Option T}:∀(a_s bs xs ys:List T),mapO f a_s=some xs→mapO f bs=some ys→mapO f (a_s++bs)=some (xs++ys)
 |[],bs,xs,ys,h,h'=>by simp only[mapO]at h;cases h;simpa using h'
 |a::a_s,bs,xs,ys,h,h'=>by
  simp only[mapO]at h;split at h
  ·rename_i r hr;split at h
   ·rename_i rs hrs;cases h;simp[mapO,hr,mapO_app a_s bs rs ys hrs h']
   ·cases h
  ·cases h
theorem rows_ok{ρ:List Int}{μ:List (Option Nat)}{f:T→Option T}{bs:List A}{sz:Nat}(hb:bs.length=sz)(hpos:0<sz):∀(ts:List T),(∀t∈ts,∃us,mapO f t.cells=some us∧GmL ρ μ bs us)→
  ∃cs,mapO f (ts.flatMap T.cells)=some cs∧cs.length=ts.length*sz∧∀x∈chunk sz ts.length cs,Gm ρ μ (.agg bs) x
 |[],_ =>⟨[],rfl,by simp,fun x hx=>by simp[chunk]at hx⟩
 |t::ts,h=>by
  obtain⟨us,u1,u2⟩:=h t (by simp);obtain⟨cs,c1,c2,c3⟩:=rows_ok hb hpos ts fun x hx=>h x (by simp[hx]);have hul:us.length=sz:=by rw[←u2.1];exact hb
  refine⟨us++cs,by rw[List.flatMap_cons];exact mapO_app _ _ _ _ u1 c1,by rw[List.length_append,hul,c2,List.length_cons,Nat.succ_mul];omega,fun x hx=> ?_⟩;simp only[List.length_cons,chunk,List.mem_cons]at hx;rcases hx with rfl|hx
  ·rw[List.take_left' hul];exact .agg _ _ u2.1 u2.2
  ·rw[List.drop_left' hul]at hx;exact c3 x hx
theorem frA_ok{ρ:List Int}{μ:List (Option Nat)}{hp:List (Nat×AO)}{nl:Nat}{H:Hp}(h0:ρ[0]? =some 0)(hh:GH hp nl ρ μ H):∀(n:Nat) (a b:A) (t:T),frA hp n a=some b→Gm ρ μ a t→∀k,n≤k→∃t',frzT k H t=some t'∧Gm ρ μ b t'
 |0,_,_,_,h,_,_,_ =>by simp[frA]at h
 |n+1,a,b,t,h,hg,k,hk=>by
  have ih:=frA_ok h0 hh n;simp only[frA]at h;split at h
  ·rename_i hp';cases h;exact⟨t,frz_id (n+1) a t hp' hg k hk,hg⟩
  ·obtain⟨k,rfl⟩:∃k',k=k'+1:=⟨k-1,by omega⟩;have hk:n≤k:=by omega
   split at h
   ·rename_i l sz si ci s c _;split at h
    ·rename_i e0 sz' e s' c' hf;split at h
     ·rename_i hc;simp only[Bool.and_eq_true,beq_iff_eq]at hc;obtain⟨k1,k2,k3,k4,k5⟩:=hc;have k1:=nat_beq k1;have k2:=nat_beq k2;have k4:=nat_beq k4;subst k1 k2 k3 k4 k5;have nilc:∀e',(∃v,ρ[s]? =some v∧v+c=0)→Gm ρ μ (.sl e' s c) .nils:=by
       rintro e' ⟨v,v1,v2⟩;exact .sl e' s c .nils [] v (.inl ⟨rfl,rfl⟩) v1 (by simpa using v2.symm) (fun x hx=>by simp at hx)
      cases hg with
      |osl0 _ _ _ _ _ _ vi v g1 g2 g3 g4 g5=>
       refine⟨.nils,rfl,?_⟩;split at h
       ·split at h
        ·split at h
         ·cases h;exact nilc _ ⟨v,g4,g5⟩
         ·cases h
        ·cases h
       ·split at h
        ·split at h
         ·split at h
          ·cases h;exact nilc _ ⟨v,g4,g5⟩
          ·cases h
         ·cases h
        ·cases h
      |osl _ _ _ _ _ _ l' vi v g1 g2 g3 g4 g5=>
       rw[h0]at g2;cases g2;obtain⟨o,o1,o2,o3,ts,v1,r1,r2,r3,r4⟩:=hh.at hf g1;rw[g4]at r1;cases r1;have hlen:(v+c).toNat=ts.length:=by omega
       have hfl:=flat_len ts (fun t ht=>(r4 t ht).2);have hcells:(o.cells.drop ((0+0:Int).toNat*sz)).take ((v+c).toNat*sz)=ts.flatMap T.cells:=by
        rw[hlen,r3,←hfl];show List.take _ (List.drop ((0:Nat)*sz) _)=_;rw[Nat.zero_mul,List.drop_zero,List.take_length]
       have hfit:((0+0:Int).toNat+(v+c).toNat)*sz≤o.cells.length:=by rw[r3,hfl,hlen];simp
       split at h
       ·rename_i es;split at h
        ·rename_i hsz;simp only[Bool.and_eq_true]at hsz;have hsz1:=nat_blt hsz.1;have hsz2:=nat_beq hsz.2;split at h
         ·rename_i bs hbs;cases h;have hbl:bs.length=sz:=by
           rw[←hsz2];clear hsz2 hf hsz r4 ih
           induction es generalizing bs with
           |nil=>simp only[frL]at hbs;cases hbs;rfl
           |cons x xs ihx=>
            simp only[frL]at hbs;split at hbs
            ·split at hbs
             ·rename_i q hq;cases hbs;simp[ihx q hq]
             ·cases hbs
            ·cases hbs
          obtain⟨cs,c1,c2,c3⟩:=rows_ok (ρ:=ρ) (μ:=μ) (f:=frzT k H) hbl (by omega) ts fun t ht=>by
           have hgt:=(r4 t ht).1;cases hgt with
           |agg _ us q1 q2=>exact frL_ok (fun a b t hab hat=>ih a b t hab hat k hk) es bs us hbs ⟨q1,q2⟩
          refine⟨.sl false (chunk sz (v+c).toNat cs),?_,?_⟩
          ·simp only[frzT,o1];rw[if_pos ⟨by omega,o3.1,hfit⟩,hcells,c1];simp only;rw[if_neg (by omega)]
          ·have:=(chunk_flat sz ts.length cs (by rw[c2])).2.2;rw[hlen];exact .sl _ _ _ _ (chunk sz ts.length cs) v (.inr (.inl ⟨_,rfl⟩)) g4 (by rw[this];exact r2) c3
         ·cases h
        ·cases h
       ·rename_i hna;split at h
        ·rename_i hsz;simp only[Bool.and_eq_true]at hsz;have hsz1:=nat_beq hsz.1;split at h
         ·rename_i b' hb';split at h
          ·rename_i hbo;cases h;have cellsOne:∀t∈ts,t.cells=[t]:=fun t ht=>cells_single (one_gm (r4 t ht).1 hsz.2).2;have key:∀(l:List T),(∀t∈l,t∈ts)→∃us,mapO (frzT k H) (l.flatMap T.cells)=some us∧us.length=l.length∧∀u∈us,Gm ρ μ b' u:=by
            intro l
            induction l with
            |nil=>intro _;exact⟨[],rfl,rfl,fun u hu=>by simp at hu⟩
            |cons t l ihl=>
             intro hsub;obtain⟨us,u1,u2,u3⟩:=ihl fun x hx=>hsub x (by simp[hx]);obtain⟨t',t1,t2⟩:=ih _ b' t hb' (r4 t (hsub t (by simp))).1 k hk;refine⟨t'::us,?_,by simp[u2],fun u hu=> ?_⟩
             ·rw[List.flatMap_cons,cellsOne t (hsub t (by simp))];simp[mapO,t1,u1]
             ·rcases List.mem_cons.1 hu with rfl|hu
              ·exact t2
              ·exact u3 u hu
           obtain⟨us,u1,u2,u3⟩:=key ts fun t ht=>ht;refine⟨.sl false us,?_,.sl _ _ _ _ us v (.inr (.inl ⟨_,rfl⟩)) g4 (by rw[u2];exact r2) u3⟩;simp only[frzT,o1];rw[if_pos ⟨by omega,o3.1,hfit⟩,hcells,u1];simp only;rw[if_pos hsz1,if_pos];rw[List.all_eq_true];intro u hu;have:=(one_gm (u3 u hu) hbo).2;simp[this]
          ·cases h
         ·cases h
        ·cases h
     ·cases h
    ·cases h
   ·rename_i a_s _;split at h
    ·rename_i bs hbs;cases h;cases hg with
     |agg _ ts q1 q2=>
      obtain⟨us,u1,u2⟩:=frL_ok (fun a b t hab hat=>ih a b t hab hat k hk) a_s bs ts hbs ⟨q1,q2⟩;exact⟨.agg us,by simp only[frzT,u1],.agg _ _ u2.1 u2.2⟩
    ·cases h
   ·rename_i a_s _;split at h
    ·rename_i bs hbs;cases h;cases hg with
     |tup _ ts q1 q2=>
      obtain⟨us,u1,u2⟩:=frL_ok (fun a b t hab hat=>ih a b t hab hat k hk) a_s bs ts hbs ⟨q1,q2⟩;exact⟨.tup us,by simp only[frzT,u1],.tup _ _ u2.1 u2.2⟩
    ·cases h
   ·cases h
theorem gm_scal1{ρ:List Int}{μ:List (Option Nat)}{a:A}{t:T}(h:scal1A a=true)(hg:Gm ρ μ a t):scal1 t=true:=by
 cases hg<;>first|rfl|(simp[scal1A]at h)
theorem gmL_all{ρ:List Int}{μ:List (Option Nat)}{p:A→Bool}{q:T→Bool}(hpq:∀a t,p a=true→Gm ρ μ a t→q t=true){a_s:List A}{ts:List T}(h1:a_s.length=ts.length)(h2:∀(j:Nat) (a:A) (t:T),a_s[j]? =some a→ts[j]? =some t→Gm ρ μ a t)(h:a_s.all p=true):ts.all q=true:=by
 rw[List.all_eq_true];intro t ht;obtain⟨a,ha,hg⟩:=gmL_mem h1 h2 ht;exact hpq a t (List.all_eq_true.1 h a ha) hg
theorem gm_scal2{ρ:List Int}{μ:List (Option Nat)}{a:A}{t:T}(h:scal2A a=true)(hg:Gm ρ μ a t):scal2 t=true:=by
 cases hg with
 |agg a_s ts h1 h2=>exact gmL_all (fun a t=>gm_scal1) h1 h2 h
 |_ =>first|rfl|(simp[scal2A,scal1A]at h)
theorem gm_scal{ρ:List Int}{μ:List (Option Nat)}{a:A}{t:T}(h:scalA a=true)(hg:Gm ρ μ a t):scal t=true:=by
 cases hg with
 |agg a_s ts h1 h2=>exact gmL_all (fun a t=>gm_scal2) h1 h2 h
 |tup a_s ts h1 h2=>exact gmL_all (fun a t=>gm_scal2) h1 h2 h
 |_ =>first|rfl|(simp[scalA,scal1A]at h)
end Go.Ps
namespace Go.Ps
variable[Inhabited Prd]
def PeA(pe:Hp→FuncId→List T→Option T)(pa:FuncId→List A→Nat→List Con→Option AV):Prop:=
 ∀g a_s n cs v,pa g a_s n cs=some v→∀(ρ:List Int) (μ:List (Option Nat)) (H:Hp) (ts:List T),Sy ρ n cs→GmL ρ μ a_s ts→∃r,pe H g ts=some r∧VOk ρ μ v r
structure Cn(X:AX)(gc:Nat→Option T)(pc:Hp→FuncId→List T→Option T):Prop where
 gl:GlA gc X.gl
 pe:PeA pc X.pe
 inl:∀g H ts,X.inl g=true→pc H g ts=none
 fz:∃k,dep≤k∧∀H g ts bs r,mapO (frzT k H) ts=some bs→mapO (frzT k ⟨0,.nl⟩) bs=some bs→pc H g bs=some r→scal r=true→pc H g ts=some r
section
variable{ρ ρ':List Int}{μ μ':List (Option Nat)}
theorem setsT_ok{sz:Nat}{ag:Bool}:∀(ps:List (Nat×A)) (qs:List (Nat×T)) (xs:List T),ps.map Prod.fst=qs.map Prod.fst→GmL ρ μ (ps.map Prod.snd) (qs.map Prod.snd)→setsOkA sz ag xs.length ps=true→
  ∃ys,setsT sz ag xs qs=some ys∧ys.length=xs.length∧∀(i:Nat) (y:T),ys[i]? =some y→(xs[i]? =some y∧i∉ps.map Prod.fst)∨∃a∈ps.map Prod.snd,Gm ρ μ a y∧y.cells.length=sz
 |[],[],xs,_,_,_ =>⟨xs,rfl,rfl,fun i y h=> .inl ⟨h,by simp⟩⟩
 |(i,a)::ps,(j,t)::qs,xs,h1,h2,h=>by
  simp only[List.map_cons,List.cons.injEq]at h1 h2;obtain⟨rfl,h1⟩:=h1;simp only[setsOkA,Bool.and_eq_true,beq_iff_eq]at h;obtain⟨k1,k2,k3,k4,k5,k6⟩:=h;obtain⟨q1,q2⟩:=known_gm h2.head k1;have k2:=nat_beq k2;have k4:=nat_blt k4;obtain⟨ys,e1,e2,e3⟩:=setsT_ok ps qs (xs.set i t) h1 h2.tail (by simpa using k6);have htl:t.cells.length=sz:=by rw[←q2.1];exact k2
  refine⟨ys,?_,by simpa using e2,fun m y hy=> ?_⟩
  ·simp only[setsT];rw[if_pos ⟨htl,q1.trans k3,k4⟩];exact e1
  ·rcases e3 m y hy with⟨g1,g2⟩|⟨b,g1,g2⟩
   ·rw[List.getElem?_set]at g1;split at g1
    ·rename_i him;cases g1;exact .inr ⟨a,by simp,h2.head,htl⟩
    ·rename_i him;exact .inl ⟨g1,by simp only[List.map_cons,List.mem_cons,not_or];exact⟨fun e=>him e.symm,g2⟩⟩
   ·exact .inr ⟨b,by simp only[List.map_cons,List.mem_cons];exact .inr g1,g2⟩
 |[],_ ::_,_,h,_,_ =>by simp at h
 |_ ::_,[],_,h,_,_ =>by simp at h
theorem inOrder_mem:∀(ps:List (Nat×A)) (j i:Nat),inOrder j ps=true→j≤i→i<j+ps.length→i∈ps.map Prod.fst
 |[],j,i,_,h1,h2=>by simp at h2;omega
 |(k,a)::r,j,i,h,h1,h2=>by
  simp only[inOrder,Bool.and_eq_true]at h;have:=nat_beq h.1;subst this;by_cases hi:i=k
  ·simp[hi]
  ·have:=inOrder_mem r (k+1) i h.2 (by omega) (by simp at h2;omega);simp only[List.map_cons,List.mem_cons];exact .inr this
theorem setsT_at{sz:Nat}{ag:Bool}:∀(ps:List (Nat×A)) (qs:List (Nat×T)) (xs ys:List T) (j:Nat),setsT sz ag xs qs=some ys→ps.map Prod.fst=qs.map Prod.fst→inOrder j ps=true→(∀i,i<j→ys[i]? =xs[i]?)∧∀m,m<qs.length→ys[j+m]? =(qs.map Prod.snd)[m]?
 |[],[],xs,ys,j,h,_,_ =>by simp only[setsT]at h;cases h;exact⟨fun i _ =>rfl,fun m hm=>by simp at hm⟩
 |[],_ ::_,_,_,_,_,h,_ =>by simp at h
 |_ ::_,[],_,_,_,_,h,_ =>by simp at h
 |(i,a)::ps,(i',t)::qs,xs,ys,j,h,h1,h2=>by
  simp only[List.map_cons,List.cons.injEq]at h1;obtain⟨rfl,h1⟩:=h1;simp only[inOrder,Bool.and_eq_true]at h2;have e:=nat_beq h2.1;subst e;simp only[setsT]at h;split at h
  ·rename_i hc;obtain⟨q1,q2⟩:=setsT_at ps qs _ ys (i+1) h h1 h2.2;refine⟨fun m hm=> ?_,fun m hm=> ?_⟩
   ·rw[q1 m (by omega),List.getElem?_set_ne (by omega)]
   ·cases m with
    |zero=>
     rw[Nat.add_zero,q1 i (by omega),List.getElem?_set_self hc.2.2];rfl
    |succ m=>
     have:=q2 m (by simpa using hm);rw[show i+(m+1)=i+1+m by omega,this];rfl
  ·cases h
theorem elemsA_ok{n:Nat}{cs:List Con}(hs:Sy ρ n cs){P:Program}{t:TypeId}{len:Nat}{ps:List (Nat×A)}{qs:List (Nat×T)}(h1:ps.map Prod.fst=qs.map Prod.fst)(h2:GmL ρ μ (ps.map Prod.snd) (qs.map Prod.snd)){e0:TypeId}{s0:Nat}{el0:A}
  (h:elemsA P cs t len ps=some (e0,s0,el0)):∃xs,P.underlying t=some (.slice e0)∧buildSliceT P t len qs=some (.sl true xs)∧szT P e0=some s0∧xs.length=len∧∀y∈xs,Gm ρ μ el0 y∧y.cells.length=s0:=by
 unfold elemsA at h;split at h
 ·rename_i e hu;split at h
  ·rename_i s ag z hsz hag hz;split at h
   ·rename_i hc;simp only[Bool.and_eq_true,beq_iff_eq,decide_eq_true_eq]at hc;obtain⟨⟨⟨⟨⟨⟨k1,k2⟩,k3⟩,k4⟩,k5⟩,k6⟩,k7⟩:=hc;obtain⟨z',e1,e2⟩:=zeroA_ok (ρ:=ρ) (μ:=μ) hs.zero hz;obtain⟨kz,kc⟩:=known_gm e2 k5;have hzl:z'.cells.length=s:=by rw[←kc.1];exact nat_beq k3
    obtain⟨ys,g1,g2,g3⟩:=setsT_ok (ρ:=ρ) (μ:=μ) (sz:=s) (ag:=ag) ps qs (List.replicate len z') h1 h2 (by simpa using k7);have hb:buildSliceT P t len qs=some (.sl true ys):=by
     simp only[buildSliceT,hu,hsz,hag,e1];rw[if_pos ⟨nat_blt k1,k2,hzl,kz.trans k4⟩,g1];rfl
    split at h
    ·rename_i el hel;split at h
     ·cases h;have hylen:ys.length=len:=by simpa using g2
      have hall:∀y∈ys,Gm ρ μ el0 y∧y.cells.length=s0:=by
       intro y hy;obtain⟨i,hi,hiy⟩:=List.getElem_of_mem hy;have hgy:ys[i]? =some y:=by rw[List.getElem?_eq_getElem hi,hiy]
       have zcase:(∀t,Gm ρ μ z t→Gm ρ μ el0 t)→(∀b∈ps.map Prod.snd,∀t,Gm ρ μ b t→Gm ρ μ el0 t)→Gm ρ μ el0 y∧y.cells.length=s0:=by
        intro q1 q2;rcases g3 i y hgy with⟨r1,r2⟩|⟨a,r1,r2,r3⟩
        ·rw[List.getElem?_replicate]at r1;split at r1
         ·cases r1;exact⟨q1 _ e2,hzl⟩
         ·cases r1
        ·exact⟨q2 a r1 y r2,r3⟩
       split at hel
       ·rename_i i0 v r;split at hel
        ·rename_i ho;simp only[Bool.and_eq_true]at ho;obtain⟨j1,j2⟩:=jnAll_ok (μ:=μ) hs.cs hs.zero _ _ _ hel;rcases g3 i y hgy with⟨r1,r2⟩|⟨a,r1,r2,r3⟩
         ·exact absurd (inOrder_mem _ 0 i ho.1 (by omega) (by have:=nat_beq ho.2;omega)) r2
         ·refine⟨?_,r3⟩;simp only[List.map_cons,List.mem_cons]at r1;rcases r1 with rfl|r1
          ·exact j1 y r2
          ·exact j2 a r1 y r2
        ·obtain⟨j1,j2⟩:=jnAll_ok (μ:=μ) hs.cs hs.zero _ _ _ hel;exact zcase j1 j2
       ·cases hel;exact zcase (fun t h=>h) (fun b hb=>by simp at hb)
      exact⟨ys,hu,hb,hsz,hylen,hall⟩
     ·cases h
    ·cases h
   ·cases h
  ·cases h
 ·cases h
end
section
variable{ρ ρ':List Int}{μ μ':List (Option Nat)}{n:Nat}{cs:List Con}{X:AX}{gl:Nat→Option T}{pe:Hp→FuncId→List T→Option T}
theorem retV_ok(hs:Sy ρ n cs){a:Option A}{v:AV}(h:retV n cs a=some v){q:Option T}(ha:∀b,a=some b→∃t,q=some t∧Gm ρ μ b t):∃t,q=some t∧VOk ρ μ v t:=by
 cases a with
 |none=>cases h
 |some b=>
  cases h;obtain⟨t,h1,h2⟩:=ha b rfl;exact⟨t,h1,.here hs h2⟩
theorem absC_ok{P:Program}(hc:Cn X gl pe)(hs:Sy ρ n cs){fa:List A}{fr:List T}(hf:GmL ρ μ fa fr){H:Hp}{c:Call}{v:AV}(h:absC P X fa n cs c=some v):
  ∃t,evalC P ⟨gl,pe⟩ H fr c=some t∧VOk ρ μ v t:=by
 unfold absC at h;unfold evalC;split at h
 ·rename_i f hcal;rw[hcal];simp only;split at h
  ·rename_i g first cap hg
   obtain⟨t,e1,e2⟩:=evA_ok hc.gl hs.zero hf hg;cases e2 with
   |fn _ _ _ f' c' h1 h2 h3 h4=>
   split at h
   ·rename_i ars har;obtain⟨ts,e3,e4⟩:=evAll_ok hc.gl hs.zero hf har;simp only[e1,e3];exact hc.pe _ _ _ _ _ h ρ μ H _ hs ((GmL.app ⟨h1,h2⟩ e4).app ⟨h3,h4⟩)
   ·cases h
  ·cases h
 ·cases h
 ·rename_i b hcal;rw[hcal];simp only;split at h
  ·simp only;split at h
   ·rename_i x t r hx ht;rw[hx,ht];simp only;split at h
    ·rename_i a ha;obtain⟨y,hy,rfl⟩:=Option.map_eq_some_iff.1 h;obtain⟨u,e1,e2⟩:=evA_ok hc.gl hs.zero hf ha;obtain⟨w,e3,e4⟩:=lenA_ok hs e2 hy;exact⟨w,by simp only[e1];exact lenH_of e3,.here hs e4⟩
    ·cases h
   ·cases h
  ·simp only;split at h
   ·rename_i x r hx;obtain⟨ts,e1,e2⟩:=evAll_ok hc.gl hs.zero hf hx;obtain⟨t,us,rfl,e3,e4⟩:=e2.inv_cons;obtain⟨w,e5,e6⟩:=foldA_ok (fun ρ n cs a b x y v hs ha hb h=>minA_ok hs ha hb h) r ρ n cs x t us v hs e3 e4 h;exact⟨w,by simp only[e1];exact e5,e6⟩
   ·cases h
  ·simp only;split at h
   ·rename_i x r hx;obtain⟨ts,e1,e2⟩:=evAll_ok hc.gl hs.zero hf hx;obtain⟨t,us,rfl,e3,e4⟩:=e2.inv_cons;obtain⟨w,e5,e6⟩:=foldA_ok (fun ρ n cs a b x y v hs ha hb h=>maxA_ok hs ha hb h) r ρ n cs x t us v hs e3 e4 h;exact⟨w,by simp only[e1];exact e5,e6⟩
   ·cases h
  ·cases h
theorem absF_ok{P:Program}(hc:Cn X gl pe)(hs:Sy ρ n cs){hp:List (Nat×AO)}{nl:Nat}{H:Hp}(hh:GH hp nl ρ μ H){fa:List A}{fr:List T}(hf:GmL ρ μ fa fr){c:Call}{v:AV}(h:absF X hp fa n cs c=some v):
  ∃t,evalC P ⟨gl,pe⟩ H fr c=some t∧VOk ρ μ v t:=by
 unfold absF at h;unfold evalC;split at h
 ·rename_i f hcal;rw[hcal];simp only;split at h
  ·rename_i g first cap hg
   obtain⟨t,e1,e2⟩:=evA_ok hc.gl hs.zero hf hg;cases e2 with
   |fn _ _ _ f' c' h1 h2 h3 h4=>
   split at h
   ·rename_i ars har;obtain⟨ts,e3,e4⟩:=evAll_ok hc.gl hs.zero hf har;simp only[e1,e3];split at h
    ·split at h
     ·rename_i bs hbs;split at h
      ·rename_i hpu;split at h
       ·rename_i w hw;split at h
        ·rename_i hsc;cases h;obtain⟨k,hk,hz⟩:=hc.fz;obtain⟨us,q1,q2⟩:=frL_ok (g:=frzT k H) (fun a b t hab hgt=>frA_ok hs.zero hh dep a b t hab hgt k hk) _ _ _ hbs ((GmL.app ⟨h1,h2⟩ e4).app ⟨h3,h4⟩);have q3:mapO (frzT k ⟨0,.nl⟩) us=some us:=mapO_id us fun t ht=>by
          obtain⟨a,ha,hg⟩:=gmL_mem q2.1 q2.2 ht;exact frz_id dep a t (lEv_mem hpu a ha) hg k hk
         obtain⟨r,r1,r2⟩:=hc.pe _ _ _ _ _ hw ρ μ H _ hs q2;obtain⟨ρ',x1,x2,x3⟩:=r2;exact⟨r,hz H _ _ _ _ q1 q3 r1 (gm_scal hsc x3),ρ',x1,x2,x3⟩
        ·cases h
       ·cases h
      ·cases h
     ·cases h
    ·cases h
   ·cases h
  ·cases h
 ·cases h
theorem absP_ok{P:Program}(hc:Cn X gl pe)(hs:Sy ρ n cs){hp:List (Nat×AO)}{nl:Nat}{H:Hp}(hh:GH hp nl ρ μ H){fa:List A}{fr:List T}(hf:GmL ρ μ fa fr){own:Bool}{o:Oper}{v:AV}
  (h:absP P X own hp fa n cs o=some v):∃t,evalP P ⟨gl,pe⟩ own H fr o=some t∧VOk ρ μ v t:=by
 have ev:∀{x:Operand} {a:A},evA X.gl fa x=some a→∃t,evalT gl fr x=some t∧Gm ρ μ a t:=fun h=>evA_ok hc.gl hs.zero hf h;obtain⟨dst,op,type,pos,after,guard⟩:=o;cases op<;>simp only[absP]at h<;>simp only[evalP]<;>try(cases h;done)
 case move x=>exact retV_ok hs h fun b hb=>ev hb
 case assign x=>exact retV_ok hs h fun b hb=>ev hb
 case pick c x y=>
  split at h
  ·rename_i b hb;obtain⟨t,e1,e2⟩:=ev hb;cases e2 with
   |bool _ b' hB=>
    simp only[HoldB]at hB;subst hB;refine retV_ok hs h fun a ha=> ?_;simp only[e1];cases b' with
    |true=>exact ev (by simpa using ha)
    |false=>exact ev (by simpa using ha)
  ·cases h
 case box t x=>
  cases own with
  |true=>simp at h
  |false=>
   simp only[Bool.false_eq_true,if_false]at h⊢;split at h
   ·rename_i y hy;split at h
    ·rename_i hk;cases h;obtain⟨t,e1,e2⟩:=ev hy;exact⟨.ref t 0,by simp[e1],.here hs (.ref _ t 0 hk e2)⟩
    ·cases h
   ·cases h
 case build t parts=>
  split at h
  ·rename_i l hl;obtain⟨qs,e1,e2,e3⟩:=pairsA_ok hc.gl hs.zero hf hl;simp only[e1];exact retV_ok hs h fun b hb=>buildA_ok hs.zero e2 e3 hb
  ·cases h
 case buildSlice t len parts=>
  cases own with
  |true=>simp at h
  |false=>
   simp only[Bool.false_eq_true,if_false]at h⊢;split at h
   ·rename_i l hl;obtain⟨qs,e1,e2,e3⟩:=pairsA_ok hc.gl hs.zero hf hl;split at h
    ·rename_i e s el hel;cases h;obtain⟨xs,q1,q2,q3,q4,q5⟩:=elemsA_ok hs e2 e3 hel;refine⟨.sl true xs,by simp only[e1,q2],.here hs ?_⟩;split
     ·rename_i hlk;simp only[Bool.and_eq_true]at hlk;obtain⟨_,ho,hn⟩:=hlk;have hn:=nat_beq hn;have hlq:l.length=qs.length:=by have:=congrArg List.length e2;simpa using this
      have hst:∃sz ag z,setsT sz ag (List.replicate len z) qs=some xs:=by
       unfold buildSliceT at q2;split at q2
       ·split at q2
        ·split at q2
         ·obtain⟨ys,y1,y2⟩:=Option.map_eq_some_iff.1 q2;cases y2;exact⟨_,_,_,y1⟩
         ·cases q2
        ·cases q2
       ·cases q2
      obtain⟨sz,ag,z,hst⟩:=hst;obtain⟨_,r2⟩:=setsT_at l qs _ xs 0 hst e2 ho;refine .slk _ _ xs (.inr (.inl ⟨_,rfl⟩)) (by simp;omega) fun j a t ha ht=> ?_;have hj:j<qs.length:=by have:=(List.getElem?_eq_some_iff.1 ht).1;omega
      have:=r2 j hj;rw[Nat.zero_add,ht]at this;exact e3.2 j a t ha this.symm
     ·exact .sl _ _ _ _ xs 0 (.inr (.inl ⟨_,rfl⟩)) hs.zero (by omega) (fun y hy=>(q5 y hy).1)
    ·cases h
   ·cases h
 case load t a=>
  split at h
  ·rename_i p hp;obtain⟨t',e1,e2⟩:=ev hp;simp only[e1];exact loadA_ok hs hh e2 h
  ·cases h
 case nilCheck x=>
  split at h
  ·rename_i p hp;obtain⟨t',e1,e2⟩:=ev hp;simp only[e1];exact retV_ok hs h fun b hb=>nilCheckA_ok e2 hb
  ·cases h
 case binOp op t x y ty=>
  split at h
  ·rename_i a b ha hb;split at h
   ·rename_i hn;obtain⟨t1,e1,e2⟩:=ev ha;obtain⟨t2,e3,e4⟩:=ev hb;simp only[e1,e3];rw[if_pos (nilsOk_ok e2 e4 hn)];exact binA_ok hs e2 e4 h
   ·cases h
  ·cases h
 case unOp op t x=>
  split at h
  ·rename_i a ha;obtain⟨t1,e1,e2⟩:=ev ha;simp only[e1];exact unA_ok hs e2 h
  ·cases h
 case convert s d x=>
  split at h
  ·rename_i a ha;obtain⟨t1,e1,e2⟩:=ev ha;simp only[e1];exact convA_ok hs e2 h
  ·cases h
 case fieldAddr s x f=>
  split at h
  ·rename_i a ha;obtain⟨t1,e1,e2⟩:=ev ha;simp only[e1];exact retV_ok hs h fun b hb=>fieldAddrA_ok e2 hb
  ·cases h
 case field t x f=>
  split at h
  ·rename_i a_s ha;obtain⟨t1,e1,e2⟩:=ev ha;cases e2 with
   |agg _ ts hl hg=>
    simp only[e1];split at h
    ·rename_i fd hfd;simp only[hfd];exact retV_ok hs h fun b hb=>partA_ok ⟨hl,hg⟩ hb
    ·cases h
  ·cases h
 case indexAddr t x i=>
  split at h
  ·rename_i a b ha hb;obtain⟨t1,e1,e2⟩:=ev ha;obtain⟨t2,e3,e4⟩:=ev hb;simp only[e1,e3];exact indexAddrA_ok hs e2 e4 h
  ·cases h
 case index t x i=>
  split at h
  ·rename_i a b ha hb;obtain⟨t1,e1,e2⟩:=ev ha;obtain⟨t2,e3,e4⟩:=ev hb;simp only[e1,e3];exact indexA_ok hs e2 e4 h
  ·cases h
 case slice t x lo hi mx=>
  cases mx with
  |some m=>cases h
  |none=>
   simp only at h⊢;split at h
   ·rename_i a ha;obtain⟨t1,e1,e2⟩:=ev ha;simp only[e1];split at h
    ·rename_i l u hl hu;obtain⟨l',e3,e4⟩:=optA_ok hc.gl hs.zero hf hl;obtain⟨u',e5,e6⟩:=optA_ok hc.gl hs.zero hf hu;simp only[e3,e5];refine sliceA_ok hs e2 (lo:=l) (hi:=u) ?_ ?_ h
     ·cases l<;>cases l'<;>exact e4
     ·cases u<;>cases u'<;>exact e6
    ·cases h
   ·cases h
 case extract x i=>
  split at h
  ·rename_i xs ha;obtain⟨t1,e1,e2⟩:=ev ha;cases e2 with
   |tup _ ts hl hg=>
    simp only[e1];exact retV_ok hs h fun b hb=>GmL.at ⟨hl,hg⟩ hb
  ·cases h
 case lookup t x i ok=>
  split at h
  ·rename_i a b ha hb;obtain⟨t1,e1,e2⟩:=ev ha;obtain⟨t2,e3,e4⟩:=ev hb;simp only[e1,e3];exact retV_ok hs h fun b hb=>lookupA_ok hs.zero hh e2 e4 hb
  ·cases h
 case makeFunc f first captured=>
  split at h
  ·split at h
   ·rename_i a c ha hb;cases h;obtain⟨a_s,e1,e2⟩:=evAll_ok hc.gl hs.zero hf ha;obtain⟨bs,e3,e4⟩:=evAll_ok hc.gl hs.zero hf hb;simp only[e1,e3];exact⟨_,rfl,.here hs (.fn _ _ _ _ _ e2.1 e2.2 e4.1 e4.2)⟩
   ·cases h
  ·cases h
 case call c=>
  split at h
  ·rename_i w hw;cases h;exact absC_ok hc hs hf hw
  ·exact absF_ok hc hs hh hf h
end
end Go.Ps
namespace Go.Ps
variable[Inhabited Prd]
def Ev(p:Nat→Nat→Prop):Prop:=∃m,∀n d,m≤n→m≤d→p n d
theorem Ev.of{p:Nat→Nat→Prop}(h:∀n d,p n d):Ev p:=⟨0,fun n d _ _ =>h n d⟩
theorem Ev.mono{p q:Nat→Nat→Prop}(h:Ev p)(hq:∀n d,p n d→q n d):Ev q:=by
 obtain⟨m,hm⟩:=h;exact⟨m,fun n d h1 h2=>hq n d (hm n d h1 h2)⟩
theorem Ev.and{p q:Nat→Nat→Prop}(h:Ev p)(hq:Ev q):Ev fun n d=>p n d∧q n d:=by
 obtain⟨m,hm⟩:=h;obtain⟨k,hk⟩:=hq;exact⟨max m k,fun n d h1 h2=>⟨hm n d (by omega) (by omega),hk n d (by omega) (by omega)⟩⟩
def ROk(ρ:List Int)(μ:List (Option Nat))(R:AR)(t:T)(H:Hp):Prop:=
 ∃ρ' μ',Ext ρ ρ'∧Ext μ μ'∧Sy ρ' R.nx R.cs∧GH R.hp R.nl ρ' μ' H∧Gm ρ' μ' R.a t
def CallA(call:FuncId→List A→AS→Option (List AR))(ee:Nat→Nat→FuncId→List T→Hp→Option (T×Hp)):Prop:=
 ∀f args S rs,call f args S=some rs→∀(ρ:List Int) (μ:List (Option Nat)) (H:Hp) (ts:List T),Sy ρ S.nx S.cs→GH S.hp S.nl ρ μ H→GmL ρ μ args ts→
  ∃r H',Ev (fun n d=>ee n d f ts H=some (r,H'))∧∃R∈rs,ROk ρ μ R r H'
section
variable{ρ ρ':List Int}{μ μ':List (Option Nat)}{X:AX}{gl:Nat→Option T}{pe:Hp→FuncId→List T→Option T}{H:Hp}{S:AS}{P:Program}
theorem newPtr_ok(hs:Sy ρ S.nx S.cs)(hh:GH S.hp S.nl ρ μ H){o:AO}{b:Ob}(hb:GmO ρ μ o b)(hme:b.me=none:=by rfl):ROk ρ μ ⟨.ptr S.nl 0,(S.nl,o)::S.hp,S.nx,S.nl+1,S.cs⟩ (.ptr H.next 0) (H.new b):=
 ⟨ρ,μ++[some H.next],.refl _,.app _ _,hs,hh.new (hb.ext (.refl _) (.app _ _)) hme,.ptr _ _ _ (app_last hh.len _)⟩
theorem splice_len{cs new:List T}{off:Nat}(h:off+new.length≤cs.length):(spliceT cs off new).length=cs.length:=by
 simp only[spliceT,List.length_append,List.length_take,List.length_drop];omega
theorem splice_flat{sz:Nat}{ts:List T}(hs:∀t∈ts,t.cells.length=sz){i off:Nat}{x y:T}{new:List T}(hi:ts[i]? =some x)(hy:y.cells=spliceT x.cells off new)(ho:off+new.length≤sz):
  spliceT (ts.flatMap T.cells) (i*sz+off) new=(ts.set i y).flatMap T.cells:=by
 have hil:=(List.getElem?_eq_some_iff.1 hi).1;have hx:x.cells.length=sz:=hs x (List.mem_of_getElem? hi);have e1:ts=ts.take i++x::ts.drop (i+1):=by
  have:ts.drop i=x::ts.drop (i+1):=by
   rw[List.drop_eq_getElem_cons hil];congr 1;exact(List.getElem?_eq_some_iff.1 hi).2
  rw[←this,List.take_append_drop]
 have e2:ts.set i y=ts.take i++y::ts.drop (i+1):=by rw[List.set_eq_take_append_cons_drop,if_pos hil]
 have hl:((ts.take i).flatMap T.cells).length=i*sz:=by
  rw[flat_len (sz:=sz) _ (fun t ht=>hs t (List.mem_of_mem_take ht)),List.length_take,Nat.min_eq_left (by omega)]
 have e3:ts.flatMap T.cells=(ts.take i).flatMap T.cells++(x.cells++(ts.drop (i+1)).flatMap T.cells):=by
  conv=>lhs;rw[e1]
  simp
 rw[e2,e3];simp only[List.flatMap_append,List.flatMap_cons,hy];unfold spliceT;rw[←hl,List.take_length_add_append,Nat.add_assoc,List.drop_length_add_append];have a1:List.take off (x.cells++(ts.drop (i+1)).flatMap T.cells)=x.cells.take off:=List.take_append_of_le_length (by omega);have a2:List.drop (off+new.length) (x.cells++(ts.drop (i+1)).flatMap T.cells)=x.cells.drop (off+new.length)++(ts.drop (i+1)).flatMap T.cells:=List.drop_append_of_le_length (by omega);rw[a1,a2];simp[List.append_assoc]
theorem storeA_ok(hs:Sy ρ S.nx S.cs)(hh:GH S.hp S.nl ρ μ H){t:TypeId}{p x:A}{q y:T}(hp:Gm ρ μ p q)(hx:Gm ρ μ x y){R:AR}(h:storeA P S t p x=some R):
  ∃H',storeT P H t q y=some H'∧ROk ρ μ R undefT H':=by
 unfold storeA at h;split at h
 ·rename_i n hn;split at h
  ·rename_i hc;simp only[Bool.and_eq_true]at hc;obtain⟨k1,k2,k3⟩:=hc;obtain⟨_,kc⟩:=known_gm hx k1;have k2:x.cells.length=n:=nat_beq k2;have ky:y.cells.length=n:=by rw[←kc.1];exact k2
   have ko:=allOneA_ok kc k3;split at h
   ·rename_i l off;cases hp with
    |ptr _ _ l' hl'=>
    split at h
    ·rename_i e xs hl;split at h
     ·rename_i hle;cases h;obtain⟨b,h1,h2⟩:=hh.at hl hl';refine⟨H.put l' {b with cells:=spliceT b.cells off y.cells},?_,ρ,μ,.refl _,.refl _,hs,?_,gm_undef⟩
      ·simp only[storeT,h1,hn];rw[if_pos ⟨ky,by rw[←h2.2.1];exact hle,ko⟩]
      ·exact hh.put hl hl' h1 ⟨h2.1,spliceA_ok h2.2 kc off⟩ (get_any h1).2
     ·cases h
    ·cases h
   ·rename_i l sz s c off;cases hp with
    |elp _ _ _ _ _ l' w hl' hw hw0=>
    split at h
    ·rename_i e sz' a s' c' hl;split at h
     ·rename_i hc;simp only[Bool.and_eq_true,decide_eq_true_eq]at hc;obtain⟨⟨⟨⟨c1,c2⟩,c3⟩,c4⟩,c5⟩:=hc;have c1:=nat_beq c1;subst c1;have c3:=nat_beq c3;obtain⟨b,h1,h2,h3,ts,v',g1,g2,g3,g4⟩:=hh.at hl hl';have hlt:=leq_ok hs.cs c4 hw g1;have hi:(w+c).toNat<ts.length:=by omega
      have hget:=List.getElem?_eq_getElem hi;have hmem:=List.getElem_mem hi;generalize hz:ts[(w+c).toNat]=z at hget hmem;have hmul:((w+c).toNat+1)*sz≤ts.length*sz:=Nat.mul_le_mul_right _ hi;rw[Nat.succ_mul]at hmul;have hfl:=flat_len ts (fun t ht=>(g4 t ht).2);have key:∀(bt:A) (z':T),z'.cells=spliceT z.cells off y.cells→(∀t,Gm ρ μ a t→Gm ρ μ bt t)→Gm ρ μ bt z'→
        ∃H',storeT P H t (.ptr l' ((w+c).toNat*sz+off)) y=some H'∧ROk ρ μ ⟨.tup [],setA S.hp l (.row e sz bt s' c'),S.nx,S.nl,S.cs⟩ undefT H':=by
       intro bt z' hz' hb1 hb2;refine⟨H.put l' {b with cells:=spliceT b.cells ((w+c).toNat*sz+off) y.cells},?_,ρ,μ,.refl _,.refl _,hs,?_,gm_undef⟩
       ·simp only[storeT,h1,hn];rw[if_pos ⟨ky,by rw[g3,hfl];omega,ko⟩]
       ·refine hh.put hl hl' h1 ⟨h2,⟨h3.1,fun h5 e0=>h3.2 h5 (List.length_eq_zero_iff.1 (by
         have hs:=splice_len (cs:=b.cells) (new:=y.cells) (off:=(w+c).toNat*sz+off) (by rw[g3,hfl];omega);have e0:spliceT b.cells ((w+c).toNat*sz+off) y.cells=[]:=e0;rw[e0]at hs
         exact hs.symm))⟩,ts.set (w+c).toNat z',v',g1,by simpa using g2,?_,fun t ht=> ?_⟩ (get_any h1).2
        ·rw[g3];exact splice_flat (fun t ht=>(g4 t ht).2) hget hz' (by omega)
        ·rcases List.mem_or_eq_of_mem_set ht with ht|rfl
         ·exact⟨hb1 t (g4 t ht).1,(g4 t ht).2⟩
         ·refine⟨hb2,?_⟩;rw[hz',splice_len (by rw[(g4 z hmem).2];omega)];exact(g4 z hmem).2
      split at h
      ·rename_i a_s;split at h
       ·rename_i bt hbt;split at h
        ·cases h;obtain⟨j1,j2⟩:=jnT_ok (μ:=μ) hs.cs hs.zero hbt;have hzg:=(g4 z hmem).1;cases hzg with
         |agg _ zs q1 q2=>
          have hsp:=spliceA_ok (off:=off) ⟨q1,q2⟩ kc;exact key bt (.agg (spliceT zs off y.cells)) rfl j1 (j2 _ (.agg _ _ hsp.1 hsp.2))
        ·cases h
       ·cases h
      ·cases h
      ·rename_i hna hnp;split at h
       ·rename_i yy hyy;split at h
        ·rename_i bt hbt;split at h
         ·cases h;obtain⟨j1,j2⟩:=jnT_ok (μ:=μ) hs.cs hs.zero hbt;have hzk:=known_gm (g4 z hmem).1 c2;have hag:a.isAgg=false:=by cases a<;>first|rfl|exact(hna _ rfl).elim|exact(hnp _ _ rfl).elim
          have hac:a.cells=[a]:=by cases a<;>first|rfl|exact(hna _ rfl).elim|exact(hnp _ _ rfl).elim
          have hz1:z.cells=[z]:=cells_single (hzk.1.trans hag);have hsz:sz=1:=by rw[←(g4 z hmem).2,hz1];rfl
          rw[hyy]at kc k2;obtain⟨u,r,hur,g5,g6⟩:=kc.inv_cons;have:=g6.inv_nil;subst this;have hu1:u.cells=[u]:=by
           have:allOne y.cells=true:=ko;rw[hur]at this;simp only[allOne,Bool.and_true]at this;cases u<;>simp_all [T.one,T.cells]
          have h01 : off = 0 := by have:n=1:=by rw[←k2];rfl
                                   omega
          subst h01;exact key bt u (by rw[hu1,hur,hz1];rfl) j1 (j2 u g5)
         ·cases h
        ·cases h
       ·cases h
     ·cases h
    ·cases h
   ·cases h
  ·cases h
 ·cases h
theorem room_ok{x b:Nat}(h:(x:Int)≤70368744177664/((b:Int)+1)):roomT x b=true:=by
 have h1:(x:Int)*(b+1)≤70368744177664:=by
  have:=Int.mul_le_of_le_ediv (by omega) h;exact this
 have h2:x*(b+1)≤70368744177664:=by
  have:((x*(b+1):Nat):Int)≤((70368744177664:Nat):Int):=by rw[Int.natCast_mul,Int.natCast_add];exact h1
  exact Int.ofNat_le.1 this
 rw[Nat.mul_succ]at h2;have h3:x≤x*(b+1):=Nat.le_mul_of_pos_right _ (by omega);rw[Nat.mul_succ]at h3;unfold roomT;rw[Bool.and_eq_true,decide_eq_true_eq,decide_eq_true_eq];omega
theorem makeSliceA_ok(hs:Sy ρ S.nx S.cs)(hh:GH S.hp S.nl ρ μ H){t:TypeId}{l c:A}{x y:T}(hl:Gm ρ μ l x)(hc:Gm ρ μ c y){R:AR}(h:makeSliceA P S t l c=some R):
  ∃r H',makeSliceT P H t x y=some (r,H')∧ROk ρ μ R r H':=by
 unfold makeSliceA at h;split at h
 ·rename_i e s c s' c' hu;cases hl with
  |int _ _ _ v hv hi=>cases hc with
   |int _ _ _ v' hv' hi'=>
   split at h
   ·rename_i sz bytes z hsz hby hz;split at h
    ·rename_i hc;cases h;simp only[Bool.and_eq_true,beq_iff_eq]at hc;obtain⟨⟨⟨⟨⟨⟨⟨⟨k0,k1⟩,k2⟩,k3⟩,k4⟩,k5⟩,k6⟩,k7⟩,k8⟩:=hc;have k5:=nat_beq k5;subst k5 k6;rw[hv]at hv';cases hv';have k7:=leq_ok hs.cs k7 hs.zero hv;have k8:=leq_ok hs.cs k8 hv hs.zero;obtain⟨z',e1,e2⟩:=zeroA_ok (ρ:=ρ) (μ:=μ) hs.zero hz;obtain⟨_,kc⟩:=known_gm e2 k3;have hzl:z'.cells.length=sz:=by rw[←kc.1];exact nat_beq k2
     have hroom:=room_ok (x:=(v+c).toNat) (b:=bytes) (by omega);unfold roomT at hroom;rw[Bool.and_eq_true,decide_eq_true_eq,decide_eq_true_eq]at hroom;have hnew:=hh.new (o:= .row e sz z s c) (b:={elem:=e,sz:=sz,cells:=(List.replicate (v+c).toNat z').flatMap T.cells})
      ⟨rfl,⟨rfl,fun h5 e0=>by
       subst h5;rcases(Bool.or_eq_true _ _ |>.mp k0)with q|q
       ·simp at q
       ·have q:=leq_ok hs.cs q hs.zero hv;have k1:=nat_blt k1;have hfl:=flat_len (sz:=sz) (List.replicate (v+c).toNat z') (fun t ht=>by rw[List.mem_replicate]at ht;rw[ht.2];exact hzl);have e0:(List.replicate (v+c).toNat z').flatMap T.cells=[]:=e0;rw[e0]at hfl;simp only[List.length_replicate,List.length_nil]at hfl
        rcases Nat.mul_eq_zero.1 hfl.symm with z|z<;>omega⟩,List.replicate (v+c).toNat z',v,hv,by simp;omega,rfl,fun t ht=>by
       rw[List.mem_replicate]at ht;rw[ht.2];exact⟨e2.ext (.refl _) (.app _ _),hzl⟩⟩
     refine⟨.osl H.next sz 0 (v+c).toNat,_,?_,ρ,μ++[some H.next],.refl _,.app _ _,hs,hnew,?_⟩
     ·simp only[makeSliceT,hu,hsz,hby,e1];rw[if_pos ⟨nat_blt k1,hzl,by omega,by first|rfl|trivial,hroom.1,by omega⟩]
     ·have:=Gm.osl (ρ:=ρ) (μ:=μ++[some H.next]) S.nl sz 0 0 s c H.next 0 v (app_last hh.len _) hs.zero (by omega) hv (by omega);simpa using this
    ·cases h
   ·cases h
 ·cases h
end
end Go.Ps
namespace Go.Ps
variable[Inhabited Prd]
section
variable{ρ ρ':List Int}{μ μ':List (Option Nat)}{X:AX}{gl:Nat→Option T}{pe:Hp→FuncId→List T→Option T}{H:Hp}{S:AS}{P:Program}
theorem flat_ne{sz:Nat}{ts:List T}(h:∀t∈ts,t.cells.length=sz)(hs:sz≠0)(hn:ts.length≠0):ts.flatMap T.cells≠[]:=fun e=>by
 have:=flat_len ts h;rw[e]at this;rcases Nat.mul_eq_zero.1 this.symm with q|q
 ·exact hn q
 ·exact hs q
theorem newRow_ok(hs:Sy ρ S.nx S.cs)(hh:GH S.hp S.nl ρ μ H){e:TypeId}{sz:Nat}{a:A}{s:Nat}{c v:Int}{ts:List T}(hv:ρ[s]? =some v)(hl:(ts.length:Int)=v+c)(hg:∀t∈ts,Gm ρ μ a t∧t.cells.length=sz)(hne:e=5→ts.flatMap T.cells≠[]):
  ROk ρ μ ⟨.osl S.nl sz 0 0 s c,(S.nl,.row e sz a s c)::S.hp,S.nx,S.nl+1,S.cs⟩ (.osl H.next sz 0 ts.length) (H.new {elem:=e,sz:=sz,cells:=ts.flatMap T.cells}):=by
 refine⟨ρ,μ++[some H.next],.refl _,.app _ _,hs,hh.new ⟨rfl,⟨rfl,hne⟩,ts,v,hv,hl,rfl,fun t ht=>⟨(hg t ht).1.ext (.refl _) (.app _ _),(hg t ht).2⟩⟩,?_⟩;have:=Gm.osl (ρ:=ρ) (μ:=μ++[some H.next]) S.nl sz 0 0 s c H.next 0 v (app_last hh.len _) hs.zero (by omega) hv (by omega);rw[←hl]at this;simpa using this
theorem buildSliceA_ok(hs:Sy ρ S.nx S.cs)(hh:GH S.hp S.nl ρ μ H){t:TypeId}{len:Nat}{ps:List (Nat×A)}{qs:List (Nat×T)}(h1:ps.map Prod.fst=qs.map Prod.fst)(h2:GmL ρ μ (ps.map Prod.snd) (qs.map Prod.snd)){R:AR}
  (h:buildSliceA P S t len ps=some R):∃e xs s,P.underlying t=some (.slice e)∧buildSliceT P t len qs=some (.sl true xs)∧szT P e=some s∧
   ROk ρ μ R (.osl H.next s 0 len) (H.new {elem:=e,sz:=s,cells:=xs.flatMap T.cells}):=by
 unfold buildSliceA at h;split at h
 ·rename_i e s el hel;split at h
  case isFalse=>cases h
  rename_i hne;cases h;obtain⟨xs,q1,q2,q3,q4,q5⟩:=elemsA_ok hs h1 h2 hel;refine⟨e,xs,s,q1,q2,q3,?_⟩
  have:=newRow_ok hs hh (e:=e) (sz:=s) (a:=el) (s:=0) (c:=len) (v:=0) (ts:=xs) hs.zero (by omega) q5 (fun h5=>by
   subst h5;rcases(Bool.or_eq_true _ _ |>.mp hne)with h|h
   ·simp at h
   ·simp only[Bool.and_eq_true]at h;have h1:=nat_blt h.1;have h2:=nat_blt h.2
    exact flat_ne (fun x hx=>(q5 x hx).2) (by omega) (by omega))
  rw[q4]at this;exact this
 ·cases h
theorem srcA_ok(hs:Sy ρ S.nx S.cs)(hh:GH S.hp S.nl ρ μ H){tx:TypeId}{size:Nat}{x:A}{y:T}(hx:Gm ρ μ x y){el:A}{s:Nat}{c:Int}(h:srcA P S.hp S.cs tx size x=some (el,s,c))
  (hk:el.known=true) (hsz:el.cells.length=size):
  ∃(us:List T) (v:Int),srcCells H y=some (us.flatMap T.cells)∧lenOfT y=some us.length∧srcOk P tx size y=true∧ρ[s]? =some v∧(us.length:Int)=v+c∧∀u∈us,Gm ρ μ el u∧u.cells.length=size:=by
 have cl:∀{u:T},Gm ρ μ el u→u.cells.length=size:=fun hu=>by rw[←(known_gm hu hk).2.1];exact hsz
 unfold srcA at h;split at h
 ·rename_i l sz si ci s0 c0 hu;split at h
  ·rename_i e0 sz' e s' c' hl;split at h
   ·rename_i hc;simp only[Bool.and_eq_true]at hc;obtain⟨⟨⟨k1,k2⟩,k3⟩,k4⟩:=hc;have k1:=nat_beq k1;have k2:=nat_beq k2;subst k1 k2;split at h
    ·rename_i q d hq;split at h
     ·rename_i hle;cases h;cases hx with
      |osl _ _ _ _ _ _ l' vi v g1 g2 g3 g4 g5=>
       obtain⟨b,h1,h2,h3,ts,v',r1,r2,r3,r4⟩:=hh.at hl g1;obtain⟨u,u1,u2⟩:=sumL_ok hs.zero g2 g4 hq;have hle:=leq_ok hs.cs hle u1 r1;have hfl:=flat_len ts (fun t ht=>(r4 t ht).2);have hle2:(vi+ci).toNat+(v+c).toNat≤ts.length:=by omega
       refine⟨(ts.drop (vi+ci).toNat).take (v+c).toNat,v,?_,?_,by simp[srcOk,hu],g4,?_,fun t ht=> ?_⟩
       ·simp only[srcCells,h1];rw[if_pos (by rw[r3,hfl];exact Nat.mul_le_mul_right _ hle2),r3,flat_dropA ts _ (fun t ht=>(r4 t ht).2) (by omega)];have:=flat_dropA (ts.drop (vi+ci).toNat) (v+c).toNat (fun t ht=>(r4 t (List.mem_of_mem_drop ht)).2) (by rw[List.length_drop];omega);have e1:((ts.drop (vi+ci).toNat).flatMap T.cells)=(((ts.drop (vi+ci).toNat).take (v+c).toNat).flatMap T.cells)++(((ts.drop (vi+ci).toNat).drop (v+c).toNat).flatMap T.cells):=by
         rw[←List.flatMap_append,List.take_append_drop]
        have e2:(((ts.drop (vi+ci).toNat).take (v+c).toNat).flatMap T.cells).length=(v+c).toNat*sz:=by
         rw[flat_len (sz:=sz) _ (fun t ht=>(r4 t (List.mem_of_mem_drop (List.mem_of_mem_take ht))).2),List.length_take,List.length_drop,Nat.min_eq_left (by omega)]
        rw[e1,←e2,List.take_left]
       ·simp only[lenOfT,List.length_take,List.length_drop];congr 1;omega
       ·rw[List.length_take,List.length_drop];omega
       ·exact r4 t (List.mem_of_mem_drop (List.mem_of_mem_take ht))
      |osl0 _ _ _ _ _ _ vi v g1 g2 g3 g4 g5=>
       exact⟨[],v,rfl,rfl,by simp[srcOk,hu],g4,by simp;omega,fun t ht=>by simp at ht⟩
     ·cases h
    ·cases h
   ·cases h
  ·cases h
 ·have hu:=‹P.underlying tx=_›;cases h;cases hx with
  |sl _ _ _ _ xs v g1 g2 g3 g4=>
   refine⟨xs,v,?_,?_,?_,g2,g3,fun u hu=>⟨g4 u hu,cl (g4 u hu)⟩⟩
   ·rcases g1 with⟨rfl,rfl⟩|⟨f,rfl⟩|⟨full,m,f,rfl,rfl⟩
    ·rfl
    ·rfl
    ·simp only[srcCells,List.flatMap_map]
   ·rcases g1 with⟨rfl,rfl⟩|⟨f,rfl⟩|⟨full,m,f,rfl,rfl⟩
    ·rfl
    ·rfl
    ·simp[lenOfT]
   ·rcases g1 with⟨rfl,rfl⟩|⟨f,rfl⟩|⟨full,m,f,rfl,rfl⟩<;>simp[srcOk,hu]
 ·have hu:=‹P.underlying tx=_›;split at h
  ·cases h;cases hx;exact⟨[],0,rfl,rfl,by simp[srcOk,hu],hs.zero,by simp,fun t ht=>by simp at ht⟩
  ·cases h
 ·rename_i b hu;split at h
  ·rename_i h1;cases h;cases hx;have h1:=nat_beq h1;subst h1;refine⟨b.map fun b=> .int .u8 b.toNat,0,?_,by simp[lenOfT],by simp[srcOk,hu],hs.zero,by simp,fun t ht=> ?_⟩
   ·simp only[srcCells,List.flatMap_map];congr 1
    induction b with
    |nil=>rfl
    |cons a r ih=>simp only[List.map_cons,List.flatMap_cons,T.cells,ih];rfl
   ·obtain⟨a,_,rfl⟩:=List.mem_map.1 ht;have:=UInt8.toNat_lt a;exact⟨.ival _ _ _ _ (by omega) (by omega) (by simp only[InK,IntKind.min,IntKind.max,IntKind.bits,IntKind.signed];simp;omega),rfl⟩
  ·cases h
 ·have hu:=‹P.underlying tx=_›;split at h
  ·rename_i h1;cases h;cases hx with
   |str _ _ v b g1 g2=>
   have h1:=nat_beq h1;subst h1;refine⟨b.map fun b=> .int .u8 b.toNat,v,?_,by simp[lenOfT],by simp[srcOk,hu],g1,by simpa using g2,fun t ht=> ?_⟩
   ·simp only[srcCells,List.flatMap_map];congr 1;clear g2 hsz
    induction b with
    |nil=>rfl
    |cons a r ih=>simp only[List.map_cons,List.flatMap_cons,T.cells,ih];rfl
   ·obtain⟨a,_,rfl⟩:=List.mem_map.1 ht;have:=UInt8.toNat_lt a;exact⟨.ival _ _ _ _ (by omega) (by omega) (by simp only[InK,IntKind.min,IntKind.max,IntKind.bits,IntKind.signed];simp;omega),rfl⟩
  ·cases h
 ·cases h
end
end Go.Ps
namespace Go.Ps
variable[Inhabited Prd]
section
variable{ρ ρ':List Int}{μ μ':List (Option Nat)}{X:AX}{gl:Nat→Option T}{pe:Hp→FuncId→List T→Option T}{H:Hp}{S:AS}{P:Program}
theorem aliasRow_ok{hp:List (Nat×AO)}{n nl:Nat}{cs:List Con}(hs:Sy ρ n cs)(hh:GH hp nl ρ μ H){e:TypeId}{sz:Nat}{a:A}{s:Nat}{c v:Int}(hv:ρ[s]? =some v){r:T}
  (h:(r= .nils∧v+c=0)∨∃(x:Nat) (ts:List T) (b:Ob),r= .osl x sz 0 ts.length∧(ts.length:Int)=v+c∧x<H.next∧(∀l q,findA hp l=some q→μ[l]? ≠some (some x))∧H.get x=some b∧b.elem=e∧(b.sz=sz∧(e=5→b.cells≠[]))∧b.cells=ts.flatMap T.cells∧∀t∈ts,Gm ρ μ a t∧t.cells.length=sz):
  ROk ρ μ ⟨.osl nl sz 0 0 s c,(nl,.row e sz a s c)::hp,n,nl+1,cs⟩ r H:=by
 rcases h with⟨rfl,h0⟩|⟨x,ts,b,rfl,h1,h2,h3,h4,h5,h6,h7,h8⟩
 ·exact⟨ρ,μ++[none],.refl _,.app _ _,hs,hh.alias (fun _ _ h=>by cases h) (fun x hx=>by cases hx),.osl0 _ _ _ _ _ _ 0 v (app_last hh.len _) hs.zero (by omega) hv h0⟩
 ·refine⟨ρ,μ++[some x],.refl _,.app _ _,hs,hh.alias (fun _ _ h=>by cases h) (fun y hy=> ?_),?_⟩
  ·cases hy;exact⟨h2,h3,b,h4,h5,h6,ts,v,hv,h1,h7,fun t ht=>⟨(h8 t ht).1.ext (.refl _) (.app _ _),(h8 t ht).2⟩⟩
  ·have:=Gm.osl (ρ:=ρ) (μ:=μ++[some x]) nl sz 0 0 s c x 0 v (app_last hh.len _) hs.zero (by omega) hv (by omega);rw[←h1]at this;simpa using this
theorem ROk.lift{n nl:Nat}{cs:List Con}{hp:List (Nat×AO)}{R:AR}{t:T}{ρ1:List Int}(he:Ext ρ ρ1)(h:ROk ρ1 μ R t H):ROk ρ μ R t H:=by
 obtain⟨a,b,h1,h2,h3⟩:=h;exact⟨a,b,he.trans h1,h2,h3⟩
theorem upOf_ok{cs:List Con}(hc:HoldCs ρ cs)(h0:ρ[0]? =some 0){s:Nat}{c v u:Int}(hv:ρ[s]? =some v)(h:upOf cs s c=some u):v+c≤u:=by
 unfold upOf at h;split at h
 ·cases h;have:=leq_ok hc ‹_› hv h0;omega
 ·split at h
  ·cases h;have:=leq_ok hc ‹_› hv h0;omega
  ·split at h
   ·cases h;have:=leq_ok hc ‹_› hv h0;omega
   ·split at h
    ·cases h;have:=leq_ok hc ‹_› hv h0;omega
    ·cases h
theorem appendNA_ok(hs:Sy ρ S.nx S.cs)(hh:GH S.hp S.nl ρ μ H){t tx:TypeId}{s x:A}{s' y:T}(hS:Gm ρ μ s s')(hx:Gm ρ μ x y){R:AR}(h:appendNA P S t tx s x=some R):
  ∃r H',appendN P H t tx s' y=some (r,H')∧ROk ρ μ R r H':=by
 unfold appendNA at h;split at h
 ·rename_i e es c hu;split at h
  ·rename_i e2 i hu2 hi;split at h
   ·rename_i hc;simp only[Bool.and_eq_true,beq_iff_eq,ile,decide_eq_true_eq]at hc;obtain⟨c1,c2,c3,c4,c5,c6,c7⟩:=hc;have c1:1<i.size:=by simpa using c1
    have c2:=nat_beq c2;cases h;cases hS;cases hx with
    |sl _ _ _ _ xs w h1 q1 q2 q3=>
    rw[hs.zero]at q1;cases q1;have hl:(xs.length:Int)=c:=by omega
    have hne:xs≠[]:=fun e=>by rw[e]at hl;simp at hl;omega
    have hxs:xsOf y=some xs:=by
     rcases h1 with⟨rfl,rfl⟩|⟨f,rfl⟩|⟨full,m,f,rfl,rfl⟩
     ·exact absurd rfl hne
     ·rfl
     ·rfl
    have hsrc:srcOk P tx i.size y=true:=by
     unfold srcOk;rw[hu2];rcases h1 with⟨rfl,rfl⟩|⟨f,rfl⟩|⟨full,m,f,rfl,rfl⟩<;>rfl
    have hcell:∀u∈xs,u.cells.length=i.size∧allOne u.cells=true:=fun u hm=>by
     have:=q3 u hm;cases this with
     |agg _ ts g1 g2=>
      refine⟨by show ts.length=_;rw[←g1];exact c2,?_⟩;exact allOneA_ok (⟨g1,g2⟩:GmL ρ μ es ts) c3
    have hall:∀l:List T,(∀u∈l,allOne u.cells=true)→allOne (l.flatMap T.cells)=true:=by
     intro l
     induction l with
     |nil=>intro _;rfl
     |cons u r ih=>
      intro hq;rw[List.flatMap_cons];have h1:=hq u (by simp);have h2:=ih (fun w hw=>hq w (by simp[hw]));generalize u.cells=q at h1
      induction q with
      |nil=>exact h2
      |cons z q ih2=>simp only[allOne,Bool.and_eq_true,List.cons_append]at h1⊢;exact⟨h1.1,ih2 h1.2⟩
    refine⟨.sl false xs,H,?_,?_⟩
    ·unfold appendN;rw[hu,hxs];simp only[hi];rw[if_neg];rintro(q|q|q|q|q|q|q)
     ·omega
     ·exact hne (List.isEmpty_iff.1 q)
     ·rw[List.all_eq_true.2 (fun u hm=>by simpa using(hcell u hm).1)]at q;cases q
     ·rw[hall xs (fun u hm=>(hcell u hm).2)]at q;cases q
     ·exact q c4
     ·rw[hsrc]at q;cases q
     ·have:roomT xs.length i.bytes=true:=by
       unfold roomT;simp only[Bool.and_eq_true,decide_eq_true_eq];constructor
       ·have:((xs.length*i.bytes:Nat):Int)≤70368744177664:=by rw[Int.natCast_mul,hl];exact c6
        omega
       ·omega
      rw[this]at q;cases q
    ·exact⟨ρ,μ,.refl _,.refl _,hs,hh,.sl _ _ _ _ xs 0 (.inr (.inl ⟨false,rfl⟩)) hs.zero (by omega) q3⟩
   ·cases h
  ·cases h
 ·cases h
theorem appendA_ok(hs:Sy ρ S.nx S.cs)(hh:GH S.hp S.nl ρ μ H){t tx:TypeId}{s x:A}{s' y:T}(hS:Gm ρ μ s s')(hx:Gm ρ μ x y){R:AR}(h:appendA P S t tx s x=some R):
  ∃r H',appendT P H t tx s' y=some (r,H')∧ROk ρ μ R r H':=by
 unfold appendA at h;split at h
 ·rename_i e hu;split at h
  ·rename_i i hi;split at h
   ·rename_i el sm cm hsrc;split at h
    ·cases h
    ·rename_i hc;simp only[Bool.or_eq_true,not_or,Bool.not_eq_true',Bool.not_eq_false,beq_iff_eq]at hc;obtain⟨⟨⟨⟨c1,c2⟩,c3⟩,c4⟩,c5⟩:=hc;have c3:el.known=true:=by simpa using c3
     have c4:el.cells.length=i.size:=nat_beq (by simpa using c4);have c5:allOneA el.cells=true:=by simpa using c5
     obtain⟨us,vm,u1,u2,u3,u4,u5,u6⟩:=srcA_ok hs hh hx hsrc c3 c4;have hall:allOne (us.flatMap T.cells)=true:=by
      clear u1 u2 u5
      induction us with
      |nil=>rfl
      |cons u r ih=>
       rw[List.flatMap_cons];have h1:=allOneA_ok (known_gm (u6 u (by simp)).1 c3).2 c5;have h2:=ih (fun w hw=>u6 w (by simp[hw]));clear ih u6;generalize u.cells=q at h1
       induction q with
       |nil=>exact h2
       |cons z q ih2=>simp only[allOne,Bool.and_eq_true,List.cons_append]at h1⊢;exact⟨h1.1,ih2 h1.2⟩
     have hfl:=flat_len us (fun u hu=>(u6 u hu).2);have guard:¬(i.size=0∨(us.flatMap T.cells).length≠us.length*i.size∨allOne (us.flatMap T.cells)=false∨(i.zero.map fun z=>z.cells.size)≠some i.size∨srcOk P tx i.size y=false):=by
      rintro(q|q|q|q|q)
      ·exact c1 q
      ·exact q hfl
      ·rw[hall]at q;cases q
      ·exact q c2
      ·rw[u3]at q;cases q
     have nilCase:∀(b:A) (q:Nat) (d w:Int) (ρ1:List Int) (n1:Nat) (cs1:List Con) (hp1:List (Nat×AO)),Ext ρ ρ1→Sy ρ1 n1 cs1→GH hp1 S.nl ρ1 μ H→ρ1[q]? =some w→w+d=us.length→
       (us.length:Int)≤70368744177664/((i.bytes:Int)+1)→(∀u,Gm ρ μ el u→Gm ρ μ b u)→
       ∃r H',appendT P H t tx .nils y=some (r,H')∧ROk ρ μ ⟨.osl S.nl i.size 0 0 q d,(S.nl,.row e i.size b q d)::hp1,n1,S.nl+1,cs1⟩ r H':=by
      intro b q d w ρ1 n1 cs1 hp1 e1 s1 g1 hw hwd hroom hb;by_cases h0:us.length=0
      ·refine⟨.nils,H,?_,ROk.lift (n:=0) (nl:=0) (cs:=[]) (hp:=[]) e1 (aliasRow_ok s1 g1 hw (.inl ⟨rfl,by omega⟩))⟩;simp only[appendT,hu,hi,u1,u2];rw[if_neg guard];simp only[h0,if_true]
      ·have:=newRow_ok (S:=⟨[],hp1,n1,S.nl,cs1⟩) s1 g1 (e:=e) (sz:=i.size) (a:=b) (s:=q) (c:=d) (v:=w) (ts:=us) hw (by omega) (fun u hu=>⟨(hb u (u6 u hu).1).ext e1 (.refl _),(u6 u hu).2⟩) (fun _ =>flat_ne (fun u hu=>(u6 u hu).2) c1 h0);refine⟨_,_,?_,ROk.lift (n:=0) (nl:=0) (cs:=[]) (hp:=[]) e1 this⟩;simp only[appendT,hu,hi,u1,u2];rw[if_neg guard,if_neg h0,if_pos (room_ok hroom)]
     split at h
     ·split at h
      ·rename_i hcc;simp only[Bool.and_eq_true]at hcc;have k2:=leq_ok hs.cs hcc.2 u4 hs.zero;cases h;cases hS;exact nilCase el sm cm vm ρ S.nx S.cs S.hp (.refl _) hs hh u4 (by omega) (by omega) (fun u hu=>hu)
      ·cases h
     ·rename_i l sz si ci s0 c0;split at h
      ·rename_i e' sz' a q0 d0 hl;split at h
       ·rename_i hcc;simp only[Bool.and_eq_true,beq_iff_eq]at hcc;obtain⟨⟨⟨⟨⟨⟨⟨k1,k2⟩,k3⟩,k4⟩,k5⟩,k6⟩,k7⟩,k8⟩:=hcc;have k1:=nat_beq k1;have k2:=nat_beq k2;have k3:=nat_beq k3;have k4:=nat_beq k4;have k6:=nat_beq k6;subst k3 k4 k5 k6 k7;subst k1;split at h
        ·rename_i b hb;split at h
         ·rename_i hbb;simp only[Bool.and_eq_true]at hbb;obtain⟨⟨⟨⟨b1,b2⟩,b3⟩,b4⟩,b5⟩:=hbb;have b4:=leq_ok hs.cs b4 hs.zero u4;obtain⟨j1,j2⟩:=jnT_ok (μ:=μ) hs.cs hs.zero hb;have main:∀(q:Nat) (d w:Int) (ρ1:List Int) (n1:Nat) (cs1:List Con),Ext ρ ρ1→Sy ρ1 n1 cs1→ρ1[q]? =some w→(∀v0,ρ[s0]? =some v0→w+d=v0+c0+(vm+cm))→
            w+d≤70368744177664/((i.bytes:Int)+1)→
            ∃r H',appendT P H t tx s' y=some (r,H')∧ROk ρ μ ⟨.osl S.nl i.size 0 0 q d,(S.nl,.row e' i.size b q d)::dropA S.hp l,n1,S.nl+1,cs1⟩ r H':=by
           intro q d w ρ1 n1 cs1 e1 s1 hw hwd hroom
           have hdrop:GH (dropA S.hp l) S.nl ρ μ H:=hh.sub (fun m o hm=>by
            rw[findA_drop]at hm;split at hm
            ·cases hm
            ·exact hm)
           cases hS with
           |osl0 _ _ _ _ _ _ vi v0 g1 g2 g3 g4 g5=>
            have:=hwd v0 g4;exact nilCase b q d w ρ1 n1 cs1 (dropA S.hp l) e1 s1 (hdrop.ext e1) hw (by omega) (by omega) j2
           |osl _ _ _ _ _ _ l' vi v0 g1 g2 g3 g4 g5=>
            have hlen:=hwd v0 g4;obtain⟨ob,o1,o2,o3,ts,v1,r1,r2,r3,r4⟩:=hh.at hl g1;rw[g4]at r1;cases r1;rw[hs.zero]at g2;cases g2;have htl:(v0+c0).toNat=ts.length:=by omega
            by_cases h0:us.length=0
            ·refine⟨.osl l' sz' 0 ts.length,H,?_,ROk.lift (n:=0) (nl:=0) (cs:=[]) (hp:=[]) e1 (aliasRow_ok s1 (hdrop.ext e1) hw (.inr ⟨l',ts,ob,by rw[k2],by omega,hh.lt l l' g1,fun m o hm he=> ?_,o1,o2,⟨by rw[o3.1,k2],o3.2⟩,r3,fun u hu=>⟨(j1 u (r4 u hu).1).ext e1 (.refl _),by rw[←k2];exact(r4 u hu).2⟩⟩))⟩
             ·simp only[appendT,hu,hi,u1,u2];rw[if_neg guard];simp only[Int.add_zero,Int.toNat_zero,h0,if_true,htl,k2]
             ·rw[findA_drop]at hm;split at hm
              ·cases hm
              ·rename_i hne;exact hne (hh.inj l m _ o l' hl hm g1 he)
            ·have hgd:=hh.dropR hl g1
             have hnr:=newRow_ok (S:=⟨[],dropA S.hp l,n1,S.nl,cs1⟩) (H:=H.drop l') s1 (hgd.ext e1) (e:=e') (sz:=i.size) (a:=b) (s:=q) (c:=d) (v:=w) (ts:=ts++us) hw (by rw[List.length_append];omega) (fun u hu=>by
              rcases List.mem_append.1 hu with hu|hu
              ·exact⟨(j1 u (r4 u hu).1).ext e1 (.refl _),by rw[←k2];exact(r4 u hu).2⟩
              ·exact⟨(j2 u (u6 u hu).1).ext e1 (.refl _),(u6 u hu).2⟩) (fun _ =>flat_ne (sz:=i.size) (fun u hu=>by
              rcases List.mem_append.1 hu with hu|hu
              ·rw[←k2];exact(r4 u hu).2
              ·exact(u6 u hu).2) c1 (by rw[List.length_append];omega))
             refine⟨_,_,?_,ROk.lift (n:=0) (nl:=0) (cs:=[]) (hp:=[]) e1 hnr⟩;simp only[appendT,hu,hi,u1,u2];rw[if_neg guard];simp only[Int.add_zero,Int.toNat_zero,htl,o1];rw[if_neg h0,if_pos ⟨by first|exact k2|trivial,by rw[o3.1,k2],o2,by rw[r3,flat_len ts (fun u hu=>(r4 u hu).2),k2],room_ok (by push_cast;omega)⟩];simp only[r3,List.flatMap_append,List.length_append,Hp.drop]
          split at h
          ·rename_i q d hq;split at h
           ·rename_i hroom;cases h;have:∃v0,ρ[s0]? =some v0:=by cases hS with
             |osl0 _ _ _ _ _ _ vi v0 g1 g2 g3 g4 g5=>exact⟨v0,g4⟩
             |osl _ _ _ _ _ _ l' vi v0 g1 g2 g3 g4 g5=>exact⟨v0,g4⟩
            obtain⟨v0,hv0⟩:=this;obtain⟨w,w1,w2⟩:=sumL_ok hs.zero hv0 u4 hq;have hroom:=leq_ok hs.cs hroom w1 hs.zero;exact main q d w ρ S.nx S.cs (.refl _) hs w1 (fun v h=>by rw[hv0]at h;cases h;exact w2) (by omega)
           ·cases h
          ·split at h
           ·rename_i hroom;cases h;have:∃v0,ρ[s0]? =some v0:=by cases hS with
             |osl0 _ _ _ _ _ _ vi v0 g1 g2 g3 g4 g5=>exact⟨v0,g4⟩
             |osl _ _ _ _ _ _ l' vi v0 g1 g2 g3 g4 g5=>exact⟨v0,g4⟩
            obtain⟨v0,hv0⟩:=this;simp only[Bool.and_eq_true]at hroom;have h1:=leq_ok hs.cs hroom.1 hv0 hs.zero;have h2:=leq_ok hs.cs hroom.2 u4 hs.zero;have b5:=leq_ok hs.cs b5 hs.zero hv0;obtain⟨e1,e2,e3,e4⟩:=hs.new (v0+c0+(vm+cm));have hk:(35184372088832:Int)/((i.bytes:Int)+1)+35184372088832/((i.bytes:Int)+1)≤70368744177664/((i.bytes:Int)+1):=by
             apply Int.le_ediv_of_mul_le (by omega);have:=Int.ediv_mul_le (35184372088832:Int) (b:=(i.bytes:Int)+1) (by omega);rw[Int.add_mul];omega
            have hk2:(70368744177664:Int)/((i.bytes:Int)+1)≤70368744177664:=Int.ediv_le_self _ (by omega);have up:∀{r:List Con},HoldCs (ρ++[v0+c0+(vm+cm)]) r→HoldCs (ρ++[v0+c0+(vm+cm)]) (upC S.cs s0 c0 sm cm S.nx r):=fun{r} hr=>by
             unfold upC;split
             ·rename_i u hu;have:=upOf_ok hs.cs hs.zero u4 hu;exact .cons ⟨_,v0,e2,e1 _ _ hv0,by omega⟩ hr
             ·exact hr
            exact main S.nx 0 _ (ρ++[v0+c0+(vm+cm)]) (S.nx+1) _ e1 ⟨e3,e4,up<| .cons ⟨v0,_,e1 _ _ hv0,e2,by omega⟩ (.cons ⟨vm,_,e1 _ _ u4,e2,by omega⟩ (.cons ⟨0,_,e4,e2,by omega⟩ (.cons ⟨_,0,e2,e4,by omega⟩ (hs.cs.ext e1))))⟩ e2
             (fun v h=>by rw[hv0]at h;cases h;omega) (by omega)
           ·cases h
         ·cases h
        ·cases h
       ·cases h
      ·cases h
     ·cases h
   ·cases h
  ·cases h
 ·cases h
end
end Go.Ps
