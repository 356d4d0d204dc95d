/- Texts merged: Mc, Ma, Bl. -/
import Derived.Test.YthfdachbgpjafaaGreatDoorXa4
import Derived.Test.YthfdachbgpjafaaGreatDoorProg
import Derived.KernelRfl
import Derived.Test.YthfdachbgpjafaaGreatDoorXa2
import Derived.Lib.AtoiAllCases
import Derived.Shelf.Strings.OnBuilder
import Derived.Test.YthfdachbgpjafaaGreatDoorXa1
set_option linter.unusedSimpArgs false
set_option linter.unusedVariables false
set_option linter.unusedSectionVars false
namespace Go.Proofs.Tryz
noncomputable section
open Go.Ps
set_option maxRecDepth 100000
def ifull:A:= .ival .i64 (-9223372036854775808) 9223372036854775807
def err:A:= .ival .i64 0 255
def cIdx:A:= .ival .i64 0 4611686018427387904
def txt(n:Int):A:= .strv 0 n
def cBig:Int:=9223372036854775807
def a6:List A:=[ifull,ifull,ifull,txt 0,.sxv 0 0,.sxv 0 0]
def a5:List A:=[ifull,ifull,txt 0,.sxv 0 0,.sxv 0 0]
def vA(t w:Int):Nat→List A
 |0=>[ifull,ifull,ifull,txt t,.slv (.agg a6) 0 0,.slv (.agg (txt 0::a6)) 0 0]
 |d+1=>[ifull,ifull,ifull,txt t,.slv (.agg (vA t w d)) 0 w,.slv (.agg (txt t::vA t w d)) 0 w]
def eA:Nat→List A
 |0=>[ifull,ifull,txt 60,.slv (.agg (vA 40 6 1)) 0 2,.slv (.agg a5) 0 0]
 |d+1=>[ifull,ifull,txt 60,.slv (.agg (vA 40 6 1)) 0 2,.slv (.agg (eA d)) 0 4]
def vI:Nat→List A
 |0=>[ifull,ifull,ifull,txt cBig,.sxv 0 cBig,.sxv 0 cBig]
 |d+1=>[ifull,ifull,ifull,txt cBig,.slv (.agg (vI d)) 0 cBig,.slv (.agg (txt cBig::vI d)) 0 cBig]
def eI:Nat→List A
 |0=>[ifull,ifull,txt cBig,.slv (.agg (vI 1)) 0 cBig,.sxv 0 cBig]
 |d+1=>[ifull,ifull,txt cBig,.slv (.agg (vI 1)) 0 cBig,.slv (.agg (eI d)) 0 cBig]
def partA3:A:= .agg [ifull,ifull,txt 1000000]
def cOne(n:Int):A:= .ival .i64 n n
def upTo(i n:Tmp):LA:={sp:=[(i,.a cIdx)],ms:= .up (.slot i) (.slot n) 0}
def rowTo(i out:Tmp)(e:TypeId)(sz:Nat)(a:A)(m:Int):LA:={sp:=[(i,.a cIdx),(out,.row e sz a 0 m)],cons:=[(.slot out,.slot i,0)],ms:= .up (.slot i) .zero m,m0:=m}
def fld(d j:Tmp)(i:Tmp)(e:TypeId)(sz:Nat)(a:A)(m:Int):LA:={sp:=[(i,.a cIdx)],oc:=[(d,j,.row e sz a 0 m)],cons:=[(.cell d j,.slot i,0)],ms:= .up (.slot i) .zero m,m0:=m}
def peS:FuncId→List A→Nat→List Con→Option AV:=fun f l n cs=>
 if Nat.beq f 115 then match l with
  |[s,.strc b]=>if beqS b [46,91,63]then match lenS s with
   |some (x,c)=>if leq cs x c 0 4000000000 then some ⟨.int .i64 n 0,n+1,.le 0 n 1:: .le n x (c-1):: .le n 0 1000000000000000000::cs⟩else none
   |none=>none
   else none
  |_ =>none
 else if Nat.beq f 207 then match l with
  |[s,t]=>match lenS s,lenS t with
   |some (x,c),some _ =>if leq cs x c 0 4000000000 then some ⟨.tup [.str n 0,.str (n+1) 0,.bool boTop],n+2,.le 0 n 0:: .le n x c:: .le 0 (n+1) 0:: .le (n+1) x c::cs⟩else none
   |_,_ =>none
  |_ =>none
 else if Nat.beq f 208 then match l with
  |[s]=>match lenS s with
   |some (x,c)=>if leq cs x c 0 4000000000 then some (matV (.tup [ifull,.or [.nili,.ifc]]) n cs)else none
   |none=>none
  |_ =>none
 else if Nat.beq f 56 then match l with
  |[s]=>match lenS s with
   |some (x,c)=>if leq cs x c 0 4000000000 then some ⟨.bool boTop,n,cs⟩else none
   |none=>none
  |_ =>none
 else if Nat.beq f 40 then match l with
  |[.int .i64 _ _]=>some (matV (.strv 0 40) n cs)
  |_ =>none
 else none
def cmem(l:List Nat):FuncId→Bool:=fun f=>memN f l
def anK:FuncId→An:=fun f=>
 if Nat.beq f 26 then .node .leaf (.node .leaf (.node (.node .leaf (.loop (upTo 16 15) .leaf)) .leaf))
 else if Nat.beq f 273 then .node .leaf (.node (.node .leaf (.loop (upTo 7 6) .leaf)) .leaf)
 else if Nat.beq f 280 then .node .leaf (.node .leaf (.node (.node .leaf (.loop (upTo 16 15) .leaf)) .leaf))
 else if Nat.beq f 283 then .node .leaf (.node .leaf (.node (.node .leaf (.loop {upTo 17 16 with oc:=[(5002,0,.a ifull),(3002,0,.a err)]} .leaf)) .leaf))
 else if Nat.beq f 317 then .node .leaf (.node (.node .leaf (.node .leaf (.node .leaf (.node .leaf (.node (.node .leaf (.node (.node .leaf (.loop {rowTo 18 3 36 6 (.agg (vA 40 6 0)) 6 with cons:=[(.slot 3,.slot 18,0),(.slot 18,.slot 17,0)]} .leaf)) .leaf)) .leaf))))) .leaf)
 else if Nat.beq f 137 then .node .leaf (.node .leaf (.node .leaf (.node (.node .leaf (.node .leaf (.loop {oc:=[(4,0,.a ifull),(2,0,.a err)],ms:= .down .zero} .leaf))) .leaf)))
 else if Nat.beq f 57 then .node .leaf (.node .leaf (.node .leaf (.node .leaf (.node .leaf (.node (.node .leaf (.loop {upTo 25 24 with oc:=[(2,0,.a ifull)]} .leaf)) .leaf)))))
 else if Nat.beq f 92 then .node .leaf (.node .leaf (.node .leaf (.node (.node .leaf (.loop {sp:=[(5,.a (txt 61)),(4,.row 165 3 partA3 0 100)],cons:=[(.slot 4,.ghost,0)],ms:= .down (.slot 5),m0:=61} .leaf)) .leaf)))
 else if Nat.beq f 141 then .node .leaf (.node (.node .leaf (.loop (upTo 8 7) .leaf)) .leaf)
 else if Nat.beq f 209 then .node .leaf (.node .leaf (.node (.node .leaf (.loop (upTo 25 24) .leaf)) .leaf))
 else .leaf
def poK:FuncId→Option Post:=fun f=>
 if Nat.beq f 57 then some {res:=err,oc:=[(2,0,.a ifull)]}
 else if Nat.beq f 91 then some {res:=err}
 else if Nat.beq f 88 then some {res:= .tup [ifull,ifull]}
 else if memN f [89,90,138,93]then some {res:= .bool boTop}
 else none
def jrK:FuncId→Nat→Bool:=fun f r=>Nat.beq f 205||Nat.beq f 60||Nat.beq f 26||Nat.beq f 209&&Nat.beq r 6||Nat.beq f 58&&(Nat.beq r 6||Nat.beq r 4||Nat.beq r 21)
def kX(pe:FuncId→List A→Nat→List Con→Option AV)(t i:List Nat):AX:={gl:=fun _ =>none,pe:=pe,inl:=cmem i,top:=cmem t,own:=fun f s=> !(Nat.beq f 272&&Nat.beq s 9),jr:=jrK,an:=anK,post:=poK,lk:=true}
def c209:Ctr:=⟨209,[txt 1000000],.bool boTop⟩
def c92:Ctr:=⟨92,[txt 60],.tup [.slv partA3 0 100,err]⟩
def c137:Ctr:=⟨137,[.agg (vA 40 6 1)],err⟩
def c58:Ctr:=⟨58,[.agg (eA 3)],err⟩
def kq(f0:FuncId)(pq:List A→Nat→List Con→Option AV)(pa:FuncId→List A→Nat→List Con→Option AV):FuncId→List A→Nat→List Con→Option AV:=fun f l n cs=>if Nat.beq f0 f then pq l n cs else pa f l n cs
def lK1:List Ctr:=[c209]
def cK1:=kX peS [209] []
def pK1:=peTab lK1 peS
def cR(f:Nat):Ctr:=⟨f,[.agg (vA 40 6 1)],err⟩
def c205:Ctr:=⟨205,[.agg (vA 40 6 1)],.bool boTop⟩
def c60:Ctr:=⟨60,[.agg (vA 40 6 1)],.bool boTop⟩
def c317a:Ctr:=⟨317,[.agg (vA 40 6 0)],.slv (.agg a6) 0 0⟩
def c317b:Ctr:=⟨317,[.agg (vA 40 6 1)],.slv (.agg (vA 40 6 0)) 0 6⟩
def c26:Ctr:=⟨26,[txt 100],.bool boTop⟩
def c27:Ctr:=⟨27,[txt 1000000],.bool boTop⟩
def uT:Nat→Int
 |0=>2000
 |d+1=>4*(uT d+20)
def tB:Int:=uT 3
def wB:Int:=200000
def vT(t:Int)(d:Nat):List A:=vA t wB d
def vW(d:Nat):List A:=vA tB wB d
def c60b:Ctr:=⟨60,[.agg (vT (uT 3) 5)],.bool boTop⟩
def lR:List Ctr:=[cR 269,cR 271,cR 272,cR 274,cR 276,cR 277,cR 278,cR 279,cR 280,cR 281,c205,c60,c60b,c317a,c317b,c26,c27]
def c270:Ctr:=⟨270,[ifull,ifull,ifull],err⟩
def c273:Ctr:=⟨273,[.slv err 0 10],err⟩
def c275:Ctr:=⟨275,[ifull,ifull,err],err⟩
def lKq:List Ctr:=[c270,c273,c275]
def cKq:=kX pK1 [270,273,275] []
def pKq:=peTab lKq pK1
def cKr:=kX pKq [26,27,60,205,317,269,271,272,274,276,277,278,279,280,281] []
def pKr:=peTab lR pKq
def cKv:=kX pKr [137,203,204,282,283,92,139,140,197,206,262] [203,204,282,283]
def cK3:=kX pKr [137,203,204,282,283,92,139,140,197,206,262] [139,140,197,206,262]
def lK3:List Ctr:=[c92]++[c137]
def pK3:=peTab lK3 pKr
def cK4:=kX pK3 [58,88,89,90,91,93,94,138,141] [88,89,90,91,93,94,138,141]
def argE(d:Nat)(lo hi:Int):A:=match d with
 |0=> .slv (.agg a5) 0 0
 |d+1=> .slv (.agg (eA d)) lo hi
def vsl(lo hi:Int):A:= .slv (.agg (vA 40 6 1)) lo hi
def lowE(k:Int):Int:=if k=1∨k=2∨k=22∨k=26 then 0 else if k=3∨k=16∨k=18∨k=19∨k=20∨k=27∨k=28 then 1 else if k=21∨k=24 then 3 else 2
def opsN:List Int:=[3,4,5,6,7,8,9,10,11,12,13,14,15,16,17,18,19,20,21,23,24,25,27,28]
def rootB(d:Nat):List (List A):=
 [.ival .i64 (-9223372036854775808) 0,ifull,txt 60,vsl 0 2,argE d 0 4]::
 [.ival .i64 29 9223372036854775807,ifull,txt 60,vsl 0 2,argE d 0 4]::
 [.ival .i64 1 1,ifull,txt 60,vsl 0 0,argE d 0 4]::
 [.ival .i64 1 1,ifull,txt 60,vsl 2 2,argE d 0 4]::
 opsN.map fun k=>[.ival .i64 k k,ifull,txt 60,vsl 0 2,argE d 0 (lowE k-1)]
def kidB(d n i:Nat):List A:=[ifull,ifull,txt 60,vsl 0 2,.slk ((List.range n).map fun j=>if Nat.beq j i then .prd (200+d+1) (eA d)else .agg (eA d))]
def argV(d:Nat)(lo:Int):A:=match d with
 |0=> .slv (.agg a5) 0 0
 |d+1=> .slv (.prd (100+d+1) (eA d)) lo 4
def opsAll(d:Nat):List Int:=match d with
 |0=>[1,2,22,26]
 |_ +1=>[1,2,3,4,5,6,7,8,9,10,11,12,13,14,15,16,17,18,19,20,21,22,23,24,25,26,27,28]
def okE(d:Nat)(k:Int):List A:=[.ival .i64 k k,ifull,txt 60,(if k=1 then vsl 1 1 else vsl 0 2),argV d (lowE k)]
def badN:A:= .ival .i64 1 255
def l58b:List Ctr:=(rootB 3).map fun r=>⟨58,[.agg r],badN⟩
def l58:List Ctr:=l58b++[c58]
def cK4b:AX:={cK4 with post:=fun _ =>none}
def pK4:=peTab l58 pK3
def peN:=pK4
def anS(d:Nat):FuncId→An:=fun f=>
 if Nat.beq f 29 then .node .leaf (.node .leaf (.node .leaf (.node .leaf (.node (.node .leaf (.loop (rowTo 7 5 36 6 (.agg (vA 40 6 (d-1))) (if Nat.beq d 0 then 0 else 6)) .leaf)) (.node (.node .leaf (.loop (rowTo 8 6 114 7 (.agg (txt 40::vA 40 6 (d-1))) (if Nat.beq d 0 then 0 else 6)) .leaf)) .leaf)))))
 else if Nat.beq f 55 then .node .leaf (.node .leaf (.node .leaf (.node (.node .leaf (.loop (rowTo 6 5 36 6 (.agg (vA 40 6 1)) 2) .leaf)) (.node .leaf (.node (.node .leaf (.loop (rowTo 8 7 66 5 (.agg (eA (d-1))) (if Nat.beq d 0 then 0 else 4)) .leaf)) .leaf)))))
 else if Nat.beq f 23 then .node .leaf (.node .leaf (.node (.node .leaf (.loop (fld 3 0 4 68 6 (.agg (txt 60::eA 3)) 8) .leaf)) .leaf))
 else if Nat.beq f 8 then .node .leaf (.node .leaf (.node (.node .leaf (.loop (fld 3 0 4 68 6 (.agg (txt 0::eI 3)) 2) .leaf)) (.node .leaf (.node .leaf (.node (.node .leaf (.loop (fld 1 4 5 66 5 (.agg (eA 3)) 8) .leaf)) .leaf)))))
 else .leaf
def c29(d:Nat):Ctr:=⟨29,[.agg (vI d),cOne (d+1)],.agg (vA 40 6 d)⟩
def c55(d:Nat):Ctr:=⟨55,[.agg (eI d),cOne (d+1)],.agg (eA d)⟩
def c8:Ctr:=⟨8,[.agg [txt cBig,txt cBig,ifull,ifull,.slv (.agg (eI 3)) 0 cBig]],.agg [txt 100,txt 100,ifull,ifull,.slv (.agg (eA 3)) 0 8]⟩
def cOwn:FuncId→Tmp→Bool:=fun f s=> !(Nat.beq f 29&&Nat.beq s 84||Nat.beq f 8&&(Nat.beq s 25||Nat.beq s 46)||Nat.beq f 23&&Nat.beq s 41)
def cS(d:Nat)(pe:FuncId→List A→Nat→List Con→Option AV)(t i:List Nat):AX:={gl:=fun _ =>none,pe:=pe,inl:=fun f=>memN f i,top:=fun f=>memN f t,own:=cOwn,jr:=fun _ _ =>false,an:=anS d,post:=fun _ =>none}
def l29:Nat→List Ctr
 |0=>[]
 |d+1=>c29 d::l29 d
def pZ:Nat→(FuncId→List A→Nat→List Con→Option AV)
 |0=>peN
 |d+1=>peTab (l29 (d+1)) (pZ d)
def pS3:=peTab [c55 0] (pZ 5)
def pS4:=peTab [c55 0,c55 1] pS3
def pS5:=peTab [c55 0,c55 1,c55 2] pS4
def pS6:=peTab [c55 0,c55 1,c55 2,c55 3] pS5
def pS7:=peTab [c8] pS6
def c12:Ctr:=⟨12,[.agg ([ifull,.slv ifull 0 cBig,ifull,.slv ifull 0 cBig]++vI 4)],.agg ([ifull,.slv ifull 0 6,ifull,.slv ifull 0 6]++vA 40 6 4)⟩
def pS8:=peTab [c12] pS7
def fnCell:A:= .fn 57 [] [.ptr 0 0,.ptr 1 0]
def sCk(e r:A):Smy:=⟨57,[e,ifull,.ptr 0 0,.ptr 1 0],[(3,[ifull],[ifull]),(112,[fnCell],[fnCell])],r⟩
def sAny(d:Nat):Smy:=sCk (.agg (eA d)) err
def sBad(d:Nat):Smy:=sCk (.prd (200+d+1) (eA d)) badN
def sRoot(d:Nat):List Smy:=(rootB d).map fun r=>sCk (.agg r) badN
def sKid(e:Nat):List Smy:=[(1,0),(2,0),(2,1),(3,0),(3,1),(3,2),(4,0),(4,1),(4,2),(4,3)].map fun q=>sCk (.agg (kidB e q.1 q.2)) badN
def anKu:FuncId→An:=fun f=>if Nat.beq f 57 then .node .leaf (.node .leaf (.node .leaf (.node .leaf (.node .leaf (.node (.node .leaf (.unl [.leaf,.leaf,.leaf,.leaf,.leaf])) .leaf)))))else anK f
def cCk(an:FuncId→An)(pe:FuncId→List A→Nat→List Con→Option AV):AX:={gl:=fun _ =>none,pe:=pe,inl:=fun f=>memN f [57,28],top:=fun f=>memN f [57,28],own:=fun f s=> !(Nat.beq f 28&&Nat.beq s 1||Nat.beq f 57&&(Nat.beq s 4||(Nat.beq s 9||Nat.beq s 1009))),jr:=jrK,an:=an,post:=fun _ =>none}
def tCk:Nat→List Smy
 |0=>[]
 |d+1=>[sBad d,sAny d]
def c28:Ctr:=⟨28,[.agg (eA 3)],err⟩
def c28b:Ctr:=⟨28,[.prd 204 (eA 3)],badN⟩
def l28:List Ctr:=[c28b,c28]
def pK5:=peTab l28 pK4
def nAny:A:= .agg [ifull,ifull]
def nV:A:= .agg [.ival .i64 (-999999999999999) 999999999999999,.ival .i64 0 12]
def nR:A:= .tup [.agg [ifull,ifull],err]
def unLs(f:Nat→An):List An:=[f 0,f 1,f 2,f 3,f 4,f 5,f 6,f 7,f 8,f 9,f 10,f 11,f 12,f 13,f 14,f 15,f 16]
def c342:Ctr:=⟨342,[],.agg [cOne 1,cOne 10,cOne 100,cOne 1000,cOne 10000,cOne 100000,cOne 1000000,cOne 10000000,cOne 100000000,cOne 1000000000,cOne 10000000000,cOne 100000000000,cOne 1000000000000]⟩
def anD:FuncId→An:=fun f=>
 if Nat.beq f 287 then(.node .leaf (.node (.node .leaf (.unl (unLs fun k=> .leaf))) .leaf))
 else if Nat.beq f 297 then(.node .leaf (.node .leaf (.node (.loop ({sp:=[(1,.a (.ival .i64 1 40000000000000000)),(2,.a (.ival .i64 (-12) 24))],ms:= .up (.slot 2) .zero 0,m0:=100}) .leaf) (.node .leaf (.node .leaf (.node (.loop ({sp:=[(7,.a ifull),(8,.a ifull),(2,.a (.ival .i64 (-12) 24))],ms:= .down (.slot 2),m0:=100}) .leaf) .leaf))))))
 else if Nat.beq f 293 then(.node .leaf (.node .leaf (.node .leaf (.node (.node .leaf (.loop ({upTo 16 15 with sp:=[(16,.a cIdx),(7,.a ifull),(8,.a ifull)]}) .leaf)) .leaf))))
 else if Nat.beq f 35 then(.node .leaf (.node .leaf (.node (.node .leaf (.loop (upTo 8 7) .leaf)) .leaf)))
 else if Nat.beq f 219 then(.node .leaf (.node .leaf (.node .leaf (.node .leaf (.node (.node .leaf (.loop ({upTo 20 19 with sp:=[(20,.a cIdx),(5,.a (.ival .i64 0 12))]}) .leaf)) .leaf)))))
 else .leaf
def dOwn:FuncId→Tmp→Bool:=fun f s=> !(Nat.beq f 215&&(Nat.beq s 13||Nat.beq s 34)||(Nat.beq f 221&&(Nat.beq s 9||Nat.beq s 17)||(Nat.beq f 222&&Nat.beq s 9||(Nat.beq f 223&&Nat.beq s 10||Nat.beq f 224&&Nat.beq s 12))))
def cD(an:FuncId→An)(pe:FuncId→List A→Nat→List Con→Option AV)(t i:List Nat):AX:={gl:=fun _ =>none,pe:=pe,inl:=fun f=>memN f i,top:=fun f=>memN f t,own:=dOwn,jr:=fun _ _ =>false,an:=an,post:=fun _ =>none,lk:=true}
def pD0:=peTab [c342] pK5
def c323:Ctr:=⟨323,[.ival .i64 0 12],.ival .i64 1 1000000000000⟩
def c162:Ctr:=⟨162,[ifull,ifull],ifull⟩
def c35:Ctr:=⟨35,[.slv ifull 0 100],ifull⟩
def xD1:=cD anD pD0 [323,162,35,243] [243]
def lD1:List Ctr:=[c323,c162,c35]
def pD1:=peTab lD1 pD0
def c288:Ctr:=⟨288,[.agg [ifull,.ival .i64 0 12]],.tup [ifull,ifull]⟩
def c296:Ctr:=⟨296,[ifull,ifull],nR⟩
def c297p:Ctr:=⟨297,[ifull,.ival .i64 1 999999999999999,.ival .i64 (-12) 24],ifull⟩
def c297n:Ctr:=⟨297,[ifull,.ival .i64 (-999999999999999) (-1),.ival .i64 (-12) 24],ifull⟩
def lD2:List Ctr:=[c288,c296,c297p,c297n]
def xD2:=cD anD pD1 [288,296,297,295] [295]
def pD2:=peTab lD2 pD1
def c293:Ctr:=⟨293,[.slv (.agg [ifull,.ival .i64 0 12]) 0 256,.ival .i64 0 12],nR⟩
def xD3:=cD anD pD2 [293,295] [295]
def pD3:=peTab [c293] pD2
def c287b:Ctr:=⟨287,[.slpv 20 nAny 0 256],.ival .i64 1 255⟩
def c215:Ctr:=⟨215,[nAny,nAny],.tup [ifull,err]⟩
def c221:Ctr:=⟨221,[nAny,nAny],nR⟩
def bS:List A:=[.ival .i64 1 9223372036854775807,cOne 0,.ival .i64 (-9223372036854775808) (-1)]
def c223(b:A):Ctr:=⟨223,[nAny,.agg [b,ifull]],nR⟩
def c224(b:A):Ctr:=⟨224,[nAny,.agg [b,ifull],ifull],nR⟩
def c228:Ctr:=⟨228,[nAny],nR⟩
def c219:Ctr:=⟨219,[.slv nV 0 1000000],nR⟩
def c219b:Ctr:=⟨219,[.slpv 20 nAny 0 1000000],nR⟩
def c224u:Ctr:=⟨224,[nAny,nAny,ifull],nR⟩
def lD4a:List Ctr:=[c215,c221,c228]++bS.map c224
def lD4:List Ctr:=lD4a++[c224u]
def xD4:=cD anD pD3 [215,221,228,224,287,301,295] [287,301,295]
def pD4:=peTab lD4 pD3
def c295p:Ctr:=⟨295,[.ival .i64 1 9223372036854775807],.ival .i64 1 9223372036854775807⟩
def c295n:Ctr:=⟨295,[.ival .i64 (-999999999999999) (-1)],.ival .i64 1 999999999999999⟩
def c295:Ctr:=⟨295,[ifull],ifull⟩
def lD5:List Ctr:=[c295p,c295n,c295]
def xD5:=cD anD pD4 [295] []
def pD5:=peTab lD5 pD4
def c222:Ctr:=⟨222,[nAny,nAny],nR⟩
def c223u:Ctr:=⟨223,[nAny,nAny],nR⟩
def lD6a:List Ctr:=c222::bS.map c223
def lD6:List Ctr:=lD6a++[c223u]
def xD6:=cD anD pD5 [222,223,287,301] [287,301]
def pD6:=peTab lD6 pD5
def anD8:FuncId→An:=fun f=>if Nat.beq f 287 then .node .leaf (.node (.node .leaf (.loop (upTo 8 7) .leaf)) .leaf)else anD f
def c287a:Ctr:=⟨287,[.slv nAny 0 256],err⟩
def k287:List A→Nat→List Con→Option AV:=fun l n cs=>peTab [c287b,c287a] (fun _ _ _ _ =>none) 287 l n cs
def pD8:=kq 287 k287 pD6
def xD9:=cD anD8 pD8 [219] []
def c219u:Ctr:=⟨219,[.slv nAny 0 1000000],nR⟩
def lD9a:List Ctr:=[c219,c219b]
def lD9:List Ctr:=lD9a++[c219u]
def pD9:=peTab lD9 pD8
def c261:Ctr:=⟨261,[.strv 1 cBig],.tup [.ival .i32 0 1114111,.ival .i64 1 4]⟩
def c312:Ctr:=⟨312,[.strc [48],.ival .i64 0 100],.strv 0 100⟩
def pC0:=peTab [c312] (peTab [c261] pD9)
def anC(u:Int):FuncId→An:=fun f=>
 if Nat.beq f 326 then(.node .leaf (.loop ({sp:=[(3,.a (.ival .i64 0 (u+4)))],oc:=[(5000,0,.row 3 1 ifull 0 (u+5))],cons:=[(.cell 5000 0,.ghost,0)],ms:= .up (.slot 3) .zero (u+4),m0:=u+4}) .leaf))
 else if Nat.beq f 227 then(.node .leaf (.node .leaf (.node (.node .leaf (.loop ({sp:=[(9,.a cIdx)],oc:=[(4,0,.a (.or [.nilp,.ptr 0 0])),(4,1,.row 5 1 (.ival .u8 0 255) 0 (4*(u+20)))],cons:=[(.cell 4 1,.ghost,0)],ms:= .up (.slot 9) (.slot 8) 0,m0:=u+10,gk:=4}) .leaf)) .leaf)))
 else .leaf
def cOwnC:FuncId→Tmp→Bool:=fun f s=> !(Nat.beq f 226&&Nat.beq s 17)
def cC(u:Int)(pe:FuncId→List A→Nat→List Con→Option AV)(t i:List Nat):AX:={gl:=fun _ =>none,pe:=pe,inl:=fun f=>memN f i,top:=fun f=>memN f t,own:=cOwnC,jr:=fun _ _ =>false,an:=anC u,post:=fun _ =>none}
def c226(d:Nat):Ctr:=⟨226,[txt (uT d)],.tup [.slv ifull 0 (uT d+10),err]⟩
def xC1(d:Nat):=cC (uT d) pC0 [226,298,326] [298,326]
def lC1:List Ctr:=[c226 0]++([c226 1]++[c226 2])
def pC1:=peTab lC1 pC0
def c227(d:Nat):Ctr:=⟨227,[.slv ifull 0 (uT d+10)],.tup [txt (uT (d+1)),err]⟩
def xC2(d:Nat):=cC (uT d) pC1 [227,299,300,327,344] [299,300,327,344,123,79]
def lC2:List Ctr:=[c227 0]++([c227 1]++[c227 2])
def pC2:=peTab lC2 pC1
def c309:Ctr:=⟨309,[ifull],.tup [.ival .i64 0 9999,.ival .i64 0 12,.ival .i64 0 31,err]⟩
def pV0:=peTab [c309] pC2
def cL(pe:FuncId→List A→Nat→List Con→Option AV)(t i:List Nat):AX:={gl:=fun _ =>none,pe:=pe,inl:=fun f=>memN f i,top:=fun f=>memN f t,own:=fun _ _ =>true,jr:=fun _ _ =>false,an:=fun _ => .leaf,post:=fun _ =>none}
def c310:Ctr:=⟨310,[.ival .i64 0 9999,.ival .i64 2 4],txt 140⟩
def c311:Ctr:=⟨311,[ifull],.tup [ifull,.ival .i64 0 86399999,err]⟩
def c256:Ctr:=⟨256,[ifull],.tup [txt 500,err]⟩
def c257:Ctr:=⟨257,[ifull],.tup [txt 1400,err]⟩
def lL1:List Ctr:=[c310,c311]
def xL1:=cL pV0 [310,311,329] [329]
def pL1:=peTab lL1 pV0
def lL2:List Ctr:=[c256]
def xL2:=cL pL1 [256] []
def pL2:=peTab lL2 pL1
def lL3:List Ctr:=[c257]
def xL3:=cL pL2 [257] []
def pL3:=peTab lL3 pL2
def k302:List A→Nat→List Con→Option AV:=fun l n cs=>match l with
 |[s,.int .u8 _ _,.int .i64 _ _]=>match lenS s with
  |some (x,c)=>if leq cs x c 0 4000000000 then some ⟨.str x c,n,cs⟩else none
  |none=>none
 |_ =>none
def c259:Ctr:=⟨259,[nAny],.tup [txt 40,err]⟩
def pP0:=peTab [c259] (kq 302 k302 pL3)
def c194:Ctr:=⟨194,[txt 1000000],nR⟩
def xP1:=cL pP0 [194] []
def lP1:List Ctr:=[c194]
def pP1:=peTab lP1 pP0
def wOf(d:Nat):Int:=if Nat.beq d 0 then 0 else wB
def wO(w:Int)(d:Nat):Int:=if Nat.beq d 0 then 0 else w
def anV(t w:Int)(d:Nat):FuncId→An:=fun f=>
 if Nat.beq f 62 then(.node .leaf (.node .leaf (.node .leaf (.node (.node .leaf (.loop (fld 3 4 14 36 6 (.agg (vA t w (d-1))) (wO w d)) .leaf)) (.node (.node .leaf (.loop (fld 3 5 29 114 7 (.agg (txt t::vA t w (d-1))) (wO w d)) .leaf)) .leaf)))))
 else if Nat.beq f 165 then(.node .leaf (.node (.node .leaf (.loop (upTo 13 12) .leaf)) .leaf))
 else if Nat.beq f 166 then(.node .leaf (.node (.node .leaf (.loop (upTo 13 12) .leaf)) .leaf))
 else .leaf
def vOwn:FuncId→Tmp→Bool:=fun f s=> !(Nat.beq f 62&&(Nat.beq s 22||Nat.beq s 41)||Nat.beq f 112&&Nat.beq s 35||Nat.beq f 167&&Nat.beq s 15)
def cV(u w:Int)(d:Nat)(pe:FuncId→List A→Nat→List Con→Option AV)(t i:List Nat):AX:={gl:=fun _ =>none,pe:=pe,inl:=fun f=>memN f i,top:=fun f=>memN f t,own:=vOwn,jr:=fun _ _ =>false,an:=anV u w d,post:=fun _ =>none}
def c66:Ctr:=⟨66,[txt cBig,txt cBig],ifull⟩
def q5:=peTab [c66] pP1
def c36:Ctr:=⟨36,[txt cBig,txt cBig],ifull⟩
def l36:List Ctr:=[c36]
def q6:=peTab l36 q5
def c62(t w:Int)(d:Nat):Ctr:=⟨62,[.agg (vA t w d)],.agg (vA t w d)⟩
def l62:Nat→List Ctr
 |0=>[]
 |d+1=>l62 d++[c62 40 6 d,c62 (uT 0) wB d,c62 tB wB d]
def p62:Nat→(FuncId→List A→Nat→List Con→Option AV)
 |0=>q6
 |d+1=>peTab (l62 (d+1)) (p62 d)
def c112(d:Nat):Ctr:=⟨112,[.agg (vW d),.agg (vW d)],ifull⟩
def c165(d:Nat):Ctr:=⟨165,[.slv (.agg (vW (d-1))) 0 (wOf d),.slv (.agg (vW (d-1))) 0 (wOf d),.fn 112 [] []],ifull⟩
def c166(d:Nat):Ctr:=⟨166,[.slv (.agg (txt tB::vW (d-1))) 0 (wOf d),.slv (.agg (txt tB::vW (d-1))) 0 (wOf d),.fn 167 [] []],ifull⟩
def l112:Nat→List Ctr
 |0=>[]
 |d+1=>c112 d::l112 d
def lCf:Nat→List Ctr
 |0=>[]
 |d+1=>c165 d::c166 d::lCf d
def p112:Nat→(FuncId→List A→Nat→List Con→Option AV)
 |0=>p62 6
 |d+1=>peTab (l112 (d+1)) (peTab (lCf (d+1)) (p112 d))
def pCf(d:Nat):=peTab (lCf (d+1)) (p112 d)
def c71:Ctr:=⟨71,[.agg (vW 5),.agg (vW 5)],.bool boTop⟩
def partP:List A:=[.ival .i64 1 4,.ival .i64 0 100000000,txt 1000000]
def pw6:Nat→Int
 |0=>1
 |k+1=>6*pw6 k+6
def findIn(k:Nat):LA:=
 if Nat.blt k 5 then{sp:=[(31,.a cIdx),(10,.row 36 6 (.agg (vA 40 6 (4-k))) 0 (pw6 (k+1)))],cons:=[(.slot 10,.ghost,0)],ms:= .up (.slot 31) (.slot 30) 0,m0:=pw6 k,gk:=6}
 else{sp:=[(31,.a cIdx),(10,.row 36 6 (.agg [.any,.any,.any,.any,.any,.any]) 0 0)],cons:=[(.slot 10,.zero,0)],ms:= .up (.slot 31) (.slot 30) 0,m0:=if Nat.blt k 6 then pw6 k else 0}
def anP:FuncId→An:=fun f=>
 if Nat.beq f 217 then(.node .leaf (.node .leaf (.node .leaf (.node (.node .leaf (.unl (unLs fun k=>(.node .leaf (.node .leaf (.node (.node .leaf (.node .leaf (.node (.node .leaf (.loop (findIn k) .leaf)) .leaf))) .leaf)))))) (.node .leaf (.node .leaf (.node (.node .leaf (.loop ({sp:=[(57,.a cIdx),(13,.row 36 6 (.agg (vT (uT 0) 4)) 0 102642)],cons:=[(.slot 13,.slot 57,0),(.slot 57,.slot 13,0)],ms:= .up (.slot 57) (.slot 56) 0,m0:=102642}) .leaf)) .leaf)))))))
 else if Nat.beq f 155 then(.node .leaf (.node (.node .leaf (.loop (upTo 8 7) .leaf)) .leaf))
 else if Nat.beq f 141 then(.node .leaf (.node (.node .leaf (.loop (upTo 8 7) .leaf)) .leaf))
 else if Nat.beq f 289 then(.node .leaf (.node .leaf (.node .leaf (.node (.node .leaf (.loop ({upTo 23 22 with sp:=[(23,.a cIdx),(3,.a ifull)]}) .leaf)) .leaf))))
 else if Nat.beq f 92 then(.node .leaf (.node .leaf (.node .leaf (.node (.node .leaf (.loop ({sp:=[(5,.a (txt 61)),(4,.row 165 3 (.agg partP) 0 100)],cons:=[(.slot 4,.ghost,0)],ms:= .down (.slot 5),m0:=61}) .leaf)) .leaf))))
 else .leaf
def pOwn:FuncId→Tmp→Bool:=fun f s=> !(Nat.beq f 217&&(Nat.beq s 2||(Nat.beq s 9||(Nat.beq s 12||(Nat.beq s 15||(Nat.beq s 22||Nat.beq s 64)))))||Nat.beq f 291&&(Nat.beq s 2||(Nat.beq s 3||Nat.beq s 22))||Nat.beq f 289&&Nat.beq s 5||Nat.beq f 140&&Nat.beq s 1||Nat.beq f 324&&Nat.beq s 1)
def cP(pe:FuncId→List A→Nat→List Con→Option AV)(t i:List Nat):AX:={gl:=fun _ =>none,pe:=pe,inl:=fun f=>memN f i,top:=fun f=>memN f t,own:=pOwn,jr:=fun _ _ =>false,an:=anP,post:=fun _ =>none}
def c92':Ctr:=⟨92,[txt 60],.tup [.slv (.agg partP) 0 100,err]⟩
def sPart:A:= .slv (.agg partP) 0 100
def c218:Ctr:=⟨218,[sPart],.bool boTop⟩
def c218n:Ctr:=⟨218,[.slpv 10 (.agg partP) 0 100],.bool (.lit false)⟩
def c218y:Ctr:=⟨218,[.slpv 11 (.agg partP) 0 100],.bool (.lit true)⟩
def anN:FuncId→An:=fun f=>
 if Nat.beq f 61 then(.node .leaf (.node .leaf (.node (.node .leaf (.unl (unLs fun k=> .leaf))) .leaf)))
 else if Nat.beq f 155 then(.node .leaf (.node (.node .leaf (.unl (unLs fun k=> .leaf))) .leaf))
 else if Nat.beq f 156 then(.node .leaf (.node .leaf (.unl (unLs fun k=> .leaf))))
 else if Nat.beq f 234 then(.node .leaf (.unl (unLs fun k=>(.node .leaf (.node (.node .leaf (.loop (upTo 0 0) .leaf)) .leaf)))))
 else .leaf
def nOwn:FuncId→Tmp→Bool:=fun f s=> !(Nat.beq f 61&&(Nat.beq s 32||Nat.beq s 8000033))
def cN(pe:FuncId→List A→Nat→List Con→Option AV)(t i:List Nat):AX:={gl:=fun _ =>none,pe:=pe,inl:=fun f=>memN f i,top:=fun f=>memN f t,own:=nOwn,jr:=fun _ _ =>false,an:=anN,post:=fun _ =>none}
def tN:List Nat:=[31,61,96,97,98,99,155,156,234,65,109,108]
def c31:Ctr:=⟨31,[.agg (vA 40 6 4)],.agg (vA 40 6 5)⟩
def l71:List Ctr:=[c71]
def q71:=peTab l71 (p112 6)
def c291(k:Nat):Ctr:=⟨291,[.agg partP,.agg (vA 40 6 k)],if Nat.beq k 0 then .slv (.agg a6) 0 0 else .slv (.agg (vA 40 6 (k-1))) 0 6⟩
def c290:Ctr:=⟨290,[.agg partP,.agg (vA 40 6 5)],.bool boTop⟩
def c324:Ctr:=⟨324,[.agg partP],txt 1000100⟩
def lPa:List Ctr:=[c92']
def lPb:List Ctr:=[c218]
def lPc:List Ctr:=[c290,c324]
def lPd:List Ctr:=[c291 0,c291 1,c291 2,c291 3,c291 4,c291 5]
def lP0:List Ctr:=lPa++(lPc++lPd)
def qP0:=peTab lP0 q71
def lPq:List Ctr:=[c218n,c218y,c218]
def qP1:=peTab lPq qP0
def vE:A:= .agg (vA 40 6 5)
def c217n:Ctr:=⟨217,[vE,.slpv 10 (.agg partP) 0 100],.tup [.slv (.agg (vT (uT 0) 4)) 0 102642,err]⟩
def c217y:Ctr:=⟨217,[vE,.slpv 11 (.agg partP) 0 100],.tup [.slv (.agg (vT (uT 0) 4)) 0 102642,err]⟩
def c146n:Ctr:=⟨146,[vE,.slpv 10 (.agg partP) 0 100],.tup [.agg (vT (uT 0) 5),err]⟩
def c146y:Ctr:=⟨146,[vE,.slpv 11 (.agg partP) 0 100],.tup [.agg (vT (uT 0) 5),err]⟩
def inQ:List Nat:=[325,155,343]
def tP0:List Nat:=[92,139,140,197,206,262,290,324,291,325,155,343]
def xPa:=cP q71 tP0 [139,140,197,206,262]
def xPc:=cP q71 tP0 []
def xPd:=cP q71 tP0 inQ
def xPq:=cP qP0 [218,93,141,292] [93,141,292]
def xPn:=cP qP1 [217,146,289,140] [289,140]
def xPm:=cP qP1 [217,146,289,140] [217,289,140]
def c217u:Ctr:=⟨217,[vE,sPart],.tup [.slv (.agg (vT (uT 0) 4)) 0 102642,err]⟩
def c146u:Ctr:=⟨146,[vE,sPart],.tup [.agg (vT (uT 0) 5),err]⟩
def lPn:List Ctr:=[c217n,c217y]
def lPm:List Ctr:=[c146n,c146y]
def lP2:List Ctr:=lPn++(lPm++[c217u,c146u])
def pE0:=peTab lP2 qP1
def xE1:AX:={cL pE0 [214,216,144,229,294,225,232,233] []with own:=fun _ _ =>true}
def c225(u:Int):Ctr:=⟨225,[txt u],.agg (vA u 0 0)⟩
def c232(u:Int):Ctr:=⟨232,[txt u],txt u⟩
def c233(u:Int):Ctr:=⟨233,[txt u],txt u⟩
def uS:List Int:=[1024,uT 0,uT 1,uT 2,uT 3]
def lE1:List Ctr:=[⟨214,[.agg (vT (uT 3) 5)],.bool boTop⟩,⟨216,[.agg (vT (uT 3) 5)],.agg [ifull,ifull]⟩,⟨144,[.bool boTop],.agg (vA 0 0 0)⟩,⟨229,[ifull],.agg (vA 0 0 0)⟩,⟨294,[ifull,ifull],.agg (vA 0 0 0)⟩]++uS.map c225++uS.map c232++uS.map c233
def pE1:=peTab lE1 pE0
def mObj:TypeId×List A×List A:=(169,vA 40 6 5++[err],vA 40 6 5++[err])
def sM(f:FuncId)(args:List A)(res:A):Smy:=⟨f,.ptr 0 0::args,[mObj],res⟩
def z0:A:= .agg (vA 0 0 0)
def vD(d:Nat):A:= .agg (vT (uT d) 5)
def vB:A:= .agg (vT (uT 3) 5)
def eqsN(f a:Nat)(s:Tmp)(l:List Tmp):Bool:=Nat.beq f a&&memN s l
def eOwn:FuncId→Tmp→Bool:=fun f s=>if Nat.ble 9000000 s then !(eqsN f 95 s [9000032,9000045,9000072])else
 memN f [147,143,230,231]&&Nat.beq s 4||(eqsN f 95 s [4]||(eqsN f 148 s [4,36,1015]||(eqsN f 151 s [8,10]||(eqsN f 152 s [6]||(eqsN f 153 s [8]||(eqsN f 154 s [6]||(eqsN f 220 s [8]||(memN f [216,144,229,225]&&Nat.beq s 2||(eqsN f 294 s [4]||(Nat.beq f 59&& !(memN s [2,3,8,1008])))))))))))
def mOc:List (Tmp×Nat×TA):=[(0,0,.a ifull),(0,1,.a ifull),(0,2,.a ifull),(0,3,.a (txt 40)),(0,4,.a (.slv (.agg (vA 40 6 4)) 0 6)),(0,5,.a (.slv (.agg (txt 40::vA 40 6 4)) 0 6)),(0,6,.a err)]
def anE(d:Nat):FuncId→An:=fun f=>
 if Nat.beq f 148 then(.node .leaf (.node .leaf (.node .leaf (.node .leaf (.node .leaf (.node (.node .leaf (.loop ({rowTo 39 9 101 2 (.agg [ifull,ifull]) 102642 with ms:= .up (.slot 39) (.slot 38) 0}) .leaf)) .leaf))))))
 else if Nat.beq f 95 then(.node .leaf (.node .leaf (.node .leaf (.node (.node .leaf (.node .leaf (.node .leaf (.node .leaf (.node .leaf (.node .leaf (.node .leaf (.node .leaf (.node .leaf (.node .leaf (.node .leaf (.node .leaf (.node .leaf (.node .leaf (.node .leaf (.node .leaf (.node (.node .leaf (.node .leaf (.node .leaf (.node (.node .leaf (.loop ({rowTo 190 17 36 6 (vD (d-1)) 4 with oc:=mOc,ms:= .up (.slot 190) (.slot 189) 0}) .leaf)) (.node (.node .leaf (.loop ({sp:=[(20,.a cIdx),(16,.a (.bool boTop))],oc:=mOc,ms:= .up (.slot 20) (.slot 17) 0}) .leaf)) .leaf))))) .leaf))))))))))))))))) .leaf))))
 else .leaf
def cE(d:Nat)(pe:FuncId→List A→Nat→List Con→Option AV)(t:List Nat):AX:={gl:=fun _ =>none,pe:=pe,inl:=fun f=>memN f t,top:=fun f=>memN f t,own:=eOwn,jr:=fun _ _ =>false,an:=anE d,post:=fun _ =>none}
def tE:List Nat:=[59,95,142,143,145,147,148,149,150,151,152,153,154,210,211,212,213,220,230,231,252,308]
def xE(d:Nat):=cE d pE1 tE
def s147:Smy:=sM 147 [err] z0
def s220:Smy:=sM 220 [.bool boTop,.agg [ifull,ifull],err] z0
def s145:Smy:=sM 145 [vB,vB] ifull
def s150:Smy:=sM 150 [vB,vB] (.bool boTop)
def s151:Smy:=sM 151 [.agg (eA 3),vB,vB] z0
def s152(d:Nat):Smy:=sM 152 [vD d,vD d] (.agg (vA (uT (d+1)) 0 0))
def s153(d:Nat):Smy:=sM 153 [vD d,vB,vB] (.agg (vA (uT (d+1)) 0 0))
def s148:Smy:=sM 148 [.agg (eA 3)] z0
def s230(d:Nat):Smy:=sM 230 [vD d] (.agg (vA (uT d) 0 0))
def s231:Smy:=sM 231 [vB] z0
def s154(d:Nat)(k:Int):Smy:=sM 154 [cOne k,vD d] (.agg (vA (uT d) 0 0))
def sEv(d:Nat)(k:Int):Smy:=sM 95 [.agg (okE d k)] (vD d)
def sEvV(d:Nat):Smy:=sM 95 [.prd (100+d+1) (eA d)] (vD d)
def sNeed(d:Nat):Smy:=sM 143 [.prd (100+d+1) (eA d)] (vD d)
def sTruth(d:Nat):Smy:=sM 149 [.prd (100+d+1) (eA d)] (.bool boTop)
def opsU:List Int:=[16,18,19,20,27,28]
def tE0:List Smy:=[s147,s220,s145,s150,s151,s148,s231]
def tEv:Nat→List Smy
 |0=>tE0
 |d+1=>tE0++[sEvV d,sNeed d,sTruth d,s152 d,s153 d]++opsU.map (s154 d)
def c59v:Ctr:=⟨59,[.prd 104 (eA 3),vE],.tup [.agg (vT (uT 3) 5),err]⟩
def c59b:Ctr:=⟨59,[.prd 204 (eA 3),vE],.tup [.agg (vA 0 0 0),badN]⟩
def c59:Ctr:=⟨59,[.agg (eA 3),vE],.tup [.agg (vT (uT 3) 5),err]⟩
def c30:Ctr:=⟨30,[.agg (eA 3),vE],.tup [.bool boTop,err]⟩
def l59a:List Ctr:=[c59v]
def l59b:List Ctr:=[c59b]
def l59:List Ctr:=l59a++(l59b++[c59])
def pE2:=peTab l59 pE1
def xV:AX:={gl:=fun _ =>none,pe:=pE2,inl:=fun f=>memN f [],top:=fun f=>memN f [30],own:=fun f s=> !(memN s [5,1005]),jr:=fun _ _ =>false,an:=fun _ => .leaf,post:=fun _ =>none}
def l30:List Ctr:=[c30]
def pE3:=peTab l30 pE2
def xN:=cN pE3 tN tN
def pN1:=peTab [c31] pE3
def filA:A:= .agg [txt 100,txt 100,ifull,ifull,.slv (.agg (eA 3)) 0 8]
def letA:List A:=[ifull,.slv ifull 0 6,ifull,.slv ifull 0 6]++vA 40 6 4++[txt cBig,txt cBig,ifull]
def c13:Ctr:=⟨13,[filA,.agg letA],.bool boTop⟩
def c14:Ctr:=⟨14,[filA,.agg letA],.bool boTop⟩
def xM:AX:={gl:=fun _ =>none,pe:=pN1,inl:=fun f=>memN f [],top:=fun f=>memN f [13,14],own:=fun _ _ =>true,jr:=fun _ r=>Nat.beq r 2,an:=fun _ => .leaf,post:=fun _ =>none}
def lM:List Ctr:=[c13,c14]
def pM1:=peTab lM pN1
def gK1:List Grp:=[(cK1,[],lK1)]
def gKq:List Grp:=[(cKq,[],lKq)]
def gKr:List Grp:=[(cKr,[],lR)]
def gK3:List Grp:=[(cK3,[139,140,197,206,262],[c92]),(cKv,[203,204,282,283],[c137])]
def gK4:List Grp:=[(cK4b,[88,89,90,91,93,94,138,141],l58b),(cK4,[88,89,90,91,93,94,138,141],[c58])]
def gD1:List Grp:=[(xD1,[243],lD1)]
def gD2:List Grp:=[(xD2,[295],lD2)]
def gD3:List Grp:=[(xD3,[295],[c293])]
def gD5:List Grp:=[(xD5,[],lD5)]
def gC1:List Grp:=[((xC1 0),[298,326],[c226 0]),((xC1 1),[298,326],[c226 1]),((xC1 2),[298,326],[c226 2])]
def gC2:List Grp:=[((xC2 0),[299,300,327,344,123,79],[c227 0]),((xC2 1),[299,300,327,344,123,79],[c227 1]),((xC2 2),[299,300,327,344,123,79],[c227 2])]
def gL1:List Grp:=[(xL1,[329],lL1)]
def gL2:List Grp:=[(xL2,[],lL2)]
def gL3:List Grp:=[(xL3,[],lL3)]
def gP1:List Grp:=[(xP1,[],lP1)]
def gQ6:List Grp:=[((cV tB wB 0 q5 [36] []),[],l36)]
def gA0:List Grp:=[((cV 40 6 0 (p62 0) [62] []),[],[c62 40 6 0]),((cV (uT 0) wB 0 (p62 0) [62] []),[],[c62 (uT 0) wB 0]),((cV tB wB 0 (p62 0) [62] []),[],[c62 tB wB 0])]
def gA1:List Grp:=[((cV 40 6 0 (p62 1) [62] []),[],[c62 40 6 0]),((cV (uT 0) wB 0 (p62 1) [62] []),[],[c62 (uT 0) wB 0]),((cV tB wB 0 (p62 1) [62] []),[],[c62 tB wB 0]),((cV 40 6 1 (p62 1) [62] []),[],[c62 40 6 1]),((cV (uT 0) wB 1 (p62 1) [62] []),[],[c62 (uT 0) wB 1]),((cV tB wB 1 (p62 1) [62] []),[],[c62 tB wB 1])]
def gA2:List Grp:=[((cV 40 6 0 (p62 2) [62] []),[],[c62 40 6 0]),((cV (uT 0) wB 0 (p62 2) [62] []),[],[c62 (uT 0) wB 0]),((cV tB wB 0 (p62 2) [62] []),[],[c62 tB wB 0]),((cV 40 6 1 (p62 2) [62] []),[],[c62 40 6 1]),((cV (uT 0) wB 1 (p62 2) [62] []),[],[c62 (uT 0) wB 1]),((cV tB wB 1 (p62 2) [62] []),[],[c62 tB wB 1]),((cV 40 6 2 (p62 2) [62] []),[],[c62 40 6 2]),((cV (uT 0) wB 2 (p62 2) [62] []),[],[c62 (uT 0) wB 2]),((cV tB wB 2 (p62 2) [62] []),[],[c62 tB wB 2])]
def gA3:List Grp:=[((cV 40 6 0 (p62 3) [62] []),[],[c62 40 6 0]),((cV (uT 0) wB 0 (p62 3) [62] []),[],[c62 (uT 0) wB 0]),((cV tB wB 0 (p62 3) [62] []),[],[c62 tB wB 0]),((cV 40 6 1 (p62 3) [62] []),[],[c62 40 6 1]),((cV (uT 0) wB 1 (p62 3) [62] []),[],[c62 (uT 0) wB 1]),((cV tB wB 1 (p62 3) [62] []),[],[c62 tB wB 1]),((cV 40 6 2 (p62 3) [62] []),[],[c62 40 6 2]),((cV (uT 0) wB 2 (p62 3) [62] []),[],[c62 (uT 0) wB 2]),((cV tB wB 2 (p62 3) [62] []),[],[c62 tB wB 2]),((cV 40 6 3 (p62 3) [62] []),[],[c62 40 6 3]),((cV (uT 0) wB 3 (p62 3) [62] []),[],[c62 (uT 0) wB 3]),((cV tB wB 3 (p62 3) [62] []),[],[c62 tB wB 3])]
def gA4:List Grp:=[((cV 40 6 0 (p62 4) [62] []),[],[c62 40 6 0]),((cV (uT 0) wB 0 (p62 4) [62] []),[],[c62 (uT 0) wB 0]),((cV tB wB 0 (p62 4) [62] []),[],[c62 tB wB 0]),((cV 40 6 1 (p62 4) [62] []),[],[c62 40 6 1]),((cV (uT 0) wB 1 (p62 4) [62] []),[],[c62 (uT 0) wB 1]),((cV tB wB 1 (p62 4) [62] []),[],[c62 tB wB 1]),((cV 40 6 2 (p62 4) [62] []),[],[c62 40 6 2]),((cV (uT 0) wB 2 (p62 4) [62] []),[],[c62 (uT 0) wB 2]),((cV tB wB 2 (p62 4) [62] []),[],[c62 tB wB 2]),((cV 40 6 3 (p62 4) [62] []),[],[c62 40 6 3]),((cV (uT 0) wB 3 (p62 4) [62] []),[],[c62 (uT 0) wB 3]),((cV tB wB 3 (p62 4) [62] []),[],[c62 tB wB 3]),((cV 40 6 4 (p62 4) [62] []),[],[c62 40 6 4]),((cV (uT 0) wB 4 (p62 4) [62] []),[],[c62 (uT 0) wB 4]),((cV tB wB 4 (p62 4) [62] []),[],[c62 tB wB 4])]
def gA5:List Grp:=[((cV 40 6 0 (p62 5) [62] []),[],[c62 40 6 0]),((cV (uT 0) wB 0 (p62 5) [62] []),[],[c62 (uT 0) wB 0]),((cV tB wB 0 (p62 5) [62] []),[],[c62 tB wB 0]),((cV 40 6 1 (p62 5) [62] []),[],[c62 40 6 1]),((cV (uT 0) wB 1 (p62 5) [62] []),[],[c62 (uT 0) wB 1]),((cV tB wB 1 (p62 5) [62] []),[],[c62 tB wB 1]),((cV 40 6 2 (p62 5) [62] []),[],[c62 40 6 2]),((cV (uT 0) wB 2 (p62 5) [62] []),[],[c62 (uT 0) wB 2]),((cV tB wB 2 (p62 5) [62] []),[],[c62 tB wB 2]),((cV 40 6 3 (p62 5) [62] []),[],[c62 40 6 3]),((cV (uT 0) wB 3 (p62 5) [62] []),[],[c62 (uT 0) wB 3]),((cV tB wB 3 (p62 5) [62] []),[],[c62 tB wB 3]),((cV 40 6 4 (p62 5) [62] []),[],[c62 40 6 4]),((cV (uT 0) wB 4 (p62 5) [62] []),[],[c62 (uT 0) wB 4]),((cV tB wB 4 (p62 5) [62] []),[],[c62 tB wB 4]),((cV 40 6 5 (p62 5) [62] []),[],[c62 40 6 5]),((cV (uT 0) wB 5 (p62 5) [62] []),[],[c62 (uT 0) wB 5]),((cV tB wB 5 (p62 5) [62] []),[],[c62 tB wB 5])]
def gF0:List Grp:=[((cV tB wB 0 (p112 0) [165,166,167] [167]),[167],[c165 0,c166 0])]
def gB0:List Grp:=[((cV tB wB 0 (pCf 0) [112] []),[],[c112 0])]
def gF1:List Grp:=[((cV tB wB 1 (p112 1) [165,166,167] [167]),[167],[c165 1,c166 1]),((cV tB wB 0 (p112 1) [165,166,167] [167]),[167],[c165 0,c166 0])]
def gB1:List Grp:=[((cV tB wB 1 (pCf 1) [112] []),[],[c112 1]),((cV tB wB 0 (pCf 1) [112] []),[],[c112 0])]
def gF2:List Grp:=[((cV tB wB 2 (p112 2) [165,166,167] [167]),[167],[c165 2,c166 2]),((cV tB wB 1 (p112 2) [165,166,167] [167]),[167],[c165 1,c166 1]),((cV tB wB 0 (p112 2) [165,166,167] [167]),[167],[c165 0,c166 0])]
def gB2:List Grp:=[((cV tB wB 2 (pCf 2) [112] []),[],[c112 2]),((cV tB wB 1 (pCf 2) [112] []),[],[c112 1]),((cV tB wB 0 (pCf 2) [112] []),[],[c112 0])]
def gF3:List Grp:=[((cV tB wB 3 (p112 3) [165,166,167] [167]),[167],[c165 3,c166 3]),((cV tB wB 2 (p112 3) [165,166,167] [167]),[167],[c165 2,c166 2]),((cV tB wB 1 (p112 3) [165,166,167] [167]),[167],[c165 1,c166 1]),((cV tB wB 0 (p112 3) [165,166,167] [167]),[167],[c165 0,c166 0])]
def gB3:List Grp:=[((cV tB wB 3 (pCf 3) [112] []),[],[c112 3]),((cV tB wB 2 (pCf 3) [112] []),[],[c112 2]),((cV tB wB 1 (pCf 3) [112] []),[],[c112 1]),((cV tB wB 0 (pCf 3) [112] []),[],[c112 0])]
def gF4:List Grp:=[((cV tB wB 4 (p112 4) [165,166,167] [167]),[167],[c165 4,c166 4]),((cV tB wB 3 (p112 4) [165,166,167] [167]),[167],[c165 3,c166 3]),((cV tB wB 2 (p112 4) [165,166,167] [167]),[167],[c165 2,c166 2]),((cV tB wB 1 (p112 4) [165,166,167] [167]),[167],[c165 1,c166 1]),((cV tB wB 0 (p112 4) [165,166,167] [167]),[167],[c165 0,c166 0])]
def gB4:List Grp:=[((cV tB wB 4 (pCf 4) [112] []),[],[c112 4]),((cV tB wB 3 (pCf 4) [112] []),[],[c112 3]),((cV tB wB 2 (pCf 4) [112] []),[],[c112 2]),((cV tB wB 1 (pCf 4) [112] []),[],[c112 1]),((cV tB wB 0 (pCf 4) [112] []),[],[c112 0])]
def gF5:List Grp:=[((cV tB wB 5 (p112 5) [165,166,167] [167]),[167],[c165 5,c166 5]),((cV tB wB 4 (p112 5) [165,166,167] [167]),[167],[c165 4,c166 4]),((cV tB wB 3 (p112 5) [165,166,167] [167]),[167],[c165 3,c166 3]),((cV tB wB 2 (p112 5) [165,166,167] [167]),[167],[c165 2,c166 2]),((cV tB wB 1 (p112 5) [165,166,167] [167]),[167],[c165 1,c166 1]),((cV tB wB 0 (p112 5) [165,166,167] [167]),[167],[c165 0,c166 0])]
def gB5:List Grp:=[((cV tB wB 5 (pCf 5) [112] []),[],[c112 5]),((cV tB wB 4 (pCf 5) [112] []),[],[c112 4]),((cV tB wB 3 (pCf 5) [112] []),[],[c112 3]),((cV tB wB 2 (pCf 5) [112] []),[],[c112 2]),((cV tB wB 1 (pCf 5) [112] []),[],[c112 1]),((cV tB wB 0 (pCf 5) [112] []),[],[c112 0])]
def gEq:List Grp:=[((cV tB wB 0 (p112 6) [71] []),[],l71)]
def gPp:List Grp:=[(xPa,[139,140,197,206,262],lPa),(xPc,[],lPc),(xPd,inQ,lPd)]
def gE1:List Grp:=[(xE1,[],lE1)]
def gE3:List Grp:=[(xV,[],l30)]
def gZ0:List Grp:=[((cS 0 (pZ 0) [29] []),[],[c29 0])]
def gZ1:List Grp:=[((cS 1 (pZ 1) [29] []),[],[c29 1]),((cS 0 (pZ 1) [29] []),[],[c29 0])]
def gZ2:List Grp:=[((cS 2 (pZ 2) [29] []),[],[c29 2]),((cS 1 (pZ 2) [29] []),[],[c29 1]),((cS 0 (pZ 2) [29] []),[],[c29 0])]
def gZ3:List Grp:=[((cS 3 (pZ 3) [29] []),[],[c29 3]),((cS 2 (pZ 3) [29] []),[],[c29 2]),((cS 1 (pZ 3) [29] []),[],[c29 1]),((cS 0 (pZ 3) [29] []),[],[c29 0])]
def gZ4:List Grp:=[((cS 4 (pZ 4) [29] []),[],[c29 4]),((cS 3 (pZ 4) [29] []),[],[c29 3]),((cS 2 (pZ 4) [29] []),[],[c29 2]),((cS 1 (pZ 4) [29] []),[],[c29 1]),((cS 0 (pZ 4) [29] []),[],[c29 0])]
def gW0:List Grp:=[((cS 0 (pZ 5) [55] []),[],[c55 0])]
def gW1:List Grp:=[((cS 0 pS3 [55] []),[],[c55 0]),((cS 1 pS3 [55] []),[],[c55 1])]
def gW2:List Grp:=[((cS 0 pS4 [55] []),[],[c55 0]),((cS 1 pS4 [55] []),[],[c55 1]),((cS 2 pS4 [55] []),[],[c55 2])]
def gW3:List Grp:=[((cS 0 pS5 [55] []),[],[c55 0]),((cS 1 pS5 [55] []),[],[c55 1]),((cS 2 pS5 [55] []),[],[c55 2]),((cS 3 pS5 [55] []),[],[c55 3])]
def gW8:List Grp:=[((cS 3 pS6 [8,23] [23]),[23],[c8])]
def gW12:List Grp:=[((cS 0 pS7 [12] []),[],[c12])]
def gE4:List Grp:=[(xN,tN,[c31])]
def gM1:List Grp:=[(xM,[],lM)]
end
end Go.Proofs.Tryz
namespace Go.Proofs.Tryz
open Go.Ps
variable[Inhabited Prd]
set_option maxRecDepth 100000
theorem digK_len:∀(k u:Nat) (acc:List UInt8),(digK k u acc).length≤k+acc.length
 |0,_,acc=>by simp[digK]
 |k+1,u,acc=>by
  unfold digK;split
  ·simp;omega
  ·have:=digK_len k (u/10) (UInt8.ofNat (48+u%10)::acc);simp only[List.length_cons]at this;omega
theorem itoaK_len(n:Int):(itoaK n).length≤21:=by
 unfold itoaK;split
 ·have:=digK_len 20 n.natAbs [];simp at this⊢;omega
 ·have:=digK_len 20 n.toNat [];simp at this;omega
theorem indexAny_lt(c:List UInt8):∀l:List UInt8,Lib.indexAny l c+1≤l.length
 |[]=>by simp[Lib.indexAny]
 |b::l=>by
  have ih:=indexAny_lt c l;simp only[Lib.indexAny,List.length_cons];split
  ·omega
  ·split<;>omega
theorem cut_len(s sep:List UInt8):(Lib.cut s sep).1.length≤s.length∧(Lib.cut s sep).2.1.length≤s.length:=by
 unfold Lib.cut;split
 ·exact⟨by simp only[List.length_take];omega,by simp only[List.length_drop];omega⟩
 ·exact⟨Nat.le_refl _,by simp⟩
theorem aV_in(s:List UInt8):InK .i64 (aV s):=by
 unfold aV;split
 ·rename_i v h;have:=Lib.atoiAll_bounds h;exact i64_of (by omega)
 ·unfold Lib.atoiSat;split<;>exact i64_of (by omega)
 ·exact i64_of (by omega)
theorem lend_strs{k:Nat}{pe:FuncId→List T→Option T}{H:Hp}{f:FuncId}{ts:List T}(h:mapO (frzT k ⟨0,.nl⟩) ts=some ts){r:T}(hr:pe f ts=some r):lend k pe H f ts=some r:=by
 unfold lend;rw[h];exact hr
theorem peS_ok:PeA (lend 40 peZ) peS:=by
 intro f xs n cs v h ρ μ H ts hs hg;unfold peS at h;split at h
 ·rename_i hf;have hf:=nat_beq hf;subst hf;split at h
  ·rename_i s b;split at h
   ·rename_i hb;have hb:=beqS_ok hb;subst hb;split at h
    ·rename_i x c hl;split at h
     ·rename_i hle;cases h;obtain⟨t,r,rfl,g1,g2⟩:=hg.inv_cons;obtain⟨u,r',rfl,g3,g4⟩:=g2.inv_cons;rw[g4.inv_nil];cases g3;obtain⟨l,w,rfl,e1,e2⟩:=lenS_ok hs.zero g1 hl;have hle:=leq_ok hs.cs hle e1 hs.zero;have hi:=indexAny_lt dots l;have hj:=Lib.indexAny_ge dots l;refine⟨.int .i64 (Lib.indexAny l dots),lend_strs (by rfl) ?_,new_ok hs (i64_of (by omega)) ?_⟩
      ·unfold peZ;rw[if_pos rfl];exact if_pos ⟨by omega,rfl⟩
      ·obtain⟨n1,n2,n3,n4⟩:=hs.new (Lib.indexAny l dots);exact .cons ⟨0,_,n4,n2,by omega⟩ (.cons ⟨_,w,n2,n1 _ _ e1,by omega⟩ (.cons ⟨_,0,n2,n4,by omega⟩ (hs.cs.ext n1)))
     ·cases h
    ·cases h
   ·cases h
  ·cases h
 ·split at h
  ·rename_i hf;have hf:=nat_beq hf;subst hf;split at h
   ·rename_i s t;split at h
    ·rename_i x c y hl hl2;split at h
     ·rename_i hle;cases h;obtain⟨t1,r,rfl,g1,g2⟩:=hg.inv_cons;obtain⟨u,r',rfl,g3,g4⟩:=g2.inv_cons;rw[g4.inv_nil];obtain⟨l,w,rfl,e1,e2⟩:=lenS_ok hs.zero g1 hl;obtain⟨l2,w2,rfl,e3,e4⟩:=lenS_ok hs.zero g3 (s:=y.1) (c:=y.2) (by simpa using hl2);have hle:=leq_ok hs.cs hle e1 hs.zero;obtain⟨c1,c2⟩:=cut_len l l2;refine⟨.tup [.str (Lib.cut l l2).1,.str (Lib.cut l l2).2.1,.bool (Lib.cut l l2).2.2],lend_strs (by rfl) ?_,?_⟩
      ·unfold peZ;rw[if_neg (by decide),if_pos rfl];exact if_pos (by omega)
      ·obtain⟨n1,n2,n3,n4⟩:=hs.new ((Lib.cut l l2).1.length:Int);have hs1:Sy (ρ++[((Lib.cut l l2).1.length:Int)]) (n+1) (.le 0 n 0:: .le n x c::cs):=
        ⟨n3,n4,.cons ⟨0,_,n4,n2,by omega⟩ (.cons ⟨_,w,n2,n1 _ _ e1,by omega⟩ (hs.cs.ext n1))⟩
       obtain⟨m1,m2,m3,m4⟩:=hs1.new ((Lib.cut l l2).2.1.length:Int);refine⟨_,n1.trans m1,⟨m3,m4,?_⟩,.tup _ _ rfl ?_⟩
       ·refine .cons ?_ (.cons ?_ (.cons ?_ (.cons ?_ (hs.cs.ext (n1.trans m1)))))
        ·exact⟨0,_,m4,m1 _ _ n2,by omega⟩
        ·exact⟨_,w,m1 _ _ n2,m1 _ _ (n1 _ _ e1),by omega⟩
        ·exact⟨0,_,m4,m2,by omega⟩
        ·exact⟨_,w,m2,m1 _ _ (n1 _ _ e1),by omega⟩
       ·intro j a t ha ht
        match j,ha,ht with
        |0,ha,ht=>cases ha;cases ht;exact .str _ _ _ _ (m1 _ _ n2) (by omega)
        |1,ha,ht=>cases ha;cases ht;exact .str _ _ _ _ m2 (by omega)
        |2,ha,ht=>cases ha;cases ht;exact .bool _ _ (boTop_ok _)
        |j+3,ha,ht=>simp at ha
     ·cases h
    ·cases h
   ·cases h
  ·split at h
   ·rename_i hf;have hf:=nat_beq hf;subst hf;split at h
    ·rename_i s;split at h
     ·rename_i x c hl;split at h
      ·rename_i hle;cases h;obtain⟨t1,r,rfl,g1,g2⟩:=hg.inv_cons;rw[g2.inv_nil];obtain⟨l,w,rfl,e1,e2⟩:=lenS_ok hs.zero g1 hl;have hle:=leq_ok hs.cs hle e1 hs.zero;refine⟨.tup [.int .i64 (aV l),aE l],lend_strs (by rfl) ?_,matV_ok hs (.tup _ _ rfl ?_)⟩
       ·unfold peZ;rw[if_neg (by decide),if_neg (by decide),if_pos rfl];exact if_pos (by omega)
       ·intro j a t ha ht
        match j,ha,ht with
        |0,ha,ht=>
         cases ha;cases ht;have hb:=aV_in l;exact .ival _ _ _ _ hb.1 hb.2 hb
        |1,ha,ht=>
         cases ha;cases ht;unfold aE;split
         ·exact .or _ .nili _ (by simp) .nili
         ·exact .or _ .ifc _ (by simp) (.ifc _ _)
        |j+2,ha,ht=>simp at ha
      ·cases h
     ·cases h
    ·cases h
   ·split at h
    ·rename_i hf;have hf:=nat_beq hf;subst hf;split at h
     ·rename_i s;split at h
      ·rename_i x c hl;split at h
       ·rename_i hle;cases h;obtain⟨t1,r,rfl,g1,g2⟩:=hg.inv_cons;rw[g2.inv_nil];obtain⟨l,w,rfl,e1,e2⟩:=lenS_ok hs.zero g1 hl;have hle:=leq_ok hs.cs hle e1 hs.zero;refine⟨.bool (Lib.validD l),lend_strs (by rfl) ?_,.here hs (.bool _ _ (boTop_ok _))⟩;unfold peZ;rw[if_neg (by decide),if_neg (by decide),if_neg (by decide),if_pos rfl];exact if_pos (by omega)
       ·cases h
      ·cases h
     ·cases h
    ·split at h
     ·rename_i hf;have hf:=nat_beq hf;subst hf;split at h
      ·rename_i s c;cases h;obtain⟨t1,r,rfl,g1,g2⟩:=hg.inv_cons;rw[g2.inv_nil];cases g1 with
       |int _ _ _ w e1 hk=>
       have hb:-9223372036854775808≤w+c∧w+c≤9223372036854775807:=hk;refine⟨.str (itoaK (w+c)),lend_strs (by rfl) ?_,matV_ok hs (.strv _ _ _ (by omega) ?_)⟩
       ·unfold peZ;rw[if_neg (by decide),if_neg (by decide),if_neg (by decide),if_neg (by decide),if_pos rfl];exact if_pos hb
       ·have:=itoaK_len (w+c);omega
      ·cases h
     ·cases h
end Go.Proofs.Tryz
namespace Go.Proofs.Tryz
open Go.Shelf
def lays156_ren:Go.Shelf.Ren:=⟨fun|156=>42|165=>77|166=>78|169=>79|240=>123|241=>124|276=>183|277=>184|n=>n,fun|31=>90|9=>9|3=>3|4=>4|0=>0|20=>20|72=>135|76=>139|70=>133|37=>128|75=>138|127=>197|164=>252|5=>5|80=>141|n=>n,fun|n=>n⟩
theorem lays156:Go.Proofs.Lays.n156 prog lays156_ren:={
 mixed:=by kernel_rfl
 f156:=func42.trans (congrArg some (by kernel_rfl))
 f165:=func77.trans (congrArg some (by kernel_rfl))
 f166:=func78.trans (congrArg some (by kernel_rfl))
 f169:=func79.trans (congrArg some (by kernel_rfl))
 f240:=func123.trans (congrArg some (by kernel_rfl))
 f241:=func124.trans (congrArg some (by kernel_rfl))
 f276:=func183.trans (congrArg some (by kernel_rfl))
 f277:=func184.trans (congrArg some (by kernel_rfl))
 t0:=underlying0
 a0:=isAgg0
 z0:=sizeOf0
 v0:=zeroValue0
 t3:=underlying3
 a3:=isAgg3
 z3:=sizeOf3
 v3:=zeroValue3
 t4:=underlying4
 a4:=isAgg4
 z4:=sizeOf4
 v4:=zeroValue4
 t9:=underlying9
 a9:=isAgg9
 z9:=sizeOf9
 v9:=zeroValue9
 t20:=underlying20
 a20:=isAgg20
 z20:=sizeOf20
 v20:=zeroValue20
 t31:=underlying90
 a31:=isAgg90
 z31:=sizeOf90
 v31:=zeroValue90
 t37:=underlying128
 a37:=isAgg128
 z37:=sizeOf128
 v37:=zeroValue128
 t70:=underlying133
 a70:=isAgg133
 z70:=sizeOf133
 v70:=zeroValue133
 t72:=underlying135
 a72:=isAgg135
 z72:=sizeOf135
 v72:=zeroValue135
 t75:=underlying138
 a75:=isAgg138
 z75:=sizeOf138
 v75:=zeroValue138
 t76:=underlying139
 a76:=isAgg139
 z76:=sizeOf139
 v76:=zeroValue139
 t127:=underlying197
 a127:=isAgg197
 z127:=sizeOf197
 v127:=zeroValue197
 t164:=underlying252
 a164:=isAgg252
 z164:=sizeOf252
 v164:=zeroValue252}
theorem Builder_Extra_156:Builder.Extra prog lays156_ren:={
 sizeBuilder:=by kernel_rfl
 liesBuilder:=by kernel_rfl
 t5:=underlying5
 a5:=isAgg5
 z5:=sizeOf5
 v5:=zeroValue5
 infoByte:=by kernel_rfl
 cellsByte:=by kernel_rfl
 sizeByte:=by kernel_rfl
 neB5:=by decide}
open Go.Ps
theorem xeG_ok(gl:Nat→Option T):EeOk prog gl xeG:=by
 intro f ts H r H' h;unfold xeG at h;by_cases h1:f=123
 ·rw[if_pos h1]at h;subst h1;exact copy_ee (gl:=gl) (ρ:=lays156_ren) {lays156 with} Builder_Extra_156.toX72 (by kernel_rfl) h
 ·rw[if_neg h1]at h;by_cases h2:f=79
  ·rw[if_pos h2]at h;subst h2;exact str_ee (gl:=gl) (ρ:=lays156_ren) {lays156 with} Builder_Extra_156 (by kernel_rfl) h
  ·rw[if_neg h2]at h;cases h
end Go.Proofs.Tryz
