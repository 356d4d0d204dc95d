/- Lemmas for the card; no conditions. -/
import Derived.Test.YthfdachbgpjafaaGreatDoorXb5
import Derived.Lib.AtoiAllCases
import Derived.Tactics
import Derived.Tactics2
import Derived.StillTactics
import Derived.Laws.IdiomStrings
import Derived.Laws.OwnMore
import Derived.Laws.Cells
import Derived.Laws.NewBlocks
import Derived.Lib.SliceRun
set_option linter.unusedSimpArgs false
set_option linter.unusedVariables false
set_option linter.unusedSectionVars false
set_option maxRecDepth 100000
namespace Go.Proofs.Tryz
noncomputable section
open Go.Ps
def ifull:A:= .ival .i64 (-9223372036854775808) 9223372036854775807
def CT:A:= .ival .i64 0 255
def UH:A:= .ival .i64 0 4611686018427387904
def txt(n:Int):A:= .strv 0 n
def cBig:Int:=9223372036854775807
def a6:List A:=[ifull,ifull,ifull,txt 0,.sxv 0 0,.sxv 0 0]
def a5:List A:=[ifull,ifull,txt 0,.sxv 0 0,.sxv 0 0]
def vA(t w:Int):Nat->List A
 |0=>[ifull,ifull,ifull,txt t,.slv (.agg a6) 0 0,.slv (.agg (txt 0::a6)) 0 0]|d+1=>[ifull,ifull,ifull,txt t,.slv (.agg (vA t w d)) 0 w,.slv (.agg (txt t::vA t w d)) 0 w]
def eA:Nat->List A
 |0=>[ifull,ifull,txt 60,.slv (.agg (vA 40 6 1)) 0 2,.slv (.agg a5) 0 0]|d+1=>[ifull,ifull,txt 60,.slv (.agg (vA 40 6 1)) 0 2,.slv (.agg (eA d)) 0 4]
def vI:Nat->List A
 |0=>[ifull,ifull,ifull,txt cBig,.sxv 0 cBig,.sxv 0 cBig]|d+1=>[ifull,ifull,ifull,txt cBig,.slv (.agg (vI d)) 0 cBig,.slv (.agg (txt cBig::vI d)) 0 cBig]
def eI:Nat->List A
 |0=>[ifull,ifull,txt cBig,.slv (.agg (vI 1)) 0 cBig,.sxv 0 cBig]|d+1=>[ifull,ifull,txt cBig,.slv (.agg (vI 1)) 0 cBig,.slv (.agg (eI d)) 0 cBig]
def aIi:A:= .agg [ifull,ifull,txt 1000000]
def FI(n:Int):A:= .ival .i64 n n
def HJ(i n:Tmp):LA:={sp:=[(i,.a UH)],ms:= .up (.slot i) (.slot n) 0}
def XH(i out:Tmp)(e:eX)(sz:Nat)(a:A)(m:Int):LA:={sp:=[(i,.a UH),(out,.row e sz a 0 m)],cons:=[(.slot out,.slot i,0)],ms:= .up (.slot i) .zero m,m0:=m}
def fld(d j:Tmp)(i:Tmp)(e:eX)(sz:Nat)(a:A)(m:Int):LA:={sp:=[(i,.a UH)],oc:=[(d,j,.row e sz a 0 m)],cons:=[(.cell d j,.slot i,0)],ms:= .up (.slot i) .zero m,m0:=m}
def peS:FuncId->List A->Nat->List pO->Option AV:=fun f l n cs=>
 if Nat.beq f 115 then match l with
  |[s,.strc b]=>if Qa b [46,91,63]then match KA s with
   |some (x,c)=>if leq cs x c 0 4000000000 then some ⟨.int .i64 n 0,n+1,.le 0 n 1:: .le n x (c-1):: .le n 0 1000000000000000000::cs⟩else none
   |none=>none
   else none
  |_ =>none
 else if Nat.beq f 207 then match l with
  |[s,t]=>match KA s,KA t with
   |some (x,c),some _ =>if leq cs x c 0 4000000000 then some ⟨.tup [.str n 0,.str (n+1) 0,.bool rJ],n+2,.le 0 n 0:: .le n x c:: .le 0 (n+1) 0:: .le (n+1) x c::cs⟩else none
   |_,_ =>none
  |_ =>none
 else if Nat.beq f 208 then match l with
  |[s]=>match KA s with
   |some (x,c)=>if leq cs x c 0 4000000000 then some (uK (.tup [ifull,.or [.nili,.ifc]]) n cs)else none
   |none=>none
  |_ =>none
 else if Nat.beq f 56 then match l with
  |[s]=>match KA s with
   |some (x,c)=>if leq cs x c 0 4000000000 then some ⟨.bool rJ,n,cs⟩else none
   |none=>none
  |_ =>none
 else if Nat.beq f 40 then match l with
  |[.int .i64 _ _]=>some (uK (.strv 0 40) n cs)|_ =>none
 else none
def aYt(l:fN):FuncId->Bool:=fun f=>rD f l
def Aw:FuncId->An:=fun f=>
 if Nat.beq f 26 then .node .leaf (.node .leaf (.node (.node .leaf (.loop (HJ 16 15) .leaf)) .leaf))
 else if Nat.beq f 273 then .node .leaf (.node (.node .leaf (.loop (HJ 7 6) .leaf)) .leaf)
 else if Nat.beq f 280 then .node .leaf (.node .leaf (.node (.node .leaf (.loop (HJ 16 15) .leaf)) .leaf))
 else if Nat.beq f 283 then .node .leaf (.node .leaf (.node (.node .leaf (.loop {HJ 17 16 with oc:=[(5002,0,.a ifull),(3002,0,.a CT)]} .leaf)) .leaf))
 else if Nat.beq f 317 then .node .leaf (.node (.node .leaf (.node .leaf (.node .leaf (.node .leaf (.node (.node .leaf (.node (.node .leaf (.loop {XH 18 3 36 6 (.agg (vA 40 6 0)) 6 with cons:=[(.slot 3,.slot 18,0),(.slot 18,.slot 17,0)]} .leaf)) .leaf)) .leaf))))) .leaf)
 else if Nat.beq f 137 then .node .leaf (.node .leaf (.node .leaf (.node (.node .leaf (.node .leaf (.loop {oc:=[(4,0,.a ifull),(2,0,.a CT)],ms:= .down .zero} .leaf))) .leaf)))
 else if Nat.beq f 57 then .node .leaf (.node .leaf (.node .leaf (.node .leaf (.node .leaf (.node (.node .leaf (.loop {HJ 25 24 with oc:=[(2,0,.a ifull)]} .leaf)) .leaf)))))
 else if Nat.beq f 92 then .node .leaf (.node .leaf (.node .leaf (.node (.node .leaf (.loop {sp:=[(5,.a (txt 61)),(4,.row 165 3 aIi 0 100)],cons:=[(.slot 4,.ghost,0)],ms:= .down (.slot 5),m0:=61} .leaf)) .leaf)))
 else if Nat.beq f 141 then .node .leaf (.node (.node .leaf (.loop (HJ 8 7) .leaf)) .leaf)
 else if Nat.beq f 209 then .node .leaf (.node .leaf (.node (.node .leaf (.loop (HJ 25 24) .leaf)) .leaf))
 else .leaf
def poK:FuncId->Option aKy:=fun f=>
 if Nat.beq f 57 then some {res:=CT,oc:=[(2,0,.a ifull)]}
 else if Nat.beq f 91 then some {res:=CT}
 else if Nat.beq f 88 then some {res:= .tup [ifull,ifull]}
 else if rD f [89,90,138,93]then some {res:= .bool rJ}
 else none
def jrK:FuncId->Nat->Bool:=fun f r=>Nat.beq f 205||Nat.beq f 60||Nat.beq f 26||Nat.beq f 209&&Nat.beq r 6||Nat.beq f 58&&(Nat.beq r 6||Nat.beq r 4||Nat.beq r 21)
def kX(pe:FuncId->List A->Nat->List pO->Option AV)(t i:fN):AX:={gl:=fun _ =>none,pe:=pe,inl:=aYt i,top:=aYt t,own:=fun f s=> !(Nat.beq f 272&&Nat.beq s 9),jr:=jrK,an:=Aw,post:=poK,lk:=true}
def bGq:qD:=⟨209,[txt 1000000],.bool rJ⟩
def c92:qD:=⟨92,[txt 60],.tup [.slv aIi 0 100,CT]⟩
def aXs:qD:=⟨137,[.agg (vA 40 6 1)],CT⟩
def c58:qD:=⟨58,[.agg (eA 3)],CT⟩
def kq(f0:fT)(pq:List A->Nat->List pO->Option AV)(pa:FuncId->List A->Nat->List pO->Option AV):FuncId->List A->Nat->List pO->Option AV:=fun f l n cs=>if Nat.beq f0 f then pq l n cs else pa f l n cs
def lK1:List qD:=[bGq]
def cK1:=kX peS [209] []
def pK1:=pU lK1 peS
def cR(f:Nat):qD:=⟨f,[.agg (vA 40 6 1)],CT⟩
def bGp:qD:=⟨205,[.agg (vA 40 6 1)],.bool rJ⟩
def c60:qD:=⟨60,[.agg (vA 40 6 1)],.bool rJ⟩
def aYh:qD:=⟨317,[.agg (vA 40 6 0)],.slv (.agg a6) 0 0⟩
def aYi:qD:=⟨317,[.agg (vA 40 6 1)],.slv (.agg (vA 40 6 0)) 0 6⟩
def c26:qD:=⟨26,[txt 100],.bool rJ⟩
def c27:qD:=⟨27,[txt 1000000],.bool rJ⟩
def uT:Nat->Int
 |0=>2000|d+1=>4*(uT d+20)
def tB:Int:=uT 3
def wB:Int:=200000
def vT(t:Int)(d:Nat):List A:=vA t wB d
def vW(d:Nat):List A:=vA tB wB d
def bHp:qD:=⟨60,[.agg (vT (uT 3) 5)],.bool rJ⟩
def lR:List qD:=[cR 269,cR 271,cR 272,cR 274,cR 276,cR 277,cR 278,cR 279,cR 280,cR 281,bGp,c60,bHp,aYh,aYi,c26,c27]
def bGz:qD:=⟨270,[ifull,ifull,ifull],CT⟩
def bHa:qD:=⟨273,[.slv CT 0 10],CT⟩
def bHb:qD:=⟨275,[ifull,ifull,CT],CT⟩
def lKq:List qD:=[bGz,bHa,bHb]
def cKq:=kX pK1 [270,273,275] []
def pKq:=pU lKq pK1
def cKr:=kX pKq [26,27,60,205,317,269,271,272,274,276,277,278,279,280,281] []
def pKr:=pU lR pKq
def cKv:=kX pKr [137,203,204,282,283,92,139,140,197,206,262] [203,204,282,283]
def cK3:=kX pKr [137,203,204,282,283,92,139,140,197,206,262] [139,140,197,206,262]
def lK3:List qD:=[c92]++[aXs]
def pK3:=pU lK3 pKr
def cK4:=kX pK3 [58,88,89,90,91,93,94,138,141] [88,89,90,91,93,94,138,141]
def Ji(d:Nat)(lo hi:Int):A:=match d with
 |0=> .slv (.agg a5) 0 0|d+1=> .slv (.agg (eA d)) lo hi
def vsl(lo hi:Int):A:= .slv (.agg (vA 40 6 1)) lo hi
def aAd(k:Int):Int:=if k=1\/k=2\/k=22\/k=26 then 0 else if k=3\/k=16\/k=18\/k=19\/k=20\/k=27\/k=28 then 1 else if k=21\/k=24 then 3 else 2
def aVc:List Int:=[3,4,5,6,7,8,9,10,11,12,13,14,15,16,17,18,19,20,21,23,24,25,27,28]
def aIx(d:Nat):List (List A):=
 [.ival .i64 (-9223372036854775808) 0,ifull,txt 60,vsl 0 2,Ji d 0 4]::
 [.ival .i64 29 9223372036854775807,ifull,txt 60,vsl 0 2,Ji d 0 4]::
 [.ival .i64 1 1,ifull,txt 60,vsl 0 0,Ji d 0 4]::
 [.ival .i64 1 1,ifull,txt 60,vsl 2 2,Ji d 0 4]::
 aVc.map fun k=>[.ival .i64 k k,ifull,txt 60,vsl 0 2,Ji d 0 (aAd k-1)]
def aNy(d n i:Nat):List A:=[ifull,ifull,txt 60,vsl 0 2,.slk ((List.range n).map fun j=>if Nat.beq j i then .prd (200+d+1) (eA d)else .agg (eA d))]
def aXp(d:Nat)(lo:Int):A:=match d with
 |0=> .slv (.agg a5) 0 0|d+1=> .slv (.prd (100+d+1) (eA d)) lo 4
def GX(d:Nat):List Int:=match d with
 |0=>[1,2,22,26]|_ +1=>[1,2,3,4,5,6,7,8,9,10,11,12,13,14,15,16,17,18,19,20,21,22,23,24,25,26,27,28]
def okE(d:Nat)(k:Int):List A:=[.ival .i64 k k,ifull,txt 60,(if k=1 then vsl 1 1 else vsl 0 2),aXp d (aAd k)]
def YX:A:= .ival .i64 1 255
def bAi:List qD:=(aIx 3).map fun r=>⟨58,[.agg r],YX⟩
def l58:List qD:=bAi++[c58]
def bHv:AX:={cK4 with post:=fun _ =>none}
def PZ:=pU l58 pK3
def peN:=PZ
def anS(d:Nat):FuncId->An:=fun f=>
 if Nat.beq f 29 then .node .leaf (.node .leaf (.node .leaf (.node .leaf (.node (.node .leaf (.loop (XH 7 5 36 6 (.agg (vA 40 6 (d-1))) (if Nat.beq d 0 then 0 else 6)) .leaf)) (.node (.node .leaf (.loop (XH 8 6 114 7 (.agg (txt 40::vA 40 6 (d-1))) (if Nat.beq d 0 then 0 else 6)) .leaf)) .leaf)))))
 else if Nat.beq f 55 then .node .leaf (.node .leaf (.node .leaf (.node (.node .leaf (.loop (XH 6 5 36 6 (.agg (vA 40 6 1)) 2) .leaf)) (.node .leaf (.node (.node .leaf (.loop (XH 8 7 66 5 (.agg (eA (d-1))) (if Nat.beq d 0 then 0 else 4)) .leaf)) .leaf)))))
 else if Nat.beq f 23 then .node .leaf (.node .leaf (.node (.node .leaf (.loop (fld 3 0 4 68 6 (.agg (txt 60::eA 3)) 8) .leaf)) .leaf))
 else if Nat.beq f 8 then .node .leaf (.node .leaf (.node (.node .leaf (.loop (fld 3 0 4 68 6 (.agg (txt 0::eI 3)) 2) .leaf)) (.node .leaf (.node .leaf (.node (.node .leaf (.loop (fld 1 4 5 66 5 (.agg (eA 3)) 8) .leaf)) .leaf)))))
 else .leaf
def Pm(d:Nat):qD:=⟨29,[.agg (vI d),FI (d+1)],.agg (vA 40 6 d)⟩
def Bb(d:Nat):qD:=⟨55,[.agg (eI d),FI (d+1)],.agg (eA d)⟩
def c8:qD:=⟨8,[.agg [txt cBig,txt cBig,ifull,ifull,.slv (.agg (eI 3)) 0 cBig]],.agg [txt 100,txt 100,ifull,ifull,.slv (.agg (eA 3)) 0 8]⟩
def bHw:FuncId->Tmp->Bool:=fun f s=> !(Nat.beq f 29&&Nat.beq s 84||Nat.beq f 8&&(Nat.beq s 25||Nat.beq s 46)||Nat.beq f 23&&Nat.beq s 41)
def cS(d:Nat)(pe:FuncId->List A->Nat->List pO->Option AV)(t i:fN):AX:={gl:=fun _ =>none,pe:=pe,inl:=fun f=>rD f i,top:=fun f=>rD f t,own:=bHw,jr:=fun _ _ =>false,an:=anS d,post:=fun _ =>none}
def l29:Nat->List qD
 |0=>[]|d+1=>Pm d::l29 d
def pZ:Nat->(FuncId->List A->Nat->List pO->Option AV)
 |0=>peN|d+1=>pU (l29 (d+1)) (pZ d)
def pS3:=pU [Bb 0] (pZ 5)
def pS4:=pU [Bb 0,Bb 1] pS3
def pS5:=pU [Bb 0,Bb 1,Bb 2] pS4
def pS6:=pU [Bb 0,Bb 1,Bb 2,Bb 3] pS5
def pS7:=pU [c8] pS6
def c12:qD:=⟨12,[.agg ([ifull,.slv ifull 0 cBig,ifull,.slv ifull 0 cBig]++vI 4)],.agg ([ifull,.slv ifull 0 6,ifull,.slv ifull 0 6]++vA 40 6 4)⟩
def pS8:=pU [c12] pS7
def aFy:A:= .fn 57 [] [.ptr 0 0,.ptr 1 0]
def sCk(e r:A):AE:=⟨57,[e,ifull,.ptr 0 0,.ptr 1 0],[(3,[ifull],[ifull]),(112,[aFy],[aFy])],r⟩
def Ss(d:Nat):AE:=sCk (.agg (eA d)) CT
def aVu(d:Nat):AE:=sCk (.prd (200+d+1) (eA d)) YX
def Cz(d:Nat):List AE:=(aIx d).map fun r=>sCk (.agg r) YX
def aJc(e:Nat):List AE:=[(1,0),(2,0),(2,1),(3,0),(3,1),(3,2),(4,0),(4,1),(4,2),(4,3)].map fun q=>sCk (.agg (aNy e q.1 q.2)) YX
def aLi:FuncId->An:=fun f=>if Nat.beq f 57 then .node .leaf (.node .leaf (.node .leaf (.node .leaf (.node .leaf (.node (.node .leaf (.unl [.leaf,.leaf,.leaf,.leaf,.leaf])) .leaf)))))else Aw f
def SL(an:FuncId->An)(pe:FuncId->List A->Nat->List pO->Option AV):AX:={gl:=fun _ =>none,pe:=pe,inl:=fun f=>rD f [57,28],top:=fun f=>rD f [57,28],own:=fun f s=> !(Nat.beq f 28&&Nat.beq s 1||Nat.beq f 57&&(Nat.beq s 4||(Nat.beq s 9||Nat.beq s 1009))),jr:=jrK,an:=an,post:=fun _ =>none}
def Du:Nat->List AE
 |0=>[]|d+1=>[aVu d,Ss d]
def c28:qD:=⟨28,[.agg (eA 3)],CT⟩
def bHd:qD:=⟨28,[.prd 204 (eA 3)],YX⟩
def l28:List qD:=[bHd,c28]
def pK5:=pU l28 PZ
def xT:A:= .agg [ifull,ifull]
def nV:A:= .agg [.ival .i64 (-999999999999999) 999999999999999,.ival .i64 0 12]
def nR:A:= .tup [.agg [ifull,ifull],CT]
def aCc(f:Nat->An):List An:=[f 0,f 1,f 2,f 3,f 4,f 5,f 6,f 7,f 8,f 9,f 10,f 11,f 12,f 13,f 14,f 15,f 16]
def aSy:qD:=⟨342,[],.agg [FI 1,FI 10,FI 100,FI 1000,FI 10000,FI 100000,FI 1000000,FI 10000000,FI 100000000,FI 1000000000,FI 10000000000,FI 100000000000,FI 1000000000000]⟩
def anD:FuncId->An:=fun f=>
 if Nat.beq f 287 then(.node .leaf (.node (.node .leaf (.unl (aCc fun k=> .leaf))) .leaf))
 else if Nat.beq f 297 then(.node .leaf (.node .leaf (.node (.loop ({sp:=[(1,.a (.ival .i64 1 40000000000000000)),(2,.a (.ival .i64 (-12) 24))],ms:= .up (.slot 2) .zero 0,m0:=100}) .leaf) (.node .leaf (.node .leaf (.node (.loop ({sp:=[(7,.a ifull),(8,.a ifull),(2,.a (.ival .i64 (-12) 24))],ms:= .down (.slot 2),m0:=100}) .leaf) .leaf))))))
 else if Nat.beq f 293 then(.node .leaf (.node .leaf (.node .leaf (.node (.node .leaf (.loop ({HJ 16 15 with sp:=[(16,.a UH),(7,.a ifull),(8,.a ifull)]}) .leaf)) .leaf))))
 else if Nat.beq f 35 then(.node .leaf (.node .leaf (.node (.node .leaf (.loop (HJ 8 7) .leaf)) .leaf)))
 else if Nat.beq f 219 then(.node .leaf (.node .leaf (.node .leaf (.node .leaf (.node (.node .leaf (.loop ({HJ 20 19 with sp:=[(20,.a UH),(5,.a (.ival .i64 0 12))]}) .leaf)) .leaf)))))
 else .leaf
def bIc:FuncId->Tmp->Bool:=fun f s=> !(Nat.beq f 215&&(Nat.beq s 13||Nat.beq s 34)||(Nat.beq f 221&&(Nat.beq s 9||Nat.beq s 17)||(Nat.beq f 222&&Nat.beq s 9||(Nat.beq f 223&&Nat.beq s 10||Nat.beq f 224&&Nat.beq s 12))))
def cD(an:FuncId->An)(pe:FuncId->List A->Nat->List pO->Option AV)(t i:fN):AX:={gl:=fun _ =>none,pe:=pe,inl:=fun f=>rD f i,top:=fun f=>rD f t,own:=bIc,jr:=fun _ _ =>false,an:=an,post:=fun _ =>none,lk:=true}
def pD0:=pU [aSy] pK5
def bHk:qD:=⟨323,[.ival .i64 0 12],.ival .i64 1 1000000000000⟩
def bGl:qD:=⟨162,[ifull,ifull],ifull⟩
def c35:qD:=⟨35,[.slv ifull 0 100],ifull⟩
def xD1:=cD anD pD0 [323,162,35,243] [243]
def lD1:List qD:=[bHk,bGl,c35]
def pD1:=pU lD1 pD0
def bHc:qD:=⟨288,[.agg [ifull,.ival .i64 0 12]],.tup [ifull,ifull]⟩
def bHg:qD:=⟨296,[ifull,ifull],nR⟩
def aYf:qD:=⟨297,[ifull,.ival .i64 1 999999999999999,.ival .i64 (-12) 24],ifull⟩
def aYe:qD:=⟨297,[ifull,.ival .i64 (-999999999999999) (-1),.ival .i64 (-12) 24],ifull⟩
def lD2:List qD:=[bHc,bHg,aYf,aYe]
def xD2:=cD anD pD1 [288,296,297,295] [295]
def pD2:=pU lD2 pD1
def aYa:qD:=⟨293,[.slv (.agg [ifull,.ival .i64 0 12]) 0 256,.ival .i64 0 12],nR⟩
def xD3:=cD anD pD2 [293,295] [295]
def pD3:=pU [aYa] pD2
def Jm:qD:=⟨287,[.slpv 20 xT 0 256],.ival .i64 1 255⟩
def bGr:qD:=⟨215,[xT,xT],.tup [ifull,CT]⟩
def bGs:qD:=⟨221,[xT,xT],nR⟩
def bS:List A:=[.ival .i64 1 9223372036854775807,FI 0,.ival .i64 (-9223372036854775808) (-1)]
def aXx(b:A):qD:=⟨223,[xT,.agg [b,ifull]],nR⟩
def aXy(b:A):qD:=⟨224,[xT,.agg [b,ifull],ifull],nR⟩
def bGv:qD:=⟨228,[xT],nR⟩
def aXw:qD:=⟨219,[.slv nV 0 1000000],nR⟩
def aQl:qD:=⟨219,[.slpv 20 xT 0 1000000],nR⟩
def Ba:qD:=⟨224,[xT,xT,ifull],nR⟩
def Lc:List qD:=[bGr,bGs,bGv]++bS.map aXy
def lD4:List qD:=Lc++[Ba]
def xD4:=cD anD pD3 [215,221,228,224,287,301,295] [287,301,295]
def pD4:=pU lD4 pD3
def aYc:qD:=⟨295,[.ival .i64 1 9223372036854775807],.ival .i64 1 9223372036854775807⟩
def aYb:qD:=⟨295,[.ival .i64 (-999999999999999) (-1)],.ival .i64 1 999999999999999⟩
def bHf:qD:=⟨295,[ifull],ifull⟩
def lD5:List qD:=[aYc,aYb,bHf]
def xD5:=cD anD pD4 [295] []
def pD5:=pU lD5 pD4
def bGt:qD:=⟨222,[xT,xT],nR⟩
def Az:qD:=⟨223,[xT,xT],nR⟩
def Le:List qD:=bGt::bS.map aXx
def lD6:List qD:=Le++[Az]
def xD6:=cD anD pD5 [222,223,287,301] [287,301]
def pD6:=pU lD6 pD5
def bGh:FuncId->An:=fun f=>if Nat.beq f 287 then .node .leaf (.node (.node .leaf (.loop (HJ 8 7) .leaf)) .leaf)else anD f
def Uq:qD:=⟨287,[.slv xT 0 256],CT⟩
def bAg:List A->Nat->List pO->Option AV:=fun l n cs=>pU [Jm,Uq] (fun _ _ _ _ =>none) 287 l n cs
def pD8:=kq 287 bAg pD6
def xD9:=cD bGh pD8 [219] []
def UG:qD:=⟨219,[.slv xT 0 1000000],nR⟩
def ZH:List qD:=[aXw,aQl]
def lD9:List qD:=ZH++[UG]
def pD9:=pU lD9 pD8
def aLv:qD:=⟨261,[.strv 1 cBig],.tup [.ival .i32 0 1114111,.ival .i64 1 4]⟩
def aSx:qD:=⟨312,[.strc [48],.ival .i64 0 100],.strv 0 100⟩
def pC0:=pU [aSx] (pU [aLv] pD9)
def anC(u:Int):FuncId->An:=fun f=>
 if Nat.beq f 326 then(.node .leaf (.loop ({sp:=[(3,.a (.ival .i64 0 (u+4)))],oc:=[(5000,0,.row 3 1 ifull 0 (u+5))],cons:=[(.cell 5000 0,.ghost,0)],ms:= .up (.slot 3) .zero (u+4),m0:=u+4}) .leaf))
 else if Nat.beq f 227 then(.node .leaf (.node .leaf (.node (.node .leaf (.loop ({sp:=[(9,.a UH)],oc:=[(4,0,.a (.or [.nilp,.ptr 0 0])),(4,1,.row 5 1 (.ival .u8 0 255) 0 (4*(u+20)))],cons:=[(.cell 4 1,.ghost,0)],ms:= .up (.slot 9) (.slot 8) 0,m0:=u+10,gk:=4}) .leaf)) .leaf)))
 else .leaf
def aYq:FuncId->Tmp->Bool:=fun f s=> !(Nat.beq f 226&&Nat.beq s 17)
def cC(u:Int)(pe:FuncId->List A->Nat->List pO->Option AV)(t i:fN):AX:={gl:=fun _ =>none,pe:=pe,inl:=fun f=>rD f i,top:=fun f=>rD f t,own:=aYq,jr:=fun _ _ =>false,an:=anC u,post:=fun _ =>none}
def Yv(d:Nat):qD:=⟨226,[txt (uT d)],.tup [.slv ifull 0 (uT d+10),CT]⟩
def xC1(d:Nat):=cC (uT d) pC0 [226,298,326] [298,326]
def lC1:List qD:=[Yv 0]++([Yv 1]++[Yv 2])
def pC1:=pU lC1 pC0
def Yw(d:Nat):qD:=⟨227,[.slv ifull 0 (uT d+10)],.tup [txt (uT (d+1)),CT]⟩
def xC2(d:Nat):=cC (uT d) pC1 [227,299,300,327,344] [299,300,327,344,123,79]
def lC2:List qD:=[Yw 0]++([Yw 1]++[Yw 2])
def pC2:=pU lC2 pC1
def aSw:qD:=⟨309,[ifull],.tup [.ival .i64 0 9999,.ival .i64 0 12,.ival .i64 0 31,CT]⟩
def pV0:=pU [aSw] pC2
def cL(pe:FuncId->List A->Nat->List pO->Option AV)(t i:fN):AX:={gl:=fun _ =>none,pe:=pe,inl:=fun f=>rD f i,top:=fun f=>rD f t,own:=fun _ _ =>true,jr:=fun _ _ =>false,an:=fun _ => .leaf,post:=fun _ =>none}
def bHi:qD:=⟨310,[.ival .i64 0 9999,.ival .i64 2 4],txt 140⟩
def bHj:qD:=⟨311,[ifull],.tup [ifull,.ival .i64 0 86399999,CT]⟩
def bGx:qD:=⟨256,[ifull],.tup [txt 500,CT]⟩
def bGy:qD:=⟨257,[ifull],.tup [txt 1400,CT]⟩
def lL1:List qD:=[bHi,bHj]
def xL1:=cL pV0 [310,311,329] [329]
def pL1:=pU lL1 pV0
def lL2:List qD:=[bGx]
def xL2:=cL pL1 [256] []
def pL2:=pU lL2 pL1
def lL3:List qD:=[bGy]
def xL3:=cL pL2 [257] []
def pL3:=pU lL3 pL2
def aNx:List A->Nat->List pO->Option AV:=fun l n cs=>match l with
 |[s,.int .u8 _ _,.int .i64 _ _]=>match KA s with
  |some (x,c)=>if leq cs x c 0 4000000000 then some ⟨.str x c,n,cs⟩else none
  |none=>none
 |_ =>none
def aSu:qD:=⟨259,[xT],.tup [txt 40,CT]⟩
def pP0:=pU [aSu] (kq 302 aNx pL3)
def bGo:qD:=⟨194,[txt 1000000],nR⟩
def xP1:=cL pP0 [194] []
def lP1:List qD:=[bGo]
def pP1:=pU lP1 pP0
def wOf(d:Nat):Int:=if Nat.beq d 0 then 0 else wB
def wO(w:Int)(d:Nat):Int:=if Nat.beq d 0 then 0 else w
def anV(t w:Int)(d:Nat):FuncId->An:=fun f=>
 if Nat.beq f 62 then(.node .leaf (.node .leaf (.node .leaf (.node (.node .leaf (.loop (fld 3 4 14 36 6 (.agg (vA t w (d-1))) (wO w d)) .leaf)) (.node (.node .leaf (.loop (fld 3 5 29 114 7 (.agg (txt t::vA t w (d-1))) (wO w d)) .leaf)) .leaf)))))
 else if Nat.beq f 165 then(.node .leaf (.node (.node .leaf (.loop (HJ 13 12) .leaf)) .leaf))
 else if Nat.beq f 166 then(.node .leaf (.node (.node .leaf (.loop (HJ 13 12) .leaf)) .leaf))
 else .leaf
def bNu:FuncId->Tmp->Bool:=fun f s=> !(Nat.beq f 62&&(Nat.beq s 22||Nat.beq s 41)||Nat.beq f 112&&Nat.beq s 35||Nat.beq f 167&&Nat.beq s 15)
def cV(u w:Int)(d:Nat)(pe:FuncId->List A->Nat->List pO->Option AV)(t i:fN):AX:={gl:=fun _ =>none,pe:=pe,inl:=fun f=>rD f i,top:=fun f=>rD f t,own:=bNu,jr:=fun _ _ =>false,an:=anV u w d,post:=fun _ =>none}
def c66:qD:=⟨66,[txt cBig,txt cBig],ifull⟩
def q5:=pU [c66] pP1
def c36:qD:=⟨36,[txt cBig,txt cBig],ifull⟩
def l36:List qD:=[c36]
def q6:=pU l36 q5
def wJ(t w:Int)(d:Nat):qD:=⟨62,[.agg (vA t w d)],.agg (vA t w d)⟩
def l62:Nat->List qD
 |0=>[]|d+1=>l62 d++[wJ 40 6 d,wJ (uT 0) wB d,wJ tB wB d]
def vQ:Nat->(FuncId->List A->Nat->List pO->Option AV)
 |0=>q6|d+1=>pU (l62 (d+1)) (vQ d)
def BH(d:Nat):qD:=⟨112,[.agg (vW d),.agg (vW d)],ifull⟩
def BI(d:Nat):qD:=⟨165,[.slv (.agg (vW (d-1))) 0 (wOf d),.slv (.agg (vW (d-1))) 0 (wOf d),.fn 112 [] []],ifull⟩
def BJ(d:Nat):qD:=⟨166,[.slv (.agg (txt tB::vW (d-1))) 0 (wOf d),.slv (.agg (txt tB::vW (d-1))) 0 (wOf d),.fn 167 [] []],ifull⟩
def bAh:Nat->List qD
 |0=>[]|d+1=>BH d::bAh d
def lCf:Nat->List qD
 |0=>[]|d+1=>BI d::BJ d::lCf d
def wX:Nat->(FuncId->List A->Nat->List pO->Option AV)
 |0=>vQ 6|d+1=>pU (bAh (d+1)) (pU (lCf (d+1)) (wX d))
def PY(d:Nat):=pU (lCf (d+1)) (wX d)
def c71:qD:=⟨71,[.agg (vW 5),.agg (vW 5)],.bool rJ⟩
def zO:List A:=[.ival .i64 1 4,.ival .i64 0 100000000,txt 1000000]
def pw6:Nat->Int
 |0=>1|k+1=>6*pw6 k+6
def aTn(k:Nat):LA:=
 if Nat.blt k 5 then{sp:=[(31,.a UH),(10,.row 36 6 (.agg (vA 40 6 (4-k))) 0 (pw6 (k+1)))],cons:=[(.slot 10,.ghost,0)],ms:= .up (.slot 31) (.slot 30) 0,m0:=pw6 k,gk:=6}
 else{sp:=[(31,.a UH),(10,.row 36 6 (.agg [.any,.any,.any,.any,.any,.any]) 0 0)],cons:=[(.slot 10,.zero,0)],ms:= .up (.slot 31) (.slot 30) 0,m0:=if Nat.blt k 6 then pw6 k else 0}
def anP:FuncId->An:=fun f=>
 if Nat.beq f 217 then(.node .leaf (.node .leaf (.node .leaf (.node (.node .leaf (.unl (aCc fun k=>(.node .leaf (.node .leaf (.node (.node .leaf (.node .leaf (.node (.node .leaf (.loop (aTn k) .leaf)) .leaf))) .leaf)))))) (.node .leaf (.node .leaf (.node (.node .leaf (.loop ({sp:=[(57,.a UH),(13,.row 36 6 (.agg (vT (uT 0) 4)) 0 102642)],cons:=[(.slot 13,.slot 57,0),(.slot 57,.slot 13,0)],ms:= .up (.slot 57) (.slot 56) 0,m0:=102642}) .leaf)) .leaf)))))))
 else if Nat.beq f 155 then(.node .leaf (.node (.node .leaf (.loop (HJ 8 7) .leaf)) .leaf))
 else if Nat.beq f 141 then(.node .leaf (.node (.node .leaf (.loop (HJ 8 7) .leaf)) .leaf))
 else if Nat.beq f 289 then(.node .leaf (.node .leaf (.node .leaf (.node (.node .leaf (.loop ({HJ 23 22 with sp:=[(23,.a UH),(3,.a ifull)]}) .leaf)) .leaf))))
 else if Nat.beq f 92 then(.node .leaf (.node .leaf (.node .leaf (.node (.node .leaf (.loop ({sp:=[(5,.a (txt 61)),(4,.row 165 3 (.agg zO) 0 100)],cons:=[(.slot 4,.ghost,0)],ms:= .down (.slot 5),m0:=61}) .leaf)) .leaf))))
 else .leaf
def bMs:FuncId->Tmp->Bool:=fun f s=> !(Nat.beq f 217&&(Nat.beq s 2||(Nat.beq s 9||(Nat.beq s 12||(Nat.beq s 15||(Nat.beq s 22||Nat.beq s 64)))))||Nat.beq f 291&&(Nat.beq s 2||(Nat.beq s 3||Nat.beq s 22))||Nat.beq f 289&&Nat.beq s 5||Nat.beq f 140&&Nat.beq s 1||Nat.beq f 324&&Nat.beq s 1)
def cP(pe:FuncId->List A->Nat->List pO->Option AV)(t i:fN):AX:={gl:=fun _ =>none,pe:=pe,inl:=fun f=>rD f i,top:=fun f=>rD f t,own:=bMs,jr:=fun _ _ =>false,an:=anP,post:=fun _ =>none}
def bHu:qD:=⟨92,[txt 60],.tup [.slv (.agg zO) 0 100,CT]⟩
def XK:A:= .slv (.agg zO) 0 100
def aLu:qD:=⟨218,[XK],.bool rJ⟩
def aXu:qD:=⟨218,[.slpv 10 (.agg zO) 0 100],.bool (.lit false)⟩
def aXv:qD:=⟨218,[.slpv 11 (.agg zO) 0 100],.bool (.lit true)⟩
def anN:FuncId->An:=fun f=>
 if Nat.beq f 61 then(.node .leaf (.node .leaf (.node (.node .leaf (.unl (aCc fun k=> .leaf))) .leaf)))
 else if Nat.beq f 155 then(.node .leaf (.node (.node .leaf (.unl (aCc fun k=> .leaf))) .leaf))
 else if Nat.beq f 156 then(.node .leaf (.node .leaf (.unl (aCc fun k=> .leaf))))
 else if Nat.beq f 234 then(.node .leaf (.unl (aCc fun k=>(.node .leaf (.node (.node .leaf (.loop (HJ 0 0) .leaf)) .leaf)))))
 else .leaf
def bLk:FuncId->Tmp->Bool:=fun f s=> !(Nat.beq f 61&&(Nat.beq s 32||Nat.beq s 8000033))
def cN(pe:FuncId->List A->Nat->List pO->Option AV)(t i:fN):AX:={gl:=fun _ =>none,pe:=pe,inl:=fun f=>rD f i,top:=fun f=>rD f t,own:=bLk,jr:=fun _ _ =>false,an:=anN,post:=fun _ =>none}
def tN:List Nat:=[31,61,96,97,98,99,155,156,234,65,109,108]
def c31:qD:=⟨31,[.agg (vA 40 6 4)],.agg (vA 40 6 5)⟩
def l71:List qD:=[c71]
def q71:=pU l71 (wX 6)
def Yx(k:Nat):qD:=⟨291,[.agg zO,.agg (vA 40 6 k)],if Nat.beq k 0 then .slv (.agg a6) 0 0 else .slv (.agg (vA 40 6 (k-1))) 0 6⟩
def bHe:qD:=⟨290,[.agg zO,.agg (vA 40 6 5)],.bool rJ⟩
def bHl:qD:=⟨324,[.agg zO],txt 1000100⟩
def lPa:List qD:=[bHu]
def lPb:List qD:=[aLu]
def lPc:List qD:=[bHe,bHl]
def lPd:List qD:=[Yx 0,Yx 1,Yx 2,Yx 3,Yx 4,Yx 5]
def lP0:List qD:=lPa++(lPc++lPd)
def qP0:=pU lP0 q71
def lPq:List qD:=[aXu,aXv,aLu]
def qP1:=pU lPq qP0
def vE:A:= .agg (vA 40 6 5)
def LJ:qD:=⟨217,[vE,.slpv 10 (.agg zO) 0 100],.tup [.slv (.agg (vT (uT 0) 4)) 0 102642,CT]⟩
def LK:qD:=⟨217,[vE,.slpv 11 (.agg zO) 0 100],.tup [.slv (.agg (vT (uT 0) 4)) 0 102642,CT]⟩
def LH:qD:=⟨146,[vE,.slpv 10 (.agg zO) 0 100],.tup [.agg (vT (uT 0) 5),CT]⟩
def LI:qD:=⟨146,[vE,.slpv 11 (.agg zO) 0 100],.tup [.agg (vT (uT 0) 5),CT]⟩
def inQ:List Nat:=[325,155,343]
def tP0:List Nat:=[92,139,140,197,206,262,290,324,291,325,155,343]
def xPa:=cP q71 tP0 [139,140,197,206,262]
def xPc:=cP q71 tP0 []
def xPd:=cP q71 tP0 inQ
def xPq:=cP qP0 [218,93,141,292] [93,141,292]
def xPn:=cP qP1 [217,146,289,140] [289,140]
def xPm:=cP qP1 [217,146,289,140] [217,289,140]
def UF:qD:=⟨217,[vE,XK],.tup [.slv (.agg (vT (uT 0) 4)) 0 102642,CT]⟩
def UE:qD:=⟨146,[vE,XK],.tup [.agg (vT (uT 0) 5),CT]⟩
def lPn:List qD:=[LJ,LK]
def lPm:List qD:=[LH,LI]
def lP2:List qD:=lPn++(lPm++[UF,UE])
def pE0:=pU lP2 qP1
def xE1:AX:={cL pE0 [214,216,144,229,294,225,232,233] []with own:=fun _ _ =>true}
def bGu(u:Int):qD:=⟨225,[txt u],.agg (vA u 0 0)⟩
def c232(u:Int):qD:=⟨232,[txt u],txt u⟩
def c233(u:Int):qD:=⟨233,[txt u],txt u⟩
def uS:List Int:=[1024,uT 0,uT 1,uT 2,uT 3]
def lE1:List qD:=[⟨214,[.agg (vT (uT 3) 5)],.bool rJ⟩,⟨216,[.agg (vT (uT 3) 5)],.agg [ifull,ifull]⟩,⟨144,[.bool rJ],.agg (vA 0 0 0)⟩,⟨229,[ifull],.agg (vA 0 0 0)⟩,⟨294,[ifull,ifull],.agg (vA 0 0 0)⟩]++uS.map bGu++uS.map c232++uS.map c233
def pE1:=pU lE1 pE0
def bLh:TypeId×List A×List A:=(169,vA 40 6 5++[CT],vA 40 6 5++[CT])
def sM(f:fT)(args:List A)(res:A):AE:=⟨f,.ptr 0 0::args,[bLh],res⟩
def z0:A:= .agg (vA 0 0 0)
def vD(d:Nat):A:= .agg (vT (uT d) 5)
def vB:A:= .agg (vT (uT 3) 5)
def Fb(f a:Nat)(s:Tmp)(l:gK):Bool:=Nat.beq f a&&rD s l
def bIf:FuncId->Tmp->Bool:=fun f s=>if Nat.ble 9000000 s then !(Fb f 95 s [9000032,9000045,9000072])else
 rD f [147,143,230,231]&&Nat.beq s 4||(Fb f 95 s [4]||(Fb f 148 s [4,36,1015]||(Fb f 151 s [8,10]||(Fb f 152 s [6]||(Fb f 153 s [8]||(Fb f 154 s [6]||(Fb f 220 s [8]||(rD f [216,144,229,225]&&Nat.beq s 2||(Fb f 294 s [4]||(Nat.beq f 59&& !(rD s [2,3,8,1008])))))))))))
def mOc:List (Tmp×Nat×TA):=[(0,0,.a ifull),(0,1,.a ifull),(0,2,.a ifull),(0,3,.a (txt 40)),(0,4,.a (.slv (.agg (vA 40 6 4)) 0 6)),(0,5,.a (.slv (.agg (txt 40::vA 40 6 4)) 0 6)),(0,6,.a CT)]
def anE(d:Nat):FuncId->An:=fun f=>
 if Nat.beq f 148 then(.node .leaf (.node .leaf (.node .leaf (.node .leaf (.node .leaf (.node (.node .leaf (.loop ({XH 39 9 101 2 (.agg [ifull,ifull]) 102642 with ms:= .up (.slot 39) (.slot 38) 0}) .leaf)) .leaf))))))
 else if Nat.beq f 95 then(.node .leaf (.node .leaf (.node .leaf (.node (.node .leaf (.node .leaf (.node .leaf (.node .leaf (.node .leaf (.node .leaf (.node .leaf (.node .leaf (.node .leaf (.node .leaf (.node .leaf (.node .leaf (.node .leaf (.node .leaf (.node .leaf (.node .leaf (.node (.node .leaf (.node .leaf (.node .leaf (.node (.node .leaf (.loop ({XH 190 17 36 6 (vD (d-1)) 4 with oc:=mOc,ms:= .up (.slot 190) (.slot 189) 0}) .leaf)) (.node (.node .leaf (.loop ({sp:=[(20,.a UH),(16,.a (.bool rJ))],oc:=mOc,ms:= .up (.slot 20) (.slot 17) 0}) .leaf)) .leaf))))) .leaf))))))))))))))))) .leaf))))
 else .leaf
def cE(d:Nat)(pe:FuncId->List A->Nat->List pO->Option AV)(t:fN):AX:={gl:=fun _ =>none,pe:=pe,inl:=fun f=>rD f t,top:=fun f=>rD f t,own:=bIf,jr:=fun _ _ =>false,an:=anE d,post:=fun _ =>none}
def tE:List Nat:=[59,95,142,143,145,147,148,149,150,151,152,153,154,210,211,212,213,220,230,231,252,308]
def xE(d:Nat):=cE d pE1 tE
def SD:AE:=sM 147 [CT] z0
def ZQ:AE:=sM 220 [.bool rJ,.agg [ifull,ifull],CT] z0
def aVo:AE:=sM 145 [vB,vB] ifull
def aVq:AE:=sM 150 [vB,vB] (.bool rJ)
def aVr:AE:=sM 151 [.agg (eA 3),vB,vB] z0
def Hr(d:Nat):AE:=sM 152 [vD d,vD d] (.agg (vA (uT (d+1)) 0 0))
def Hs(d:Nat):AE:=sM 153 [vD d,vB,vB] (.agg (vA (uT (d+1)) 0 0))
def aVp:AE:=sM 148 [.agg (eA 3)] z0
def XI(d:Nat):AE:=sM 230 [vD d] (.agg (vA (uT d) 0 0))
def Sr:AE:=sM 231 [vB] z0
def Ni(d:Nat)(k:Int):AE:=sM 154 [FI k,vD d] (.agg (vA (uT d) 0 0))
def sEv(d:Nat)(k:Int):AE:=sM 95 [.agg (okE d k)] (vD d)
def XJ(d:Nat):AE:=sM 95 [.prd (100+d+1) (eA d)] (vD d)
def HG(d:Nat):AE:=sM 143 [.prd (100+d+1) (eA d)] (vD d)
def KL(d:Nat):AE:=sM 149 [.prd (100+d+1) (eA d)] (.bool rJ)
def Mr:List Int:=[16,18,19,20,27,28]
def tE0:List AE:=[SD,ZQ,aVo,aVq,aVr,aVp,Sr]
def tEv:Nat->List AE
 |0=>tE0|d+1=>tE0++[XJ d,HG d,KL d,Hr d,Hs d]++Mr.map (Ni d)
def aYo:qD:=⟨59,[.prd 104 (eA 3),vE],.tup [.agg (vT (uT 3) 5),CT]⟩
def aYn:qD:=⟨59,[.prd 204 (eA 3),vE],.tup [.agg (vA 0 0 0),YX]⟩
def c59:qD:=⟨59,[.agg (eA 3),vE],.tup [.agg (vT (uT 3) 5),CT]⟩
def c30:qD:=⟨30,[.agg (eA 3),vE],.tup [.bool rJ,CT]⟩
def Zw:List qD:=[aYo]
def Zx:List qD:=[aYn]
def l59:List qD:=Zw++(Zx++[c59])
def pE2:=pU l59 pE1
def xV:AX:={gl:=fun _ =>none,pe:=pE2,inl:=fun f=>rD f [],top:=fun f=>rD f [30],own:=fun f s=> !(rD s [5,1005]),jr:=fun _ _ =>false,an:=fun _ => .leaf,post:=fun _ =>none}
def l30:List qD:=[c30]
def pE3:=pU l30 pE2
def xN:=cN pE3 tN tN
def pN1:=pU [c31] pE3
def aZl:A:= .agg [txt 100,txt 100,ifull,ifull,.slv (.agg (eA 3)) 0 8]
def aUo:List A:=[ifull,.slv ifull 0 6,ifull,.slv ifull 0 6]++vA 40 6 4++[txt cBig,txt cBig,ifull]
def c13:qD:=⟨13,[aZl,.agg aUo],.bool rJ⟩
def c14:qD:=⟨14,[aZl,.agg aUo],.bool rJ⟩
def xM:AX:={gl:=fun _ =>none,pe:=pN1,inl:=fun f=>rD f [],top:=fun f=>rD f [13,14],own:=fun _ _ =>true,jr:=fun _ r=>Nat.beq r 2,an:=fun _ => .leaf,post:=fun _ =>none}
def lM:List qD:=[c13,c14]
def pM1:=pU lM pN1
def gK1:List wI:=[(cK1,[],lK1)]
def gKq:List wI:=[(cKq,[],lKq)]
def gKr:List wI:=[(cKr,[],lR)]
def gK3:List wI:=[(cK3,[139,140,197,206,262],[c92]),(cKv,[203,204,282,283],[aXs])]
def gK4:List wI:=[(bHv,[88,89,90,91,93,94,138,141],bAi),(cK4,[88,89,90,91,93,94,138,141],[c58])]
def gD1:List wI:=[(xD1,[243],lD1)]
def gD2:List wI:=[(xD2,[295],lD2)]
def gD3:List wI:=[(xD3,[295],[aYa])]
def gD5:List wI:=[(xD5,[],lD5)]
def gC1:List wI:=[((xC1 0),[298,326],[Yv 0]),((xC1 1),[298,326],[Yv 1]),((xC1 2),[298,326],[Yv 2])]
def gC2:List wI:=[((xC2 0),[299,300,327,344,123,79],[Yw 0]),((xC2 1),[299,300,327,344,123,79],[Yw 1]),((xC2 2),[299,300,327,344,123,79],[Yw 2])]
def gL1:List wI:=[(xL1,[329],lL1)]
def gL2:List wI:=[(xL2,[],lL2)]
def gL3:List wI:=[(xL3,[],lL3)]
def gP1:List wI:=[(xP1,[],lP1)]
def gQ6:List wI:=[((cV tB wB 0 q5 [36] []),[],l36)]
def gA0:List wI:=[((cV 40 6 0 (vQ 0) [62] []),[],[wJ 40 6 0]),((cV (uT 0) wB 0 (vQ 0) [62] []),[],[wJ (uT 0) wB 0]),((cV tB wB 0 (vQ 0) [62] []),[],[wJ tB wB 0])]
def gA1:List wI:=[((cV 40 6 0 (vQ 1) [62] []),[],[wJ 40 6 0]),((cV (uT 0) wB 0 (vQ 1) [62] []),[],[wJ (uT 0) wB 0]),((cV tB wB 0 (vQ 1) [62] []),[],[wJ tB wB 0]),((cV 40 6 1 (vQ 1) [62] []),[],[wJ 40 6 1]),((cV (uT 0) wB 1 (vQ 1) [62] []),[],[wJ (uT 0) wB 1]),((cV tB wB 1 (vQ 1) [62] []),[],[wJ tB wB 1])]
def gA2:List wI:=[((cV 40 6 0 (vQ 2) [62] []),[],[wJ 40 6 0]),((cV (uT 0) wB 0 (vQ 2) [62] []),[],[wJ (uT 0) wB 0]),((cV tB wB 0 (vQ 2) [62] []),[],[wJ tB wB 0]),((cV 40 6 1 (vQ 2) [62] []),[],[wJ 40 6 1]),((cV (uT 0) wB 1 (vQ 2) [62] []),[],[wJ (uT 0) wB 1]),((cV tB wB 1 (vQ 2) [62] []),[],[wJ tB wB 1]),((cV 40 6 2 (vQ 2) [62] []),[],[wJ 40 6 2]),((cV (uT 0) wB 2 (vQ 2) [62] []),[],[wJ (uT 0) wB 2]),((cV tB wB 2 (vQ 2) [62] []),[],[wJ tB wB 2])]
def gA3:List wI:=[((cV 40 6 0 (vQ 3) [62] []),[],[wJ 40 6 0]),((cV (uT 0) wB 0 (vQ 3) [62] []),[],[wJ (uT 0) wB 0]),((cV tB wB 0 (vQ 3) [62] []),[],[wJ tB wB 0]),((cV 40 6 1 (vQ 3) [62] []),[],[wJ 40 6 1]),((cV (uT 0) wB 1 (vQ 3) [62] []),[],[wJ (uT 0) wB 1]),((cV tB wB 1 (vQ 3) [62] []),[],[wJ tB wB 1]),((cV 40 6 2 (vQ 3) [62] []),[],[wJ 40 6 2]),((cV (uT 0) wB 2 (vQ 3) [62] []),[],[wJ (uT 0) wB 2]),((cV tB wB 2 (vQ 3) [62] []),[],[wJ tB wB 2]),((cV 40 6 3 (vQ 3) [62] []),[],[wJ 40 6 3]),((cV (uT 0) wB 3 (vQ 3) [62] []),[],[wJ (uT 0) wB 3]),((cV tB wB 3 (vQ 3) [62] []),[],[wJ tB wB 3])]
def gA4:List wI:=[((cV 40 6 0 (vQ 4) [62] []),[],[wJ 40 6 0]),((cV (uT 0) wB 0 (vQ 4) [62] []),[],[wJ (uT 0) wB 0]),((cV tB wB 0 (vQ 4) [62] []),[],[wJ tB wB 0]),((cV 40 6 1 (vQ 4) [62] []),[],[wJ 40 6 1]),((cV (uT 0) wB 1 (vQ 4) [62] []),[],[wJ (uT 0) wB 1]),((cV tB wB 1 (vQ 4) [62] []),[],[wJ tB wB 1]),((cV 40 6 2 (vQ 4) [62] []),[],[wJ 40 6 2]),((cV (uT 0) wB 2 (vQ 4) [62] []),[],[wJ (uT 0) wB 2]),((cV tB wB 2 (vQ 4) [62] []),[],[wJ tB wB 2]),((cV 40 6 3 (vQ 4) [62] []),[],[wJ 40 6 3]),((cV (uT 0) wB 3 (vQ 4) [62] []),[],[wJ (uT 0) wB 3]),((cV tB wB 3 (vQ 4) [62] []),[],[wJ tB wB 3]),((cV 40 6 4 (vQ 4) [62] []),[],[wJ 40 6 4]),((cV (uT 0) wB 4 (vQ 4) [62] []),[],[wJ (uT 0) wB 4]),((cV tB wB 4 (vQ 4) [62] []),[],[wJ tB wB 4])]
def gA5:List wI:=[((cV 40 6 0 (vQ 5) [62] []),[],[wJ 40 6 0]),((cV (uT 0) wB 0 (vQ 5) [62] []),[],[wJ (uT 0) wB 0]),((cV tB wB 0 (vQ 5) [62] []),[],[wJ tB wB 0]),((cV 40 6 1 (vQ 5) [62] []),[],[wJ 40 6 1]),((cV (uT 0) wB 1 (vQ 5) [62] []),[],[wJ (uT 0) wB 1]),((cV tB wB 1 (vQ 5) [62] []),[],[wJ tB wB 1]),((cV 40 6 2 (vQ 5) [62] []),[],[wJ 40 6 2]),((cV (uT 0) wB 2 (vQ 5) [62] []),[],[wJ (uT 0) wB 2]),((cV tB wB 2 (vQ 5) [62] []),[],[wJ tB wB 2]),((cV 40 6 3 (vQ 5) [62] []),[],[wJ 40 6 3]),((cV (uT 0) wB 3 (vQ 5) [62] []),[],[wJ (uT 0) wB 3]),((cV tB wB 3 (vQ 5) [62] []),[],[wJ tB wB 3]),((cV 40 6 4 (vQ 5) [62] []),[],[wJ 40 6 4]),((cV (uT 0) wB 4 (vQ 5) [62] []),[],[wJ (uT 0) wB 4]),((cV tB wB 4 (vQ 5) [62] []),[],[wJ tB wB 4]),((cV 40 6 5 (vQ 5) [62] []),[],[wJ 40 6 5]),((cV (uT 0) wB 5 (vQ 5) [62] []),[],[wJ (uT 0) wB 5]),((cV tB wB 5 (vQ 5) [62] []),[],[wJ tB wB 5])]
def gF0:List wI:=[((cV tB wB 0 (wX 0) [165,166,167] [167]),[167],[BI 0,BJ 0])]
def gB0:List wI:=[((cV tB wB 0 (PY 0) [112] []),[],[BH 0])]
def gF1:List wI:=[((cV tB wB 1 (wX 1) [165,166,167] [167]),[167],[BI 1,BJ 1]),((cV tB wB 0 (wX 1) [165,166,167] [167]),[167],[BI 0,BJ 0])]
def gB1:List wI:=[((cV tB wB 1 (PY 1) [112] []),[],[BH 1]),((cV tB wB 0 (PY 1) [112] []),[],[BH 0])]
def gF2:List wI:=[((cV tB wB 2 (wX 2) [165,166,167] [167]),[167],[BI 2,BJ 2]),((cV tB wB 1 (wX 2) [165,166,167] [167]),[167],[BI 1,BJ 1]),((cV tB wB 0 (wX 2) [165,166,167] [167]),[167],[BI 0,BJ 0])]
def gB2:List wI:=[((cV tB wB 2 (PY 2) [112] []),[],[BH 2]),((cV tB wB 1 (PY 2) [112] []),[],[BH 1]),((cV tB wB 0 (PY 2) [112] []),[],[BH 0])]
def gF3:List wI:=[((cV tB wB 3 (wX 3) [165,166,167] [167]),[167],[BI 3,BJ 3]),((cV tB wB 2 (wX 3) [165,166,167] [167]),[167],[BI 2,BJ 2]),((cV tB wB 1 (wX 3) [165,166,167] [167]),[167],[BI 1,BJ 1]),((cV tB wB 0 (wX 3) [165,166,167] [167]),[167],[BI 0,BJ 0])]
def gB3:List wI:=[((cV tB wB 3 (PY 3) [112] []),[],[BH 3]),((cV tB wB 2 (PY 3) [112] []),[],[BH 2]),((cV tB wB 1 (PY 3) [112] []),[],[BH 1]),((cV tB wB 0 (PY 3) [112] []),[],[BH 0])]
def gF4:List wI:=[((cV tB wB 4 (wX 4) [165,166,167] [167]),[167],[BI 4,BJ 4]),((cV tB wB 3 (wX 4) [165,166,167] [167]),[167],[BI 3,BJ 3]),((cV tB wB 2 (wX 4) [165,166,167] [167]),[167],[BI 2,BJ 2]),((cV tB wB 1 (wX 4) [165,166,167] [167]),[167],[BI 1,BJ 1]),((cV tB wB 0 (wX 4) [165,166,167] [167]),[167],[BI 0,BJ 0])]
def gB4:List wI:=[((cV tB wB 4 (PY 4) [112] []),[],[BH 4]),((cV tB wB 3 (PY 4) [112] []),[],[BH 3]),((cV tB wB 2 (PY 4) [112] []),[],[BH 2]),((cV tB wB 1 (PY 4) [112] []),[],[BH 1]),((cV tB wB 0 (PY 4) [112] []),[],[BH 0])]
def gF5:List wI:=[((cV tB wB 5 (wX 5) [165,166,167] [167]),[167],[BI 5,BJ 5]),((cV tB wB 4 (wX 5) [165,166,167] [167]),[167],[BI 4,BJ 4]),((cV tB wB 3 (wX 5) [165,166,167] [167]),[167],[BI 3,BJ 3]),((cV tB wB 2 (wX 5) [165,166,167] [167]),[167],[BI 2,BJ 2]),((cV tB wB 1 (wX 5) [165,166,167] [167]),[167],[BI 1,BJ 1]),((cV tB wB 0 (wX 5) [165,166,167] [167]),[167],[BI 0,BJ 0])]
def gB5:List wI:=[((cV tB wB 5 (PY 5) [112] []),[],[BH 5]),((cV tB wB 4 (PY 5) [112] []),[],[BH 4]),((cV tB wB 3 (PY 5) [112] []),[],[BH 3]),((cV tB wB 2 (PY 5) [112] []),[],[BH 2]),((cV tB wB 1 (PY 5) [112] []),[],[BH 1]),((cV tB wB 0 (PY 5) [112] []),[],[BH 0])]
def gEq:List wI:=[((cV tB wB 0 (wX 6) [71] []),[],l71)]
def gPp:List wI:=[(xPa,[139,140,197,206,262],lPa),(xPc,[],lPc),(xPd,inQ,lPd)]
def gE1:List wI:=[(xE1,[],lE1)]
def gE3:List wI:=[(xV,[],l30)]
def gZ0:List wI:=[((cS 0 (pZ 0) [29] []),[],[Pm 0])]
def gZ1:List wI:=[((cS 1 (pZ 1) [29] []),[],[Pm 1]),((cS 0 (pZ 1) [29] []),[],[Pm 0])]
def gZ2:List wI:=[((cS 2 (pZ 2) [29] []),[],[Pm 2]),((cS 1 (pZ 2) [29] []),[],[Pm 1]),((cS 0 (pZ 2) [29] []),[],[Pm 0])]
def gZ3:List wI:=[((cS 3 (pZ 3) [29] []),[],[Pm 3]),((cS 2 (pZ 3) [29] []),[],[Pm 2]),((cS 1 (pZ 3) [29] []),[],[Pm 1]),((cS 0 (pZ 3) [29] []),[],[Pm 0])]
def gZ4:List wI:=[((cS 4 (pZ 4) [29] []),[],[Pm 4]),((cS 3 (pZ 4) [29] []),[],[Pm 3]),((cS 2 (pZ 4) [29] []),[],[Pm 2]),((cS 1 (pZ 4) [29] []),[],[Pm 1]),((cS 0 (pZ 4) [29] []),[],[Pm 0])]
def gW0:List wI:=[((cS 0 (pZ 5) [55] []),[],[Bb 0])]
def gW1:List wI:=[((cS 0 pS3 [55] []),[],[Bb 0]),((cS 1 pS3 [55] []),[],[Bb 1])]
def gW2:List wI:=[((cS 0 pS4 [55] []),[],[Bb 0]),((cS 1 pS4 [55] []),[],[Bb 1]),((cS 2 pS4 [55] []),[],[Bb 2])]
def gW3:List wI:=[((cS 0 pS5 [55] []),[],[Bb 0]),((cS 1 pS5 [55] []),[],[Bb 1]),((cS 2 pS5 [55] []),[],[Bb 2]),((cS 3 pS5 [55] []),[],[Bb 3])]
def gW8:List wI:=[((cS 3 pS6 [8,23] [23]),[23],[c8])]
def aTt:List wI:=[((cS 0 pS7 [12] []),[],[c12])]
def gE4:List wI:=[(xN,tN,[c31])]
def gM1:List wI:=[(xM,[],lM)]
end
end Go.Proofs.Tryz
namespace Go.Proofs.Tryz
open Go.Ps
variable[Inhabited Prd]
theorem UQ:∀(k u:Nat) (acc:fV),(Jr k u acc).length<=k+acc.length
 |0,_,acc=>by simp[Jr]
 |k+1,u,acc=>by
  unfold Jr;split
  .simp;omega
  .have:=UQ k (u/10) (UInt8.ofNat (48+u%10)::acc);simp only[bL]at this;omega
theorem Bw(n:Int):(oU n).length<=21:=by
 unfold oU;split
 .have:=UQ 20 n.natAbs [];simp at this⊢;omega
 .have:=UQ 20 n.toNat [];simp at this;omega
theorem RF(c:fV):∀l:List UInt8,Lib.indexAny l c+1<=l.length
 |[]=>by simp[Lib.indexAny]
 |b::l=>by
  have ih:=RF c l;simp only[Lib.indexAny,bL];split
  .omega
  .split<;>omega
theorem aMl(s sep:fV):(Lib.cut s sep).1.length<=s.length/\(Lib.cut s sep).2.1.length<=s.length:=by
 unfold Lib.cut;split
 .exact⟨by simp only[dH];omega,by simp only[cK];omega⟩
 .exact⟨aZ _,by simp⟩
theorem aXn(s:fV):FK .i64 (aV s):=by
 unfold aV;split
 .rename_i v h;have:=Lib.atoiAll_bounds h;exact vO (by omega)
 .unfold Lib.atoiSat;split<;>exact vO (by omega)
 .exact vO (by omega)
theorem CZ{k:Nat}{pe:fH}{H:Hp}{f:fT}{ts:eY}(h:mapO (pF k ⟨0,.nl⟩) ts=some ts){r:T}(hr:pe f ts=some r):sB k pe H f ts=some r:=by
 unfold sB;rw[h];exact hr
theorem aVe:PeA (sB 40 peZ) peS:=by
 intro f xs n cs v h ρ μ H ts hs hg;unfold peS at h;split at h
 .rename_i hf;have hf:=oM hf;subst hf;split at h
  .rename_i s b;split at h
   .rename_i hb;have hb:=Ei hb;subst hb;split at h
    .rename_i x c hl;split at h
     .rename_i hle;cases h;obtain⟨t,r,rfl,g1,g2⟩:=hg.inv_cons;obtain⟨u,r',rfl,g3,g4⟩:=g2.inv_cons;rw[g4.inv_nil];cases g3;obtain⟨l,w,rfl,e1,e2⟩:=wD hs.zero g1 hl;have hle:=oS hs.cs hle e1 hs.zero;have hi:=RF YY l;have hj:=Lib.indexAny_ge YY l;refine⟨.int .i64 (Lib.indexAny l YY),CZ (by rfl) ?_,EQ hs (vO (by omega)) ?_⟩
      .unfold peZ;rw[if_pos rfl];exact if_pos ⟨by omega,rfl⟩
      .obtain⟨n1,n2,n3,n4⟩:=hs.new (Lib.indexAny l YY);exact .cons ⟨0,_,n4,n2,by omega⟩ (.cons ⟨_,w,n2,n1 _ _ e1,by omega⟩ (.cons ⟨_,0,n2,n4,by omega⟩ (hs.cs.ext n1)))
     .cases h
    .cases h
   .cases h
  .cases h
 .split at h
  .rename_i hf;have hf:=oM hf;subst hf;split at h
   .rename_i s t;split at h
    .rename_i x c y hl hl2;split at h
     .rename_i hle;cases h;obtain⟨t1,r,rfl,g1,g2⟩:=hg.inv_cons;obtain⟨u,r',rfl,g3,g4⟩:=g2.inv_cons;rw[g4.inv_nil];obtain⟨l,w,rfl,e1,e2⟩:=wD hs.zero g1 hl;obtain⟨l2,w2,rfl,e3,e4⟩:=wD hs.zero g3 (s:=y.1) (c:=y.2) (by simpa using hl2);have hle:=oS hs.cs hle e1 hs.zero;obtain⟨c1,c2⟩:=aMl l l2;refine⟨.tup [.str (Lib.cut l l2).1,.str (Lib.cut l l2).2.1,.bool (Lib.cut l l2).2.2],CZ (by rfl) ?_,?_⟩
      .unfold peZ;rw[if_neg (by decide),if_pos rfl];exact if_pos (by omega)
      .obtain⟨n1,n2,n3,n4⟩:=hs.new ((Lib.cut l l2).1.length:Int);have hs1:Sy (ρ++[((Lib.cut l l2).1.length:Int)]) (n+1) (.le 0 n 0:: .le n x c::cs):=
        ⟨n3,n4,.cons ⟨0,_,n4,n2,by omega⟩ (.cons ⟨_,w,n2,n1 _ _ e1,by omega⟩ (hs.cs.ext n1))⟩
       obtain⟨m1,m2,m3,m4⟩:=hs1.new ((Lib.cut l l2).2.1.length:Int);refine⟨_,n1.trans m1,⟨m3,m4,?_⟩,.tup _ _ rfl ?_⟩
       .refine .cons ?_ (.cons ?_ (.cons ?_ (.cons ?_ (hs.cs.ext (n1.trans m1)))))
        .exact⟨0,_,m4,m1 _ _ n2,by omega⟩
        .exact⟨_,w,m1 _ _ n2,m1 _ _ (n1 _ _ e1),by omega⟩
        .exact⟨0,_,m4,m2,by omega⟩
        .exact⟨_,w,m2,m1 _ _ (n1 _ _ e1),by omega⟩
       .intro j a t ha ht
        match j,ha,ht with
        |0,ha,ht=>cases ha;cases ht;exact .str _ _ _ _ (m1 _ _ n2) (by omega)|1,ha,ht=>cases ha;cases ht;exact .str _ _ _ _ m2 (by omega)|2,ha,ht=>cases ha;cases ht;exact .bool _ _ (rK _)|j+3,ha,ht=>simp at ha
     .cases h
    .cases h
   .cases h
  .split at h
   .rename_i hf;have hf:=oM hf;subst hf;split at h
    .rename_i s;split at h
     .rename_i x c hl;split at h
      .rename_i hle;cases h;obtain⟨t1,r,rfl,g1,g2⟩:=hg.inv_cons;rw[g2.inv_nil];obtain⟨l,w,rfl,e1,e2⟩:=wD hs.zero g1 hl;have hle:=oS hs.cs hle e1 hs.zero;refine⟨.tup [.int .i64 (aV l),aE l],CZ (by rfl) ?_,rU hs (.tup _ _ rfl ?_)⟩
       .unfold peZ;rw[if_neg (by decide),if_neg (by decide),if_pos rfl];exact if_pos (by omega)
       .intro j a t ha ht
        match j,ha,ht with
        |0,ha,ht=>
         cases ha;cases ht;have hb:=aXn l;exact .ival _ _ _ _ hb.1 hb.2 hb
        |1,ha,ht=>
         cases ha;cases ht;unfold aE;split
         .exact .or _ .nili _ (by simp) .nili
         .exact .or _ .ifc _ (by simp) (.ifc _ _)
        |j+2,ha,ht=>simp at ha
      .cases h
     .cases h
    .cases h
   .split at h
    .rename_i hf;have hf:=oM hf;subst hf;split at h
     .rename_i s;split at h
      .rename_i x c hl;split at h
       .rename_i hle;cases h;obtain⟨t1,r,rfl,g1,g2⟩:=hg.inv_cons;rw[g2.inv_nil];obtain⟨l,w,rfl,e1,e2⟩:=wD hs.zero g1 hl;have hle:=oS hs.cs hle e1 hs.zero;refine⟨.bool (Lib.validD l),CZ (by rfl) ?_,.here hs (.bool _ _ (rK _))⟩;unfold peZ;rw[if_neg (by decide),if_neg (by decide),if_neg (by decide),if_pos rfl];exact if_pos (by omega)
       .cases h
      .cases h
     .cases h
    .split at h
     .rename_i hf;have hf:=oM hf;subst hf;split at h
      .rename_i s c;cases h;obtain⟨t1,r,rfl,g1,g2⟩:=hg.inv_cons;rw[g2.inv_nil];cases g1 with
       |int _ _ _ w e1 hk=>
       have hb:-9223372036854775808<=w+c/\w+c<=9223372036854775807:=hk;refine⟨.str (oU (w+c)),CZ (by rfl) ?_,rU hs (.strv _ _ _ (by omega) ?_)⟩
       .unfold peZ;rw[if_neg (by decide),if_neg (by decide),if_neg (by decide),if_neg (by decide),if_pos rfl];exact if_pos hb
       .have:=Bw (w+c);omega
      .cases h
     .cases h
end Go.Proofs.Tryz
namespace Go.Proofs.Tryz
open Go.Ps
theorem bCs(l:Bool)(k:Int):28<=Cal.mdL l k/\Cal.mdL l k<=31:=by
 unfold Cal.mdL;repeat' split
 all_goals omega
theorem aVk(l:Bool)(k:Int):Cal.remL l k<=366:=by
 unfold Cal.remL;repeat' split
 all_goals omega
theorem Bf(m:Int)(te:eX)(q:Int){y:Int}(hy1:1<=y)(hy2:y<=9999):∀(d:Nat) (k n:Int),(13-k).toNat<=d->1<=k->k<=12->0<=n->n<Cal.remL (SY y) k->
  ∃k' n',(yA m te q).run (d+1) (.l1 y k n)=some (.tup [.int .i64 y,.int .i64 k',.int .i64 n',.int .i64 0])/\1<=k'/\k'<=12/\1<=n'/\n'<=31
 |d,k,n,hd,h1,h2,h3,h4=>by
  have hm:=bCs (SY y) k;have hrl:=aVk (SY y) k;have hK:KW m te q y k n=true:=by
   unfold KW;refine TI (fun e=> ?_) (fun e=> ?_)
   .simp only[OV,oQ,e];simp[h1,h2]
   .simp only[OW,oQ,e];simp[h1,h2]
  rw[uF.run_succ,show(yA m te q).step (.l1 y k n)=some (HO m te q y k n)from aLb m te q y k n hK];show∃k' n',(yA m te q).fin d (HO m te q y k n)=_ /\_;unfold HO;have hs:=Cal.rem_step (l:=SY y) h1 h2;by_cases hc:n>=Cal.mdL (SY y) k
  .rw[if_pos (by simpa using hc),uF.fin_inl,w64 (by omega) (by omega),w64 (by omega) (by omega)];have hk:k+1<=12:=by
    refine cW fun hn=> ?_;rw[Cal.rem_end _ (k:=k+1) (by omega)]at hs;omega
   obtain⟨d',rfl⟩:∃d',d=d'+1:=⟨d-1,by omega⟩;exact Bf m te q hy1 hy2 d' (k+1) (n-Cal.mdL (SY y) k) (by omega) (by omega) hk (by omega) (by omega)
  .rw[if_neg (by simpa using hc),w64 (by omega) (by omega)];exact⟨k,n+1,rfl,h1,h2,by omega,by omega⟩
 termination_by d=>d
theorem aHj{y:Int}(h1:1<=y)(h2:y<=9999):SY y=Cal.leap y:=by
 unfold SY YS;rw[decide_eq_true h1,decide_eq_true h2];rfl
theorem Jo(m:Int)(te:eX)(q n:Int)(hn:0<=n)(hn2:n<=4000000):∀(d:Nat) (y:Int),y.toNat=d->1<=y->y<=9999->n<Cal.bfZ (y+1)->
  ∃y' k' n',(yA m te q).run (d+20) (.l0 y n)=some (.tup [.int .i64 y',.int .i64 k',.int .i64 n',.int .i64 0])/\1<=y'/\y'<=9999/\1<=k'/\k'<=12/\1<=n'/\n'<=31
 |d,y,hd,h1,h2,h3=>by
  have hb:=Cal.bf_nn h1 (by omega);have hK:KV m te q y n=true:=by
   unfold KV;have hy3:y<=10000:=by omega
   refine TI (fun e=> ?_) (fun e=> ?_)
   .simp only[OT,oQ,e];simp[h1,hy3]
   .simp only[OU,oQ,e];simp[h1,hy3]
  rw[show d+20=(d+19)+1 by omega,uF.run_succ,show(yA m te q).step (.l0 y n)=some (HM m te q y n)from aLa m te q y n hK];show∃y' k' n',(yA m te q).fin (d+19) (HM m te q y n)=_ /\_;unfold HM;by_cases hc:Cal.bfZ y>n
  .rw[if_pos (by simpa using hc),uF.fin_inl,w64 (by omega) (by omega)];have hy:2<=y:=by
    refine cW fun hq=> ?_;obtain rfl:y=1:=by omega
    rw[Cal.bf_one]at hc;omega
   obtain⟨d',rfl⟩:∃d',d=d'+1:=⟨d-1,by omega⟩;have:=Jo m te q n hn hn2 d' (y-1) (by omega) (by omega) (by omega) (by rw[Int.sub_add_cancel];exact hc)
   rwa [show d'+1+19=d'+20 by omega]
  .rw[if_neg (by simpa using hc),uF.fin_inl,w64 (by omega) (by omega)];have hs:=Cal.bf_succ h1
   obtain⟨k',n',e,q1,q2,q3,q4⟩:=Bf m te q h1 h2 (d+18) 1 (n-Cal.bfZ y) (by omega) (by omega) (by omega) (by omega) (by
    rw[Cal.rem_one,aHj h1 h2]
    omega)
   exact⟨y,k',n',e,h1,h2,q1,q2,q3,q4⟩
 termination_by d=>d
theorem aEi(m:Int)(te:eX)(q:Int)(hq:-9223372036854775808<=q/\q<=9223372036854775807):
  ∃y k n e,oK prog (glZ m te) 309 [.int .i64 q] (.tup [.int .i64 y,.int .i64 k,.int .i64 n,.int .i64 e])/\(0<=y/\y<=9999)/\(0<=k/\k<=12)/\(0<=n/\n<=31)/\0<=e/\e<=255:=by
 have hK:Dy m te q=true:=by
  unfold Dy;refine TI (fun e=> ?_) (fun e=> ?_)
  .simp only[OX,oQ,e];rfl
  .simp only[OY,oQ,e];rfl
 by_cases hi:YS q (-719162) 2932896=true
 .have hi':=hi;unfold YS at hi';simp only[aA,aI]at hi';have e1:IntKind.i64.wrap (q- -719162)=q+719162:=by rw[w64 (by omega) (by omega)];omega
  have e2:(q+719162).tdiv 365=(q+719162)/365:=Cal.tdiv_nn (by omega);have hst:=Cal.bf_start (n:=q+719162) (by omega) (by omega);obtain⟨Y,hY⟩:∃Y,min ((q+719162)/365+1) 9999=Y:=⟨_,rfl⟩;rw[hY]at hst;obtain⟨y',k',n',e,p1,p2,p3,p4,p5,p6⟩:=Jo m te q (q+719162) (by omega) (by omega) Y.toNat Y rfl (by omega) (by omega) hst;refine⟨y',k',n',0,aQn m te q _ hK (?_ :(yA m te q).fin (Y.toNat+20) _ =_),⟨by omega,p2⟩,⟨by omega,p4⟩,⟨by omega,p6⟩,by omega,by omega⟩;unfold Ea;rw[if_neg (by simp[hi]),uF.fin_inl,e1,e2,w64 (x:=(q+719162)/365) (by omega) (by omega),w64 (x:=(q+719162)/365+1) (by omega) (by omega)];rw[show(if 9999<(q+719162)/365+1 then 9999 else(q+719162)/365+1)=Y by rw[<-hY];split<;>omega];exact e
 .refine⟨0,0,0,2,aQn m te q 0 hK ?_,by omega,by omega,by omega,by omega,by omega⟩;unfold Ea;rw[if_pos (by simpa using hi)];rfl
end Go.Proofs.Tryz
namespace Go.Proofs.Tryz
open Go.Ps
variable[Inhabited Prd]
theorem aHv(m:Int)(te:eX)(q s:Int)(hq:-9223372036854775808<=q/\q<=9223372036854775807):
  ∃t e,oK prog (glZ m te) 259 [.agg [.int .i64 q,.int .i64 s]] (.tup [.str t,.int .i64 e])/\t.length<=40/\0<=e/\e<=255:=by
 by_cases hc:yY q s=0
 .obtain⟨h1,h2,h3,h4⟩:=Bd.1 hc;have ha0:-9223372036854775808<=pB q:=by
   unfold pB;split
   .rw[IntKind.wrap_i64];omega
   .omega
  have ha1:pB q<=9223372036854775807:=by unfold mxN at h1;omega
  have hl:=Bw (pB q);have hK:SG m te q s=true/\∃t,SH m te q s= .inr (.tup [.str t,.int .i64 0])/\t.length<=40:=by
   unfold SG SH HX OC OD OE OG PJ HY;have hd1:decide (-9223372036854775808<=pB q)=true:=decide_eq_true ha0;have hd2:decide (pB q<=9223372036854775807)=true:=decide_eq_true ha1;simp only[hd1,hd2,hc];generalize oU (pB q)=A at hl;have e1:IntKind.i64.wrap (s+1)=s+1:=w64 (by omega) (by omega);have e2:IntKind.i64.wrap (s+1-(A.length:Int))=s+1-(A.length:Int):=w64 (by omega) (by omega);simp only[e1,e2];obtain⟨c,hcc⟩:∃c,(if 0<s+1-(A.length:Int)then s+1-(A.length:Int)else 0)=c:=⟨_,rfl⟩;have hc0:0<=c/\c<=13/\s+1<=c+(A.length:Int):=by rw[<-hcc];split<;>omega
   simp only[hcc];have hZ:(Lib.repeatL [48] c.toNat).length=c.toNat:=by rw[Lib.repeatL_length];simp
   generalize Lib.repeatL [48] c.toNat=Z at hZ;have hS:(Z++A).length=Z.length+A.length:=bK;have e3:IntKind.i64.wrap (((Z++A).length:Int)-s)=((Z++A).length:Int)-s:=w64 (by omega) (by omega);simp only[e3];have hlen:(Z.length:Int)=c:=by omega
   simp only[show((0:Int) !=0)=false from rfl,bA,if_false];by_cases p1:s>0
   .simp only[show decide (s>0)=true from decide_eq_true p1,if_true];generalize Z++A=S at hS;have b1:0<=(S.length:Int)-s:=by omega
    have b2:(S.length:Int)-s<=(S.length:Int):=by omega
    have l1:(List.drop 0 (List.take ((S.length:Int)-s).toNat S)).length=((S.length:Int)-s).toNat:=by simp;omega
    have l2:(List.drop ((S.length:Int)-s).toNat (List.take S.length S)).length=s.toNat:=by simp;omega
    have l3:(List.drop 0 (List.take ((S.length:Int)-s).toNat S)++[46]).length=((S.length:Int)-s).toNat+1:=by rw[bK,l1];rfl
    have l4:(List.drop 0 (List.take ((S.length:Int)-s).toNat S)++[46]++List.drop ((S.length:Int)-s).toNat (List.take S.length S)).length=((S.length:Int)-s).toNat+1+s.toNat:=by rw[bK,l3,l2]
    by_cases p2:q<0
    .simp only[show decide (q<0)=true from decide_eq_true p2,if_true];refine⟨?_,_,rfl,?_⟩
     .simp only[oQ,l1,l2,l3,l4,aA,aI];simp[vP,p1,p2];omega
     .simp only[bL,l4];omega
    .simp only[show decide (q<0)=false from decide_eq_false p2,bA,if_false];refine⟨?_,_,rfl,?_⟩
     .simp only[oQ,l1,l2,l3,l4,aA,aI];simp[vP,p1,p2];omega
     .rw[l4];omega
   .simp only[show decide (s>0)=false from decide_eq_false p1,bA,if_false];by_cases p2:q<0
    .simp only[show decide (q<0)=true from decide_eq_true p2,if_true];refine⟨?_,_,rfl,?_⟩
     .simp only[oQ,aA,aI];simp[vP,p1,p2];omega
     .simp only[bL];omega
    .simp only[show decide (q<0)=false from decide_eq_false p2,bA,if_false];refine⟨?_,_,rfl,?_⟩
     .simp only[oQ,aA,aI];simp[vP,p1,p2]
     .omega
  obtain⟨k1,t,k2,k3⟩:=hK;exact⟨t,0,aQm m te q s 0 k1 (by rw[k2];rfl),k3,by omega,by omega⟩
 .refine⟨[],yY q s,aQm m te q s 0 ?_ ?_,by simp,?_⟩
  .unfold SG HX;rw[if_pos (by simpa using hc)];simp[oQ,hc]
  .unfold SH;rw[if_pos (by simpa using hc)];rfl
  .unfold yY;split<;>omega
end Go.Proofs.Tryz
namespace Go.Proofs.Tryz
open Go.Ps
def pureT(t:T):Prop:=∀(k:Nat) (H:Hp),20<=k->pF k H t=some t
def VE:Nat->T->Prop
 |0,_ =>False|d+1,t=>∃(k:Int) (x y v a:T) (vs es:eY),t= .agg [.int .i64 k,x,y,v,a]/\AK v vs/\AK a es/\1<=k/\k<=28/\aAd k<=(es.length:Int)/\(k=1->vs.length=1)/\∀u∈es,VE d u
theorem Fz{t:T}{xs ys:eY}(h:AK t xs)(h':AK t ys):xs=ys:=by
 rcases h with⟨rfl,rfl⟩|⟨f,rfl⟩|⟨full,n,f,rfl,rfl⟩<;>rcases h' with⟨h,rfl⟩|⟨f',h⟩|⟨full',n',f',h,rfl⟩<;>cases h<;>rfl
variable[Inhabited Prd]
def okN(x:T):Prop:=∃n s:Int,x= .agg [.int .i64 n,.int .i64 s]/\-999999999999999<=n/\n<=999999999999999/\0<=s/\s<=12
def badNs(t:T):Prop:=∃xs,AK t xs/\∃x∈xs,¬okN x
structure Is:Prop where
 n:∀t:T,(default:Prd).q 20 t↔badNs t/\pureT t
 v:∀(d:Nat) (t:T),d<=5->((default:Prd).q (100+d) t↔VE d t/\pureT t)
 b:∀(d:Nat) (t:T),d<=5->((default:Prd).q (200+d) t↔¬VE d t/\pureT t)
variable{ρ:fI}{μ:fB}
theorem MU{a:A}{t:T}(h:pV 20 a=true)(hg:Gm ρ μ a t):pureT t:=fun k H hk=>CD 20 a t h hg k hk
theorem AL{es:List A}{ts:eY}(h:pH ρ μ es ts):Gm ρ μ (.agg es) (.agg ts):= .agg es ts h.1 h.2
theorem oT{a:A}{es:List A}{t:T}{ts:eY}(h:Gm ρ μ a t)(h':pH ρ μ es ts):pH ρ μ (a::es) (t::ts):=by
 refine⟨by simp[h'.1],fun j x y hx hy=> ?_⟩;cases j with
 |zero=>cases hx;cases hy;exact h|succ j=>exact h'.2 j x y (by simpa using hx) (by simpa using hy)
theorem vF:pH ρ μ [] []:=⟨rfl,fun j x y hx hy=>by simp at hx⟩
theorem aQv{o sx st va ar:A}{t:T}(h:Gm ρ μ (.agg [o,sx,st,va,ar]) t):∃x0 x1 x2 x3 x4,t= .agg [x0,x1,x2,x3,x4]/\Gm ρ μ o x0/\Gm ρ μ sx x1/\Gm ρ μ st x2/\Gm ρ μ va x3/\Gm ρ μ ar x4:=by
 cases h with
 |agg _ ts h1 h2=>
 obtain⟨a0,r0,rfl,g0,h⟩:=(show pH ρ μ _ ts from⟨h1,h2⟩).inv_cons;obtain⟨a1,r1,rfl,g1,h⟩:=h.inv_cons;obtain⟨a2,r2,rfl,g2,h⟩:=h.inv_cons;obtain⟨a3,r3,rfl,g3,h⟩:=h.inv_cons;obtain⟨a4,r4,rfl,g4,h⟩:=h.inv_cons;obtain rfl:=h.inv_nil;exact⟨a0,a1,a2,a3,a4,rfl,g0,g1,g2,g3,g4⟩
theorem Rs{o sx st va ar:A}{x0 x1 x2 x3 x4:T}(g0:Gm ρ μ o x0)(g1:Gm ρ μ sx x1)(g2:Gm ρ μ st x2)(g3:Gm ρ μ va x3)(g4:Gm ρ μ ar x4):Gm ρ μ (.agg [o,sx,st,va,ar]) (.agg [x0,x1,x2,x3,x4]):=
 AL (oT g0 (oT g1 (oT g2 (oT g3 (oT g4 vF)))))
theorem inv_int{t:T}(h:Gm ρ μ ifull t):∃n:Int,t= .int .i64 n/\-9223372036854775808<=n/\n<=9223372036854775807:=by
 unfold ifull at h;cases h with
 |ival _ _ _ n h1 h2 h3=>exact⟨n,rfl,h1,h2⟩
theorem yL{n lo hi:Int}(h1:lo<=n)(h2:n<=hi)(h3:-9223372036854775808<=n)(h4:n<=9223372036854775807):Gm ρ μ (.ival .i64 lo hi) (.int .i64 n):= .ival _ _ _ _ h1 h2 ⟨h3,h4⟩
theorem EM{e:A}{lo hi:Int}{t:T}(h:Gm ρ μ (.slv e lo hi) t):∃xs,AK t xs/\lo<=(xs.length:Int)/\(xs.length:Int)<=hi/\∀x∈xs,Gm ρ μ e x:=by
 cases h with
 |slv _ _ _ _ xs h1 h2 h3 h4=>exact⟨xs,h1,h2,h3,h4⟩
theorem aQp(d:Nat):eA d=[ifull,ifull,txt 60,vsl 0 2,Ji d 0 4]:=by
 cases d<;>rfl
theorem Vw{d:Nat}{t:T}(h:Gm ρ μ (Ji d 0 4) t):∃xs,AK t xs/\(d=0->xs=[])/\(xs.length:Int)<=4/\∀x∈xs,∀e,d=e+1->Gm ρ μ (.agg (eA e)) x:=by
 cases d with
 |zero=>
  obtain⟨xs,h1,h2,h3,h4⟩:=EM (show Gm ρ μ (.slv (.agg a5) 0 0) t from h);have:xs=[]:=cY.1 (by omega);exact⟨xs,h1,fun _ =>this,by omega,fun x hx=>by rw[this]at hx;simp at hx⟩
 |succ d=>
  obtain⟨xs,h1,h2,h3,h4⟩:=EM (show Gm ρ μ (.slv (.agg (eA d)) 0 4) t from h);exact⟨xs,h1,(by intro q;cases q),h3,fun x hx e he=>by cases he;exact h4 x hx⟩
theorem aUt{d:Nat}{t:T}{xs:eY}{lo hi:Int}(h1:AK t xs)(h2:d=0->xs=[])(h3:∀x∈xs,∀e,d=e+1->Gm ρ μ (.agg (eA e)) x)(h4:lo<=(xs.length:Int))(h5:(xs.length:Int)<=hi):Gm ρ μ (Ji d lo hi) t:=by
 cases d with
 |zero=>
  have:=h2 rfl;subst this;exact .slv _ _ _ _ [] h1 (by simp) (by simp) (by simp)
 |succ d=>exact .slv _ _ _ _ xs h1 h4 h5 (fun x hx=>h3 x hx d rfl)
theorem aVh:((List.range 5).all fun d=>pV 20 (.agg (eA d)))=true:=by kernel_rfl
theorem pureE(d:Nat)(hd:d<=4):pV 20 (.agg (eA d))=true:=aG.1 aVh d (List.mem_range.2 (by omega))
theorem aOn{k:Int}(h1:1<=k)(h2:k<=28)(h:0<aAd k):k∈aVc:=by
 have hk:k=1\/k=2\/k=3\/k=4\/k=5\/k=6\/k=7\/k=8\/k=9\/k=10\/k=11\/k=12\/k=13\/k=14\/k=15\/k=16\/k=17\/k=18\/k=19\/k=20\/k=21\/k=22\/k=23\/k=24\/k=25\/k=26\/k=27\/k=28:=by omega
 rcases hk with rfl|rfl|rfl|rfl|rfl|rfl|rfl|rfl|rfl|rfl|rfl|rfl|rfl|rfl|rfl|rfl|rfl|rfl|rfl|rfl|rfl|rfl|rfl|rfl|rfl|rfl|rfl|rfl<;>first|exact absurd h (by decide)|(unfold aVc;decide)
theorem aTa(hI:Is){d:Nat}(hd:d<=4){t:T}(hg:Gm ρ μ (.prd (100+d+1) (eA d)) t):∃k∈GX d,Gm ρ μ (.agg (okE d k)) t:=by
 cases hg with
 |prd _ _ ts hq h1 h2=>
 obtain⟨hv,hp⟩:=(hI.v (d+1) _ (by omega)).1 hq;have hg:Gm ρ μ (.agg (eA d)) (.agg ts):= .agg _ _ h1 h2;rw[aQp]at hg;obtain⟨x0,x1,x2,x3,x4,e,g0,g1,g2,g3,g4⟩:=aQv hg;cases e;obtain⟨vs',v1',v2,v3,v4⟩:=EM (show Gm ρ μ (.slv (.agg (vA 40 6 1)) 0 2) x3 from g3);obtain⟨es',a1',a2,a3,a4⟩:=Vw g4;obtain⟨k,y1,y2,y3,y4,vs,es,e,v1,a1,k1,k2,k3,k4,k5⟩:=hv;cases e;obtain rfl:=Fz v1 v1';obtain rfl:=Fz a1 a1';have gv:Gm ρ μ (if k=1 then vsl 1 1 else vsl 0 2) x3:=by
  split
  .rename_i c;have:=k4 c;exact .slv _ _ _ _ vs v1 (by omega) (by omega) v4
  .exact g3
 have ga:Gm ρ μ (aXp d (aAd k)) x4:=by
  cases d with
  |zero=>
   have:=a2 rfl;subst this;exact .slv _ _ _ _ [] a1 (by simp) (by simp) (by simp)
  |succ e=>
   refine .slv _ _ _ _ es a1 k3 a3 fun x hx=> ?_;have hg:=a4 x hx e rfl;have hq:=(hI.v (e+1) x (by omega)).2 ⟨k5 x hx,MU (pureE e (by omega)) hg⟩;cases hg with
   |agg _ ts h1 h2=>exact .prd _ _ _ hq h1 h2
 refine⟨k,?_,Rs (yL (Int.le_refl _) (Int.le_refl _) (by omega) (by omega)) g1 g2 gv ga⟩;have hk:k=1\/k=2\/k=3\/k=4\/k=5\/k=6\/k=7\/k=8\/k=9\/k=10\/k=11\/k=12\/k=13\/k=14\/k=15\/k=16\/k=17\/k=18\/k=19\/k=20\/k=21\/k=22\/k=23\/k=24\/k=25\/k=26\/k=27\/k=28:=by omega
 cases d with
 |zero=>
  rw[a2 rfl]at k3;rcases hk with rfl|rfl|rfl|rfl|rfl|rfl|rfl|rfl|rfl|rfl|rfl|rfl|rfl|rfl|rfl|rfl|rfl|rfl|rfl|rfl|rfl|rfl|rfl|rfl|rfl|rfl|rfl|rfl<;>first|exact absurd k3 (by decide)|(unfold GX;decide)
 |succ e=>rcases hk with rfl|rfl|rfl|rfl|rfl|rfl|rfl|rfl|rfl|rfl|rfl|rfl|rfl|rfl|rfl|rfl|rfl|rfl|rfl|rfl|rfl|rfl|rfl|rfl|rfl|rfl|rfl|rfl<;>simp[GX]
theorem cls(hI:Is){d:Nat}(hd:d<=4){t:T}(hg:Gm ρ μ (.agg (eA d)) t)(hb:¬VE (d+1) t):
  (∃r∈aIx d,Gm ρ μ (.agg r) t)\/∃e n i,d=e+1/\i<n/\n<=4/\Gm ρ μ (.agg (aNy e n i)) t:=by
 rw[aQp]at hg;obtain⟨x0,x1,x2,x3,x4,rfl,g0,g1,g2,g3,g4⟩:=aQv hg;obtain⟨k,rfl,k1,k2⟩:=inv_int g0;obtain⟨vs,v1,v2,v3,v4⟩:=EM (show Gm ρ μ (.slv (.agg (vA 40 6 1)) 0 2) x3 from g3);obtain⟨es,a1,a2,a3,a4⟩:=Vw g4;by_cases c1:k<=0
 .exact .inl ⟨_,aR,Rs (yL k1 c1 k1 k2) g1 g2 g3 g4⟩
 by_cases c2:29<=k
 .exact .inl ⟨_,aJ _ aR,Rs (yL c2 k2 k1 k2) g1 g2 g3 g4⟩
 by_cases c3:aAd k<=(es.length:Int)
 .by_cases c4:k=1->vs.length=1
  .have hu:∃u∈es,¬VE d u:=by
    refine cW fun hn=>hb ⟨k,x1,x2,x3,x4,vs,es,rfl,v1,a1,by omega,by omega,c3,c4,fun u hu=> ?_⟩;exact cW fun q=>hn ⟨u,hu,q⟩
   obtain⟨u,hu,hn⟩:=hu;obtain⟨i,hi,rfl⟩:=bX hu;cases d with
   |zero=>have:=a2 rfl;subst this;simp at hi
   |succ e=>
    refine .inr ⟨e,es.length,i,rfl,hi,by omega,Rs g0 g1 g2 g3 (.slk _ _ es a1 (by simp) fun j a t ha ht=> ?_)⟩;obtain⟨hj,rfl⟩:=aK.1 ht;have hg:=a4 _ (bV hj) e rfl;rw[aY,dJ hj]at ha;cases ha;by_cases hji:j=i
    .subst hji;show Gm ρ μ (if Nat.beq j j=true then .prd (200+e+1) (eA e)else .agg (eA e)) _;rw[if_pos (by simp)];have hq:=(hI.b (e+1) es[j] (by omega)).2 ⟨hn,MU (pureE e (by omega)) hg⟩;generalize es[j]=u at hg hq;cases hg with
     |agg _ ts h1 h2=>exact .prd _ _ _ hq h1 h2
    .show Gm ρ μ (if Nat.beq j i=true then .prd (200+e+1) (eA e)else .agg (eA e)) _;rw[if_neg (by simpa using hji)];exact hg
  .obtain⟨c5,c6⟩:k=1/\¬vs.length=1:=⟨cW fun q=>c4 fun e=>absurd e q,fun q=>c4 fun _ =>q⟩;subst c5;have:vs.length=0\/vs.length=2:=by omega
   rcases this with c|c
   .exact .inl ⟨_,aJ _ (aJ _ aR),Rs (yL (by omega) (by omega) k1 k2) g1 g2 (.slv _ _ _ _ vs v1 (by omega) (by omega) v4) g4⟩
   .exact .inl ⟨_,aJ _ (aJ _ (aJ _ aR)),Rs (yL (by omega) (by omega) k1 k2) g1 g2 (.slv _ _ _ _ vs v1 (by omega) (by omega) v4) g4⟩
 .have hm:=aOn (k:=k) (by omega) (by omega) (by omega);refine .inl ⟨_,aJ _ (aJ _ (aJ _ (aJ _ (dI hm)))),Rs (yL (by omega) (by omega) k1 k2) g1 g2 g3 (aUt a1 a2 a4 (by omega) (by omega))⟩
end Go.Proofs.Tryz
namespace Go.Ps
def pl1:T->Bool
 | .int .. | .bool _ | .str _ | .nilp| .nils| .nilf| .nili| .nilm| .slf .. =>true|_ =>false
theorem aPf{g:G}{u:fP}{c:T}(h:pl1 c=true)(hr:Rd g u c):FA g u c:=by
 cases hr with
 |int k n=>exact .int k n|bool b=>exact .bool b|str s=>exact .str s|nilp=>exact .nilp|nils=>exact .nils|nilf=>exact .nilf|nili=>exact .nili|nilm=>exact .nilm|slfn full f p=>exact .slfn full f p|slf full n f sz b o cap vs h1 h2 h3 h4 h5 h6 h7 h8=>exact .slf full n f sz b o cap vs h1 h2 h3 h4 h5 h6 h7 h8|_ =>simp[pl1]at h
def flT:T->Bool
 | .sl b _ =>b| .slf b _ _ =>b|_ =>true
theorem Xh{g:G}{v:fP}{t:T}{xs:eY}{f:iC}(hx:AK t xs)(h:Rd g v t)(hs:∀x∈xs,∀c∈x.cells,pl1 c=true)(hf:∀i,i<xs.length->xs[i]? =some (f i)):Rd g v (.slf (flT t) xs.length f):=by
 rcases hx with⟨rfl,rfl⟩|⟨full,rfl⟩|⟨full,n,f',rfl,rfl⟩
 .cases h;exact .slfn true f _
 .cases h with
  |sl _ _ sz b o cap vs h1 h2 h3 h4 h5 h6 h7 h8=>
   refine .slf full xs.length f sz b o cap vs (fun q=>h1 (fun e=>q (by simp[e]))) (fun i hi=>h2 _ (bB (hf i hi))) h3 h4 h5 h6 h7 (fun i j u c hi hj hu hc=> ?_);have hm:=bB (hf i hi);have hr:=h8 _ u c hu (EX h2 (hf i hi) j c hc);exact aPf (hs _ hm c (bB hc)) hr
 .have hl:((List.range n).map f').length=n:=by simp
  have he:∀i,i<n->f i=f' i:=fun i hi=>by
   have:=hf i (by omega);rw[aY,dJ hi]at this;exact(bQ this).symm
  rw[hl];cases h with
  |slfn _ _ p=>exact .slfn full f p
  |slf _ _ _ sz b o cap vs h1 h2 h3 h4 h5 h6 h7 h8=>
   exact .slf full n f sz b o cap vs h1 (fun i hi=>by rw[he i hi];exact h2 i hi) h3 h4 h5 h6 h7 (fun i j u c hi hj hu hc=>by rw[he i hi]at hc;exact h8 i j u c hi hj hu hc)
end Go.Ps
namespace Go.Proofs.Tryz
open Go.Ps
variable[Inhabited Prd]
theorem aOx(n s:Int)(h:yY n s=0):okN (.agg [.int .i64 n,.int .i64 s]):=by
 obtain⟨h1,h2,h3,h4⟩:=Bd.1 h;refine⟨n,s,rfl,h2,?_,h3,h4⟩;unfold pB mxN at h1;split at h1<;>omega
def aXl(ts:eY)(r:T):Prop:=∃e:Int,r= .int .i64 e/\0<=e/\e<=255/\(e=0->∀t xs,ts=[t]->AK t xs->∀x∈xs,okN x)
theorem bMz(m:Int)(te:eX){t:T}{xs:eY}(hx:AK t xs)(hl:(xs.length:Int)<=256)(hn:∀x∈xs,∃n s:Int,x= .agg [.int .i64 n,.int .i64 s]):∃r,oK prog (glZ m te) 287 [t] r/\aXl [t] r:=by
 have hex:∃f g:Nat->Int,∀i,i<xs.length->xs[i]? =some (.agg [.int .i64 (f i),.int .i64 (g i)]):=by
  refine⟨fun i=>(match xs[i]? with|some (.agg [.int _ n,_])=>n|_ =>0),fun i=>(match xs[i]? with|some (.agg [_,.int _ s])=>s|_ =>0),fun i hi=> ?_⟩;obtain⟨n,s,e⟩:=hn xs[i] (bV hi);have:xs[i]? =some (.agg [.int .i64 n,.int .i64 s]):=by rw[aC hi,e]
  simp only[this]
 obtain⟨f,g,hfg⟩:=hex;have hp:∀x∈xs,∀c∈x.cells,pl1 c=true:=fun x h c hc=>by
  obtain⟨n,s,rfl⟩:=hn x h;have hc:c∈[T.int .i64 n,T.int .i64 s]:=hc;simp only[aU,cB,or_false]at hc;rcases hc with rfl|rfl<;>rfl
 obtain⟨e,he,hb,h2⟩:=aMf m te (flT t) xs.length (by omega) f g;refine⟨.int .i64 e,⟨he.1,fun G vs hg hN hgl hv=> ?_⟩,e,rfl,hb.1,hb.2,fun hz t' xs' ht hx' x hm=> ?_⟩
 .obtain⟨v,rfl,hr⟩:∃v,vs=[v]/\Rd G v t:=by
   match vs,hv with
   |[v],hv=>exact⟨v,rfl,hv.2 0 v t rfl rfl⟩|[],hv=>have:=hv.1;simp at this|_ ::_ ::_,hv=>have:=hv.1;simp at this
  exact he.2 G [v] hg hN hgl (RdL.cons (Xh hx hr hp hfg) RdL.nil)
 .cases ht;obtain rfl:=Fz hx' hx;obtain⟨i,hi,rfl⟩:=bX hm;have:=hfg i hi;rw[aC hi]at this;rw[bQ this];exact aOx _ _ (h2 hz i hi)
end Go.Proofs.Tryz
namespace Go.Proofs.Tryz
open Go.Ps
noncomputable section
section
variable(m:Int)(te:eX)
def sC(f:fT):List T->Option (T×List Bool)
 |[y]=>some (y,[pb (oK prog (glZ m te) f [y] y)])|_ =>none
def DG:Ed:=⟨glZ m te,qG 62 (sC m te 62) (qG 67 (sC m te 67) (qG 68 (sC m te 68) (fun _ _ _ =>none)))⟩
def F62:Fc:=⟨fun s=>Nat.beq s 2||Nat.beq s 3,fun _ _ _ =>none⟩
def vlX(v:Vl)(n k:Nat)(u:Nat->Vl)(g:jE):T:= .agg [.int .i64 v.kind,.int .i64 v.int,.int .i64 v.scale,.str v.text,vls n u,fds k g]
def rsL(n:Nat)(f:iC):T:=match n with
 |0=> .nils|n+1=> .sl false ((List.range (n+1)).map f)
def cjt(p:hX)(b:Bool):Nat->Bool
 |0=>b|k+1=>p k&&cjt p b k
theorem Qi{p:hX}{b:Bool}(hb:b=true):∀{k:Nat},(∀j,j<k->p j=true)->cjt p b k=true
 |0,_ =>hb|k+1,h=>by simp[cjt,h k (by omega),Qi hb (k:=k) fun j hj=>h j (by omega)]
def dsV(n k:Nat):List Bool:=List.replicate n true++[false]++List.replicate k true++[false]
theorem u62(v:Vl)(u:Nat->Vl)(g:jE):∀n k:Nat,n<=6->k<=6->(Tryz.u (DG m te) F62 f62 [vlX v n k u g] (dsV n k)).map (fun q=>(q.1,oQ q.2))=
  some (.agg [.int .i64 v.kind,.int .i64 v.int,.int .i64 v.scale,.str v.text,rsL n fun j=>tQ (u j),rsL k fun j=>OA (g j)],
   cjt (fun j=>pb (oK prog (glZ m te) 62 [tQ (g j).val] (tQ (g j).val))) (cjt (fun j=>pb (oK prog (glZ m te) 62 [tQ (u j)] (tQ (u j)))) true n) k):=by
 intro n k h h';rcases n with _ |_ |_ |_ |_ |_ |_ |n<;>rcases k with _ |_ |_ |_ |_ |_ |_ |k<;>first|omega|kernel_rfl
theorem QE{g:G}{v:fP}{n:Nat}{f:iC}(hp:∀j,j<n->∀c∈(f j).cells,pl1 c=true)(h:Rd g v (rsL n f)):Rd g v (.slf false n f):=by
 cases n with
 |zero=>cases h;exact .slfn false f _
 |succ n=>
  have h':Rd g v (.sl false ((List.range (n+1)).map f)):=h
  have:=Xh (f:=f) (.inr (.inl ⟨false,rfl⟩)) h' (fun x hx c hc=>by
   obtain⟨j,hj,rfl⟩:=bU.1 hx
   exact hp j (List.mem_range.1 hj) c hc) (fun i hi=>by
   have hi:i<n+1:=by simpa using hi
   rw[aY,dJ hi];rfl)
  have e:((List.range (n+1)).map f).length=n+1:=by simp
  rw[e]at this;exact this
theorem cxG(h67:True):Cx prog (DG m te) F62:=by
 have ok:∀{f:fT} {ts:eY} {r:T} {cs:fL},sC m te f ts=some (r,cs)->oQ cs=true->oK prog (glZ m te) f ts r:=by
  intro f ts r cs h hc;unfold sC at h;split at h
  .cases h;simp only[oQ,bC,pT]at hc;exact hc
  .cases h
 exact⟨follows,pM (pM (pM rM fun ts r cs h hc=>ok h hc) fun ts r cs h hc=>ok h hc) fun ts r cs h hc=>ok h hc,qV⟩
theorem aEl{v:Vl}{u:Nat->Vl}{g:jE}(hn:v.n<=6)(hk:v.m<=6)(hu:v.list=fun j=>tQ (u j))(hg:v.fld=fun j=>OA (g j))(h1:∀j,j<v.n->oK prog (glZ m te) 62 [tQ (u j)] (tQ (u j)))(h2:∀j,j<v.m->oK prog (glZ m te) 62 [tQ (g j).val] (tQ (g j).val)):oK prog (glZ m te) 62 [tQ v] (tQ v):=by
 have e:tQ v=vlX v v.n v.m u g:=by unfold tQ vlC vlX vls fds;rw[hu,hg]
 rw[e];refine(u_ok (cxG m te trivial) rfl (f:=62) (by kernel_rfl) (by kernel_rfl) func62 (by kernel_rfl) (ts:=[vlX v v.n v.m u g]) (by kernel_rfl) (u62 m te v u g v.n v.m hn hk) (Qi (Qi rfl fun j hj=>pT.2 (h1 j hj)) fun j hj=>pT.2 (h2 j hj))).mono fun G x hx=> ?_;cases hx with
 |agg _ vs k1 k2=>
  refine .agg _ vs k1 fun j c t hc ht=> ?_
  match j,ht with
  |0,ht=>cases ht;exact k2 0 c _ hc rfl|1,ht=>cases ht;exact k2 1 c _ hc rfl|2,ht=>cases ht;exact k2 2 c _ hc rfl|3,ht=>cases ht;exact k2 3 c _ hc rfl|4,ht=>cases ht;exact QE (fun j _ c hc=>by simp[T.cells,tQ,vlC]at hc;rcases hc with rfl|rfl|rfl|rfl|rfl|rfl<;>rfl) (k2 4 c _ hc rfl)
  |5,ht=>cases ht;exact QE (fun j _ c hc=>by simp[T.cells,OA]at hc;rcases hc with rfl|rfl|rfl|rfl|rfl|rfl|rfl<;>rfl) (k2 5 c _ hc rfl)
  |j+6,ht=>simp[vlX]at ht
end
end
end Go.Proofs.Tryz
namespace Go.Proofs.Tryz
open Go.Ps
noncomputable section
section
variable(m:Int)(te:eX)
theorem aSz{v:Vl}(hn:v.n=0)(hm:v.m=0):oK prog (glZ m te) 62 [tQ v] (tQ v):=by
 obtain⟨a,b,c,d,n,l,k,f⟩:=v;simp only at hn hm;subst hn hm;refine(u_ok (cxG m te trivial) rfl (f:=62) (by kernel_rfl) (by kernel_rfl) func62 (by kernel_rfl) (ts:=[tQ ⟨a,b,c,d,0,l,0,f⟩]) (by kernel_rfl) (ds:=[false,false]) (r:= .agg [.int .i64 a,.int .i64 b,.int .i64 c,.str d,.nils,.nils]) (b:=true) (by kernel_rfl) rfl).mono fun G x hx=> ?_;cases hx with
 |agg _ vs k1 k2=>
  refine .agg _ vs k1 fun j c t hc ht=> ?_
  match j,ht with
  |0,ht=>cases ht;exact k2 0 c _ hc rfl|1,ht=>cases ht;exact k2 1 c _ hc rfl|2,ht=>cases ht;exact k2 2 c _ hc rfl|3,ht=>cases ht;exact k2 3 c _ hc rfl|4,ht=>cases ht;exact QE (n:=0) (fun j h=>absurd h (by omega)) (k2 4 c _ hc rfl)|5,ht=>cases ht;exact QE (n:=0) (fun j h=>absurd h (by omega)) (k2 5 c _ hc rfl)|j+6,ht=>simp[vlC]at ht
theorem NV:∀(d:Nat) (v:Vl),WB d v->oK prog (glZ m te) 62 [tQ v] (tQ v)
 |0,v,⟨h1,h2⟩=>aSz m te h1 h2|d+1,v,⟨h1,h2,u,g,h3,h4,h5,h6⟩=>aEl m te h1 h2 h3 h4 (fun j hj=>NV d (u j) (h5 j hj)) fun j hj=>NV d (g j).val (h6 j hj)
def FG:Fc:=⟨fun s=>Nat.beq s 2,fun _ _ _ =>none⟩
theorem cxH:Cx prog (DG m te) FG:=⟨follows,(cxG m te trivial).hE,qV⟩
theorem bHr{e:Int}{n:Nat}{p:iC}(h:oK prog (glZ m te) 68 [.slf false n p] (.slf false n p)):oK prog (glZ m te) 67 [.agg [.int .i64 e,.slf false n p]] (.agg [.int .i64 e,.slf false n p]):=
 u_ok (cxH m te) rfl (f:=67) (by kernel_rfl) (by kernel_rfl) func67 (by kernel_rfl) (by kernel_rfl) (ds:=[]) (b:=pb (oK prog (glZ m te) 68 [.slf false n p] (.slf false n p))&&true) (by kernel_rfl) (by simp[pT,h])
theorem bHo{y:Lr}(hp:oK prog (glZ m te) 68 [.slf false y.np y.p] (.slf false y.np y.p))(ho:oK prog (glZ m te) 68 [.slf false y.no y.o] (.slf false y.no y.o))(hb:WB 4 y.b):oK prog (glZ m te) 37 [.agg y.m] (.agg y.m):=
 u_ok (cxH m te) rfl (f:=37) (by kernel_rfl) (by kernel_rfl) func37 (by kernel_rfl) (by kernel_rfl) (ds:=[]) (b:=pb (oK prog (glZ m te) 62 [tQ y.b] (tQ y.b))&&(pb (oK prog (glZ m te) 68 [.slf false y.no y.o] (.slf false y.no y.o))&&(pb (oK prog (glZ m te) 67 [.agg [.int .i64 y.e,.slf false y.np y.p]] (.agg [.int .i64 y.e,.slf false y.np y.p]))&&true))) (by kernel_rfl) (by simp[pT,NV m te 4 y.b hb,ho,bHr m te hp])
end
end
end Go.Proofs.Tryz
namespace Go.Proofs.Tryz
open Go.RowKit Go.Ps
def shB(b d:Int)(c:UInt8):UInt8:=if b<=(c.toNat:Int)/\((c.toNat:Int)-b)%256<26 then UInt8.ofNat (wrap64 ((c.toNat:Int)+d)%256).toNat else c
def ZP(s:gZ)(b d:Int)(i:Nat)(C:fU):Prop:=s.size<=C.size/\∀j (hj:j<s.size),C[j]? =some (.int .u8 (((if j<i then shB b d s[j]else s[j]):UInt8).toNat:Int))
theorem ZP.same{s:gZ}{b d:Int}{i:Nat}{C:fU}(h:ZP s b d i C)(hi:i<s.size){x:UInt8}(hx:s[i]=x)(hs:shB b d x=x):ZP s b d (i+1) C:=by
 refine⟨h.1,fun j hj=> ?_⟩;rw[h.2 j hj];by_cases h1:j<i
 .rw[if_pos h1,if_pos (by omega)]
 .by_cases h2:j=i
  .subst h2;rw[if_neg h1,if_pos (by omega),hx,hs]
  .rw[if_neg h1,if_neg (by omega)]
theorem ZP.step{s:gZ}{b d:Int}{i:Nat}{C:fU}(h:ZP s b d i C)(hi:i<s.size){x:UInt8}(hx:s[i]=x){v:Int}(hv:((shB b d x).toNat:Int)=v):ZP s b d (i+1) (C.setIfInBounds i (.int .u8 v)):=by
 refine⟨by rw[Array.size_setIfInBounds];exact h.1,fun j hj=> ?_⟩;have:=h.1;by_cases h2:j=i
 .subst h2;rw[Array.getElem?_setIfInBounds_self_of_lt (by omega),if_pos (by omega),hx,hv]
 .rw[bJ (by omega),h.2 j hj];by_cases h1:j<i
  .rw[if_pos h1,if_pos (by omega)]
  .rw[if_neg h1,if_neg (by omega)]
theorem bGg(b o i:Nat):(⟨b,o,none⟩:Addr).add i=⟨b,o+i,none⟩:=by unfold Addr.add;split<;>simp_all
set_option maxHeartbeats 4000000 in
set_option maxRecDepth 1000000 in
theorem aPo(s:gZ)(b d:Int)(w:gI)(hb0:0<=b)(hb1:b<=255)(hsz:s.size<=4000000000):Calls prog 302 #[.string s,.int .u8 b,.int .i64 d] w fun e w'=>e= .returned (.string ⟨(s.data.toList.map (shB b d)).toArray⟩)/\Below w.heap.size w w':=by
 have hconv:=run_bytes_of_string (P:=prog) w 9 128 5 s (by kernel_rfl) (by kernel_rfl) (by kernel_rfl);obtain⟨cap,hcap⟩:∃cap,grownCap w s.size 0 5=cap:=⟨_,rfl⟩;rw[hcap]at hconv;obtain⟨C0,hC0⟩:∃C0,bytesRow s cap=C0:=⟨_,rfl⟩;have hrow:ZP s b d 0 C0:=by
  refine⟨?_,fun j hj=> ?_⟩
  .rw[<-hC0];simp[bytesRow];
  .rw[<-hC0,bytesRow_at s cap j hj];simp;rfl
 rw[hC0]at hconv;obtain⟨w1,hw1⟩:∃w1,w.drew.alloc (.cells C0 5 (C0.size,C0.size+1))=w1:=⟨_,rfl⟩;have hb:Below w.heap.size w w1:=by rw[<-hw1];exact((Below.refl _ w).drew).alloc (aZ _) _
 have hblk:w1.heap[w.heap.size]? =some (.cells C0 5 (C0.size,C0.size+1)):=by
  rw[<-hw1];show(w.heap.push _)[w.heap.size]? =_;simp
 rw[hw1]at hconv;clear hw1 hC0 hcap
 go_enter func302,ntmps302
 go_wp2
 have HR:Aside (ZP s b d 0 C0):=hrow;clear hrow
 go_loopg [8,9,14] s.size (fun g _ _ s14 wx=>∃i:Nat,i+g=s.size/\s14= .int .i64 (i:Int)/\Below w.heap.size w wx/\∃C,wx.heap[w.heap.size]? =some (.cells C 5 (C.size,C.size+1))/\ZP s b d i C)
 case atStart=>exact⟨0,by omega,rfl,hb,C0,hblk,HR.out⟩
 case round=>
  obtain⟨i,hig,rfl,hbw,C,hC,hR⟩:=hrel;have HR2:Aside (ZP s b d i C):=hR;clear hR HR;have hcell:∀j,wr.cell? ⟨w.heap.size,j,none⟩=C[j]? :=fun j=>by unfold World.cell?;rw[hC];rfl
  have hfrz:∀j,wr.frozen? ⟨w.heap.size,j,none⟩=(decide (C.size<=j)&&decide (j<C.size+1)):=fun j=>by unfold World.frozen?;rw[hC]
  cases gk with
  |zero=>
   obtain rfl:i=s.size:=by omega
   have hback:(convert 128 9 (.slice (some ⟨w.heap.size,0,none⟩) s.size cap)).run prog wr= .ok (.string ⟨(s.data.toList.map (shB b d)).toArray⟩) wr:=by
    have hl:(s.data.toList.map (shB b d)).length=s.size:=by rw[dM];exact(Lib.size_eq s).symm
    have:=run_convert_bytes_back (P:=prog) wr 128 9 5 ⟨w.heap.size,0,none⟩ cap (s.data.toList.map (shB b d)) (by kernel_rfl) (by kernel_rfl) (by kernel_rfl) (fun j hj=>by
     rw[bGg,bN,hcell];have hj':j<s.size:=by omega
     rw[HR2.out.2 j hj',if_pos hj'];simp
     rfl)
    rwa [hl]at this
   go_wp2
   go_ret
   exact⟨rfl,hbw⟩
  |succ g=>
   have hi:i<s.size:=by omega
   obtain⟨x,hx⟩:∃x:UInt8,s[i]'hi=x:=⟨_,rfl⟩;have hxc:wr.cell? ⟨w.heap.size,i,none⟩=some (.int .u8 (x.toNat:Int)):=by
    rw[hcell,HR2.out.2 i hi,if_neg (by omega),hx]
   have hxz:wr.frozen? ⟨w.heap.size,i,none⟩=false:=by
    have:=HR2.out.1;rw[hfrz,decide_eq_false (by omega)];rfl
   have hil:(i:Int)<(s.size:Int):=by omega
   have hwi:wrap64 ((i:Int)+1)=((i+1:Nat):Int):=by unfold wrap64;omega
   have hwx:wrap64 (x.toNat:Int)=(x.toNat:Int):=by have:=x.toNat_lt;unfold wrap64;omega
   clear hcell hfrz;by_cases h1:b<=(x.toNat:Int)
   .by_cases h2:((x.toNat:Int)-b)%256<26
    .go_wp2
     go_roundg g
     case measure=>omega
     case rel=>
      refine⟨i+1,by omega,rfl,hbw.setCell (p:=⟨w.heap.size,i,none⟩) (aZ _) _,C.setIfInBounds i (.int .u8 (wrap64 ((x.toNat:Int)+d)%256)),?_,HR2.out.step hi hx (by rw[shB,if_pos ⟨h1,h2⟩];simp;omega)⟩;rw[Array.size_setIfInBounds];simp only[World.setCell,Array.getElem?_modify,if_true,hC];rfl
    .go_wp2
     go_roundg g
     case measure=>omega
     case rel=>exact⟨i+1,by omega,rfl,hbw,C,hC,HR2.out.same hi hx (by rw[shB,if_neg (fun q=>by omega)])⟩
   .go_wp2
    go_roundg g
    case measure=>omega
    case rel=>exact⟨i+1,by omega,rfl,hbw,C,hC,HR2.out.same hi hx (by rw[shB,if_neg (fun q=>by omega)])⟩
def bGe(ts:eY)(r:T):Prop:=∃s',r= .str s'/\∀s,ts.head? =some (.str s)->s'.length=s.length
theorem bEl{m:Int}{te:eX}(s:fV)(b d:Int)(hb0:0<=b)(hb1:b<=255)(hs:s.length<=4000000000):oK prog (glZ m te) 302 [.str s,.int .u8 b,.int .i64 d] (.str (s.map (shB b d))):=by
 refine AQ (by kernel_rfl) fun g vs hgl hv=> ?_
 match vs,hv with
 |[v,u,z],hv=>
  have e1:=AC (hv.inv_cons).1;have h2:=((hv.inv_cons).2.inv_cons).1;have h3:=(((hv.inv_cons).2.inv_cons).2.inv_cons).1;subst e1;cases h2;cases h3;refine⟨.string ⟨(s.map (shB b d)).toArray⟩,fun g'=> ?_,?_⟩
  rotate_left
  .have:=aPo ⟨s.toArray⟩ b d g.w hb0 hb1 (by show s.toArray.size<=_;simpa using hs);simpa using this
  .have:=Rd.str (g:=g') ⟨(s.map (shB b d)).toArray⟩;simpa using this
 |[],hv=>have:=hv.1;simp at this|[_],hv=>have:=hv.1;simp at this|[_,_],hv=>have:=hv.1;simp at this|_ ::_ ::_ ::_ ::_,hv=>have:=hv.1;simp at this
end Go.Proofs.Tryz
namespace Go.Proofs.Tryz
open Go.RowKit Go.Ps
set_option maxHeartbeats 2000000 in
set_option maxRecDepth 1000000 in
theorem aWl(a:Addr)(w:gI):Calls prog 68 #[.slice (some a) 0 0] w fun e w'=>∃p,e= .returned (.slice p 0 0)/\Below w.heap.size w w':=by
 have q:∀(w:gI) (a:Option Addr) (n c n' c':Nat),(binOp .eql 30 (.slice a n c) (.slice none n' c')).run prog w= .ok (.bool a.isNone) w:=fun w a n c n' c'=>Lib.run_eql_slice_nil w _ _ a n c n' c' (show prog.underlying 30=some (.slice 3) by kernel_rfl)
 go_enter func68,ntmps68
 go_wp2
 go_ret
 exact⟨_,rfl,(Below.refl _ w).alloc (aZ _) _⟩
theorem Below.ps{g:G}{W':gI}(h:Below g.w.heap.size g.w W'):PStep g {g with w:=W'}:=⟨h.os,h.tape,h.output,h.size,h.block,fun _ h=>h,fun _ h=> .inl h,rfl,rfl,rfl⟩
noncomputable section
section
variable(m:Int)(te:eX)
theorem bHs:oK prog (glZ m te) 68 [.nils] .nils:=
 u_ok (cxZ m te) rfl (f:=68) (by kernel_rfl) (by kernel_rfl) func68 (by kernel_rfl) (by kernel_rfl) (ds:=[true]) (b:=true) (by kernel_rfl) rfl
def row(n:Nat)(p:gC):T:= .sl false ((List.range n).map fun i=> .int .i64 (p i))
def FO:Fc:=⟨fun s=>Nat.beq s 5,fun _ _ _ =>none⟩
theorem cxO:Cx prog (DZ m te) FO:=⟨follows,(cxZ m te).hE,qV⟩
theorem u68(p:gC):∀n:Nat,n<=6->(u (DZ m te) FO f68 [row n p] [false]).map (fun q=>(q.1,oQ q.2))=some (row n p,true):=by
 intro n h;rcases n with _ |_ |_ |_ |_ |_ |_ |n<;>first|omega|kernel_rfl
theorem bIo(p:gC):∀n:Nat,n<=6->mapO (pF 40 ⟨0,.nl⟩) [row n p]=some [row n p]:=by
 intro n h;rcases n with _ |_ |_ |_ |_ |_ |_ |n<;>first|omega|kernel_rfl
theorem aVn{g:G}{v:fP}{n:Nat}{p:gC}(h:Rd g v (row n p)):Rd g v (GN n p):=
 aVj h (fun x hx=>by obtain⟨j,_,rfl⟩:=bU.1 hx;rfl) (by simp) fun i hi=>by rw[aY,dJ hi];rfl
theorem aGo{g:G}{b o cap n:Nat}{p:gC}{vs:fM}{sz:Nat}(h1:n≠0->g.S b)(h2:∀i,i<n->(T.int .i64 (p i)).cells.length=sz)(h3:n<=cap)(h4:cap<=maxLen)(h6:vs.length=n*sz)(h7:∀(j:Nat) (v:fP),vs[j]? =some v->g.w.cell? ⟨b,o+j,none⟩=some v)
  (h8:∀(i j:Nat) (v:fP) (c:T),i<n->j<sz->vs[i*sz+j]? =some v->(T.int .i64 (p i)).cells[j]? =some c->FA g v c):Rd g (.slice (some ⟨b,o,none⟩) n cap) (row n p):=by
 have hl:((List.range n).map fun i=>T.int .i64 (p i)).length=n:=by simp
 have key:Rd g (.slice (some ⟨b,o,none⟩) ((List.range n).map fun i=>T.int .i64 (p i)).length cap) (.sl false ((List.range n).map fun i=>T.int .i64 (p i))):=by
  refine .sl false _ sz b o cap vs (fun q=>h1 (fun e=>q (by subst e;rfl))) (fun x hx=> ?_) (by rw[hl];exact h3) h4 (fun e=>by cases e) (by rw[hl];exact h6) h7 fun j v c hj hc=> ?_
  .obtain⟨i,hi,rfl⟩:=bU.1 hx;exact h2 i (List.mem_range.1 hi)
  .have hfm:((List.range n).map fun i=>T.int .i64 (p i)).flatMap T.cells=(List.range n).map fun i=>T.int .i64 (p i):=by
    have:∀l:List Nat,(l.map fun i=>T.int .i64 (p i)).flatMap T.cells=l.map fun i=>T.int .i64 (p i):=by
     intro l
     induction l with
     |nil=>rfl|cons a l ih=>simp only[cG,bI,ih];rfl
    exact this _
   rw[hfm]at hc;have hjn:j<n:=by have:=(aK.1 hc).1;simpa using this
   have hsz:sz=1:=(h2 j hjn).symm;subst hsz;rw[aY,dJ hjn]at hc;cases hc;exact(h8 j 0 v _ hjn (by decide) (by simpa using hj) rfl).rd
 rw[hl]at key;exact key
theorem c68{n:Nat}(hn:n<=6)(p:gC):oK prog (glZ m te) 68 [GN n p] (GN n p):=by
 have hrow:=(u_ok (cxO m te) rfl (f:=68) (by kernel_rfl) (by kernel_rfl) func68 (by kernel_rfl) (bIo p n hn) (u68 m te p n hn) rfl).mono fun g v h=>aVn h;refine⟨hrow.1,fun G vs hg hN hgl hv=> ?_⟩;obtain⟨v,rfl,hr⟩:∃v,vs=[v]/\Rd G v (GN n p):=by
  match vs,hv with
  |[v],hv=>exact⟨v,rfl,hv.2 0 v _ rfl rfl⟩|[],hv=>have:=hv.1;simp at this|_ ::_ ::_,hv=>have:=hv.1;simp at this
 cases hr with
 |slfn _ _ q=>
  cases q with
  |none=>exact((bHs m te).mono fun g v h=>(aPh false _ h)).2 G _ hg hN hgl (RdL.cons .nils RdL.nil)
  |some a=>
   refine(aWl a G.w).mono fun e W' ⟨q,e1,hb⟩=> ?_;subst e1;exact⟨_,{G with w:=W'},rfl,rfl,Below.ps hb,fun b hb'=>bP (hg b hb') hb.size,.slfn _ _ _⟩
 |slf _ _ _ sz b o cap vs h1 h2 h3 h4 h5 h6 h7 h8=>exact hrow.2 G _ hg hN hgl (RdL.cons (aGo h1 h2 h3 h4 h6 h7 h8) RdL.nil)
theorem aMj{y:Lr}(h:LB y):oK prog (glZ m te) 37 [.agg y.m] (.agg y.m):=by
 obtain⟨ps,hp⟩:=h.p;obtain⟨os,ho⟩:=h.o;refine bHo m te ?_ ?_ h.b
 .rw[hp];exact c68 m te h.np ps
 .rw[ho];exact c68 m te h.no os
end
end
end Go.Proofs.Tryz
