/- Lemmas for the card; no conditions. -/
import Derived.Test.YthfdachbgpjafaaGreatDoorXc4
import Derived.Lib.AtoiAllCases
set_option linter.unusedSimpArgs false
set_option linter.unusedVariables false
set_option linter.unusedSectionVars false
set_option maxRecDepth 100000
open Go.IntKind
namespace Go.Ps
theorem kLz {S:Type}{M:vO S}{P:Program}{D:Ed}{F:Fc}{fn:Func}{cur:List Nat}{c:Code}{ks:List Ki}{fr:List T}{H:Hp}{N j:Nat}{ds g:List Bool}{s:S}(w:M.wl P fn (rH P D F N (.code c) ks 0 fr H ds []) j g s)(hj:cur.drop j=M.par (M.lp s))(hk:qA g=true)(o:S⊕T)(h: .inl s=o):M.Leads P D F fn 20 cur c ks fr H o:=h▸ .inr ⟨N,ds,g,j,w,hk,hj⟩
end Go.Ps
namespace Go.Proofs.Tryz
noncomputable section
open Go.Ps
def QG(m:Int)(te:fS)(q:Int):List Bool:=[]
def Xl(m:Int)(te:fS)(q:Int):Empty⊕T:=
 (.inr (T.int .i64 (if q<i64.wrap (0-q)then i64.wrap (0-q)else q)))
variable(m:Int)(te:fS)
def Xe(q:Int):Bool:=
 (qA (QG m te q))
theorem aFp(q:Int):sR prog f295 20 [] (rH prog (DZ m te) F0 2000 (.code (qD f295)) [] 0 ([.int .i64 q]++List.replicate 6 pV) ⟨0,.nl⟩ [] [])=MQ (T.int .i64 (if q<i64.wrap (0-q)then i64.wrap (0-q)else q)) (QG m te q):=by kernel_rfl
theorem bBg(q:Int)(n:Nat){r:T}(hk:Xe m te q=true)(hr:yM.fin n (Xl m te q)=some r):pW prog (glZ m te) 295 [.int .i64 q] r:=
 pure_mach (M:=yM) (fn:=f295) (k:=20) (d:=8) (c:=qD f295) (cxZ m te) (rC m te) (by kernel_rfl) func295 (by kernel_rfl) rfl (by kernel_rfl) (by kernel_rfl) (L:=6) (by kernel_rfl) sK (λW=>W.elim) ((kD (aFp m te q)) hk _ rfl) hr
def QS(m:Int)(te:fS)(q a b:Int):List Bool:=let y0:=decide (q>=a);[y0,y0,y0,y0]
def QT(m:Int)(te:fS)(q a b:Int):List Bool:=let y0:=decide (q>=a);[!y0,!y0,!y0,!y0]
def Xn(m:Int)(te:fS)(q a b:Int):Empty⊕T:=
 (if decide (q>=a)then(.inr (T.bool (decide (q<=b))))else(.inr (T.bool false)))
def Xg(q a b:Int):Bool:=
 (if decide (q>=a)then(qA (QS m te q a b))else(qA (QT m te q a b)))
def aAm(q a b:Int)(ds:gH):RD Lu:=rH prog (DZ m te) F0 2000 (.code (qD f329)) [] 0 ([.int .i64 q,.int .i64 a,.int .i64 b]++List.replicate 12 pV) ⟨0,.nl⟩ ds []
theorem aGb(q a b:Int):sR prog f329 20 [] (aAm m te q a b (bt 4 15))=MQ (T.bool (decide (q<=b))) (QS m te q a b):=by kernel_rfl
theorem aGc(q a b:Int):sR prog f329 20 [] (aAm m te q a b (bt 4 0))=MQ (T.bool false) (QT m te q a b):=by kernel_rfl
theorem bBm(q a b:Int)(n:Nat){r:T}(hk:Xg m te q a b=true)(hr:yM.fin n (Xn m te q a b)=some r):pW prog (glZ m te) 329 [.int .i64 q,.int .i64 a,.int .i64 b] r:=
 pure_mach (M:=yM) (fn:=f329) (k:=20) (d:=8) (c:=qD f329) (cxZ m te) (rC m te) (by kernel_rfl) func329 (by kernel_rfl) rfl (by kernel_rfl) (by kernel_rfl) (L:=12) (by kernel_rfl) sK (λW=>W.elim) ((EA (kD (aGb m te q a b)) (kD (aGc m te q a b))) hk _ rfl) hr
def QU(m:Int)(te:fS)(q:Int):List Bool:=[true,true,true]
def Xo(m:Int)(te:fS)(q:Int):Empty⊕T:=
 (.inr (T.int .i64 (i64.wrap (i64.wrap (i64.wrap (i64.wrap (365*i64.wrap (q-1))+i64.wrap ((i64.wrap (q-1)).tdiv 4))-i64.wrap ((i64.wrap (q-1)).tdiv 100))+i64.wrap ((i64.wrap (q-1)).tdiv 400)))))
def Xh(q:Int):Bool:=
 (qA (QU m te q))
theorem aGd(q:Int):sR prog f330 20 [] (rH prog (DZ m te) F0 2000 (.code (qD f330)) [] 0 ([.int .i64 q]++List.replicate 16 pV) ⟨0,.nl⟩ [] [])=MQ (T.int .i64 (i64.wrap (i64.wrap (i64.wrap (i64.wrap (365*i64.wrap (q-1))+i64.wrap ((i64.wrap (q-1)).tdiv 4))-i64.wrap ((i64.wrap (q-1)).tdiv 100))+i64.wrap ((i64.wrap (q-1)).tdiv 400)))) (QU m te q):=by kernel_rfl
theorem bBn(q:Int)(n:Nat){r:T}(hk:Xh m te q=true)(hr:yM.fin n (Xo m te q)=some r):pW prog (glZ m te) 330 [.int .i64 q] r:=
 pure_mach (M:=yM) (fn:=f330) (k:=20) (d:=8) (c:=qD f330) (cxZ m te) (rC m te) (by kernel_rfl) func330 (by kernel_rfl) rfl (by kernel_rfl) (by kernel_rfl) (L:=16) (by kernel_rfl) sK (λW=>W.elim) ((kD (aGd m te q)) hk _ rfl) hr
end
open Go.Ps
theorem w64{x:Int}(h1:-9223372036854775808<=x)(h2:x<=9223372036854775807):i64.wrap x=x:=by rw[IntKind.wrap_i64];omega
variable(m:Int)(te:fS)
theorem Tm(n:Int):pW prog (glZ m te) 295 [.int .i64 n] (.int .i64 (wP n)):=
 bBg m te n 0 (by unfold Xe QG;rfl) (by unfold Xl;rfl)
theorem aJk(n a b:Int):pW prog (glZ m te) 329 [.int .i64 n,.int .i64 a,.int .i64 b] (.bool (Aw n a b)):=by
 refine bBm m te n a b 0 ?_ ?_
 .unfold Xg QS QT;split<;>simp_all [qA]
 .unfold Xn Aw;by_cases h:a<=n
  .simp[h,yM,vO.fin]
  .simp[h,yM,vO.fin]
theorem bAs{y:Int}(h1:1<=y)(h2:y<=10000):pW prog (glZ m te) 330 [.int .i64 y] (.int .i64 (Cal.bfZ y)):=by
 refine bBn m te y 0 (by unfold Xh QU;rfl) ?_;unfold Xo Cal.bfZ;have e1:i64.wrap (y-1)=y-1:=w64 (by omega) (by omega);rw[e1];simp only[Cal.tdiv_nn (show(0:Int)<=y-1 by omega)]
 rw[w64 (x:=365*(y-1)) (by omega) (by omega),w64 (x:=(y-1)/4) (by omega) (by omega),w64 (x:=(y-1)/100) (by omega) (by omega),w64 (x:=(y-1)/400) (by omega) (by omega),
  w64 (x:=365*(y-1)+(y-1)/4) (by omega) (by omega),w64 (x:=365*(y-1)+(y-1)/4-(y-1)/100) (by omega) (by omega),w64 (x:=365*(y-1)+(y-1)/4-(y-1)/100+(y-1)/400) (by omega) (by omega)]
 rfl
theorem cxP:Cx prog (DP m te) F0:=by
 refine⟨follows,?_,rG⟩;refine qN (qN rR λts r cs h hc=> ?_) λts r cs h hc=> ?_
 .unfold aEf at h;split at h
  .cases h;exact Tm m te _
  .cases h
 .unfold aEg at h;split at h
  .cases h;exact aJk m te _ _ _
  .cases h
end Go.Proofs.Tryz
namespace Go.Proofs.Tryz
noncomputable section
open Go.Ps
def RC(m:Int)(te:fS)(q s:Int):List Bool:=let y0:=decide (wP q>999999999999999);[!y0,!y0,!y0,!y0]
variable(m:Int)(te:fS)
def RE(q s:Int):List Bool:=let y0:=decide (q< -999999999999999);(!y0)::(!y0)::(!y0)::(!y0)::RC m te q s
def RF(q s:Int):List Bool:=let y0:=decide (s<0);(!y0)::(!y0)::(!y0)::(!y0)::RE m te q s
def QH(m:Int)(te:fS)(q s:Int):List Bool:=let y0:=decide (wP q>999999999999999);[true,true,true,true,true,true,true,true,true,y0,y0,y0,y0]
def QI(q s:Int):List Bool:=let y0:=decide (q< -999999999999999);true::true::true::true::true::y0::y0::y0::y0::RC m te q s
def QJ(q s:Int):List Bool:=let y0:=decide (s<0);true::y0::y0::y0::y0::RE m te q s
def QK(q s:Int):List Bool:=(decide (s>12))::RF m te q s
def QL(q s:Int):List Bool:=(!decide (s>12))::RF m te q s
def Xm(m:Int)(te:fS)(q s:Int):Empty⊕T:=
 (if decide (wP q>999999999999999)then(.inr (T.int .i64 2))else(if decide (q< -999999999999999)then(.inr (T.int .i64 2))else(if decide (s<0)then(.inr (T.int .i64 2))else(if decide (s>12)then(.inr (T.int .i64 2))else(.inr (T.int .i64 0))))))
def Xf(q s:Int):Bool:=
 (if decide (wP q>999999999999999)then(qA (QH m te q s))else(if decide (q< -999999999999999)then(qA (QI m te q s))else(if decide (s<0)then(qA (QJ m te q s))else(if decide (s>12)then(qA (QK m te q s))else(qA (QL m te q s))))))
def OX(q s:Int)(ds:gH):RD Lu:=rH prog (DP m te) F0 2000 (.code (qD f301)) [] 0 ([.agg [.int .i64 q,.int .i64 s]]++List.replicate 21 pV) ⟨0,.nl⟩ ds []
theorem aFq(q s:Int):sR prog f301 20 [] (OX m te q s (bt 13 8191))=MQ (T.int .i64 2) (QH m te q s):=by kernel_rfl
theorem aFr(q s:Int):sR prog f301 20 [] (OX m te q s (bt 13 8176))=MQ (T.int .i64 2) (QI m te q s):=by kernel_rfl
theorem aFs(q s:Int):sR prog f301 20 [] (OX m te q s (bt 13 7936))=MQ (T.int .i64 2) (QJ m te q s):=by kernel_rfl
theorem aFt(q s:Int):sR prog f301 20 [] (OX m te q s (bt 13 4096))=MQ (T.int .i64 2) (QK m te q s):=by kernel_rfl
theorem aFu(q s:Int):sR prog f301 20 [] (OX m te q s (bt 13 0))=MQ (T.int .i64 0) (QL m te q s):=by kernel_rfl
theorem bBj(q s:Int)(n:Nat){r:T}(hk:Xf m te q s=true)(hr:yM.fin n (Xm m te q s)=some r):pW prog (glZ m te) 301 [.agg [.int .i64 q,.int .i64 s]] r:=
 pure_mach (M:=yM) (fn:=f301) (k:=20) (d:=8) (c:=qD f301) (cxP m te) (rC m te) (by kernel_rfl) func301 (by kernel_rfl) rfl (by kernel_rfl) (by kernel_rfl) (L:=21) (by kernel_rfl) sK (λW=>W.elim) ((EA (kD (aFq m te q s)) (EA (kD (aFr m te q s)) (EA (kD (aFs m te q s)) (EA (kD (aFt m te q s)) (kD (aFu m te q s)))))) hk _ rfl) hr
def RG(m:Int)(te:fS)(q:Int):List Bool:=[Aw q 1 9999,Aw q 1 9999,true,Aw q 1 9999,Aw q 1 9999]
def RH(q:Int):List Bool:=let y0:=q.tmod 4==0;y0::y0::true::y0::y0::RG m te q
def QV(q:Int):List Bool:=let y0:=q.tmod 4==0;let y1:=q.tmod 100 !=0;y0::y1::y0::y1::y1::y1::RH m te q
def QW(q:Int):List Bool:=let y0:=q.tmod 4==0;let y1:=q.tmod 100 !=0;y0::(!y1)::y0::(!y1)::true::(!y1)::(!y1)::RH m te q
def QX(q:Int):List Bool:=let y0:=q.tmod 4==0;(!y0)::(!y0)::(!y0)::(!y0)::(!y0)::(!y0)::RG m te q
def QY(m:Int)(te:fS)(q:Int):List Bool:=[true,true,true,true,true,true,!Aw q 1 9999,!Aw q 1 9999,!Aw q 1 9999,!Aw q 1 9999]
def Xp(m:Int)(te:fS)(q:Int):Empty⊕T:=
 (if Aw q 1 9999 then(if q.tmod 4==0 then(if q.tmod 100 !=0 then(.inr (T.bool true))else(.inr (T.bool (q.tmod 400==0))))else(.inr (T.bool false)))else(.inr (T.bool false)))
def Xi(q:Int):Bool:=
 (if Aw q 1 9999 then(if q.tmod 4==0 then(if q.tmod 100 !=0 then(qA (QV m te q))else(qA (QW m te q)))else(qA (QX m te q)))else(qA (QY m te q)))
def VA(q:Int)(ds:gH):RD Lu:=rH prog (DP m te) F0 2000 (.code (qD f345)) [] 0 ([.int .i64 q]++List.replicate 19 pV) ⟨0,.nl⟩ ds []
theorem aGe(q:Int):sR prog f345 20 [] (VA m te q (bt 14 16383))=MQ (T.bool true) (QV m te q):=by kernel_rfl
theorem aGf(q:Int):sR prog f345 20 [] (VA m te q (bt 14 10495))=MQ (T.bool (q.tmod 400==0)) (QW m te q):=by kernel_rfl
theorem aGg(q:Int):sR prog f345 20 [] (VA m te q (bt 10 15))=MQ (T.bool false) (QX m te q):=by kernel_rfl
theorem aGh(q:Int):sR prog f345 20 [] (VA m te q (bt 10 0))=MQ (T.bool false) (QY m te q):=by kernel_rfl
theorem bBo(q:Int)(n:Nat){r:T}(hk:Xi m te q=true)(hr:yM.fin n (Xp m te q)=some r):pW prog (glZ m te) 345 [.int .i64 q] r:=
 pure_mach (M:=yM) (fn:=f345) (k:=20) (d:=8) (c:=qD f345) (cxP m te) (rC m te) (by kernel_rfl) func345 (by kernel_rfl) rfl (by kernel_rfl) (by kernel_rfl) (L:=19) (by kernel_rfl) sK (λW=>W.elim) ((EA (EA (EA (kD (aGe m te q)) (kD (aGf m te q))) (kD (aGg m te q))) (kD (aGh m te q))) hk _ rfl) hr
end
open Go.Ps
variable(m:Int)(te:fS)
theorem Yb(q s:Int):pW prog (glZ m te) 301 [.agg [.int .i64 q,.int .i64 s]] (.int .i64 (zT q s)):=by
 refine bBj m te q s 0 ?_ ?_
 .unfold Xf QH QI QJ QK QL RF RE RC
  repeat' split
  all_goals simp_all [qA]
 .unfold Xm zT mxN;by_cases h1:wP q>999999999999999
  .simp[h1,yM,vO.fin]
  .by_cases h2:q< -999999999999999
   .simp[h1,h2,yM,vO.fin]
   .by_cases h3:s<0
    .simp[h1,h2,h3,yM,vO.fin]
    .by_cases h4:s>12
     .simp[h1,h2,h3,h4,yM,vO.fin]
     .simp[h1,h2,h3,h4,yM,vO.fin]
theorem bFo(y:Int):pW prog (glZ m te) 345 [.int .i64 y] (.bool (UV y)):=by
 refine bBo m te y 0 ?_ ?_
 .unfold Xi QV QW QX QY RH RG
  repeat' split
  all_goals simp_all [qA]
 .unfold Xp UV Cal.leap;by_cases h1:Aw y 1 9999=true
  .by_cases h2:y.tmod 4=0
   .by_cases h3:y.tmod 100=0
    .simp only[h1,h2,h3];simp[yM,vO.fin];rfl
    .simp[h1,h2,h3,yM,vO.fin]
   .simp[h1,h2,yM,vO.fin]
  .simp[h1,yM,vO.fin]
theorem cxQ:Cx prog (DQ m te) F0:=by
 refine⟨follows,?_,rG⟩;refine qN (qN (qN (qN rR λts r cs h hc=> ?_) λts r cs h hc=> ?_) λts r cs h hc=> ?_) λts r cs h hc=> ?_
 .unfold aEf at h;split at h
  .cases h;exact Tm m te _
  .cases h
 .unfold aEg at h;split at h
  .cases h;exact aJk m te _ _ _
  .cases h
 .unfold aSc at h;split at h
  .cases h;exact Yb m te _ _
  .cases h
 .unfold bHq at h;split at h
  .cases h;exact bFo m te _
  .cases h
end Go.Proofs.Tryz
namespace Go.Proofs.Tryz
noncomputable section
open Go.Ps
inductive Cr where
 |l0 (x7 x8:Int)
def QF(m:Int)(te:fS)(fl:Bool)(k:Nat)(f g:iG):List Bool:=[]
def KD(m:Int)(te:fS)(fl:Bool)(k:Nat)(f g:iG)(x7 x8:Int):List Bool:=[true,true,decide (0<=x8),decide (x8<(↑k:Int)),true,decide (x8<x7)]
variable(m:Int)(te:fS)
def QC(fl:Bool)(k:Nat)(f g:iG)(x7 x8:Int):List Bool:=(zT (f x8.toNat) (g x8.toNat) !=0)::KD m te fl k f g x7 x8
def QD(fl:Bool)(k:Nat)(f g:iG)(x7 x8:Int):List Bool:=(!zT (f x8.toNat) (g x8.toNat) !=0)::KD m te fl k f g x7 x8
def QE(m:Int)(te:fS)(fl:Bool)(k:Nat)(f g:iG)(x7 x8:Int):List Bool:=[!decide (x8<x7)]
def BQ(m:Int)(te:fS)(fl:Bool)(k:Nat)(f g:iG)(x7 x8:Int):Cr⊕T:=
 (if decide (x8<x7)then(if zT (f x8.toNat) (g x8.toNat) !=0 then(.inr (T.int .i64 (zT (f x8.toNat) (g x8.toNat))))else(.inl (.l0 x7 (i64.wrap (x8+1)))))else(.inr (T.int .i64 0)))
def FL(fl:Bool)(k:Nat)(f g:iG)(x7 x8:Int):Bool:=
 (if decide (x8<x7)then(if zT (f x8.toNat) (g x8.toNat) !=0 then(qA (QC m te fl k f g x7 x8))else(qA (QD m te fl k f g x7 x8)))else(qA (QE m te fl k f g x7 x8)))
def Ag(fl:Bool)(k:Nat)(f g:iG)(x7 x8:Int):Option (Cr⊕T):=if FL m te fl k f g x7 x8 then some (BQ m te fl k f g x7 x8)else none
theorem Xj(fl:Bool)(k:Nat)(f g:iG)(x7 x8:Int)(hk:FL m te fl k f g x7 x8=true):Ag m te fl k f g x7 x8=some (BQ m te fl k f g x7 x8):=if_pos hk
def Xk(m:Int)(te:fS)(fl:Bool)(k:Nat)(f g:iG):Cr⊕T:=
 (.inl (.l0 (↑k:Int) 0))
def Xd(fl:Bool)(k:Nat)(f g:iG):Bool:=
 (qA (QF m te fl k f g))
def aMg(fl:Bool)(k:Nat)(f g:iG):Cr->Option (Cr⊕T)
 | .l0 x7 x8=>Ag m te fl k f g x7 x8
def EL(fl:Bool)(k:Nat)(f g:iG):vO Cr where
 lp:=λW=>match W with
  | .l0 .. =>0
 keep:=λD=>match D with
  |0=>[6,7,8]|_ =>[]
 par:=λD=>match D with
  |0=>[]|_ =>[]
 vs:=λW=>match W with
  | .l0 x7 x8=>[T.slf fl k λi=>T.agg [T.int .i64 (f i),T.int .i64 (g i)],T.int .i64 x7,T.int .i64 x8]
 hp:=λ_ =>⟨0,.nl⟩
 len:=18
 step:=aMg m te fl k f g
def Kl(fl:Bool)(k:Nat)(f g:iG)(x7 x8:Int)(fr:fU)(ds:gH):RD Lu:=(EL m te fl k f g).rk prog (DQ m te) F0 f287 (.l0 x7 x8) fr ds
theorem aFl(fl:Bool)(k:Nat)(f g:iG)(x7 x8:Int)(fr:fU):sR prog f287 20 [] (Kl m te fl k f g x7 x8 fr [true,true])=MQ (T.int .i64 (zT (f x8.toNat) (g x8.toNat))) (QC m te fl k f g x7 x8):=by kernel_rfl
theorem aFm(fl:Bool)(k:Nat)(f g:iG)(x7 x8:Int)(fr:fU):(EL m te fl k f g).wa prog f287 (Kl m te fl k f g x7 x8 fr [true,false]) 0 (QD m te fl k f g x7 x8) (.l0 x7 (i64.wrap (x8+1))):=by unfold vO.wa;kernel_rfl
theorem aFn(fl:Bool)(k:Nat)(f g:iG)(x7 x8:Int)(fr:fU):sR prog f287 20 [] (Kl m te fl k f g x7 x8 fr [false])=MQ (T.int .i64 0) (QE m te fl k f g x7 x8):=by kernel_rfl
theorem aFo(fl:Bool)(k:Nat)(f g:iG):(EL m te fl k f g).wl prog f287 (rH prog (DQ m te) F0 2000 (.code (qD f287)) [] 0 ([.slf fl k (λi=> .agg [.int .i64 (f i),.int .i64 (g i)])]++List.replicate 17 pV) ⟨0,.nl⟩ [] []) 0 (QF m te fl k f g) (.l0 (↑k:Int) 0):=by unfold vO.wl;kernel_rfl
theorem aMu(fl:Bool)(k:Nat)(f g:iG):(EL m te fl k f g).Ways prog (DQ m te) F0 f287 20:=by
 intro W o fr h;cases W with
 |l0 x7 x8=>
  obtain⟨hk,ho⟩:=Jp (K:=FL m te fl k f g x7 x8) (V:=BQ m te fl k f g x7 x8) h;exact(EA (EA (kD (aFl m te fl k f g x7 x8 fr)) (kA (aFm m te fl k f g x7 x8 fr) rfl)) (kD (aFn m te fl k f g x7 x8 fr))) hk o ho
theorem aRk(fl:Bool)(k:Nat)(f g:iG):∀W,Ps.codeOk (qS f287 ((EL m te fl k f g).lp W)).1=true/\DD (.lp::(qS f287 ((EL m te fl k f g).lp W)).2)=true:=aKp 1 (by kernel_rfl) (by intro W;cases W<;>exact Nat.le_of_ble_eq_true rfl)
theorem bBc(fl:Bool)(k:Nat)(f g:iG)(n:Nat){r:T}(hk:Xd m te fl k f g=true)(hr:(EL m te fl k f g).fin n (Xk m te fl k f g)=some r):pW prog (glZ m te) 287 [.slf fl k (λi=> .agg [.int .i64 (f i),.int .i64 (g i)])] r:=
 pure_mach (M:=(EL m te fl k f g)) (fn:=f287) (k:=20) (d:=8) (c:=qD f287) (cxQ m te) (rC m te) (by kernel_rfl) func287 (by kernel_rfl) rfl (by kernel_rfl) (by kernel_rfl) (L:=17) (by kernel_rfl) (aMu m te fl k f g) (aRk m te fl k f g) ((kLz (aFo m te fl k f g) rfl) hk _ rfl) hr
def HX(m:Int)(te:fS)(q:Int):List Bool:=[true,true,true,true,true,true]
def Cs(m:Int)(te:fS)(q:Int):Empty⊕T:=
 (.inr (T.int .i64 31))
def Cg(q:Int):Bool:=
 (qA (HX m te q))
theorem Sk(q:Int):sR prog f331 20 [] (rH prog (DQ m te) F0 2000 (.code (qD f331)) [] 0 ([.int .i64 q,.int .i64 1]++List.replicate 13 pV) ⟨0,.nl⟩ (bt 4 0) [])=MQ (T.int .i64 31) (HX m te q):=by kernel_rfl
theorem aOg(q:Int)(n:Nat){r:T}(hk:Cg m te q=true)(hr:yM.fin n (Cs m te q)=some r):pW prog (glZ m te) 331 [.int .i64 q,.int .i64 1] r:=
 pure_mach (M:=yM) (fn:=f331) (k:=20) (d:=8) (c:=qD f331) (cxQ m te) (rC m te) (by kernel_rfl) func331 (by kernel_rfl) rfl (by kernel_rfl) (by kernel_rfl) (L:=13) (by kernel_rfl) sK (λW=>W.elim) ((kD (Sk m te q)) hk _ rfl) hr
def HY(m:Int)(te:fS)(q:Int):List Bool:=[UV q,true,true,true]
def HZ(m:Int)(te:fS)(q:Int):List Bool:=[true,true,!UV q,true,true,true]
def Ct(m:Int)(te:fS)(q:Int):Empty⊕T:=
 (if UV q then(.inr (T.int .i64 29))else(.inr (T.int .i64 28)))
def Ch(q:Int):Bool:=
 (if UV q then(qA (HY m te q))else(qA (HZ m te q)))
def Fm(q:Int)(ds:gH):RD Lu:=rH prog (DQ m te) F0 2000 (.code (qD f331)) [] 0 ([.int .i64 q,.int .i64 2]++List.replicate 13 pV) ⟨0,.nl⟩ ds []
theorem Sl(q:Int):sR prog f331 20 [] (Fm m te q (bt 4 15))=MQ (T.int .i64 29) (HY m te q):=by kernel_rfl
theorem Sm(q:Int):sR prog f331 20 [] (Fm m te q (bt 4 7))=MQ (T.int .i64 28) (HZ m te q):=by kernel_rfl
theorem aOh(q:Int)(n:Nat){r:T}(hk:Ch m te q=true)(hr:yM.fin n (Ct m te q)=some r):pW prog (glZ m te) 331 [.int .i64 q,.int .i64 2] r:=
 pure_mach (M:=yM) (fn:=f331) (k:=20) (d:=8) (c:=qD f331) (cxQ m te) (rC m te) (by kernel_rfl) func331 (by kernel_rfl) rfl (by kernel_rfl) (by kernel_rfl) (L:=13) (by kernel_rfl) sK (λW=>W.elim) ((EA (kD (Sl m te q)) (kD (Sm m te q))) hk _ rfl) hr
def IA(m:Int)(te:fS)(q:Int):List Bool:=[true,true,true,true,true,true]
def Cu(m:Int)(te:fS)(q:Int):Empty⊕T:=
 (.inr (T.int .i64 31))
def Ci(q:Int):Bool:=
 (qA (IA m te q))
theorem Sn(q:Int):sR prog f331 20 [] (rH prog (DQ m te) F0 2000 (.code (qD f331)) [] 0 ([.int .i64 q,.int .i64 3]++List.replicate 13 pV) ⟨0,.nl⟩ (bt 4 0) [])=MQ (T.int .i64 31) (IA m te q):=by kernel_rfl
theorem aOi(q:Int)(n:Nat){r:T}(hk:Ci m te q=true)(hr:yM.fin n (Cu m te q)=some r):pW prog (glZ m te) 331 [.int .i64 q,.int .i64 3] r:=
 pure_mach (M:=yM) (fn:=f331) (k:=20) (d:=8) (c:=qD f331) (cxQ m te) (rC m te) (by kernel_rfl) func331 (by kernel_rfl) rfl (by kernel_rfl) (by kernel_rfl) (L:=13) (by kernel_rfl) sK (λW=>W.elim) ((kD (Sn m te q)) hk _ rfl) hr
def IB(m:Int)(te:fS)(q:Int):List Bool:=[true,true,true,true,true,true]
def Cv(m:Int)(te:fS)(q:Int):Empty⊕T:=
 (.inr (T.int .i64 30))
def Cj(q:Int):Bool:=
 (qA (IB m te q))
theorem Sp(q:Int):sR prog f331 20 [] (rH prog (DQ m te) F0 2000 (.code (qD f331)) [] 0 ([.int .i64 q,.int .i64 4]++List.replicate 13 pV) ⟨0,.nl⟩ (bt 4 0) [])=MQ (T.int .i64 30) (IB m te q):=by kernel_rfl
theorem aOj(q:Int)(n:Nat){r:T}(hk:Cj m te q=true)(hr:yM.fin n (Cv m te q)=some r):pW prog (glZ m te) 331 [.int .i64 q,.int .i64 4] r:=
 pure_mach (M:=yM) (fn:=f331) (k:=20) (d:=8) (c:=qD f331) (cxQ m te) (rC m te) (by kernel_rfl) func331 (by kernel_rfl) rfl (by kernel_rfl) (by kernel_rfl) (L:=13) (by kernel_rfl) sK (λW=>W.elim) ((kD (Sp m te q)) hk _ rfl) hr
def IC(m:Int)(te:fS)(q:Int):List Bool:=[true,true,true,true,true,true]
def Cw(m:Int)(te:fS)(q:Int):Empty⊕T:=
 (.inr (T.int .i64 31))
def Ck(q:Int):Bool:=
 (qA (IC m te q))
theorem Sq(q:Int):sR prog f331 20 [] (rH prog (DQ m te) F0 2000 (.code (qD f331)) [] 0 ([.int .i64 q,.int .i64 5]++List.replicate 13 pV) ⟨0,.nl⟩ (bt 4 0) [])=MQ (T.int .i64 31) (IC m te q):=by kernel_rfl
theorem aOk(q:Int)(n:Nat){r:T}(hk:Ck m te q=true)(hr:yM.fin n (Cw m te q)=some r):pW prog (glZ m te) 331 [.int .i64 q,.int .i64 5] r:=
 pure_mach (M:=yM) (fn:=f331) (k:=20) (d:=8) (c:=qD f331) (cxQ m te) (rC m te) (by kernel_rfl) func331 (by kernel_rfl) rfl (by kernel_rfl) (by kernel_rfl) (L:=13) (by kernel_rfl) sK (λW=>W.elim) ((kD (Sq m te q)) hk _ rfl) hr
def IE(m:Int)(te:fS)(q:Int):List Bool:=[true,true,true,true,true,true]
def Cy(m:Int)(te:fS)(q:Int):Empty⊕T:=
 (.inr (T.int .i64 30))
def Cl(q:Int):Bool:=
 (qA (IE m te q))
theorem Sr(q:Int):sR prog f331 20 [] (rH prog (DQ m te) F0 2000 (.code (qD f331)) [] 0 ([.int .i64 q,.int .i64 6]++List.replicate 13 pV) ⟨0,.nl⟩ (bt 4 0) [])=MQ (T.int .i64 30) (IE m te q):=by kernel_rfl
theorem aOl(q:Int)(n:Nat){r:T}(hk:Cl m te q=true)(hr:yM.fin n (Cy m te q)=some r):pW prog (glZ m te) 331 [.int .i64 q,.int .i64 6] r:=
 pure_mach (M:=yM) (fn:=f331) (k:=20) (d:=8) (c:=qD f331) (cxQ m te) (rC m te) (by kernel_rfl) func331 (by kernel_rfl) rfl (by kernel_rfl) (by kernel_rfl) (L:=13) (by kernel_rfl) sK (λW=>W.elim) ((kD (Sr m te q)) hk _ rfl) hr
def IG(m:Int)(te:fS)(q:Int):List Bool:=[true,true,true,true,true,true]
def Cz(m:Int)(te:fS)(q:Int):Empty⊕T:=
 (.inr (T.int .i64 31))
def Cm(q:Int):Bool:=
 (qA (IG m te q))
theorem Ss(q:Int):sR prog f331 20 [] (rH prog (DQ m te) F0 2000 (.code (qD f331)) [] 0 ([.int .i64 q,.int .i64 7]++List.replicate 13 pV) ⟨0,.nl⟩ (bt 4 0) [])=MQ (T.int .i64 31) (IG m te q):=by kernel_rfl
theorem aOm(q:Int)(n:Nat){r:T}(hk:Cm m te q=true)(hr:yM.fin n (Cz m te q)=some r):pW prog (glZ m te) 331 [.int .i64 q,.int .i64 7] r:=
 pure_mach (M:=yM) (fn:=f331) (k:=20) (d:=8) (c:=qD f331) (cxQ m te) (rC m te) (by kernel_rfl) func331 (by kernel_rfl) rfl (by kernel_rfl) (by kernel_rfl) (L:=13) (by kernel_rfl) sK (λW=>W.elim) ((kD (Ss m te q)) hk _ rfl) hr
def IH(m:Int)(te:fS)(q:Int):List Bool:=[true,true,true,true,true,true]
def Da(m:Int)(te:fS)(q:Int):Empty⊕T:=
 (.inr (T.int .i64 31))
def Co(q:Int):Bool:=
 (qA (IH m te q))
theorem Su(q:Int):sR prog f331 20 [] (rH prog (DQ m te) F0 2000 (.code (qD f331)) [] 0 ([.int .i64 q,.int .i64 8]++List.replicate 13 pV) ⟨0,.nl⟩ (bt 4 0) [])=MQ (T.int .i64 31) (IH m te q):=by kernel_rfl
theorem aOn(q:Int)(n:Nat){r:T}(hk:Co m te q=true)(hr:yM.fin n (Da m te q)=some r):pW prog (glZ m te) 331 [.int .i64 q,.int .i64 8] r:=
 pure_mach (M:=yM) (fn:=f331) (k:=20) (d:=8) (c:=qD f331) (cxQ m te) (rC m te) (by kernel_rfl) func331 (by kernel_rfl) rfl (by kernel_rfl) (by kernel_rfl) (L:=13) (by kernel_rfl) sK (λW=>W.elim) ((kD (Su m te q)) hk _ rfl) hr
def II(m:Int)(te:fS)(q:Int):List Bool:=[true,true,true,true,true,true]
def Db(m:Int)(te:fS)(q:Int):Empty⊕T:=
 (.inr (T.int .i64 30))
def Cp(q:Int):Bool:=
 (qA (II m te q))
theorem Sv(q:Int):sR prog f331 20 [] (rH prog (DQ m te) F0 2000 (.code (qD f331)) [] 0 ([.int .i64 q,.int .i64 9]++List.replicate 13 pV) ⟨0,.nl⟩ (bt 4 0) [])=MQ (T.int .i64 30) (II m te q):=by kernel_rfl
theorem aOo(q:Int)(n:Nat){r:T}(hk:Cp m te q=true)(hr:yM.fin n (Db m te q)=some r):pW prog (glZ m te) 331 [.int .i64 q,.int .i64 9] r:=
 pure_mach (M:=yM) (fn:=f331) (k:=20) (d:=8) (c:=qD f331) (cxQ m te) (rC m te) (by kernel_rfl) func331 (by kernel_rfl) rfl (by kernel_rfl) (by kernel_rfl) (L:=13) (by kernel_rfl) sK (λW=>W.elim) ((kD (Sv m te q)) hk _ rfl) hr
def FY(m:Int)(te:fS)(q:Int):List Bool:=[true,true,true,true,true,true]
def VR(m:Int)(te:fS)(q:Int):Empty⊕T:=
 (.inr (T.int .i64 31))
def VM(q:Int):Bool:=
 (qA (FY m te q))
theorem Lp(q:Int):sR prog f331 20 [] (rH prog (DQ m te) F0 2000 (.code (qD f331)) [] 0 ([.int .i64 q,.int .i64 10]++List.replicate 13 pV) ⟨0,.nl⟩ (bt 4 0) [])=MQ (T.int .i64 31) (FY m te q):=by kernel_rfl
theorem aHj(q:Int)(n:Nat){r:T}(hk:VM m te q=true)(hr:yM.fin n (VR m te q)=some r):pW prog (glZ m te) 331 [.int .i64 q,.int .i64 10] r:=
 pure_mach (M:=yM) (fn:=f331) (k:=20) (d:=8) (c:=qD f331) (cxQ m te) (rC m te) (by kernel_rfl) func331 (by kernel_rfl) rfl (by kernel_rfl) (by kernel_rfl) (L:=13) (by kernel_rfl) sK (λW=>W.elim) ((kD (Lp m te q)) hk _ rfl) hr
def FZ(m:Int)(te:fS)(q:Int):List Bool:=[true,true,true,true,true,true]
def VS(m:Int)(te:fS)(q:Int):Empty⊕T:=
 (.inr (T.int .i64 30))
def VN(q:Int):Bool:=
 (qA (FZ m te q))
theorem Lq(q:Int):sR prog f331 20 [] (rH prog (DQ m te) F0 2000 (.code (qD f331)) [] 0 ([.int .i64 q,.int .i64 11]++List.replicate 13 pV) ⟨0,.nl⟩ (bt 4 0) [])=MQ (T.int .i64 30) (FZ m te q):=by kernel_rfl
theorem aHk(q:Int)(n:Nat){r:T}(hk:VN m te q=true)(hr:yM.fin n (VS m te q)=some r):pW prog (glZ m te) 331 [.int .i64 q,.int .i64 11] r:=
 pure_mach (M:=yM) (fn:=f331) (k:=20) (d:=8) (c:=qD f331) (cxQ m te) (rC m te) (by kernel_rfl) func331 (by kernel_rfl) rfl (by kernel_rfl) (by kernel_rfl) (L:=13) (by kernel_rfl) sK (λW=>W.elim) ((kD (Lq m te q)) hk _ rfl) hr
def GA(m:Int)(te:fS)(q:Int):List Bool:=[true,true,true,true,true,true]
def VT(m:Int)(te:fS)(q:Int):Empty⊕T:=
 (.inr (T.int .i64 31))
def VO(q:Int):Bool:=
 (qA (GA m te q))
theorem Lt(q:Int):sR prog f331 20 [] (rH prog (DQ m te) F0 2000 (.code (qD f331)) [] 0 ([.int .i64 q,.int .i64 12]++List.replicate 13 pV) ⟨0,.nl⟩ (bt 4 0) [])=MQ (T.int .i64 31) (GA m te q):=by kernel_rfl
theorem aHl(q:Int)(n:Nat){r:T}(hk:VO m te q=true)(hr:yM.fin n (VT m te q)=some r):pW prog (glZ m te) 331 [.int .i64 q,.int .i64 12] r:=
 pure_mach (M:=yM) (fn:=f331) (k:=20) (d:=8) (c:=qD f331) (cxQ m te) (rC m te) (by kernel_rfl) func331 (by kernel_rfl) rfl (by kernel_rfl) (by kernel_rfl) (L:=13) (by kernel_rfl) sK (λW=>W.elim) ((kD (Lt m te q)) hk _ rfl) hr
end
open Go.Ps
theorem VI{I:Type}{b:Bool}{x y z:I}(h1:b=true->x=z)(h2:b=false->y=z):(if b=true then x else y)=z:=by
 cases b
 .exact h2 rfl
 .exact h1 rfl
theorem Dq{q s:Int}:zT q s=0↔wP q<=mxN/\-mxN<=q/\0<=s/\s<=12:=by
 unfold zT;split<;>constructor<;>intro h<;>first|omega|(constructor<;>omega)
variable(m:Int)(te:fS)
theorem aOq(fl:Bool)(k:Nat)(hk:k<9223372036854775807)(f g:iG):
  ∃e,pW prog (glZ m te) 287 [.slf fl k (λi=> .agg [.int .i64 (f i),.int .i64 (g i)])] (.int .i64 e)/\(0<=e/\e<=255)/\(e=0->∀i,i<k->zT (f i) (g i)=0):=by
 have key:∀(d j:Nat),j+d=k->∃e,(EL m te fl k f g).run (d+1) (.l0 k j)=some (.int .i64 e)/\(0<=e/\e<=255)/\(e=0->∀i,j<=i->i<k->zT (f i) (g i)=0):=by
  intro d
  induction d with
  |zero=>
   intro j hj;refine⟨0,?_,by omega,λ_ i h1 h2=>by omega⟩;have hK:FL m te fl k f g k j=true:=by
    unfold FL;rw[if_neg (by simp;omega)];simp[QE,qA];omega
   rw[vO.run_succ,show(EL m te fl k f g).step (.l0 k j)=some (BQ m te fl k f g k j)from Xj m te fl k f g k j hK];show(EL m te fl k f g).fin 0 (BQ m te fl k f g k j)=_;unfold BQ;rw[if_neg (by simp;omega)];rfl
  |succ d ih=>
   intro j hj;obtain⟨e,h1,hb,h2⟩:=ih (j+1) (by omega);have hlt:decide ((j:Int)<(k:Int))=true:=decide_eq_true (by omega);have hw:i64.wrap ((j:Int)+1)=((j+1:Nat):Int):=by
    rw[IntKind.wrap_i64];omega
   have hK:FL m te fl k f g k j=true:=by
    unfold FL;rw[if_pos hlt];refine VI (λe=> ?_) (λe=> ?_)
    .simp only[QC,qA,e,hlt,KD];simp
    .simp only[QD,qA,e,hlt,KD];simp
   rw[vO.run_succ,show(EL m te fl k f g).step (.l0 k j)=some (BQ m te fl k f g k j)from Xj m te fl k f g k j hK];show∃e,(EL m te fl k f g).fin (d+1) (BQ m te fl k f g k j)=_ /\_;unfold BQ;rw[if_pos hlt];by_cases hc:zT (f j) (g j)=0
   .refine⟨e,?_,hb,λhe i h3 h4=> ?_⟩
    .rw[if_neg (by simp[hc]),vO.fin_inl,hw];exact h1
    .by_cases hij:i=j
     .subst hij;exact hc
     .exact h2 he i (by omega) h4
   .refine⟨zT (f j) (g j),?_,by unfold zT;split<;>omega,λhe=>absurd he hc⟩;rw[if_pos (by simp[hc])];rfl
 obtain⟨e,h1,hb,h2⟩:=key k 0 (by omega);refine⟨e,bBc m te fl k f g (k+1) (by unfold Xd QF;rfl) ?_,hb,λhe i hi=>h2 he i (by omega) hi⟩;unfold Xk;rw[vO.fin_inl];exact h1
theorem bFs(y:Int){k:Int}(h1:1<=k)(h2:k<=12):pW prog (glZ m te) 331 [.int .i64 y,.int .i64 k] (.int .i64 (Cal.mdL (UV y) k)):=by
 have hk:k=1\/k=2\/k=3\/k=4\/k=5\/k=6\/k=7\/k=8\/k=9\/k=10\/k=11\/k=12:=by omega
 rcases hk with rfl|rfl|rfl|rfl|rfl|rfl|rfl|rfl|rfl|rfl|rfl|rfl
 .exact aOg m te y 0 (by unfold Cg HX;rfl) (by unfold Cs;simp[Cal.mdL,yM,vO.fin])
 .refine aOh m te y 0 ?_ ?_
  .unfold Ch HY HZ;split<;>simp_all [qA]
  .unfold Ct Cal.mdL;by_cases h:UV y=true
   .simp[h,yM,vO.fin]
   .simp[h,yM,vO.fin]
 .exact aOi m te y 0 (by unfold Ci IA;rfl) (by unfold Cu;simp[Cal.mdL,yM,vO.fin])
 .exact aOj m te y 0 (by unfold Cj IB;rfl) (by unfold Cv;simp[Cal.mdL,yM,vO.fin])
 .exact aOk m te y 0 (by unfold Ck IC;rfl) (by unfold Cw;simp[Cal.mdL,yM,vO.fin])
 .exact aOl m te y 0 (by unfold Cl IE;rfl) (by unfold Cy;simp[Cal.mdL,yM,vO.fin])
 .exact aOm m te y 0 (by unfold Cm IG;rfl) (by unfold Cz;simp[Cal.mdL,yM,vO.fin])
 .exact aOn m te y 0 (by unfold Co IH;rfl) (by unfold Da;simp[Cal.mdL,yM,vO.fin])
 .exact aOo m te y 0 (by unfold Cp II;rfl) (by unfold Db;simp[Cal.mdL,yM,vO.fin])
 .exact aHj m te y 0 (by unfold VM FY;rfl) (by unfold VR;simp[Cal.mdL,yM,vO.fin])
 .exact aHk m te y 0 (by unfold VN FZ;rfl) (by unfold VS;simp[Cal.mdL,yM,vO.fin])
 .exact aHl m te y 0 (by unfold VO GA;rfl) (by unfold VT;simp[Cal.mdL,yM,vO.fin])
theorem aQb(n:Int)(hn:-9223372036854775808<=n/\n<=9223372036854775807):pW prog (glZ m te) 40 [.int .i64 n] (.str (vS n)):=by
 refine Qi ?_;unfold peZ;rw[if_neg (by decide),if_neg (by decide),if_neg (by decide),if_neg (by decide),if_pos rfl];exact if_pos hn
theorem cxR:Cx prog (DR m te) F0:=by
 refine⟨follows,?_,rG⟩;refine qN (qN (qN (qN (qN (qN (qN rR λts r cs h hc=> ?_) λts r cs h hc=> ?_) λts r cs h hc=> ?_) λts r cs h hc=> ?_) λts r cs h hc=> ?_) λts r cs h hc=> ?_) λts r cs h hc=> ?_
 .unfold aEf at h;split at h
  .cases h;exact Tm m te _
  .cases h
 .unfold aEg at h;split at h
  .cases h;exact aJk m te _ _ _
  .cases h
 .unfold aSc at h;split at h
  .cases h;exact Yb m te _ _
  .cases h
 .unfold s40 at h;split at h
  .cases h;simp only[qA,bC,aA,aJ]at hc;exact aQb m te _ hc
  .cases h
 .unfold bHm at h;split at h
  .cases h;rename_i s n;simp only[qA,bC,aA,aJ]at hc;have:=aLk (m:=m) (te:=te) s n.toNat (by omega) (by have:=Nat.mul_le_mul hc.2.2 (show n.toNat<=100 by omega);omega)
   rwa [show((n.toNat:Nat):Int)=n by omega]at this
  .cases h
 .unfold bHo at h;split at h
  .cases h;simp only[qA,bC,aA,aJ]at hc;exact bFs m te _ hc.1 hc.2
  .cases h
 .unfold bHn at h;split at h
  .cases h;simp only[qA,bC,aA,aJ]at hc;exact bAs m te hc.1 hc.2
  .cases h
end Go.Proofs.Tryz
namespace Go.Proofs.Tryz
noncomputable section
open Go.Ps
inductive ST where
 |l0 (x2 x6:Int)
 |l1 (x2 x3 x6:Int)
def QQ(m:Int)(te:fS)(q:Int):List Bool:=[!Aw q (-719162) 2932896]
def QR(m:Int)(te:fS)(q:Int):List Bool:=[true,!!Aw q (-719162) 2932896]
def QM(m:Int)(te:fS)(q x2 x6:Int):List Bool:=[decide (Cal.bfZ x2>x6),decide (1<=x2),decide (x2<=10000)]
def QN(m:Int)(te:fS)(q x2 x6:Int):List Bool:=let y0:=decide (1<=x2);let y1:=decide (x2<=10000);[y0,y1,!decide (Cal.bfZ x2>x6),y0,y1]
def QO(m:Int)(te:fS)(q x2 x3 x6:Int):List Bool:=let y0:=decide (1<=x3);let y1:=decide (x3<=12);[y0,y1,decide (x6>=Cal.mdL (UV x2) x3),y0,y1]
def QP(m:Int)(te:fS)(q x2 x3 x6:Int):List Bool:=[!decide (x6>=Cal.mdL (UV x2) x3),decide (1<=x3),decide (x3<=12)]
def JO(m:Int)(te:fS)(q x2 x6:Int):ST⊕T:=
 (if decide (Cal.bfZ x2>x6)then(.inl (.l0 (i64.wrap (x2-1)) x6))else(.inl (.l1 x2 1 (i64.wrap (x6-Cal.bfZ x2)))))
variable(m:Int)(te:fS)
def MW(q x2 x6:Int):Bool:=
 (if decide (Cal.bfZ x2>x6)then(qA (QM m te q x2 x6))else(qA (QN m te q x2 x6)))
def Ah(q x2 x6:Int):Option (ST⊕T):=if MW m te q x2 x6 then some (JO m te q x2 x6)else none
theorem aNn(q x2 x6:Int)(hk:MW m te q x2 x6=true):Ah m te q x2 x6=some (JO m te q x2 x6):=if_pos hk
def JP(m:Int)(te:fS)(q x2 x3 x6:Int):ST⊕T:=
 (if decide (x6>=Cal.mdL (UV x2) x3)then(.inl (.l1 x2 (i64.wrap (x3+1)) (i64.wrap (x6-Cal.mdL (UV x2) x3))))else(.inr (T.tup [T.int .i64 x2,T.int .i64 x3,T.int .i64 (i64.wrap (x6+1)),T.int .i64 0])))
def MX(q x2 x3 x6:Int):Bool:=
 (if decide (x6>=Cal.mdL (UV x2) x3)then(qA (QO m te q x2 x3 x6))else(qA (QP m te q x2 x3 x6)))
def Ai(q x2 x3 x6:Int):Option (ST⊕T):=if MX m te q x2 x3 x6 then some (JP m te q x2 x3 x6)else none
theorem aNo(q x2 x3 x6:Int)(hk:MX m te q x2 x3 x6=true):Ai m te q x2 x3 x6=some (JP m te q x2 x3 x6):=if_pos hk
def Hn(m:Int)(te:fS)(q:Int):ST⊕T:=
 (if !Aw q (-719162) 2932896 then(.inr (T.tup [T.int .i64 0,T.int .i64 0,T.int .i64 0,T.int .i64 2]))else(.inl (.l0 (if 9999<i64.wrap (i64.wrap ((i64.wrap (q- -719162)).tdiv 365)+1)then 9999 else i64.wrap (i64.wrap ((i64.wrap (q- -719162)).tdiv 365)+1)) (i64.wrap (q- -719162)))))
def Hi(q:Int):Bool:=
 (if !Aw q (-719162) 2932896 then(qA (QQ m te q))else(qA (QR m te q)))
def aMh(q:Int):ST->Option (ST⊕T)
 | .l0 x2 x6=>Ah m te q x2 x6| .l1 x2 x3 x6=>Ai m te q x2 x3 x6
def zW(q:Int):vO ST where
 lp:=λW=>match W with
  | .l0 .. =>0| .l1 .. =>1
 keep:=λD=>match D with
  |0=>[2,6]|1=>[2,3,6]|_ =>[]
 par:=λD=>match D with
  |0=>[]|1=>[]|_ =>[]
 vs:=λW=>match W with
  | .l0 x2 x6=>[T.int .i64 x2,T.int .i64 x6]| .l1 x2 x3 x6=>[T.int .i64 x2,T.int .i64 x3,T.int .i64 x6]
 hp:=λ_ =>⟨0,.nl⟩
 len:=42
 step:=aMh m te q
def aAj(q x2 x6:Int)(fr:fU)(ds:gH):RD Lu:=(zW m te q).rk prog (DR m te) F0 f309 (.l0 x2 x6) fr ds
theorem aFv(q x2 x6:Int)(fr:fU):(zW m te q).wa prog f309 (aAj m te q x2 x6 fr [true]) 0 (QM m te q x2 x6) (.l0 (i64.wrap (x2-1)) x6):=by unfold vO.wa;kernel_rfl
theorem aFw(q x2 x6:Int)(fr:fU):(zW m te q).wl prog f309 (aAj m te q x2 x6 fr [false]) 1 (QN m te q x2 x6) (.l1 x2 1 (i64.wrap (x6-Cal.bfZ x2))):=by unfold vO.wl;kernel_rfl
def aAk(q x2 x3 x6:Int)(fr:fU)(ds:gH):RD Lu:=(zW m te q).rk prog (DR m te) F0 f309 (.l1 x2 x3 x6) fr ds
theorem aFx(q x2 x3 x6:Int)(fr:fU):(zW m te q).wa prog f309 (aAk m te q x2 x3 x6 fr [true]) 0 (QO m te q x2 x3 x6) (.l1 x2 (i64.wrap (x3+1)) (i64.wrap (x6-Cal.mdL (UV x2) x3))):=by unfold vO.wa;kernel_rfl
theorem aFy(q x2 x3 x6:Int)(fr:fU):sR prog f309 20 [] (aAk m te q x2 x3 x6 fr [false])=MQ (T.tup [T.int .i64 x2,T.int .i64 x3,T.int .i64 (i64.wrap (x6+1)),T.int .i64 0]) (QP m te q x2 x3 x6):=by kernel_rfl
def aAl(q:Int)(ds:gH):RD Lu:=rH prog (DR m te) F0 2000 (.code (qD f309)) [] 0 ([.int .i64 q]++List.replicate 41 pV) ⟨0,.nl⟩ ds []
theorem aFz(q:Int):sR prog f309 20 [] (aAl m te q [true])=MQ (T.tup [T.int .i64 0,T.int .i64 0,T.int .i64 0,T.int .i64 2]) (QQ m te q):=by kernel_rfl
theorem aGa(q:Int):(zW m te q).wl prog f309 (aAl m te q [false]) 0 (QR m te q) (.l0 (if 9999<i64.wrap (i64.wrap ((i64.wrap (q- -719162)).tdiv 365)+1)then 9999 else i64.wrap (i64.wrap ((i64.wrap (q- -719162)).tdiv 365)+1)) (i64.wrap (q- -719162))):=by unfold vO.wl;kernel_rfl
theorem aMv(q:Int):(zW m te q).Ways prog (DR m te) F0 f309 20:=by
 intro W o fr h;cases W with
 |l0 x2 x6=>
  obtain⟨hk,ho⟩:=Jp (K:=MW m te q x2 x6) (V:=JO m te q x2 x6) h;exact(EA (kA (aFv m te q x2 x6 fr) rfl) (kLz (aFw m te q x2 x6 fr) rfl)) hk o ho
 |l1 x2 x3 x6=>
  obtain⟨hk,ho⟩:=Jp (K:=MX m te q x2 x3 x6) (V:=JP m te q x2 x3 x6) h;exact(EA (kA (aFx m te q x2 x3 x6 fr) rfl) (kD (aFy m te q x2 x3 x6 fr))) hk o ho
theorem aRl(q:Int):∀W,Ps.codeOk (qS f309 ((zW m te q).lp W)).1=true/\DD (.lp::(qS f309 ((zW m te q).lp W)).2)=true:=aKp 2 (by kernel_rfl) (by intro W;cases W<;>exact Nat.le_of_ble_eq_true rfl)
theorem aTj(q:Int)(n:Nat){r:T}(hk:Hi m te q=true)(hr:(zW m te q).fin n (Hn m te q)=some r):pW prog (glZ m te) 309 [.int .i64 q] r:=
 pure_mach (M:=(zW m te q)) (fn:=f309) (k:=20) (d:=8) (c:=qD f309) (cxR m te) (rC m te) (by kernel_rfl) func309 (by kernel_rfl) rfl (by kernel_rfl) (by kernel_rfl) (L:=41) (by kernel_rfl) (aMv m te q) (aRl m te q) ((EA (kD (aFz m te q)) (kLz (aGa m te q) rfl)) hk _ rfl) hr
def zd(q s:Int):List UInt8:=Lib.repeatL [48] (if 0<i64.wrap (i64.wrap (s+1)-(↑(vS (wP q)).length:Int))then i64.wrap (i64.wrap (s+1)-(↑(vS (wP q)).length:Int))else 0).toNat++vS (wP q)
def zc(q s:Int):Int:=i64.wrap ((↑(zd q s).length:Int)-s)
def KC(m:Int)(te:fS)(q s:Int):List Bool:=[decide (-9223372036854775808<=wP q),decide (wP q<=9223372036854775807),!zT q s !=0]
def RB(q s:Int):List Bool:=let y0:=decide (0<=zc q s);let y1:=decide (zc q s<=(↑(zd q s).length:Int));(decide ((List.drop 0 (List.take (zc q s).toNat (zd q s))++[46]).length+(List.drop (zc q s).toNat (List.take (zd q s).length (zd q s))).length<=xA))::y0::y1::(decide ((List.drop 0 (List.take (zc q s).toNat (zd q s))).length+1<=xA))::y0::y1::(decide ((Lib.repeatL [48] (if 0<i64.wrap (i64.wrap (s+1)-(↑(vS (wP q)).length:Int))then i64.wrap (i64.wrap (s+1)-(↑(vS (wP q)).length:Int))else 0).toNat).length+(vS (wP q)).length<=xA))::(decide (0<=if 0<i64.wrap (i64.wrap (s+1)-(↑(vS (wP q)).length:Int))then i64.wrap (i64.wrap (s+1)-(↑(vS (wP q)).length:Int))else 0))::(decide ((if 0<i64.wrap (i64.wrap (s+1)-(↑(vS (wP q)).length:Int))then i64.wrap (i64.wrap (s+1)-(↑(vS (wP q)).length:Int))else 0)<=100))::true::(decide (s>0))::KC m te q s
def EU(m:Int)(te:fS)(q s:Int):List Bool:=[zT q s !=0]
def OW(q s:Int)(ds:gH):RD Lu:=rH prog (DR m te) F0 2000 (.code (qD f259)) [] 0 ([.agg [.int .i64 q,.int .i64 s]]++List.replicate 49 pV) ⟨0,.nl⟩ ds []
theorem aFg(q s:Int):sR prog f259 20 [] (OW m te q s [true])
  =some (LC.done (some (T.tup [T.str [],T.int .i64 (zT q s)])),EU m te q s,{next:=0,objs:=Ht.nl},[],0):=by kernel_rfl
def JX(q s:Int):List Bool:=(decide (1+(List.drop 0 (List.take (zc q s).toNat (zd q s))++[46]++List.drop (zc q s).toNat (List.take (zd q s).length (zd q s))).length<=xA))::(decide (q<0))::RB m te q s
theorem aFh(q s:Int):sR prog f259 20 [] (OW m te q s [false,true,true])
  =some (LC.done (some (T.tup [T.str (45::(List.drop 0 (List.take (zc q s).toNat (zd q s))++[46]++List.drop (zc q s).toNat (List.take (zd q s).length (zd q s)))),T.int .i64 0])),JX m te q s,{next:=0,objs:=Ht.nl},[],0):=by kernel_rfl
def JY(q s:Int):List Bool:=(!decide (q<0))::RB m te q s
theorem aFi(q s:Int):sR prog f259 20 [] (OW m te q s [false,true,false])
  =some (LC.done (some (T.tup [T.str (List.drop 0 (List.take (zc q s).toNat (zd q s))++[46]++List.drop (zc q s).toNat (List.take (zd q s).length (zd q s))),T.int .i64 0])),JY m te q s,{next:=0,objs:=Ht.nl},[],0):=by kernel_rfl
def JZ(q s:Int):List Bool:=(decide (1+(vS (wP q)).length<=xA))::(decide (q<0))::(!decide (s>0))::KC m te q s
theorem aFj(q s:Int):sR prog f259 20 [] (OW m te q s [false,false,true])
  =some (LC.done (some (T.tup [T.str (45::(vS (wP q))),T.int .i64 0])),JZ m te q s,{next:=0,objs:=Ht.nl},[],0):=by kernel_rfl
def KA(q s:Int):List Bool:=(!decide (q<0))::(!decide (s>0))::KC m te q s
theorem aFk(q s:Int):sR prog f259 20 [] (OW m te q s [false,false,false])
  =some (LC.done (some (T.tup [T.str (vS (wP q)),T.int .i64 0])),KA m te q s,{next:=0,objs:=Ht.nl},[],0):=by kernel_rfl
def aUh(q s:Int):Option (Empty⊕T):=
 (if zT q s !=0 then(if qA (EU m te q s)then some (.inr (T.tup [T.str [],T.int .i64 (zT q s)]))else none)else(if decide (s>0)then(if decide (q<0)then(if qA (JX m te q s)then some (.inr (T.tup [T.str (45::(List.drop 0 (List.take (zc q s).toNat (zd q s))++[46]++List.drop (zc q s).toNat (List.take (zd q s).length (zd q s)))),T.int .i64 0]))else none)else(if qA (JY m te q s)then some (.inr (T.tup [T.str (List.drop 0 (List.take (zc q s).toNat (zd q s))++[46]++List.drop (zc q s).toNat (List.take (zd q s).length (zd q s))),T.int .i64 0]))else none))else(if decide (q<0)then(if qA (JZ m te q s)then some (.inr (T.tup [T.str (45::(vS (wP q))),T.int .i64 0]))else none)else(if qA (KA m te q s)then some (.inr (T.tup [T.str (vS (wP q)),T.int .i64 0]))else none))))
def NA(m:Int)(te:fS)(q s:Int):Empty⊕T:=
 (if zT q s !=0 then(.inr (T.tup [T.str [],T.int .i64 (zT q s)]))else(if decide (s>0)then(if decide (q<0)then(.inr (T.tup [T.str (45::(List.drop 0 (List.take (zc q s).toNat (zd q s))++[46]++List.drop (zc q s).toNat (List.take (zd q s).length (zd q s)))),T.int .i64 0]))else(.inr (T.tup [T.str (List.drop 0 (List.take (zc q s).toNat (zd q s))++[46]++List.drop (zc q s).toNat (List.take (zd q s).length (zd q s))),T.int .i64 0])))else(if decide (q<0)then(.inr (T.tup [T.str (45::(vS (wP q))),T.int .i64 0]))else(.inr (T.tup [T.str (vS (wP q)),T.int .i64 0])))))
def MV(q s:Int):Bool:=
 (if zT q s !=0 then(qA (EU m te q s))else(if decide (s>0)then(if decide (q<0)then(qA (JX m te q s))else(qA (JY m te q s)))else(if decide (q<0)then(qA (JZ m te q s))else(qA (KA m te q s)))))
theorem aNm(q s:Int)(hk:MV m te q s=true):aUh m te q s=some (NA m te q s):=
 (VJ FJ (VJ (VJ FJ FJ) (VJ FJ FJ))) hk
theorem aSb(q s:Int){n:Nat}{o:Empty⊕T}{r:T}(h:aUh m te q s=some o)(hr:yM.fin n o=some r):pW prog (glZ m te) 259 [.agg [.int .i64 q,.int .i64 s]] r:=by
 refine pure_mach (M:=yM) (fn:=f259) (k:=20) (d:=8) (c:=qD f259) (cxR m te) (rC m te) (by kernel_rfl) func259 (by kernel_rfl) rfl (by kernel_rfl) (by kernel_rfl) (L:=49) (by kernel_rfl) sK (λW=>W.elim) ?_ hr;exact(VK (FK λhk=>⟨2000,_,_,_,_,_,_,aFg m te q s,hk⟩) (VK (VK (FK λhk=>⟨2000,_,_,_,_,_,_,aFh m te q s,hk⟩) (FK λhk=>⟨2000,_,_,_,_,_,_,aFi m te q s,hk⟩)) (VK (FK λhk=>⟨2000,_,_,_,_,_,_,aFj m te q s,hk⟩) (FK λhk=>⟨2000,_,_,_,_,_,_,aFk m te q s,hk⟩)))) o h
theorem aTi(q s:Int)(n:Nat){r:T}(hk:MV m te q s=true)(hr:yM.fin n (NA m te q s)=some r):pW prog (glZ m te) 259 [.agg [.int .i64 q,.int .i64 s]] r:=aSb m te q s (aNm m te q s hk) hr
end
end Go.Proofs.Tryz
namespace Go.Ps
variable[Inhabited Prd]
section
variable{P:fV}{gl:fY}
structure Lay(P:fV)(gl:fY)(k:Nat)(ga:Nat->Option A)(pa:FuncId->List A->Nat->List qV->Option AV)(pe:gG)(dom:iA):Prop where
 gA:GlA gl ga
 pA:PeA (uH k pe) pa
 pc:PcOk P gl pe
 dm:∀f ts,dom f=false->pe f ts=none
 hx:tX P gl Az
variable{k:Nat}{ga:Nat->Option A}{pa:FuncId->List A->Nat->List qV->Option AV}{pe:gG}{dom:iA}
theorem OI{p:iA}:∀{l:gI},l.all p=true->∀f,sQ f l=true->p f=true
 |x::xs,h,f,hf=>by
  simp only[List.all_cons,aA]at h;simp only[sQ,bF]at hf;rcases hf with hf|hf
  .rw[<-pX hf];exact h.1
  .exact OI h.2 f hf
theorem Zq{f g:jU}(h:∀t r,f t=some r->g t=some r):∀{ts rs:fU},mapO f ts=some rs->mapO g ts=some rs
 |[],_,e=>e
 |t::ts,rs,e=>by
  simp only[mapO]at e⊢;split at e
  .rename_i u hu;split at e
   .rename_i us hus;rw[h _ _ hu];simp only[Zq h hus];exact e
   .cases e
  .cases e
theorem aQs{k:Nat}{pe:gG}{H:Hp}{g:gV}{ts bs:fU}{r:T}(h1:mapO (qJ k H) ts=some bs)(h2:mapO (qJ k ⟨0,.nl⟩) bs=some bs)(h3:uH k pe H g bs=some r)(h4:Ra r=true):uH k pe H g ts=some r:=by
 unfold uH at h3⊢;rw[h2]at h3;simp only at h3;split
 .rename_i us hus;have:=Zq (λt r h=>HW k 0 H t r h) hus;rw[h1]at this;cases this;exact h3
 .simp only[h1,h3,h4,if_true]
theorem Lay.cn(h:Lay P gl k ga pa pe dom){X:AX}(h1:X.gl=ga)(h2:X.pe=pa){l:gI}(h3:X.inl=λf=>sQ f l)(h4:l.all (λf=> !dom f)=true)(hk:sJ<=k:=by first|assumption|decide):Cn X gl (uH k pe):=by
 refine⟨by rw[h1];exact h.gA,by rw[h2];exact h.pA,λg H ts hg=> ?_,k,hk,λH g ts bs r q1 q2 q3 q4=>aQs q1 q2 q3 q4⟩;rw[h3]at hg;have hd:=OI h4 g hg;have hn:∀ts,pe g ts=none:=λts=>h.dm g ts (by simpa using hd);unfold uH;split
 .exact hn _
 .split
  .simp only[hn]
  .rfl
theorem bIb{l:gI}(h:l.all (λf=>vL P f&&zD P f)=true):∀f,sQ f l=true->vL P f=true/\zD P f=true:=λf hf=>by
 have:=OI h f hf;simpa using this
theorem Lay.pure(h:Lay P gl k ga pa pe dom)(hz:wR gl){f:gV}{ts:fU}{r:T}(hr:pe f ts=some r)(hf:mapO (qJ k ⟨0,.nl⟩) ts=some ts):pW P gl f ts r:=by
 have hp:=UT (k:=k) hz h.pc ⟨0,.nl⟩ f ts r (by unfold uH;rw[hf];exact hr);refine⟨hp.1,λg vs hg ⟨N,hN⟩ hgl hv=> ?_⟩;obtain⟨h1,h2⟩:=UT (k:=k) hz h.pc ⟨N,.nl⟩ f ts r (by unfold uH;rw[hf];exact hr);exact h2 g vs hg (St.nl _ _ (hN)) hgl hv
end
end Go.Ps
namespace Go.Ps
noncomputable section
def Ht.over(t:Ht):Ht->Ht:=Ht.rec (motive:=λ_ =>Ht->Ht) (λR=>R) (λv _ _ ihl ihr R=> .nd (v.or R.val) (ihl R.lf) (ihr R.rt)) t
theorem Ht.over_nd(v:kC)(l r R:Ht):Ht.over (.nd v l r) R= .nd (v.or R.val) (Ht.over l R.lf) (Ht.over r R.rt):=rfl
theorem Ht.over_val(t R:Ht):(Ht.over t R).val=t.val.or R.val:=by cases t<;>rfl
theorem Ht.over_lf(t R:Ht):(Ht.over t R).lf=Ht.over t.lf R.lf:=by cases t<;>rfl
theorem Ht.over_rt(t R:Ht):(Ht.over t R).rt=Ht.over t.rt R.rt:=by cases t<;>rfl
theorem Ht.gtp_over:∀(p:gH) (t R:Ht),Ht.gtp p (Ht.over t R)=(Ht.gtp p t).or (Ht.gtp p R)
 |[],t,R=>Ht.over_val t R
 |false::p,t,R=>by
  show Ht.gtp p (Ht.over t R).lf=_;rw[Ht.over_lf,Ht.gtp_over p];rfl
 |true::p,t,R=>by
  show Ht.gtp p (Ht.over t R).rt=_;rw[Ht.over_rt,Ht.gtp_over p];rfl
theorem Ht.over_stp(v:kC):∀(p:gH) (t R:Ht),(v=none->Ht.gtp p R=none)->Ht.over (Ht.stp v p t) R=Ht.stp v p (Ht.over t R)
 |[],t,R,h=>by
  show Ht.over (.nd v t.lf t.rt) R= .nd v (Ht.over t R).lf (Ht.over t R).rt;rw[Ht.over_nd,Ht.over_lf,Ht.over_rt];cases v with
  |some v=>rfl|none=>rw[show R.val=none from h rfl];rfl
 |false::p,t,R,h=>by
  show Ht.over (.nd t.val (Ht.stp v p t.lf) t.rt) R= .nd (Ht.over t R).val (Ht.stp v p (Ht.over t R).lf) (Ht.over t R).rt;rw[Ht.over_nd,Ht.over_val,Ht.over_lf,Ht.over_rt,Ht.over_stp v p _ _ h]
 |true::p,t,R,h=>by
  show Ht.over (.nd t.val t.lf (Ht.stp v p t.rt)) R= .nd (Ht.over t R).val (Ht.over t R).lf (Ht.stp v p (Ht.over t R).rt);rw[Ht.over_nd,Ht.over_val,Ht.over_lf,Ht.over_rt,Ht.over_stp v p _ _ h]
theorem Ht.get_over(t R:Ht)(l:Nat):(Ht.over t R).get l=(t.get l).or (R.get l):=Ht.gtp_over _ t R
theorem Ht.over_put(v:kC)(t R:Ht)(l:Nat)(h:v=none->R.get l=none):Ht.over (Ht.put v t l) R=Ht.put v (Ht.over t R) l:=Ht.over_stp v _ t R h
theorem Ht.stp_stp(v w:kC):∀(p:gH) (t:Ht),Ht.stp v p (Ht.stp w p t)=Ht.stp v p t
 |[],t=>rfl
 |false::p,t=>by
  show Ht.nd t.val (Ht.stp v p (Ht.stp w p t.lf)) t.rt= .nd t.val (Ht.stp v p t.lf) t.rt;rw[Ht.stp_stp v w p]
 |true::p,t=>by
  show Ht.nd t.val t.lf (Ht.stp v p (Ht.stp w p t.rt))= .nd t.val t.lf (Ht.stp v p t.rt);rw[Ht.stp_stp v w p]
theorem Ht.stp_same{v:Ob}:∀(p:gH) (t:Ht),Ht.gtp p t=some v->Ht.stp (some v) p t=t
 |[],.nl,h=>by cases h
 |[],.nd w l r,h=>by
  have e:w=some v:=h;rw[e];rfl
 |b::p,.nl,h=>by
  have:∀p,Ht.gtp p .nl=none:=by
   intro p
   induction p with
   |nil=>rfl|cons b p ih=>cases b<;>exact ih
  rw[this]at h;cases h
 |false::p,.nd w l r,h=>by
  show Ht.nd w (Ht.stp (some v) p l) r=_;rw[Ht.stp_same p l h]
 |true::p,.nd w l r,h=>by
  show Ht.nd w l (Ht.stp (some v) p r)=_;rw[Ht.stp_same p r h]
structure uG(R:Ht)(A B:Hp):Prop where
 eq:B=⟨A.next,Ht.over A.objs R⟩
 dis:∀l o,R.get l=some o->A.any l=none/\l<A.next
section
variable{R:Ht}{A B:Hp}
theorem uG.nx(c:uG R A B):B.next=A.next:=by rw[c.eq]
theorem uG.any(c:uG R A B)(l:Nat):B.any l=(A.any l).or (R.get l):=by rw[c.eq];exact Ht.get_over _ _ _
theorem uG.yes(c:uG R A B)(l:Nat)(o:Ob)(h:A.any l=some o):B.any l=some o:=by rw[c.any,h];rfl
theorem uG.get(c:uG R A B){l:Nat}{o:Ob}(h:A.get l=some o):B.get l=some o:=by
 obtain⟨h1,h2⟩:=qP h;exact yC (c.yes l o h1) h2
theorem uG.rno(c:uG R A B){l:Nat}{o:Ob}(h:A.any l=some o):R.get l=none:=by
 cases hr:R.get l with
 |none=>rfl|some q=>have:=(c.dis l q hr).1;rw[h]at this;cases this
theorem uG.new(c:uG R A B)(o:Ob):uG R (A.new o) (B.new o) where
 eq:=by
  rw[c.eq];show(⟨A.next+1,Ht.put (some o) (Ht.over A.objs R) A.next⟩:Hp)=⟨A.next+1,Ht.over (Ht.put (some o) A.objs A.next) R⟩;rw[Ht.over_put _ _ _ _ (λh=>by cases h)]
 dis:=λl q h=>by
  obtain⟨h1,h2⟩:=c.dis l q h;refine⟨?_,Nat.lt_succ_of_lt h2⟩;rw[sB,if_neg (by omega)];exact h1
theorem uG.put(c:uG R A B){l:Nat}{q:Ob}(hl:A.any l=some q)(o:Ob):uG R (A.put l o) (B.put l o) where
 eq:=by
  rw[c.eq];show(⟨A.next,Ht.put (some o) (Ht.over A.objs R) l⟩:Hp)=⟨A.next,Ht.over (Ht.put (some o) A.objs l) R⟩;rw[Ht.over_put _ _ _ _ (λh=>by cases h)]
 dis:=λm p h=>by
  obtain⟨h1,h2⟩:=c.dis m p h;refine⟨?_,h2⟩;rw[sH,if_neg (λe=>by rw[e,hl]at h1;cases h1)];exact h1
theorem uG.putM(c:uG R A B){l:Nat}{q:Ob}(hl:A.any l=some q)(o:Ob)(k:Nat)(es:gS):uG R (Go.Ps.putM A l o k es) (Go.Ps.putM B l o k es):=c.put hl _
theorem uG.drop(c:uG R A B){l:Nat}{q:Ob}(hl:A.any l=some q):uG R (A.drop l) (B.drop l) where
 eq:=by
  rw[c.eq];show(⟨A.next,Ht.put none (Ht.over A.objs R) l⟩:Hp)=⟨A.next,Ht.over (Ht.put none A.objs l) R⟩;rw[Ht.over_put _ _ _ _ (λ_ =>c.rno hl)]
 dis:=λm p h=>by
  obtain⟨h1,h2⟩:=c.dis m p h;refine⟨?_,h2⟩;rw[sA];split
  .rfl
  .exact h1
structure Hj(R:Ht)(E:tY)(e:gB):Prop where
 mono:∀A B f ts r,uG R A B->E.pe A f ts=some r->E.pe B f ts=some r
 nope:∀f ts A v,e f ts A=some v->∀B,E.pe B f ts=none
variable{P:fV}{E:tY}{F:Fc}
theorem Ig(c:uG R A B){p:T}{q:List T×Nat}(h:wI A p=some q):wI B p=some q:=by
 cases p<;>simp only[wI]at h⊢<;>try(first|exact h|cases h)
 split at h
 .rename_i o ho;rw[c.get ho];exact h
 .cases h
theorem YH(c:uG R A B){t:fS}{p r:T}(h:wZ P A t p=some r):wZ P B t p=some r:=by
 unfold wZ at h⊢;split at h
 .rename_i cs off hc;rw[Ig c hc];exact h
 .cases h
theorem XA(c:uG R A B){x:T}{es:gS}(h:HQ A x=some es):HQ B x=some es:=by
 cases x<;>simp only[HQ]at h⊢<;>try(first|exact h|cases h)
 split at h
 .rename_i o ho;rw[c.yes _ _ ho];exact h
 .cases h
theorem Jt(c:uG R A B){t:fS}{x k r:T}{ok:Bool}(h:zH P A t x k ok=some r):zH P B t x k ok=some r:=by
 unfold zH at h⊢;split at h
 .rename_i kt et hm
  try simp only[hm]
  split at h
  .rename_i hk;rw[if_pos hk];split at h
   .rename_i es he;rw[XA c he];exact h
   .cases h
  .cases h
 .cases h
theorem aDb(c:uG R A B){t:fS}{x r:T}(h:Pj P A t x=some r):Pj P B t x=some r:=by
 unfold Pj at h⊢;split at h
 .split at h
  .rename_i l a b hm
   try simp only[hm]
   split at h
   .rename_i es he;rw[XA c he];exact h
   .cases h
  .exact h
 .exact h
theorem Uw(hpe:Hj R E F.ee)(c:uG R A B){fr:fU}{k:Call}{r:T}(h:zA P E A fr k=some r):zA P E B fr k=some r:=by
 unfold zA at h⊢;split at h
 .rename_i f hf
  try simp only[hf]
  split at h
  .rename_i g first cap he
   try simp only[he]
   split at h
   .rename_i ars ha;exact hpe.mono A B _ _ _ c h
   .cases h
  .cases h
 .cases h
 .rename_i b hb
  try simp only[hb]
  cases b<;>simp only at h⊢<;>try(first|exact h|cases h)
  split at h
  .rename_i x t ts h1 h2
   try simp only[h1,h2]
   split at h
   .rename_i a ha;exact aDb c h
   .cases h
  .cases h
theorem FV(hpe:Hj R E F.ee)(c:uG R A B){own:Bool}{fr:fU}{o:Oper}{r:T}(h:qK P E own A fr o=some r):qK P E own B fr o=some r:=by
 obtain⟨dst,op,ty,pos,after,guard⟩:=o;cases op<;>simp only[qK]at h⊢<;>try(first|exact h|(cases h;done))
 case load t a=>
  split at h
  .rename_i p hp;exact YH c h
  .cases h
 case lookup t x i ok=>
  split at h
  .exact Jt c h
  .cases h
 case call k=>exact Uw hpe c h
theorem LL(hpe:Hj R E F.ee){own:Bool}{fr:fU}{o:Oper}{v:T}{A':Hp}(he:xF P E F A fr o=some (v,A'))(h:qK P E own A fr o=none):qK P E own B fr o=none:=by
 obtain⟨dst,op,ty,pos,after,guard⟩:=o;cases op<;>simp only[xF]at he<;>try(cases he;done)
 all_goals simp only[qK]at h⊢<;>try exact h
 case call k=>
  unfold zA at h⊢;split at he
  .rename_i f hf;simp only[hf]at h⊢;split at he
   .rename_i g first cap hv
    simp only[hv]at h⊢;split at he
    .rename_i ars ha;(try simp only[ha]);exact hpe.nope _ _ _ _ he B
    .cases he
   .cases he
  .rename_i hb;simp only[hb]
  .rename_i hb;simp only[hb]
  .cases he
theorem RN{f g:jU}(h:∀t r,f t=some r->g t=some r):∀{l r:fU},mapO f l=some r->mapO g l=some r
 |[],r,e=>e
 |t::ts,r,e=>by
  simp only[mapO]at e⊢;split at e
  .rename_i u hu;split at e
   .rename_i us hus;rw[h _ _ hu];simp only[RN h hus];exact e
   .cases e
  .cases e
theorem Od(c:uG R A B):∀(n:Nat) (t r:T),qJ n A t=some r->qJ n B t=some r
 |0,_,_,h=>by cases h
 |n+1,t,r,h=>by
  have ih:=Od c n;have im:∀{l r:fU},mapO (qJ n A) l=some r->mapO (qJ n B) l=some r:=λe=>RN ih e;cases t<;>simp only[qJ]at h⊢<;>try(first|exact h|(cases h;done))
  case ptr l off=>
   split at h
   .rename_i o ho;rw[c.get ho];split at h
    .rename_i cs hcs;simp only[im hcs];exact h
    .cases h
   .cases h
  case ref x off=>
   split at h
   .rename_i y hy;rw[ih _ _ hy];exact h
   .cases h
  case sl f xs=>
   split at h
   .rename_i y hy;rw[im hy];exact h
   .cases h
  case osl l sz i len=>
   split at h
   .rename_i o ho;rw[c.get ho];split at h
    .rename_i hc;simp only[if_pos hc];split at h
     .rename_i cs hcs;simp only[im hcs];exact h
     .cases h
    .cases h
   .cases h
  case fn f a k=>
   split at h
   .rename_i x y hx hy;rw[im hx,im hy];exact h
   .cases h
  case iface t x=>
   split at h
   .rename_i y hy;rw[ih _ _ hy];exact h
   .cases h
  case agg cs=>
   split at h
   .rename_i y hy;rw[im hy];exact h
   .cases h
  case tup cs=>
   split at h
   .rename_i y hy;rw[im hy];exact h
   .cases h
theorem aDc(c:uG R A B){k:Nat}{pe:gG}{f:gV}{ts:fU}{r:T}(h:uH k pe A f ts=some r):uH k pe B f ts=some r:=by
 unfold uH at h⊢;split at h
 .exact h
 .split at h
  .rename_i ts' hts;rw[RN (Od c k) hts];exact h
  .cases h
theorem Ca(c:uG R A B){x:T}{cs:fU}(h:sL A x=some cs):sL B x=some cs:=by
 cases x<;>simp only[sL]at h⊢<;>try(first|exact h|cases h)
 split at h
 .rename_i o ho;rw[c.get ho];exact h
 .cases h
theorem TY(c:uG R A B){t:fS}{p x:T}{A':Hp}(h:wF P A t p x=some A'):∃B',wF P B t p x=some B'/\uG R A' B':=by
 unfold wF at h⊢;split at h
 .rename_i l off;split at h
  .rename_i o n ho hn;split at h
   .rename_i hc;cases h;refine⟨_,?_,c.put (qP ho).1 _⟩;simp only[c.get ho,hn];rw[if_pos hc]
   .cases h
  .cases h
 .cases h
theorem Mq(c:uG R A B){t tx:fS}{s x r:T}{A':Hp}(h:uL P A t tx s x=some (r,A')):∃B',uL P B t tx s x=some (r,B')/\uG R A' B':=by
 unfold uL at h⊢;split at h
 .rename_i e he;split at h
  .rename_i i new m hi hs hm;have hs':=Ca c hs;simp only[he,hi,hs',hm];split at h
   .cases h
   .rename_i hg;rw[if_neg hg];split at h
    .split at h
     .rename_i h0;cases h;exact⟨B,by simp only[if_pos h0],c⟩
     .rename_i h0;split at h
      .rename_i hr;cases h;exact⟨_,by simp only[if_neg h0,if_pos hr,c.nx],c.new _⟩
      .cases h
    .split at h
     .rename_i h0;cases h;exact⟨B,by simp only[if_pos h0],c⟩
     .rename_i h0;split at h
      .rename_i hr;cases h;exact⟨_,by simp only[if_neg h0,if_pos hr,c.nx],c.new _⟩
      .cases h
    .split at h
     .rename_i h0;cases h;exact⟨B,by simp only[if_pos h0],c⟩
     .rename_i h0;split at h
      .rename_i o ho;split at h
       .rename_i hr;cases h;exact⟨_,by simp only[if_neg h0,c.get ho];rw[if_pos hr,c.nx],(c.drop (qP ho).1).new _⟩
       .cases h
      .cases h
    .cases h
  .cases h
 .cases h
theorem aBu(c:uG R A B){pa:Bool}{t tx:fS}{s x r:T}{A':Hp}(h:WB P pa A t tx s x=some (r,A')):∃B',WB P pa B t tx s x=some (r,B')/\uG R A' B':=by
 unfold WB at h⊢;split at h
 .rename_i hp;rw[if_pos hp];unfold DI at h⊢;split at h
  .split at h
   .split at h
    .cases h
    .rename_i hn;cases h;simp only[*];exact⟨B,rfl,c⟩
   .cases h
  .cases h
 .rename_i hp;rw[if_neg hp];exact Mq c h
theorem aDh(c:uG R A B){t:fS}{l k r:T}{A':Hp}(h:tG P A t l k=some (r,A')):∃B',tG P B t l k=some (r,B')/\uG R A' B':=by
 unfold tG at h⊢;split at h
 .rename_i e n m he;split at h
  .rename_i sz bytes z h1 h2 h3;split at h
   .rename_i hc;cases h;refine⟨_,?_,c.new _⟩
    try simp only[he,h1,h2,h3]
    rw[if_pos hc,c.nx]
   .cases h
  .cases h
 .cases h
theorem AH(c:uG R A B){t:fS}{m k:T}{q:Nat×Ob×Nat×List (Nat×T×T)×TypeId×Option (Nat×Nat×T)}(h:HC P A t m k=some q):HC P B t m k=some q/\A.any q.1=some q.2.1:=by
 unfold HC at h⊢;split at h
 .rename_i kt et hm;split at h
  .rename_i l;split at h
   .rename_i o ho;split at h
    .rename_i cn es hme;split at h
     .rename_i hk;split at h
      .rename_i r hr;cases h;refine⟨?_,ho⟩;simp only[hm,c.yes _ _ ho,hme];rw[if_pos hk];simp only[hr]
      .cases h
     .cases h
    .cases h
   .cases h
  .cases h
 .cases h
theorem Sj(c:uG R A B){t:fS}{m k x:T}{A':Hp}(h:SN P A t m k x=some A'):∃B',SN P B t m k x=some B'/\uG R A' B':=by
 unfold SN at h⊢;split at h
 .rename_i l o cn es et i b v hs;obtain⟨h1,h2⟩:=AH c hs;split at h
  .rename_i hk;cases h;exact⟨_,by simp only[h1];rw[if_pos hk],c.putM h2 _ _ _⟩
  .cases h
 .rename_i l o cn es et hs;obtain⟨h1,h2⟩:=AH c hs;cases h;exact⟨_,by simp only[h1],c.putM h2 _ _ _⟩
 .cases h
theorem Ut(c:uG R A B){t:fS}{m k r:T}{A':Hp}(h:HP P A t m k=some (r,A')):∃B',HP P B t m k=some (r,B')/\uG R A' B':=by
 unfold HP at h⊢;split at h
 .rename_i l o cn es et i b v hs;obtain⟨h1,h2⟩:=AH c hs;split at h
  .rename_i hk;cases h;exact⟨_,by simp only[h1];rw[if_pos hk],c.putM h2 _ _ _⟩
  .cases h
 .rename_i l o cn es et hs;obtain⟨h1,h2⟩:=AH c hs;split at h
  .rename_i z hz;cases h;exact⟨_,by simp only[h1,hz],c.putM h2 _ _ _⟩
  .cases h
 .cases h
theorem Nv(c:uG R A B){m s x:T}{A':Hp}(h:vR A m s x=some A'):∃B',vR B m s x=some B'/\uG R A' B':=by
 unfold vR at h⊢;split at h
 .split at h
  .rename_i o ho;split at h
   .rename_i cn es hme;split at h
    .rename_i i k hf;cases h;exact⟨_,by simp only[c.yes _ _ ho,hme,hf],c.putM ho _ _ _⟩
    .cases h
   .cases h
  .cases h
 .cases h
theorem aHx(c:uG R A B){t:fS}{m k:T}{A':Hp}(h:Nf P A t m k=some A'):∃B',Nf P B t m k=some B'/\uG R A' B':=by
 unfold Nf at h⊢;split at h
 .rename_i l o cn es et i b v hs;obtain⟨h1,h2⟩:=AH c hs;cases h;exact⟨_,by simp only[h1],c.putM h2 _ _ _⟩
 .rename_i l o cn es et hs;obtain⟨h1,h2⟩:=AH c hs;cases h;exact⟨_,by simp only[h1],c.putM h2 _ _ _⟩
 .cases h
def AY(R:Ht)(e:gB):Prop:=∀f ts A B r A',uG R A B->e f ts A=some (r,A')->∃B',e f ts B=some (r,B')/\uG R A' B'
def Cq(R:Ht)(y:gF):Prop:=∀l ts A B r A',uG R A B->y l ts A=some (r,A')->∃B',y l ts B=some (r,B')/\uG R A' B'
theorem Np(hF:AY R F.ee)(c:uG R A B){fr:fU}{o:Oper}{v:T}{A':Hp}(h:xF P E F A fr o=some (v,A')):∃B',xF P E F B fr o=some (v,B')/\uG R A' B':=by
 obtain⟨dst,op,ty,pos,after,guard⟩:=o;cases op<;>simp only[xF]at h⊢<;>try(cases h;done)
 case alloc t=>split at h<;>cases h;exact⟨_,by rw[c.nx],c.new _⟩
 case box t x=>split at h<;>cases h;exact⟨_,by rw[c.nx],c.new _⟩
 case buildSlice t len ps=>
  split at h
  .split at h
   .split at h
    .cases h;exact⟨_,by rw[c.nx],c.new _⟩
    .cases h
   .cases h
  .cases h
 case store t p x=>
  split at h
  .split at h
   .rename_i hs;cases h;obtain⟨B',h1,h2⟩:=TY c hs;exact⟨B',by simp only[h1],h2⟩
   .cases h
  .cases h
 case makeSlice t l k=>
  split at h
  .exact aDh c h
  .cases h
 case makeMap t r=>
  split at h
  .split at h
   .rename_i hk;cases h;exact⟨_,by rw[if_pos hk,c.nx],c.new _⟩
   .cases h
  .cases h
 case mapUpdate t m k x=>
  split at h
  .split at h
   .rename_i hs;cases h;obtain⟨B',h1,h2⟩:=Sj c hs;exact⟨B',by simp only[h1],h2⟩
   .cases h
  .cases h
 case insert t m k x=>
  split at h
  .split at h
   .rename_i hs;cases h;obtain⟨B',h1,h2⟩:=Sj c hs;exact⟨B',by simp only[h1],h2⟩
   .cases h
  .cases h
 case mapEntry t m k=>
  split at h
  .exact Ut c h
  .cases h
 case entryStore t m s x=>
  split at h
  .split at h
   .rename_i hs;cases h;obtain⟨B',h1,h2⟩:=Nv c hs;exact⟨B',by simp only[h1],h2⟩
   .cases h
  .cases h
 case call k=>
  split at h
  .rename_i hk;split at h
   .split at h
    .simp only[hk]at*;try simp only[*]
     exact hF _ _ _ _ _ _ c h
    .cases h
   .cases h
  .rename_i hk;split at h
   .split at h
    .split at h
     .rename_i hs;cases h;obtain⟨B',h1,h2⟩:=aHx c hs;exact⟨B',by simp only[hk, *],h2⟩
     .cases h
    .cases h
   .cases h
  .rename_i hk;split at h
   .split at h
    .obtain⟨B',h1,h2⟩:=aBu c h;exact⟨B',by simp only[hk, *],h2⟩
    .cases h
   .cases h
  .cases h
theorem WA{o:Oper}{q:Tmp×TypeId}(h:tQ F o=some q){own:Bool}{fr:fU}:qK P E own B fr o=none:=by
 obtain⟨dst,op,ty,pos,after,guard⟩:=o;cases op<;>simp only[tQ]at h<;>try(cases h;done)
 rfl
theorem MG(hpe:Hj R E F.ee)(hF:AY R F.ee){ops:fZ}{s s1:Fx}{o:Oper}(h:tU P E F ops s o=some s1)(c:uG R s.H B):
  ∃B1,tU P E F ops {s with H:=B} o=some {s1 with H:=B1}/\uG R s1.H B1:=by
 unfold tU at h⊢;split at h
 .rename_i hw;rw[if_pos hw];split at h
  .rename_i v hv;cases h;exact⟨B,by simp only[FV hpe c hv],c⟩
  .rename_i hv;split at h
   .rename_i d t ha;have hn:=WA (P:=P) (E:=E) (B:=B) ha (own:=zO F o) (fr:=s.fr);split at h
    .cases h
    .rename_i hp;split at h
     .rename_i n z h1 h2;split at h
      .rename_i hc;cases h;exact⟨B,by simp only[hn,ha,h1,h2];rw[if_neg hp,if_pos hc],c⟩
      .cases h
     .cases h
   .rename_i ha;split at h
    .rename_i v H' he;have hn:=LL (B:=B) hpe he hv;obtain⟨B',h1,h2⟩:=Np hF c he;cases h;exact⟨B',by simp only[hn,ha,h1],h2⟩
    .cases h
 .rename_i hw;rw[if_neg hw];cases h;exact⟨B,rfl,c⟩
theorem Gz(hpe:Hj R E F.ee)(hF:AY R F.ee){ops:fZ}{s s1:Fx}{o:Oper}(h:sE P E F ops s o=some s1)(c:uG R s.H B):
  ∃B1,sE P E F ops {s with H:=B} o=some {s1 with H:=B1}/\uG R s1.H B1:=by
 obtain⟨fr,A,pend⟩:=s;unfold sE at h⊢;cases pend with
 |none=>exact MG hpe hF h c
 |some q=>
  obtain⟨d,t⟩:=q;simp only at h⊢;split at h
  .split at h
   .rename_i hd;rw[if_pos hd];split at h
    .rename_i hc;rw[if_pos hc];split at h
     .rename_i y n h1 h2
      try simp only[h1,h2]
      split at h
      .rename_i h3;cases h;rw[if_pos h3];unfold TS;split
       .exact⟨_,by simp only[c.nx],c.new _⟩
       .exact⟨B,rfl,c⟩
      .cases h
     .cases h
    .cases h
   .split at h
    .cases h
    .rename_i hd ht;rw[if_neg hd,if_neg ht];exact MG hpe hF h c
  .split at h
   .cases h
   .rename_i ht;rw[if_neg ht];exact MG hpe hF h c
theorem BT(hpe:Hj R E F.ee)(hF:AY R F.ee){ops:fZ}:∀{l:gW} {s s1:Fx} {B:Hp},qL P E F ops l s=some s1->uG R s.H B->
  ∃B1,qL P E F ops l {s with H:=B}=some {s1 with H:=B1}/\uG R s1.H B1
 |[],s,s1,B,h,c=>by cases h;exact⟨B,rfl,c⟩
 |o::l,s,s1,B,h,c=>by
  simp only[qL]at h⊢;split at h
  .rename_i s2 hs;obtain⟨B2,h1,h2⟩:=Gz hpe hF hs c;obtain⟨B1,h3,h4⟩:=BT hpe hF h h2;exact⟨B1,by rw[h1];exact h3,h4⟩
  .cases h
theorem aEr(hpe:Hj R E F.ee){ops:fZ}{s s1:Fx}{o:Oper}(h:sE P E F ops s o=some s1)(hw:qH ops s.fr o=true)(hv:qK P E (zO F o) s.H s.fr o=none)(ha:tQ F o=none):
  qK P E (zO F o) B s.fr o=none:=by
 have key:tU P E F ops s o=some s1->qK P E (zO F o) B s.fr o=none:=λh=>by
  unfold tU at h;rw[if_pos hw]at h;simp only[hv,ha]at h;split at h
  .rename_i he;exact LL hpe he hv
  .cases h
 unfold sE at h;split at h
 .exact key h
 .split at h
  .rename_i e1 _ _;obtain⟨dst,op,ty,pos,after,guard⟩:=o;simp only at e1;subst e1;rfl
  .split at h
   .cases h
   .exact key h
theorem JT(hpe:Hj R E F.ee)(hF:AY R F.ee){ops:fZ}:∀{l:gW} {m:Nat} {s s1:Fx} {B:Hp},qQ P E F ops l m s=some s1->uG R s.H B->
  ∃B1,qQ P E F ops l m {s with H:=B}=some {s1 with H:=B1}/\uG R s1.H B1
 |[],m,s,s1,B,h,c=>by
  simp only[qQ]at h⊢;split at h
  .rename_i hp;cases h;exact⟨B,by rw[hp],c⟩
  .cases h
 |o::l,m,s,s1,B,h,c=>by
  simp only[qQ]at h⊢;have e1:CA ops {s with H:=B} o=CA ops s o:=rfl;have e2:xP {s with H:=B} o=xP s o:=rfl;rw[e1,e2];split at h
  .rename_i hh;rw[if_pos hh];split at h
   .rename_i hc;rw[if_pos hc];exact BT hpe hF h c
   .cases h
  .rename_i hh;rw[if_neg hh];split at h
   .cases h
   .rename_i hd;rw[if_neg hd];split at h
    .rename_i hw;rw[if_pos hw];split at h
     .rename_i v hv;simp only[FV hpe c hv];exact JT hpe hF h c
     .rename_i hv;split at h
      .rename_i d t ha;have hn:=WA (P:=P) (E:=E) (B:=B) ha (own:=zO F o) (fr:=s.fr)
       try simp only[hn,ha]
       split at h
       .cases h
       .rename_i hp;rw[if_neg hp];split at h
        .rename_i n z h1 h2;split at h
         .rename_i hc;(try simp only[h1,h2]);rw[if_pos hc];exact JT hpe hF h c
         .cases h
        .cases h
      .rename_i ha;split at h
       .rename_i hc;have hn:qK P E (zO F o) B s.fr o=none:=by
         have h':=h;simp only[qL]at h';split at h'
         .rename_i s2 hs;exact aEr hpe hs hw hv ha
         .cases h'
        try simp only[hn,ha]
        rw[if_pos hc];exact BT hpe hF h c
       .cases h
    .rename_i hw;rw[if_neg hw];exact JT hpe hF h c
theorem DT(hpe:Hj R E F.ee)(hF:AY R F.ee){ops:fZ}{G:gI}{p l:Nat}:∀{os:gW} {m:Nat} {af:Bool} {s s1:Fx} {B:Hp},tC P E F ops G p l os m af s=some s1->uG R s.H B->
  ∃B1,tC P E F ops G p l os m af {s with H:=B}=some {s1 with H:=B1}/\uG R s1.H B1
 |[],m,af,s,s1,B,h,c=>by
  simp only[tC]at h⊢;split at h
  .rename_i hp;cases h;exact⟨B,by rw[if_pos hp],c⟩
  .cases h
 |o::os,m,af,s,s1,B,h,c=>by
  simp only[tC]at h⊢;have e2:xP {s with H:=B} o=xP s o:=rfl;rw[e2];split at h
  .rename_i hh;rw[if_pos hh];exact BT hpe hF h c
  .rename_i hh;rw[if_neg hh];split at h
   .cases h
   .rename_i hd;rw[if_neg hd];split at h
    .rename_i hst;rw[if_pos hst];split at h
     .cases h
     .rename_i haf;rw[if_neg haf];split at h
      .rename_i t x y hop;split at h
       .rename_i l' off v h1 h2;split at h
        .rename_i hl;split at h
         .rename_i H' hs;obtain⟨B',g1,g2⟩:=TY c hs
          try simp only[hop,h1,h2]
          rw[if_pos hl]
          try simp only[g1]
          exact DT hpe hF (s:={s with H:=H'}) h g2
         .cases h
        .cases h
       .cases h
      .cases h
    .rename_i hst;rw[if_neg hst];split at h
     .rename_i hw;rw[if_pos hw];by_cases hk:((if af then vQ G m p else vQ G p m)||hOk E.gl l s.fr o)=true
      .rw[if_pos hk]at h⊢;split at h
       .rename_i v hv;simp only[FV hpe c hv];exact DT hpe hF h c
       .cases h
      .rw[if_neg hk]at h;cases h
     .rename_i hw;rw[if_neg hw];exact DT hpe hF h c
theorem Ul(hpe:Hj R E F.ee)(hF:AY R F.ee){ops:fZ}{fr:fU}{s1:Fx}(h:rW P E F ops fr A=some s1)(c:uG R A B):∃B1,rW P E F ops fr B=some {s1 with H:=B1}/\uG R s1.H B1:=by
 unfold rW at h⊢;split at h
 .rename_i hl;rw[if_pos hl];split at h
  .rename_i b p h1 h2;split at h
   .rename_i l h3
    try simp only[h1,h2,h3]
    exact DT hpe hF (s:=⟨fr,A,none⟩) h c
   .cases h
  .cases h
 .rename_i hl;rw[if_neg hl];exact JT hpe hF (s:=⟨fr,A,none⟩) h c
theorem JV(hpe:Hj R E F.ee)(hF:AY R F.ee){ops:fZ}:∀(os:gW) (m:Nat) (fr:fU) (A B:Hp) (f:fU) (A':Hp) (es ds:gI),KQ P E F ops os m fr A=some (f,A',es,ds)->uG R A B->
  ∃B',KQ P E F ops os m fr B=some (f,B',es,ds)/\uG R A' B'
 |[],m,fr,A,B,f,A',es,ds,h,c=>by cases h;exact⟨B,rfl,c⟩
 |o::os,m,fr,A,B,f,A',es,ds,h,c=>by
  simp only[KQ]at h⊢;have hd:xP ⟨fr,B,none⟩ o=xP ⟨fr,A,none⟩ o:=rfl;rw[hd];split at h
  .cases h
  .rename_i hd;rw[if_neg hd];split at h
   .rename_i hw;rw[if_pos hw];split at h
    .rename_i v hv;simp only[FV hpe c hv];split at h
     .rename_i he;cases h;obtain⟨B',h1,h2⟩:=JV hpe hF os _ _ _ _ _ _ _ _ he c;exact⟨B',by simp only[h1],h2⟩
     .cases h
    .rename_i hv;split at h
     .rename_i v A1 hef;split at h
      .rename_i he;cases h;obtain⟨B1,h1,h2⟩:=Np hF c hef;obtain⟨B',h3,h4⟩:=JV hpe hF os _ _ _ _ _ _ _ _ he h2;refine⟨B',?_,h4⟩;simp only[LL (B:=B) hpe hef hv,h1,h3]
      .cases h
     .cases h
   .rename_i hw;rw[if_neg hw];exact JV hpe hF os _ _ _ _ _ _ _ _ h c
theorem Nj(hpe:Hj R E F.ee)(hF:AY R F.ee){ops:fZ}{fl:Bool}{fr:fU}{s1:Fx}(h:AB P E F ops fl fr A=some s1)(c:uG R A B):∃B1,AB P E F ops fl fr B=some {s1 with H:=B1}/\uG R s1.H B1:=by
 unfold AB at h⊢;split at h
 .rename_i hl;rw[if_pos hl];unfold HS at h⊢;split at h
  .rename_i he;split at h
   .rename_i hk;cases h;obtain⟨B',h1,h2⟩:=JV hpe hF _ _ _ _ _ _ _ _ _ he c;exact⟨B',by simp only[h1];rw[if_pos hk],h2⟩
   .cases h
  .cases h
 .rename_i hl;rw[if_neg hl];exact Ul hpe hF h c
end
section
variable{R:Ht}{P:fV}{E:tY}{ee:gB}{yd:gF}{ow:hD}{n:Nat}
theorem aTo(hpe:Hj R E ee)(ow:hD):Hj R E (BU ow ee).ee:=by rw[NZ];exact hpe
theorem Yp(hF:AY R ee)(ow:hD):AY R (BU ow ee).ee:=by rw[NZ];exact hF
theorem KF{I:Type}{A B:Hp}(c:uG R A B){l:Nat}{k:Lr->Option I}{r:I}(h:RM A l k=some r):∃o rc,A.any l=some o/\o.me=some (.loop rc)/\k rc=some r/\∀k':Lr->Option I,RM B l k'=k' rc:=by
 obtain⟨o,rc,h1,h2,h3⟩:=xX h;exact⟨o,rc,h1,h2,h3,λk'=>by unfold RM;simp only[c.yes _ _ h1,h2,okO]⟩
theorem SH(hpe:Hj R E ee)(hF:AY R ee)(hY:Cq R yd){ops:fZ}:∀{l:gW} {s s1:Fx} {B:Hp},EH P E ee yd ow ops l s=some s1->uG R s.H B->
  ∃B1,EH P E ee yd ow ops l {s with H:=B}=some {s1 with H:=B1}/\uG R s1.H B1
 |[],s,s1,B,h,c=>by cases h;exact⟨B,rfl,c⟩
 |o::l,s,s1,B,h,c=>by
  simp only[EH]at h⊢;split at h
  .rename_i l1 ars hq;split at h
   .rename_i b H' hy;obtain⟨B2,h1,h2⟩:=hY _ _ _ _ _ _ c hy;obtain⟨B1,h3,h4⟩:=SH hpe hF hY (s:=⟨qU s.fr o.dst (.bool b),H',none⟩) h h2;exact⟨B1,by simp only[h1];exact h3,h4⟩
   .cases h
  .rename_i hq;split at h
   .rename_i s2 hs;obtain⟨B2,h1,h2⟩:=Gz (aTo hpe ow) (Yp hF ow) hs c;obtain⟨B1,h3,h4⟩:=SH hpe hF hY h h2;exact⟨B1,by simp only[h1];exact h3,h4⟩
   .cases h
theorem Uo{A B A':Hp}(c:uG R A B){l:Nat}{fr fr':fU}{x:X}(h:WY l fr A=some (x,fr',A')):∃B',WY l fr B=some (x,fr',B')/\uG R A' B':=by
 unfold WY at h⊢;obtain⟨o,rc,h1,h2,h3,h4⟩:=KF c h;have hd:=c.drop h1;rw[h4];split at h3
 .cases h3
 .split at h3<;>first|(cases h3;done)|(cases h3;exact⟨_,by simp only[*],hd⟩)
theorem LI(hpe:Hj R E ee)(hF:AY R ee)(hY:Cq R yd){ro:iB}:∀(k:Code) (fr:fU) (A B:Hp) (x:X) (fr':fU) (A':Hp),uG R A B->qI P E ee yd ow n ro k fr A=some (x,fr',A')->
  ∃B',qI P E ee yd ow n ro k fr B=some (x,fr',B')/\uG R A' B':=by
 intro k
 induction k with
 |skip=>intro fr A B x fr' A' c h;cases h;exact⟨B,rfl,c⟩|label l=>intro fr A B x fr' A' c h;cases h;exact⟨B,rfl,c⟩|exit id=>intro fr A B x fr' A' c h;cases h;exact⟨B,rfl,c⟩|ret=>intro fr A B x fr' A' c h;cases h;exact⟨B,rfl,c⟩
 |region id ops draw=>
  intro fr A B x fr' A' c h;simp only[qI]at h⊢;split at h
  .rename_i hr;cases h;by_cases hd:draw=true
   .rw[if_pos hd]at hr⊢;obtain⟨B1,h1,h2⟩:=Nj (aTo hpe ow) (Yp hF ow) hr c;exact⟨B1,by simp only[h1],h2⟩
   .rw[if_neg hd]at hr⊢;obtain⟨B1,h1,h2⟩:=SH hpe hF hY (s:=⟨fr,A,none⟩) hr c;exact⟨B1,by simp only[h1],h2⟩
  .cases h
 |seq a b iha ihb=>
  intro fr A B x fr' A' c h;simp only[qI]at h⊢;split at h
  .rename_i hr;obtain⟨B1,h1,h2⟩:=iha _ _ _ _ _ _ c hr;obtain⟨B2,h3,h4⟩:=ihb _ _ _ _ _ _ h2 h;exact⟨B2,by simp only[h1];exact h3,h4⟩
  .rename_i hn;obtain⟨B1,h1,h2⟩:=iha _ _ _ _ _ _ c h;refine⟨B1,?_,h2⟩;rw[h1];cases x with
   |normal=>exact absurd h (hn _ _)|exit id=>rfl|ret=>rfl
 |cond q a b iha ihb=>
  intro fr A B x fr' A' c h;simp only[qI]at h⊢;split at h
  .split at h
   .rename_i ht;rw[if_pos ht];exact iha _ _ _ _ _ _ c h
   .rename_i ht;rw[if_neg ht];exact ihb _ _ _ _ _ _ c h
  .cases h
 |block id q ih=>
  intro fr A B x fr' A' c h;simp only[qI]at h⊢;split at h
  .rename_i hr;obtain⟨B1,h1,h2⟩:=ih _ _ _ _ _ _ c hr;rw[h1];split at h
   .rename_i e;cases h;exact⟨B1,by simp only[if_pos e],h2⟩
   .rename_i e;cases h;exact⟨B1,by simp only[if_neg e],h2⟩
  .rename_i hn;obtain⟨B1,h1,h2⟩:=ih _ _ _ _ _ _ c h;refine⟨B1,?_,h2⟩;rw[h1];cases x with
   |normal=>rfl|exit id=>exact absurd h (hn _ _ _)|ret=>rfl
 |loop q ih=>
  intro fr A B x fr' A' c h;simp only[qI]at h⊢;have key:∀(k:Nat) (fr:fU) (A B:Hp),uG R A B->pU.loopN (λfr H=>qI P E ee yd ow n ro q fr H) k fr A=some (x,fr',A')->
    ∃B',pU.loopN (λfr H=>qI P E ee yd ow n ro q fr H) k fr B=some (x,fr',B')/\uG R A' B':=by
   intro k
   induction k with
   |zero=>intro fr A B c h;cases h
   |succ k ihk=>
    intro fr A B c h;simp only[pU.loopN]at h⊢;split at h
    .rename_i hr;obtain⟨B1,h1,h2⟩:=ih _ _ _ _ _ _ c hr;obtain⟨B2,h3,h4⟩:=ihk _ _ _ h2 h;exact⟨B2,by simp only[h1];exact h3,h4⟩
    .rename_i hn;obtain⟨B1,h1,h2⟩:=ih _ _ _ _ _ _ c h;refine⟨B1,?_,h2⟩;rw[h1];cases x with
     |normal=>exact absurd h (hn _ _)|exit id=>rfl|ret=>rfl
  exact key n fr A B c h
 |rangeFunc g ps asg bd _ _ =>
  intro fr A B x fr' A' c h;simp only[qI]at h⊢;split at h
  .split at h
   .rename_i hro;have hro':Qp B ro=true:=by
     unfold Qp at hro⊢;split at hro
     .rfl
     .rename_i l;unfold aQa at hro⊢;split at hro
      .rename_i o ho;rw[c.yes _ _ ho];exact hro
      .cases hro
    rw[if_pos hro'];split at h
    .rename_i v A2 hc;rw[c.nx];obtain⟨B2,h1,h2⟩:=hF _ _ _ _ _ _ (c.new _) hc;obtain⟨B3,h3,h4⟩:=Uo h2 h;exact⟨B3,by simp only[h1];exact h3,h4⟩
    .cases h
   .cases h
  .cases h
 |_ =>intro fr A B x fr' A' c h;simp only[qI]at h;cases h
theorem Qt{A B A':Hp}(c:uG R A B){l:Nat}{x:X}{b:Bool}(h:MI l A x=some (b,A')):∃B',MI l B x=some (b,B')/\uG R A' B':=by
 unfold MI at h⊢;obtain⟨o,rc,h1,h2,h3,h4⟩:=KF c h;rw[h4];cases x<;>(cases h3;exact⟨_,rfl,c.put h1 _⟩)
theorem Qr(hpe:Hj R E ee)(hF:AY R ee)(hY:Cq R yd):Cq R (λl ts H=>JF P E ee yd n l ts H):=by
 intro l ts A B b A' c h;simp only[JF]at h⊢;obtain⟨o,rc,h1,h2,h3,h4⟩:=KF c h;rw[h4];split at h3
 .rename_i hc;rw[if_pos hc];split at h3
  .rename_i fr1 A1 e1;obtain⟨B1,g1,c1⟩:=LI hpe hF hY _ _ _ _ _ _ _ c e1;simp only[g1];unfold Kq at h3⊢;obtain⟨o1,r1,k1,k2,k3,k4⟩:=KF c1 h3;rw[k4];split at k3
   .split at k3
    .rename_i x fr2 A2 e2;obtain⟨B2,g2,c2⟩:=LI hpe hF hY _ _ _ _ _ _ _ (c1.put k1 _) e2;obtain⟨B3,g3,c3⟩:=Qt c2 k3;exact⟨B3,by simp only[*],c3⟩
    .cases k3
   .cases k3
  .cases h3
 .cases h3
theorem BH{A B:Hp}(c:uG R A B){fr:fU}:∀{rs:jH} {ts:fU},sS P fr A rs=some ts->sS P fr B rs=some ts
 |[],ts,h=>h
 |r::rs,ts,h=>by
  simp only[sS]at h⊢;split at h
  .rename_i t ht;have e:Qo P fr B r=some t:=by
    cases r with
    |tmp d=>exact ht|cell a t=>exact YH c ht
   simp only[e];split at h
   .rename_i us hu;rw[BH c hu];exact h
   .cases h
  .cases h
theorem aIy(hpe:Hj R E ee)(hF:AY R ee)(hY:Cq R yd){f:gV}{ts:fU}{A B A':Hp}{r:T}(c:uG R A B)(h:Yu P E ee yd ow n f ts A=some (r,A')):∃B',Yu P E ee yd ow n f ts B=some (r,B')/\uG R A' B':=by
 unfold Yu at h⊢;split at h
 .rename_i fn hfn;split at h
  .rename_i k hk;have hx:∀(x:X) (fr:fU) (A1:Hp),qI P E ee yd ow n none k (ts++List.replicate (fn.ntmps-ts.length) pV) A=some (x,fr,A1)->∃B1,qI P E ee yd ow n none k (ts++List.replicate (fn.ntmps-ts.length) pV) B=some (x,fr,B1)/\uG R A1 B1:=
    λx fr A1 e=>LI hpe hF hY _ _ _ _ _ _ _ c e
   split at h
   .rename_i fr A1 e;obtain⟨B1,g1,c1⟩:=hx _ _ _ e;simp only[g1];split at h
    .rename_i t ht;cases h;exact⟨B1,by simp only[BH c1 ht],c1⟩
    .rename_i us hn hu;cases h;refine⟨B1,?_,c1⟩;simp only[BH c1 hu]
    .cases h
   .rename_i fr A1 e;obtain⟨B1,g1,c1⟩:=hx _ _ _ e;simp only[g1];split at h
    .rename_i t ht;cases h;exact⟨B1,by simp only[BH c1 ht],c1⟩
    .rename_i us hn hu;cases h;refine⟨B1,?_,c1⟩;simp only[BH c1 hu]
    .cases h
   .cases h
  .cases h
 .cases h
theorem aMx{R:Ht}:AY R Az:=λf ts A B r A' c h=>by
 unfold Az at h⊢;by_cases hf:f=123
 .rw[if_pos hf]at h⊢;unfold NR at h⊢;split at h
  .split at h
   .rename_i o ho;simp only[c.get ho];split at h
    .rename_i hcell;split at h
     .rename_i hc;cases h
      try simp only[hcell]
      exact⟨_,if_pos hc,c.put (qP ho).1 _⟩
     .cases h
    .rename_i hcell;split at h
     .rename_i hc;cases h
      try simp only[hcell]
      exact⟨B,if_pos hc,c⟩
     .cases h
    .cases h
   .cases h
  .cases h
 .rw[if_neg hf]at h⊢;by_cases hf2:f=79
  .rw[if_pos hf2]at h⊢;unfold Cb at h⊢;split at h
   .split at h
    .rename_i o ho;simp only[c.get ho];split at h
     .rename_i hc;rw[if_pos hc];split at h
      .rename_i hcell;cases h
       try simp only[hcell]
       exact⟨B,rfl,c⟩
      .rename_i hcell
       try simp only[hcell]
       split at h
       .rename_i o2 ho2;simp only[c.get ho2];split at h
        .rename_i hc2;rw[if_pos hc2];split at h
         .rename_i bs hbs;cases h
          try simp only[hbs]
          exact⟨_,rfl,c.drop (qP ho2).1⟩
         .cases h
        .cases h
       .cases h
      .cases h
     .cases h
    .cases h
   .cases h
  .rw[if_neg hf2]at h;cases h
theorem Fq{own:iL}{ok:iA}(hpm:∀A B f ts r,uG R A B->E.pe A f ts=some r->E.pe B f ts=some r)(hpn:∀f,ok f=true->∀B ts,E.pe B f ts=none)(hpx:∀f ts A v,Az f ts A=some v->∀B ts,E.pe B f ts=none):∀d,AY R (vH P E own ok n d).ee/\Cq R (vH P E own ok n d).yd
 |0=>⟨λ_ _ _ _ _ _ _ h=>(by cases h),λ_ _ _ _ _ _ _ h=>(by cases h)⟩
 |d+1=>by
  obtain⟨h1,h2⟩:=Fq (own:=own) (ok:=ok) hpm hpn hpx d
  have hpe:Hj R E (vH P E own ok n d).ee:=⟨hpm,λf ts A v h B=>by
   cases d with
   |zero=>cases h
   |succ d=>
    simp only[vH]at h;split at h
    .rename_i hk;exact hpn f hk B ts
    .exact hpx f ts A v h B ts⟩
  refine⟨λf ts A B r A' c h=> ?_,Qr hpe h1 h2⟩;simp only[vH]at h⊢;split at h
  .rename_i hk;rw[if_pos hk];exact aIy hpe h1 h2 c h
  .rename_i hk;rw[if_neg hk];exact aMx _ _ _ _ _ _ c h
end
end
variable[Inhabited Prd]
structure CF where
 f:FuncId
 pre:List A
 objs:List (TypeId×List A×List A)
 res:A
def Fin(H:Hp):Prop:=∀(m:Nat) (o:Ob),H.any m=some o->m<H.next
def aGu(H:Hp)(xs:gI)(objs:List (TypeId×List A×List A))(w:TypeId×List A×List A->List A):Prop:=
 ∀(j:Nat) (q:TypeId×List A×List A),objs[j]? =some q->∃x o,xs[j]? =some x/\H.get x=some o/\(o.elem=q.1/\o.sz=0)/\qO [0] (xs.map some) (w q) o.cells
def GW(ee:gP)(s:CF):Prop:=
 ∀(H:Hp) (ts:fU) (xs:gI),Fin H->xs.length=s.objs.length->xs.Nodup->qO [0] (xs.map some) s.pre ts->aGu H xs s.objs (·.2.1)->
  ∃r H',Ev (λn d=>ee n d s.f ts H=some (r,H'))/\Gm [0] (xs.map some) s.res r/\Fin H'/\H.next<=H'.next/\aGu H' xs s.objs (·.2.2)/\∀y,y∉xs->y<H.next->H'.any y=H.any y
def AG(W:gI):Nat->A->A
 |0,a=>a
 |k+1,a=>match a with
  | .ptr j o=>match W[j]? with
   |some l=> .ptr l o|none=> .top
  | .slv e lo hi=> .slv (AG W k e) lo hi| .slpv q e lo hi=> .slpv q (AG W k e) lo hi| .slk es=> .slk (es.map (AG W k))| .fn f a_s bs=> .fn f (a_s.map (AG W k)) (bs.map (AG W k))| .or a_s=> .or (a_s.map (AG W k))| .agg a_s=> .agg (a_s.map (AG W k))| .prd q a_s=> .prd q (a_s.map (AG W k))| .tup a_s=> .tup (a_s.map (AG W k))|a=>a
def EJ(m:Nat):Nat->A->Bool
 |0,_ =>false
 |k+1,a=>match a with
  | .ptr j _ =>Nat.blt j m| .slv e _ _ | .slpv _ e _ _ =>EJ m k e| .slk a_s| .or a_s| .agg a_s| .prd _ a_s| .tup a_s=>DV (EJ m k) a_s| .fn _ a_s bs=>DV (EJ m k) a_s&&DV (EJ m k) bs| .top| .any| .ival .. | .strc _ | .strv .. | .sxv .. | .nilp| .nils| .nilf| .nili| .nilm| .ifc| .bool (.imp [] [])| .bool (.lit _)=>true|_ =>false
section
variable{U ρ':gJ}{O μ':fW}{S:AS}{H H':Hp}{P:fV}
theorem Zr{f:A->A}{ρ1 ρ2:gJ}{μ1 μ2:fW}{a_s:List A}(h:∀a∈a_s,∀t,Gm ρ1 μ1 a t->Gm ρ2 μ2 (f a) t){ts:fU}(hg:qO ρ1 μ1 a_s ts):qO ρ2 μ2 (a_s.map f) ts:=by
 refine⟨by simpa using hg.1,λj a t ha ht=> ?_⟩;rw[bA]at ha;obtain⟨b,hb,rfl⟩:=aD.1 ha;exact h b (bB hb) t (hg.2 j b t hb ht)
theorem Hg{f:A->A}{ρ1 ρ2:gJ}{μ1 μ2:fW}{a_s:List A}(h:∀a∈a_s,∀t,Gm ρ1 μ1 (f a) t->Gm ρ2 μ2 a t){ts:fU}(hg:qO ρ1 μ1 (a_s.map f) ts):qO ρ2 μ2 a_s ts:=by
 refine⟨by simpa using hg.1,λj a t ha ht=>h a (bB ha) t (hg.2 j (f a) t (by rw[bA,ha];rfl) ht)⟩
def aGv(W:gI)(m:Nat)(μs O:fW):Prop:=∀j,j<m->∃l x,W[j]? =some l/\μs[j]? =some (some x)/\O[l]? =some (some x)
theorem aLj{W:gI}{m:Nat}{μs:fW}{ρs:gJ}(hr:aGv W m μs O):∀(k:Nat) (a:A),EJ m k a=true->∀(t:T),Gm ρs μs a t->Gm U O (AG W k a) t
 |0,_,h,_,_ =>by simp[EJ]at h
 |k+1,a,h,t,hg=>by
  have ih:=aLj (ρs:=ρs) hr k;have ihl:∀{a_s:List A},DV (EJ m k) a_s=true->∀{ts:fU},qO ρs μs a_s ts->qO U O (a_s.map (AG W k)) ts:=λh _ hg=>Zr (λa ha t hg=>ih a (rF h a ha) t hg) hg;cases hg with
  |top t=>exact .top t|any t h=>exact .any t h|ival k lo hi n h1 h2 h3=>exact .ival k lo hi n h1 h2 h3
  |bool B b hb=>
   rcases B with x|⟨_ |⟨p,ps⟩,_ |⟨q,qs⟩⟩
   .exact .bool _ _ hb
   .exact .bool _ _ (sY b)
   .simp[EJ]at h
   .simp[EJ]at h
   .simp[EJ]at h
  |strc s=>exact .strc s|strv lo hi l h1 h2=>exact .strv lo hi l h1 h2|nilp=>exact .nilp|nils=>exact .nils|nilf=>exact .nilf|nili=>exact .nili|nilm=>exact .nilm|sxv lo hi full n f h1 h2=>exact .sxv lo hi full n f h1 h2|ifc t x=>exact .ifc t x
  |ptr j o x hx=>
   obtain⟨l,y,h1,h2,h3⟩:=hr j (qW (by simpa [EJ]using h));rw[hx]at h2;cases h2;simp only[AG,h1];exact .ptr l o x h3
  |slv e lo hi t xs h1 h2 h3 h4=>exact .slv _ lo hi t xs h1 h2 h3 (λx hx=>ih e (by simpa [EJ]using h) x (h4 x hx))|slpv q e lo hi t xs h0 h1 h2 h3 h4=>exact .slpv q _ lo hi t xs h0 h1 h2 h3 (λx hx=>ih e (by simpa [EJ]using h) x (h4 x hx))
  |slk es t xs h1 h2 h3=>
   have:=ihl (by simpa [EJ]using h) ⟨h2,h3⟩;exact .slk _ t xs h1 this.1 this.2
  |fn f a_s bs as' bs' h1 h2 h3 h4=>
   simp only[EJ,aA]at h;have e1:=ihl h.1 ⟨h1,h2⟩;have e2:=ihl h.2 ⟨h3,h4⟩;exact .fn f _ _ as' bs' e1.1 e1.2 e2.1 e2.2
  |or a_s a t hm h1=>exact .or _ (AG W k a) t (eB hm) (ih a (rF (by simpa [EJ]using h) a hm) t h1)
  |agg a_s ts h1 h2=>
   have:=ihl (by simpa [EJ]using h) ⟨h1,h2⟩;exact .agg _ ts this.1 this.2
  |prd q a_s ts h0 h1 h2=>
   have:=ihl (by simpa [EJ]using h) ⟨h1,h2⟩;exact .prd q _ ts h0 this.1 this.2
  |tup a_s ts h1 h2=>
   have:=ihl (by simpa [EJ]using h) ⟨h1,h2⟩;exact .tup _ ts this.1 this.2
  |_ =>simp[EJ]at h
theorem aLi{W:gI}{m:Nat}{μs:fW}{ρs:gJ}(hr:aGv W m μs O):∀(k:Nat) (a:A),EJ m k a=true->∀(t:T),Gm U O (AG W k a) t->Gm ρs μs a t
 |0,_,h,_,_ =>by simp[EJ]at h
 |k+1,a,h,t,hg=>by
  have ih:=aLi (ρs:=ρs) hr k;have ihl:∀{a_s:List A},DV (EJ m k) a_s=true->∀{ts:fU},qO U O (a_s.map (AG W k)) ts->qO ρs μs a_s ts:=λh _ hg=>Hg (λa ha t hg=>ih a (rF h a ha) t hg) hg;cases a<;>simp only[AG]at hg<;>try(simp[EJ]at h;done)
  case top=>exact .top t
  case any=>cases hg with|any _ h=>exact .any t h
  case ival=>cases hg with|ival _ _ _ n h1 h2 h3=>exact .ival _ _ _ n h1 h2 h3
  case bool B=>
   cases hg with
   |bool _ b hb=>
   rcases B with x|⟨_ |⟨p,ps⟩,_ |⟨q,qs⟩⟩
   .exact .bool _ _ hb
   .exact .bool _ _ (sY b)
   .simp[EJ]at h
   .simp[EJ]at h
   .simp[EJ]at h
  case strc=>cases hg;exact .strc _
  case strv=>cases hg with|strv _ _ l h1 h2=>exact .strv _ _ l h1 h2
  case nilp=>cases hg;exact .nilp
  case nils=>cases hg;exact .nils
  case nilf=>cases hg;exact .nilf
  case nili=>cases hg;exact .nili
  case nilm=>cases hg;exact .nilm
  case sxv=>cases hg with|sxv _ _ full n f h1 h2=>exact .sxv _ _ full n f h1 h2
  case ifc=>cases hg with|ifc t x=>exact .ifc t x
  case ptr j o=>
   obtain⟨l,y,h1,h2,h3⟩:=hr j (qW (by simpa [EJ]using h));rw[h1]at hg;cases hg with
   |ptr _ _ x hx=>
   rw[h3]at hx;cases hx;exact .ptr j o y h2
  case slv e lo hi=>cases hg with|slv _ _ _ _ xs h1 h2 h3 h4=>exact .slv e lo hi t xs h1 h2 h3 (λx hx=>ih e (by simpa [EJ]using h) x (h4 x hx))
  case slpv q e lo hi=>cases hg with|slpv _ _ _ _ _ xs h0 h1 h2 h3 h4=>exact .slpv q e lo hi t xs h0 h1 h2 h3 (λx hx=>ih e (by simpa [EJ]using h) x (h4 x hx))
  case slk es=>
   cases hg with
   |slk _ _ xs h1 h2 h3=>
   have:=ihl (by simpa [EJ]using h) ⟨h2,h3⟩;exact .slk es t xs h1 this.1 this.2
  case fn f a_s bs=>
   cases hg with
   |fn _ _ _ as' bs' h1 h2 h3 h4=>
   simp only[EJ,aA]at h;have e1:=ihl h.1 ⟨h1,h2⟩;have e2:=ihl h.2 ⟨h3,h4⟩;exact .fn f _ _ as' bs' e1.1 e1.2 e2.1 e2.2
  case or a_s=>
   cases hg with
   |or _ b _ hm h1=>
   obtain⟨a,ha,rfl⟩:=bQ.1 hm;exact .or _ a t ha (ih a (rF (by simpa [EJ]using h) a ha) t h1)
  case agg a_s=>
   cases hg with
   |agg _ ts h1 h2=>
   have:=ihl (by simpa [EJ]using h) ⟨h1,h2⟩;exact .agg _ ts this.1 this.2
  case prd q a_s=>
   cases hg with
   |prd _ _ ts h0 h1 h2=>
   have:=ihl (by simpa [EJ]using h) ⟨h1,h2⟩;exact .prd q _ ts h0 this.1 this.2
  case tup a_s=>
   cases hg with
   |tup _ ts h1 h2=>
   have:=ihl (by simpa [EJ]using h) ⟨h1,h2⟩;exact .tup _ ts this.1 this.2
end
def TT(j:Nat):List A->List A->Option Nat
 | .ptr i o::ps,.ptr l o'::a_s=>if Nat.beq i j&&(Nat.beq o 0&&Nat.beq o' 0)then some l else TT j ps a_s
 |_ ::ps,_ ::a_s=>TT j ps a_s|_,_ =>none
def aMb(pre args:List A):Nat->Nat->Option (List Nat)
 |0,_ =>some []
 |n+1,j=>match TT j pre args with
  |some l=>match aMb pre args n (j+1)with
   |some r=>if sQ l r then none else some (l::r)
   |none=>none
  |none=>none
def OL(S:AS)(W:gI):List Nat->List (TypeId×List A×List A)->Bool
 |[],[]=>true
 |l::ls,(e,c0,_)::r=>(match pY S.hp l with
  |some (.fix e' xs)=>Nat.beq e' e&&BD (KV S.cs 1 S.nl sJ) xs (c0.map (AG W sJ))|_ =>false)&&OL S W ls r
 |_,_ =>false
def Wr(f:gV)(args:List A)(S:AS)(s:CF):Option (List Nat):=
 if Nat.beq s.f f&&(DV (EJ s.objs.length sJ) s.pre&&(s.objs.all λq=>DV (EJ s.objs.length sJ) q.2.1&&DV (EJ s.objs.length sJ) q.2.2)&&EJ s.objs.length sJ s.res)then
  match aMb s.pre args s.objs.length 0 with
  |some W=>if BD (KV S.cs 1 S.nl sJ) args (s.pre.map (AG W sJ))&&OL S W W s.objs then some W else none
  |none=>none
 else none
def PE:List (Nat×AO)->List Nat->List (TypeId×List A×List A)->List A->List (Nat×AO)
 |hp,l::ls,(e,_,c1)::r,ys=>PE (CD hp l (.fix e (ys.take c1.length))) ls r (ys.drop c1.length)|hp,_,_,_ =>hp
def Ws(S:AS)(s:CF)(W:gI):Option (List AR):=
 match vY (.tup (AG W sJ s.res::s.objs.flatMap λq=>q.2.2.map (AG W sJ))) S.nx S.cs with
 |⟨.tup (a::ys),n,cs⟩=>some [⟨a,PE S.hp W s.objs ys,n,S.nl,cs⟩]|_ =>none
def aEn(f:gV)(args:List A)(S:AS):List CF->Option (List AR)
 |[]=>none
 |s::r=>match Wr f args S s with
  |some W=>Ws S s W|none=>aEn f args S r
section
variable{U ρ':gJ}{O μ':fW}{S:AS}{H H':Hp}{P:fV}
theorem Pw:∀{l:gI},(∀i j,i<j->j<l.length->l[i]? ≠l[j]?)->l.Nodup
 |[],_ =>List.nodup_nil
 |x::xs,h=>by
  refine eK.2 ⟨λhx=> ?_,Pw λi j hij hj=> ?_⟩
  .obtain⟨j,hj,e⟩:=cO hx;exact h 0 (j+1) (by omega) (by simpa using hj) (by simp[<-e,hj])
  .have:=h (i+1) (j+1) (by omega) (by simpa using hj);simpa using this
theorem OK:∀{l:gI},l.Nodup->∀i j,i<j->j<l.length->l[i]? ≠l[j]?
 |x::xs,h,0,j+1,_,hj=>by
  have hj:j<xs.length:=by simpa using hj
  have:=(eK.1 h).1;simp only[cQ,eD,aB hj];exactλe=>this (by rw[bX e];exact cK hj)
 |x::xs,h,i+1,j+1,hij,hj=>by
  have:=OK (eK.1 h).2 i j (by omega) (by simpa using hj);simpa using this
theorem ZD{j:Nat}:∀{ps a_s:List A} {l:Nat},TT j ps a_s=some l->∃i:Nat,ps[i]? =some (A.ptr j 0)/\a_s[i]? =some (A.ptr l 0)
 |[],a_s,l,h=>by cases a_s<;>simp[TT]at h|p::ps,[],l,h=>by cases p<;>simp[TT]at h
 |p::ps,a::a_s,l,h=>by
  unfold TT at h;split at h
  .rename_i h1 h2;cases h1;cases h2;split at h
   .rename_i hc;cases h;simp only[aA]at hc;obtain⟨k1,k2,k3⟩:=hc;rw[pX k1,pX k2,pX k3];exact⟨0,rfl,rfl⟩
   .obtain⟨i,h1,h2⟩:=ZD h;exact⟨i+1,h1,h2⟩
  .rename_i h1 h2;cases h1;cases h2;obtain⟨i,h1,h2⟩:=ZD h;exact⟨i+1,h1,h2⟩
  .cases h
theorem aAx{pre args:List A}:∀(n j:Nat) (W:gI),aMb pre args n j=some W->W.length=n/\W.Nodup/\∀i,i<n->∃l,W[i]? =some l/\TT (j+i) pre args=some l
 |0,j,W,h=>by simp only[aMb]at h;cases h;exact⟨rfl,List.nodup_nil,λi hi=>absurd hi (by omega)⟩
 |n+1,j,W,h=>by
  simp only[aMb]at h;split at h
  .rename_i l hl;split at h
   .rename_i r hr;obtain⟨h1,h2,h3⟩:=aAx n (j+1) r hr;split at h
    .cases h
    .rename_i hm;cases h;refine⟨by simp[h1],eK.2 ⟨λq=>hm (OJ.2 q),h2⟩,λi hi=> ?_⟩;cases i with
     |zero=>exact⟨l,rfl,hl⟩
     |succ i=>
      obtain⟨l',q1,q2⟩:=h3 i (by omega);exact⟨l',by simpa using q1,by rw[show j+(i+1)=j+1+i by omega];exact q2⟩
   .cases h
  .cases h
theorem GH.chg{hp:gL}{nl:Nat}{Hm:Nat->Option Ob}{W:gI}(hh:GH hp nl U O H)(hn:H.next<=H'.next)(hf:Fin H'){xs:gI}
  (hx:∀(j l x:Nat),W[j]? =some l->xs[j]? =some x->O[l]? =some (some x)) (hlen:xs.length=W.length) (hr:∀y,y∉xs->y<H.next->H'.any y=H.any y)
  {hp':gL} (h1:∀l,l∉W->pY hp' l=pY hp l) (h2:∀(j l x:Nat),W[j]? =some l->xs[j]? =some x->(∃q,pY hp l=some q)/\∃e ys o,pY hp' l=some (.fix e ys)/\H'.get x=some o/\(o.elem=e/\o.sz=0)/\qO U O ys o.cells):GH hp' nl U O H':=by
 have dich:∀l,l∉W\/∃j x,W[j]? =some l/\xs[j]? =some x:=λl=>by
  by_cases h:l∈W
  .obtain⟨j,hj,rfl⟩:=cO h;exact .inr ⟨j,xs[j],aB hj,aB (by omega)⟩
  .exact .inl h
 have old:∀{l:Nat} {q:AO},pY hp' l=some q->∃q',pY hp l=some q':=λ{l q} h=>by
  rcases dich l with hl|⟨j,x,e1,e2⟩
  .exact⟨q,by rw[<-h1 l hl];exact h⟩
  .exact(h2 j l x e1 e2).1
 refine⟨hh.len,λl q hl=> ?_,λl l' q q' y hl hl' hy hy'=> ?_,λl y hy=>bT (hh.lt l y hy) hn,λl e ys hl=> ?_,hf⟩
 .rcases dich l with hm|⟨j,x,e1,e2⟩
  .rw[h1 l hm]at hl;obtain⟨y,k1,k2⟩:=hh.obj l q hl;refine⟨y,k1,λz hz=> ?_⟩;obtain⟨c,k3,k4⟩:=k2 z hz;subst hz;have hzx:z∉xs:=λhz=>by
    obtain⟨j,hj,rfl⟩:=cO hz;have hj':j<W.length:=by omega
    have e1:=aB hj';have e2:=aB hj;have e3:=hx j _ _ e1 e2;obtain⟨q',hq'⟩:=(h2 j _ _ e1 e2).1;have:=hh.inj _ _ _ _ _ hl hq' k1 e3;exact hm (this▸cK hj')
   have hany:=hr z hzx (hh.lt l z k1);refine⟨c,?_,k4⟩;rw[<-k3];cases q with
   |loop=>exact hany|map=>exact hany|fix=>exact QZ hany|row=>exact QZ hany
  .obtain⟨_,e,ys,o,k1,k2,k3,k4⟩:=h2 j l x e1 e2;rw[k1]at hl;cases hl;refine⟨some x,hx j l x e1 e2,λz hz=> ?_⟩;cases hz;exact⟨o,k2,k3,k4⟩
 .obtain⟨p,HF⟩:=old hl;obtain⟨p',hp2⟩:=old hl';exact hh.inj l l' p p' y HF hp2 hy hy'
 .rcases dich l with hm|⟨j,x,e1,e2⟩
  .rw[h1 l hm]at hl;exact hh.fixp l e ys hl
  .exact⟨x,hx j l x e1 e2⟩
theorem ZZ:∀(W:gI) (objs:List (TypeId×List A×List A)) (hp:gL) (ys:List A),W.Nodup->(∀l∈W,∃q,pY hp l=some q)->W.length=objs.length->
  (∀l,l∉W->pY (PE hp W objs ys) l=pY hp l)/\
  ∀(j l:Nat) (q:TypeId×List A×List A),W[j]? =some l->objs[j]? =some q->pY (PE hp W objs ys) l=some (.fix q.1 ((ys.drop ((objs.take j).flatMap (·.2.2)).length).take q.2.2.length))
 |[],[],hp,ys,_,_,_ =>⟨λl _ =>rfl,λj l q h=>by simp at h⟩|[],_ ::_,_,_,_,_,h=>by simp at h|_ ::_,[],_,_,_,_,h=>by simp at h
 |l0::ls,(e,c0,c1)::r,hp,ys,hnd,hin,hlen=>by
  obtain⟨n1,n2⟩:=eK.1 hnd
  have ih:=ZZ ls r (CD hp l0 (.fix e (ys.take c1.length))) (ys.drop c1.length) n2 (λl hl=>by
   rw[uB];split
   .rename_i e0;subst e0;exact absurd hl n1
   .exact hin l (aG _ hl)) (by simpa using hlen)
  simp only[PE];refine⟨λl hl=> ?_,λj l q hj hq=> ?_⟩
  .rw[ih.1 l (λh=>hl (aG _ h)),uB,if_neg (λe0:l0=l=>hl (by subst e0;exact aL))]
  .cases j with
   |zero=>
    simp only[cQ,aC]at hj hq;subst hj hq;rw[ih.1 l0 n1,uB,if_pos rfl];obtain⟨q,hq⟩:=hin l0 aL;rw[hq];simp
   |succ j=>
    simp only[eD]at hj hq;rw[ih.2 j l q hj hq];simp[List.drop_drop]
theorem MC{W:gI}:∀(ls:gI) (objs:List (TypeId×List A×List A)),OL S W ls objs=true->
  ∀(j l:Nat) (q:TypeId×List A×List A),ls[j]? =some l->objs[j]? =some q->∃xs,pY S.hp l=some (.fix q.1 xs)/\BD (KV S.cs 1 S.nl sJ) xs (q.2.1.map (AG W sJ))=true
 |[],_,_,j,l,q,hj,_ =>by simp at hj|l0::ls,[],h,_,_,_,_,_ =>by simp[OL]at h
 |l0::ls,(e,c0,c1)::r,h,j,l,q,hj,hq=>by
  simp only[OL,aA]at h;cases j with
  |zero=>
   simp only[cQ,aC]at hj hq;subst hj hq;have h1:=h.1;split at h1
   .rename_i e' xs hf;simp only[aA]at h1;have:=pX h1.1;subst this;exact⟨xs,hf,h1.2⟩
   .cases h1
  |succ j=>exact MC ls r h.2 j l q (by simpa using hj) (by simpa using hq)
theorem PU{μs:fW}{w:TypeId×List A×List A->List A}:∀(objs:List (TypeId×List A×List A)) (xs:gI),xs.length=objs.length->
  (∀(j:Nat) (q:TypeId×List A×List A),objs[j]? =some q->∃x o,xs[j]? =some x/\H.get x=some o/\(o.elem=q.1/\o.sz=0)/\qO [0] μs (w q) o.cells)->
  ∃us:List T,qO [0] μs (objs.flatMap w) us/\∀(j:Nat) (q:TypeId×List A×List A) (x:Nat),objs[j]? =some q->xs[j]? =some x->∃o,H.get x=some o/\(o.elem=q.1/\o.sz=0)/\(w q).length=o.cells.length/\o.cells=(us.drop ((objs.take j).flatMap w).length).take (w q).length
 |[],xs,_,_ =>⟨[],qO.nil,λj q x h=>by simp at h⟩|q0::r,[],h,_ =>by simp at h
 |q0::r,x0::xr,hl,h=>by
  obtain⟨x,o,h1,h2,h3,h4⟩:=h 0 q0 rfl;simp only[cQ,aC]at h1;subst h1
  obtain⟨us,u1,u2⟩:=PU (w:=w) r xr (by simpa using hl) (λj q hq=>by
   obtain⟨x,o,k1,k2⟩:=h (j+1) q (by simpa using hq)
   exact⟨x,o,by simpa using k1,k2⟩)
  refine⟨o.cells++us,by rw[bG];exact h4.app u1,λj q x hq hx=> ?_⟩;cases j with
  |zero=>
   simp only[cQ,aC]at hq hx;subst hq hx;exact⟨o,h2,h3,h4.1,by rw[h4.1];simp⟩
  |succ j=>
   simp only[eD]at hq hx;obtain⟨o',o1,o2,o3,o4⟩:=u2 j q x hq hx;refine⟨o',o1,o2,o3,?_⟩;rw[List.take_succ_cons,bG,bI,<-List.drop_drop,h4.1,List.drop_left' rfl];exact o4
theorem aEo{ee:gP}{s:CF}(ht:GW ee s){f:gV}{args:List A}{W:gI}(h:Wr f args S s=some W){rs:List AR}(hr:Ws S s W=some rs){ts:fU}(hs:Sy U S.nx S.cs)(hh:GH S.hp S.nl U O H)(hg:qO U O args ts):
  ∃r H',Ev (λn d=>ee n d f ts H=some (r,H'))/\∃R∈rs,ROk U O R r H':=by
 unfold Wr at h;split at h
 .rename_i hc;simp only[aA,aH]at hc;obtain⟨c1,⟨c2,c3⟩,c4⟩:=hc;have c1:=pX c1;subst c1;split at h
  .rename_i σ' hsig;split at h
   .rename_i hc;cases h;simp only[aA]at hc;obtain⟨c5,c6⟩:=hc;obtain⟨s1,s2,s3⟩:=aAx _ _ _ hsig;have hobj:∀j,j<s.objs.length->∃l x,W[j]? =some l/\O[l]? =some (some x):=λj hj=>by
     obtain⟨l,h1,h2⟩:=s3 j hj;obtain⟨i,h3,h4⟩:=ZD h2;obtain⟨t,h5,h6⟩:=hg.at h4;cases h6 with
     |ptr _ _ x hx=>exact⟨l,x,h1,hx⟩
    let xs:List Nat:=W.map λl=>match O[l]? with
     |some (some x)=>x|_ =>0
    have hxl:xs.length=s.objs.length:=by simp[xs,s1]
    have hxs:∀(j l x:Nat),W[j]? =some l->xs[j]? =some x->O[l]? =some (some x):=λj l x h1 h2=>by
     have hj:j<s.objs.length:=by rw[<-s1];exact(aO.1 h1).1
     obtain⟨l',x',e1,e2⟩:=hobj j hj;rw[h1]at e1;cases e1;simp only[xs,bA,h1,cH,e2,aC]at h2;subst h2;exact e2
    have hren:aGv W s.objs.length (xs.map some) O:=λj hj=>by
     obtain⟨l,x,e1,e2⟩:=hobj j hj;refine⟨l,x,e1,?_,e2⟩;simp only[xs,List.map_map,bA,e1,cH,Function.comp,e2]
    have hin:∀l∈W,∃q,pY S.hp l=some q:=λl hl=>by
     obtain⟨j,hj,rfl⟩:=cO hl;have hj':j<s.objs.length:=by omega
     obtain⟨ys,k1,_⟩:=MC _ _ c6 j _ _ (aB hj) (aB hj');exact⟨_,k1⟩
    have hnd:xs.Nodup:=by
     refine Pw λi j hij hj e=> ?_;have hi:i<xs.length:=by omega
     have ei:=aB hi;have ej:=aB hj;have hi':i<W.length:=by omega
     have hj':j<W.length:=by omega
     have e1:=hxs i _ _ (aB hi') ei;have e2:=hxs j _ _ (aB hj') ej;obtain⟨q,hq⟩:=hin _ (cK hi');obtain⟨q',hq'⟩:=hin _ (cK hj');rw[ei,ej]at e;have e:=bX e;rw[e]at e1;have:=hh.inj _ _ _ _ _ hq hq' e1 e2;exact OK s2 i j hij hj' (by rw[aB hi',aB hj',this])
    have tk:∀{a:A} {t:T},Gm (U.take 1) (O.take S.nl) a t->Gm U O a t:=λh=>h.ext (λj v e=>by
     rw[bD]at e;split at e
     .exact e
     .cases e) (λj v e=>by
     rw[bD]at e;split at e
     .exact e
     .cases e)
    have back:∀{a_s ps:List A} {us:fU},BD (KV S.cs 1 S.nl sJ) a_s (ps.map (AG W sJ))=true->DV (EJ s.objs.length sJ) ps=true->qO U O a_s us->qO [0] (xs.map some) ps us:=λ{a_s ps us} hle hok hg=>by
     have h1:=BW (λa t x=>zF hs.cs hs.zero 1 S.nl sJ a t x) hle hg;exact Hg (λa ha t hg=>aLi hren sJ a (rF hok a ha) t (tk hg)) h1
    obtain⟨r,H',q1,q2,q3,q4,q5,q6⟩:=ht H ts xs hh.fin hxl hnd (back c5 c2 hg) (λj q hq=>by
     have hj:j<s.objs.length:=(aO.1 hq).1;obtain⟨l,x,e1,e2⟩:=hobj j hj;obtain⟨ys,k1,k2⟩:=MC _ _ c6 j l q e1 hq;have ex:xs[j]? =some x:=by simp only[xs,bA,e1,cH,e2]
     obtain⟨b,b1,b2,b3⟩:=hh.at k1 e2
     exact⟨x,b,ex,b1,b2,back k2 (c3 q (bB hq)).1 b3⟩)
    refine⟨r,H',q1,?_⟩;have fwd:∀{a:A} {t:T},EJ s.objs.length sJ a=true->Gm [0] (xs.map some) a t->Gm U O (AG W sJ a) t:=λha hg=>aLj hren sJ _ ha _ hg;have hcells:∃us:List T,qO U O (s.objs.flatMap λq=>q.2.2.map (AG W sJ)) us/\∀(j:Nat) (q:TypeId×List A×List A) (x:Nat),s.objs[j]? =some q->xs[j]? =some x->∃o,H'.get x=some o/\(o.elem=q.1/\o.sz=0)/\q.2.2.length=o.cells.length/\o.cells=(us.drop ((s.objs.take j).flatMap (·.2.2)).length).take q.2.2.length:=
 by
          obtain⟨us,v1,v2⟩:=PU s.objs xs hxl q5;refine⟨us,?_,v2⟩
          have:=Zr (f:=AG W sJ) (λa ha t hg=>by
            obtain⟨q,hq,ha⟩:=List.mem_flatMap.1 ha
            exact fwd (rF (c3 q hq).2 a ha) hg) v1
          rwa [List.map_flatMap]at this
    obtain⟨us,u1,u2⟩:=hcells
    have hv:=tT (O:=O) hs (a:= .tup (AG W sJ s.res::s.objs.flatMap λq=>q.2.2.map (AG W sJ))) (t:= .tup (r::us)) (by
     have:=qO.cons (fwd c4 q2) u1
     exact .tup _ _ this.1 this.2)
    unfold Ws at hr;split at hr
    .rename_i a ys n cs hm;cases hr;rw[hm]at hv;obtain⟨ρ1,e1,s4,g1⟩:=hv;cases g1 with
     |tup _ _ g1 g2=>
     have hl:qO ρ1 O (a::ys) (r::us):=⟨g1,g2⟩;obtain⟨z1,z2⟩:=ZZ W s.objs S.hp ys s2 hin s1;refine⟨_,aQ _,ρ1,O,e1,.refl _,s4,?_,hl.head⟩;refine(hh.ext e1).chg (Hm:=λ_ =>none) q4 q3 hxs (by omega) q6 z1 (λj l x h1 h2=>⟨hin l (bB h1),?_⟩);have hj:j<s.objs.length:=by rw[<-s1];exact(aO.1 h1).1
     have hq:=aB hj;obtain⟨o,o1,o2,o3,o4⟩:=u2 j _ x hq h2;refine⟨_,_,o,z2 j l _ h1 hq,o1,o2,?_⟩;rw[o4];exact((hl.tail.drop _).take _)
    .cases hr
   .cases h
  .cases h
 .cases h
theorem Lg{ee:gP}:∀{tab:List CF},(∀s∈tab,GW ee s)->yI (λf args S=>aEn f args S tab) ee
 |[],_ =>λf args S rs h=>by simp[aEn]at h
 |s::r,ht=>λf args S rs h U O H ts hs hh hg=>by
  simp only[aEn]at h;split at h
  .rename_i W hσ;exact aEo (ht s aL) hσ h hs hh hg
  .exact Lg (λq hq=>ht q (aG _ hq)) f args S rs h U O H ts hs hh hg
def xaG(f:gV)(args:List A)(S:AS):Option (List AR):=
 if Nat.beq f 123 then match args with
  |[.ptr l 0]=>match pY S.hp l with
   | some (.fix e [a,v])=>if Nat.beq e 135 then(match a with
     | .nilp=>some [⟨.tup [],CD S.hp l (.fix e [.ptr l 0,v]),S.nx,S.nl,S.cs⟩]| .ptr l' 0=>if Nat.beq l' l then some [⟨.tup [],S.hp,S.nx,S.nl,S.cs⟩]else none
     | .or [.nilp,.ptr l' 0]=>if Nat.beq l' l then some [⟨.tup [],CD S.hp l (.fix e [.ptr l 0,v]),S.nx,S.nl,S.cs⟩]else none
     |_ =>none)
    else none
   |_ =>none
  |_ =>none
 else if Nat.beq f 79 then match args with
  |[.ptr l 0]=>match pY S.hp l with
   | some (.fix e [a,v])=>if Nat.beq e 135 then(match v with
     | .nils=>some [⟨.strc [],S.hp,S.nx,S.nl,S.cs⟩]
     | .osl m sz si ci s c=>match pY S.hp m with
      | some (.row e2 sz2 (.ival .u8 lo hi) s2 c2)=>if Nat.beq e2 5&&(Nat.beq sz 1&&(Nat.beq sz2 1&&(Nat.beq si 0&&(ci==0&&(Nat.beq s s2&&(c==c2&& !(Nat.beq m l)))))))then
        some [⟨.str s c,wU S.hp m,S.nx,S.nl,S.cs⟩]
       else none
      |_ =>none
     |_ =>none)
    else none
   |_ =>none
  |_ =>none
 else none
section
variable{U ρ':gJ}{O μ':fW}{S:AS}{H H':Hp}{P:fV}
theorem Dj:∀(ts:fU),(∀t∈ts,∃n:Int,t= .int .u8 n/\0<=n/\n<256)->∃bs,LF ts=some bs/\bs.length=ts.length
 |[],_ =>⟨[],rfl,rfl⟩
 |t::ts,h=>by
  obtain⟨n,rfl,h1,h2⟩:=h t aL;obtain⟨bs,e1,e2⟩:=Dj ts (λt ht=>h t (aG _ ht));exact⟨UInt8.ofNat n.toNat::bs,by simp only[LF,e1];rw[if_pos ⟨h1,h2⟩],by simp[e2]⟩
theorem qO.two{a b:A}{ts:fU}(h:qO U O [a,b] ts):∃x y,ts=[x,y]/\Gm U O a x/\Gm U O b y:=by
 obtain⟨x,r,rfl,h1,h2⟩:=h.inv_cons;obtain⟨y,r',rfl,h3,h4⟩:=h2.inv_cons;rw[h4.inv_nil];exact⟨x,y,rfl,h1,h3⟩
theorem aZo:yI xaG (λ_ _ =>Az):=by
 intro f args S rs h U O H ts hs hh hg;unfold xaG at h;split at h
 .rename_i hf;have hf:=pX hf;subst hf;split at h
  .rename_i l;obtain⟨t,r,rfl,g1,g2⟩:=hg.inv_cons;have:=g2.inv_nil;subst this;cases g1 with
   |ptr _ _ x hx=>
   split at h
   .rename_i e a v hfa;split at h
    .rename_i he;have he:=pX he;subst he;obtain⟨o,o1,o2,o3⟩:=hh.at hfa hx;obtain⟨x1,x2,hc,c1,c2⟩:=o3.two;obtain⟨o2,hsz⟩:=o2
     .
      have put:Gm U O .nilp x1\/x1= .ptr x 0->∃H',Az 123 [.ptr x 0] H=some (.tup [],H')/\ROk U O ⟨.tup [],CD S.hp l (.fix 135 [.ptr l 0,v]),S.nx,S.nl,S.cs⟩ (.tup []) H':=by
       intro hq;rcases hq with hq|hq
       .cases hq;refine⟨H.put x {o with cells:=[.ptr x 0,x2]},?_,U,O,.refl _,.refl _,hs,?_,.tup _ _ rfl (λj a t h=>by simp at h)⟩
        .simp only[Az,if_true,NR,o1,hc];rw[if_pos ⟨o2,hsz⟩]
        .exact hh.put hfa hx o1 ⟨⟨o2,hsz⟩,qO.cons (.ptr _ _ _ hx) (qO.cons c2 .nil)⟩ (qP o1).2
       .subst hq;refine⟨H,?_,U,O,.refl _,.refl _,hs,?_,.tup _ _ rfl (λj a t h=>by simp at h)⟩
        .simp only[Az,if_true,NR,o1,hc];rw[if_pos ⟨trivial,o2,hsz⟩]
        .refine⟨hh.len,λm q hm=> ?_,λm m' q q' y hm hm' hy hy'=> ?_,hh.lt,λm e xs hm=> ?_,hh.fin⟩
         .rw[uB]at hm;split at hm
          .rename_i e0;subst e0;rw[hfa]at hm;cases hm;refine⟨some x,hx,λy hy=> ?_⟩;cases hy;exact⟨o,o1,⟨o2,hsz⟩,by rw[hc];exact qO.cons (.ptr _ _ _ hx) (qO.cons c2 .nil)⟩
          .exact hh.obj m q hm
         .have old:∀{m:Nat} {q:AO},pY (CD S.hp l (.fix 135 [.ptr l 0,v])) m=some q->∃q,pY S.hp m=some q:=λ{m q} h=>by
           rw[uB]at h;split at h
           .rename_i e;subst e;exact⟨_,hfa⟩
           .exact⟨q,h⟩
          obtain⟨p,HF⟩:=old hm;obtain⟨p',hp2⟩:=old hm';exact hh.inj m m' p p' y HF hp2 hy hy'
         .rw[uB]at hm;split at hm
          .rename_i e0;subst e0;exact⟨x,hx⟩
          .exact hh.fixp m e xs hm
      split at h
      .cases h;obtain⟨H',q1,q2⟩:=put (.inl c1);exact⟨_,H',.of λ_ _ =>q1,_,aQ _,q2⟩
      .split at h
       .rename_i l' hl';have hl':=pX hl';subst hl';cases h;cases c1 with
        |ptr _ _ y hy=>
        rw[hx]at hy;cases hy;refine⟨.tup [],H,.of λ_ _ => ?_,_,aQ _,U,O,.refl _,.refl _,hs,hh,.tup _ _ rfl (λj a t h=>by simp at h)⟩;simp only[Az,if_true,NR,o1,hc];rw[if_pos ⟨trivial,o2,hsz⟩]
       .cases h
      .split at h
       .rename_i l' hl';have hl':=pX hl';subst hl';cases h;have hq:Gm U O .nilp x1\/x1= .ptr x 0:=by
         cases c1 with
         |or _ b _ hm hb=>
         simp only[aR,bR,or_false]at hm;rcases hm with rfl|rfl
         .exact .inl hb
         .cases hb with
          |ptr _ _ y hy=>rw[hx]at hy;cases hy;exact .inr rfl
        obtain⟨H',q1,q2⟩:=put hq;exact⟨_,H',.of λ_ _ =>q1,_,aQ _,q2⟩
       .cases h
      .cases h
    .cases h
   .cases h
  .cases h
 .rename_i hf1;split at h
  .rename_i hf;have hf:=pX hf;subst hf;split at h
   .rename_i l;obtain⟨t,r,rfl,g1,g2⟩:=hg.inv_cons;have:=g2.inv_nil;subst this;cases g1 with
    |ptr _ _ x hx=>
    split at h
    .rename_i e a v hfa;split at h
     .rename_i he;have he:=pX he;subst he;obtain⟨o,o1,o2,o3⟩:=hh.at hfa hx;obtain⟨x1,x2,hc,c1,c2⟩:=o3.two;obtain⟨o2,hsz⟩:=o2;have base:Az 79 [.ptr x 0] H=Cb 135 5 [.ptr x 0] H:=by simp[Az]
      split at h
      .cases h;cases c2;refine⟨.str [],H,.of λ_ _ => ?_,_,aQ _,U,O,.refl _,.refl _,hs,hh,.strc _⟩;refine base.trans ?_;simp only[Cb,o1,hc];rw[if_pos ⟨o2,hsz⟩]
      .rename_i m sz si ci s c;split at h
       .rename_i e2 sz2 lo hi s2 c2' hfm;split at h
        .rename_i hk;simp only[aA,beq_iff_eq,bW]at hk;obtain⟨k1,k2,k3,k4,k5,k6,k7,k8⟩:=hk;have k1:=pX k1;have k2:=pX k2;have k3:=pX k3;have k4:=pX k4;have k6:=pX k6;subst k1 k2 k3 k4 k5 k6 k7;cases h;cases c2 with
         |osl0 _ _ _ _ _ _ vi w w1 w2 w3 w4 w5=>
          refine⟨.str [],H,.of λ_ _ => ?_,_,aQ _,U,O,.refl _,.refl _,hs,hh.sub (λl o h=>NU h),.str _ _ w _ w4 (by simpa using w5.symm)⟩;refine base.trans ?_;simp only[Cb,o1,hc];rw[if_pos ⟨o2,hsz⟩]
         |osl _ _ _ _ _ _ y vi w w1 w2 w3 w4 w5=>
          rw[hs.zero]at w2;cases w2;obtain⟨o',p1,p2,p3,us,w',r1,r2,r3,r4⟩:=hh.at hfm w1;rw[w4]at r1;cases r1;have hcl:∀u∈us,∃n:Int,u= .int .u8 n/\0<=n/\n<256:=λu hu=>by
           have:=(r4 u hu).1;cases this with
           |ival _ _ _ n n1 n2 n3=>
           have n3:(0:Int)<=n/\n<=255:=n3;exact⟨n,rfl,n3.1,by omega⟩
          have hflat:us.flatMap T.cells=us:=by
           clear r4 r3 r2
           induction us with
           |nil=>rfl
           |cons u us ih=>
            obtain⟨n,rfl,_⟩:=hcl u aL;rw[bG,ih (λu hu=>hcl u (aG _ hu))];rfl
          rw[hflat]at r3;obtain⟨bs,b1,b2⟩:=Dj us hcl;have hlen:(w+c).toNat=us.length:=by omega
          have hxy:y≠x:=λe0=>by
           subst e0;have:=hh.inj _ _ _ _ _ hfm hfa w1 hx;subst this;simp at k8
          have hz:us.length≠0:=λe0=>by
           have:=p3.2 rfl;rw[r3]at this;exact this (dR.1 e0)
          refine⟨.str bs,H.drop y,.of λ_ _ => ?_,_,aQ _,U,O,.refl _,.refl _,hs,hh.dropR hfm w1,.str _ _ w _ w4 (by rw[b2];omega)⟩;refine base.trans ?_;simp only[Cb,o1,hc];rw[if_pos ⟨o2,hsz⟩];have e0:(w+c).toNat=o'.cells.length:=by rw[r3];exact hlen
          have e1:(0+0:Int).toNat=0:=rfl;simp only[p1,e1];rw[if_pos ⟨p2,p3.1,e0.symm,by rw[e0,r3];exact hz⟩,r3,b1]
        .cases h
       .cases h
      .cases h
     .cases h
    .cases h
   .cases h
  .cases h
end
noncomputable def UE(P:fV)(Y:AX)(tab:List CF):Nat->bJv
 |0=>⟨λf args S=>aEn f args S tab,λ_ _ _ =>none⟩|d+1=>⟨λf args S=>if(tab.any λs=>Nat.beq s.f f)then aEn f args S tab else if sQ f [123,79]then(if Y.top f then none else xaG f args S)else aIz P Y (UE P Y tab d).fn (UE P Y tab d).yd f args S,aYj P Y (UE P Y tab d).fn (UE P Y tab d).yd⟩
variable{X:AX}{gl:fY}{pe:gN}
theorem Ks(hc:Cn X gl pe){tab:List CF}(ht:∀s∈tab,GW (λn d=>(vH P ⟨gl,pe⟩ X.own X.top n d).ee) s):
  ∀(d:Nat),yI (UE P X tab d).fn (λn d=>(vH P ⟨gl,pe⟩ X.own X.top n d).ee)/\Mh (UE P X tab d).yd (λn d=>(vH P ⟨gl,pe⟩ X.own X.top n d).yd)
 |0=>⟨Lg ht,λl args S rs h=>by simp[UE]at h⟩
 |d+1=>by
  obtain⟨ih1,ih2⟩:=Ks hc ht d;have hK:∀n d,Tg (vH P ⟨gl,pe⟩ X.own X.top n d).ee:=λn d=>(yO d).1;have hKy:∀n d,Xq (vH P ⟨gl,pe⟩ X.own X.top n d).yd:=λn d=>(yO d).2;refine⟨λf args S rs h U O H ts hs hh ha=> ?_,λl args S rs h U O H ts x hs hh ha hx=> ?_⟩
  .simp only[UE]at h;split at h
   .exact Lg ht f args S rs h U O H ts hs hh ha
   split at h
   .split at h
    .cases h
    .rename_i htop;obtain⟨r,H',⟨m,e1⟩,fin⟩:=aZo f args S rs h U O H ts hs hh ha;refine⟨r,H',⟨m+1,λn d' hn hd=> ?_⟩,fin⟩;obtain⟨d',rfl⟩:∃d0,d'=d0+1:=⟨d'-1,by omega⟩;simp only[vH];rw[if_neg htop];exact e1 n d' (by omega) (by omega)
   .obtain⟨h1,r,H',⟨m,e1⟩,fin⟩:=Iz hc ih1 ih2 hK hKy h hs hh ha;refine⟨r,H',⟨m+1,λn d' hn hd=> ?_⟩,fin⟩;obtain⟨d',rfl⟩:∃d0,d'=d0+1:=⟨d'-1,by omega⟩;simp only[vH];rw[if_pos h1];exact e1 n d' (by omega) (by omega)
  .obtain⟨b,H',⟨m,e1⟩,fin⟩:=aRy hc ih1 ih2 hK hKy _ _ _ _ h U O H ts x hs hh ha hx;refine⟨b,H',⟨m+1,λn d' hn hd=> ?_⟩,fin⟩;obtain⟨d',rfl⟩:∃d0,d'=d0+1:=⟨d'-1,by omega⟩;simp only[vH];exact e1 n d' (by omega) (by omega)
theorem Ht.over_none:∀(p:gH) (t R:Ht),Ht.gtp p t=none->Ht.over t (Ht.stp none p R)=Ht.stp none p (Ht.over t R)
 |p,.nl,R,_ =>rfl
 |[],.nd v l r,R,h=>by
  have:v=none:=h;subst this;rfl
 |false::p,.nd v l r,R,h=>by
  show Ht.over (.nd v l r) (.nd R.val (Ht.stp none p R.lf) R.rt)= .nd (Ht.over (.nd v l r) R).val (Ht.stp none p (Ht.over (.nd v l r) R).lf) (Ht.over (.nd v l r) R).rt;rw[Ht.over_nd,Ht.over_val,Ht.over_lf,Ht.over_rt];show Ht.nd _ (Ht.over l (Ht.stp none p R.lf)) _ =_;rw[Ht.over_none p l R.lf h];rfl
 |true::p,.nd v l r,R,h=>by
  show Ht.over (.nd v l r) (.nd R.val R.lf (Ht.stp none p R.rt))= .nd (Ht.over (.nd v l r) R).val (Ht.over (.nd v l r) R).lf (Ht.stp none p (Ht.over (.nd v l r) R).rt);rw[Ht.over_nd,Ht.over_val,Ht.over_lf,Ht.over_rt];show Ht.nd _ _ (Ht.over r (Ht.stp none p R.rt))=_;rw[Ht.over_none p r R.rt h];rfl
theorem uG.many{H:Hp}(hfin:Fin H):∀(xs:gI),xs.Nodup->(∀x∈xs,∃o,H.any x=some o)->
  ∃R A,uG R A H/\A.next=H.next/\(∀y,A.any y=if y∈xs then H.any y else none)/\∀y,R.get y=if y∈xs then none else H.any y
 |[],_,_ =>⟨H.objs,⟨H.next,.nl⟩,⟨rfl,λl o h=>⟨uI _ _,hfin l o h⟩⟩,rfl,λy=>uI _ _,λy=>rfl⟩
 |x::xs,hnd,hx=>by
  obtain⟨n1,n2⟩:=eK.1 hnd;obtain⟨R,A,c,a1,a2,a3⟩:=uG.many hfin xs n2 (λy hy=>hx y (aG _ hy));obtain⟨o,ho⟩:=hx x aL;have hA:A.any x=none:=by rw[a2,if_neg n1]
  have e1:∀y,(Ht.put (some o) A.objs x).get y=if y=x then some o else A.any y:=λy=>Ht.get_put (some o) A.objs x y
  refine⟨Ht.put none R x,⟨A.next,Ht.put (some o) A.objs x⟩,⟨?_,λl q hq=> ?_⟩,a1,λy=> ?_,λy=> ?_⟩
  .show H=⟨A.next,Ht.over (Ht.put (some o) A.objs x) (Ht.put none R x)⟩;rw[Ht.over_put _ _ _ _ (λh=>by cases h)];unfold Ht.put;rw[Ht.over_none _ _ _ hA,Ht.stp_stp];have hg:Ht.gtp (toP x) (Ht.over A.objs R)=some o:=by
    have:=ho;rw[c.eq]at this;exact this
   rw[Ht.stp_same _ _ hg];exact c.eq
  .rw[Ht.get_put]at hq;split at hq
   .cases hq
   .rename_i hne;obtain⟨q1,q2⟩:=c.dis l q hq;refine⟨?_,q2⟩;show(Ht.put (some o) A.objs x).get l=none;rw[e1,if_neg hne];exact q1
  .show(Ht.put (some o) A.objs x).get y=_;rw[e1];by_cases h:y=x
   .subst h;rw[if_pos rfl,if_pos aL,ho]
   .rw[if_neg h,a2];by_cases h2:y∈xs
    .rw[if_pos h2,if_pos (aG _ h2)]
    .rw[if_neg h2,if_neg (λq=>by rcases aR.1 q with q|q;exact h q;exact h2 q)]
  .rw[Ht.get_put];by_cases h:y=x
   .subst h;rw[if_pos rfl,if_pos aL]
   .rw[if_neg h,a3];by_cases h2:y∈xs
    .rw[if_pos h2,if_pos (aG _ h2)]
    .rw[if_neg h2,if_neg (λq=>by rcases aR.1 q with q|q;exact h q;exact h2 q)]
def YL:List (TypeId×List A×List A)->Nat->List A->List (Nat×AO)
 |[],_,_ =>[]|(e,c0,_)::r,j,a=>(j,.fix e (a.take c0.length))::YL r (j+1) (a.drop c0.length)
theorem YM:∀(objs:List (TypeId×List A×List A)) (i:Nat) (a:List A) (l:Nat) (o:AO),pY (YL objs i a) l=some o->
  ∃j q,l=i+j/\objs[j]? =some q/\o= .fix q.1 ((a.drop ((objs.take j).flatMap (·.2.1)).length).take q.2.1.length)
 |[],i,a,l,o,h=>by simp[YL,pY]at h
 |(e,c0,c1)::r,i,a,l,o,h=>by
  simp only[YL,pY]at h;split at h
  .rename_i e0;have e0:=pX e0;cases h;exact⟨0,_,by omega,rfl,by simp⟩
  .obtain⟨j,q,h1,h2,h3⟩:=YM r (i+1) _ l o h;exact⟨j+1,q,by omega,by simpa using h2,by rw[h3];simp[List.drop_drop]⟩
def UM(k:Nat)(R:AR):List (TypeId×List A×List A)->Nat->Bool
 |[],_ =>true
 |(e,_,c1)::r,j=>(match pY R.hp j with
  |some (.fix e' ys)=>Nat.beq e' e&&BD (KV R.cs 1 k sJ) ys c1|_ =>false)&&UM k R r (j+1)
theorem WZ{k:Nat}{R:AR}:∀(objs:List (TypeId×List A×List A)) (i:Nat),UM k R objs i=true->
  ∀(j:Nat) (q:TypeId×List A×List A),objs[j]? =some q->∃ys,pY R.hp (i+j)=some (.fix q.1 ys)/\BD (KV R.cs 1 k sJ) ys q.2.2=true
 |[],i,_,j,q,h=>by simp at h
 |(e,c0,c1)::r,i,h,j,q,hq=>by
  simp only[UM,aA]at h;cases j with
  |zero=>
   simp only[cQ,aC]at hq;subst hq;have h1:=h.1;split at h1
   .rename_i e' ys hf;simp only[aA]at h1;have:=pX h1.1;subst this;exact⟨ys,hf,h1.2⟩
   .cases h1
  |succ j=>
   obtain⟨ys,h1,h2⟩:=WZ r (i+1) h.2 j q (by simpa using hq);exact⟨ys,by rw[show i+(j+1)=i+1+j by omega];exact h1,h2⟩
noncomputable def qZ(P:fV)(X:AX)(tab:List CF)(d:Nat)(s:CF):Bool:=
 match vY (.tup (s.pre++s.objs.flatMap (·.2.1))) 1 []with
 |⟨.tup a,n,cs⟩=>match aIz P X (UE P X tab d).fn (UE P X tab d).yd s.f (a.take s.pre.length) ⟨[],YL s.objs 0 (a.drop s.pre.length),n,s.objs.length,cs⟩with
  |some rs=>rs.all λR=>KV R.cs 1 s.objs.length sJ R.a s.res&&UM s.objs.length R s.objs 0|none=>false
 |_ =>false
theorem aYw(hc:Cn X gl pe)(hpm:∀R A B f ts r,uG R A B->pe A f ts=some r->pe B f ts=some r)(hpn:∀f,X.top f=true->∀B ts,pe B f ts=none)(hpx:∀f ts A v,Az f ts A=some v->∀B ts,pe B f ts=none){tab:List CF}
  (ht:∀s∈tab,GW (λn d=>(vH P ⟨gl,pe⟩ X.own X.top n d).ee) s) {d:Nat} {s:CF} (h:qZ P X tab d s=true):GW (λn d=>(vH P ⟨gl,pe⟩ X.own X.top n d).ee) s:=by
 intro H ts xs hfin hxl hnd hpre hobj;have hx:∀(j:Nat),j<s.objs.length->∃x o,xs[j]? =some x/\H.get x=some o:=λj hj=>by
  obtain⟨x,o,h1,h2,_⟩:=hobj j _ (aB hj);exact⟨x,o,h1,h2⟩
 have hxa:∀x∈xs,∃o,H.get x=some o:=λx hx'=>by
  obtain⟨j,hj,rfl⟩:=cO hx';obtain⟨x,o,h1,h2⟩:=hx j (by omega);rw[aB hj]at h1;cases h1;exact⟨o,h2⟩
 obtain⟨R,A,cm,hAn,hAany,hRget⟩:=uG.many hfin xs hnd (λx hx=>by obtain⟨o,ho⟩:=hxa x hx;exact⟨o,(qP ho).1⟩);have hAget:∀x∈xs,A.get x=H.get x:=λx hx=>QZ (by rw[hAany,if_pos hx]);unfold qZ at h;have h0:Sy [0] 1 []:=⟨rfl,rfl,λq hq=>by simp at hq⟩;obtain⟨us,u1,u2⟩:=PU (w:=(·.2.1)) s.objs xs hxl hobj;have hall:qO [0] (xs.map some) (s.pre++s.objs.flatMap (·.2.1)) (ts++us):=hpre.app u1;have hv:=tT h0 (a:= .tup (s.pre++s.objs.flatMap (·.2.1))) (t:= .tup (ts++us)) (.tup _ _ hall.1 hall.2);split at h
 .rename_i a n cs hm;rw[hm]at hv;obtain⟨ρ1,e1,s1,g1⟩:=hv;cases g1 with
  |tup _ _ g1 g2=>
  have ga:qO ρ1 (xs.map some) a (ts++us):=⟨g1,g2⟩;rw[show s.pre.length=ts.length from hpre.1]at h;have gt:qO ρ1 (xs.map some) (a.take ts.length) ts:=by
   have:=ga.take ts.length
   rwa [List.take_left' rfl]at this
  have gd:qO ρ1 (xs.map some) (a.drop ts.length) us:=by
   have:=ga.drop ts.length
   rwa [List.drop_left' rfl]at this
  split at h
  .rename_i rs hrs;have hh:GH (YL s.objs 0 (a.drop ts.length)) s.objs.length ρ1 (xs.map some) A:=by
    have fnd:∀{l:Nat} {o:AO},pY (YL s.objs 0 (a.drop ts.length)) l=some o->∃q,s.objs[l]? =some q/\o= .fix q.1 (((a.drop ts.length).drop ((s.objs.take l).flatMap (·.2.1)).length).take q.2.1.length):=λ{l o} h=>by
     obtain⟨j,q,h1,h2,h3⟩:=YM _ _ _ _ _ h;rw[bP]at h1;subst h1;exact⟨q,h2,h3⟩
    refine⟨by simp[hxl],λl o hl=> ?_,λl l' q q' y hl hl' hy hy'=> ?_,λl y hl=> ?_,λl e ys hl=> ?_,λm q hq=> ?_⟩
    .obtain⟨q,h1,rfl⟩:=fnd hl;obtain⟨x,o,h2,h3,h4,h5⟩:=hobj l q h1;refine⟨some x,by rw[bA,h2];rfl,λy hy=> ?_⟩;cases hy;obtain⟨o',k1,k2,k3,k4⟩:=u2 l q x h1 h2;rw[h3]at k1;cases k1;refine⟨o,?_,h4,?_⟩
     .show A.get x=some o;rw[hAget x (bB h2)];exact h3
     .rw[k4];exact(gd.drop _).take _
    .rw[bA]at hy hy';obtain⟨x,h1,h2⟩:=aD.1 hy;obtain⟨x',h3,h4⟩:=aD.1 hy';cases h2;cases h4;have hl1:=(aO.1 h1).1;have hl2:=(aO.1 h3).1;rcases Nat.lt_trichotomy l l' with e|e|e
     .exact absurd (h1.trans h3.symm) (OK hnd l l' e hl2)
     .exact e
     .exact absurd (h3.trans h1.symm) (OK hnd l' l e hl1)
    .rw[bA]at hl;obtain⟨x,h1,h2⟩:=aD.1 hl;cases h2;obtain⟨o,ho⟩:=hxa y (bB h1);rw[hAn];exact hfin y o (qP ho).1
    .obtain⟨q,h1,_⟩:=fnd hl;obtain⟨x,o,h2,_⟩:=hobj l q h1;exact⟨x,by rw[bA,h2];rfl⟩
    .rw[hAany]at hq;split at hq
     .rw[hAn];exact hfin m q hq
     .cases hq
   obtain⟨ih1,ih2⟩:=Ks (P:=P) hc ht d;have hK:∀n d,Tg (vH P ⟨gl,pe⟩ X.own X.top n d).ee:=λn d=>(yO d).1;have hKy:∀n d,Xq (vH P ⟨gl,pe⟩ X.own X.top n d).yd:=λn d=>(yO d).2;obtain⟨htop,r,A',⟨m,ev⟩,RR,m1,ρ2,μ2,x1,x2,x3,x4,x5⟩:=Iz hc ih1 ih2 hK hKy hrs s1 hh gt;have ev2:∀n d',m+1<=n->m+1<=d'->(vH P ⟨gl,pe⟩ X.own X.top n d').ee s.f ts A=some (r,A'):=λn d' hn hd'=>by
    obtain⟨d',rfl⟩:∃d0,d'=d0+1:=⟨d'-1,by omega⟩;simp only[vH];rw[if_pos htop];exact ev n d' (by omega) (by omega)
   have mono:=λ(R:Ht) (n d':Nat)=>Fq (R:=R) (P:=P) (E:=⟨gl,pe⟩) (n:=n) (own:=X.own) (ok:=X.top) (hpm R) hpn hpx d';have e0:=ev2 (m+1) (m+1) (aZ _) (aZ _);obtain⟨B0,b1,b2⟩:=(mono R (m+1) (m+1)).1 _ _ _ _ _ _ cm e0;have keep:=(yO (P:=P) (E:=⟨gl,pe⟩) (n:=m+1) (own:=X.own) (ok:=X.top) (m+1)).1 _ _ _ _ _ e0;have hl:=aH.1 h RR m1;simp only[aA]at hl;obtain⟨l1,l2⟩:=hl;have r1:ρ2.take 1=[0]:=by
    have:=x3.zero;cases ρ2 with
    |nil=>simp at this|cons v r=>simp at this;subst this;rfl
   have r2:μ2.take s.objs.length=xs.map some:=uQ x2 (by simp[hxl]);have hres:=zF x3.cs x3.zero 1 s.objs.length sJ _ _ _ l1 x5;rw[r1,r2]at hres;refine⟨r,B0,⟨m+1,λn d' hn hd'=> ?_⟩,hres,λy q hq=> ?_,?_,λj q hq=> ?_,λy hy hlt=> ?_⟩
   .obtain⟨B,k1,k2⟩:=(mono R n d').1 _ _ _ _ _ _ cm (ev2 n d' hn hd');rw[b2.eq,<-k2.eq];exact k1
   .rw[b2.any]at hq;rw[b2.nx];cases hz:A'.any y with
    |some z=>exact x4.fin y z hz|none=>rw[hz]at hq;exact(b2.dis y q hq).2
   .rw[b2.nx,<-hAn];exact keep.nx
   .obtain⟨x,o,h1,h2,_⟩:=hobj j q hq;obtain⟨ys,f1,f2⟩:=WZ _ _ l2 j q hq;rw[bP]at f1;obtain⟨o',o1,o2,o3⟩:=x4.at f1 (x2 j _ (by rw[bA,h1];rfl));refine⟨x,o',h1,b2.get o1,o2,?_⟩;have:=BW (λa t x=>zF x3.cs x3.zero 1 s.objs.length sJ a t x) f2 o3
    rwa [r1,r2]at this
   .have hRy:R.get y=H.any y:=by rw[hRget,if_neg hy]
    rw[b2.any,hRy];cases hz:H.any y with
    |some q=>rw[(b2.dis y q (by rw[hRy,hz])).1];rfl
    |none=>
     have cy:uG (Ht.put (some ⟨0,0,[],none⟩) .nl y) A ⟨A.next,Ht.over A.objs (Ht.put (some ⟨0,0,[],none⟩) .nl y)⟩:=⟨rfl,λl q hq=>by
      rw[Ht.get_put]at hq;split at hq
      .rename_i e;subst e;exact⟨by rw[hAany,if_neg hy],by rw[hAn];exact hlt⟩
      .rw[Ht.get_nl]at hq;cases hq⟩
     obtain⟨By,_,k2⟩:=(mono _ (m+1) (m+1)).1 _ _ _ _ _ _ cy e0;rw[(k2.dis y _ (by rw[Ht.get_put,if_pos rfl])).1];rfl
  .cases h
 .cases h
noncomputable def yT(P:fV)(X:AX)(tab:List CF)(d:Nat)(c:rE):Bool:=
 match vY (.tup c.pre) 1 []with
 |⟨.tup a,n,cs⟩=>match aIz P X (UE P X tab d).fn (UE P X tab d).yd c.f a ⟨[],[],n,0,cs⟩with
  |some rs=>rs.all λR=>match frA R.hp sJ R.a with
   |some b=>KV R.cs 0 0 sJ b c.res|none=>false
  |none=>false
 |_ =>false
theorem yU{pe:gG}{k:Nat}(hc:Cn X gl (uH k pe))(hk:sJ<=k){tab:List CF}(hs:∀s∈tab,GW (λn d=>(vH P ⟨gl,uH k pe⟩ X.own X.top n d).ee) s){d:Nat}{c:rE}(h:yT P X tab d c=true){ts:fU}(ht:qO [] [] c.pre ts):
  ∃r,Ans P gl pe X.own X.top k c.f ts r/\Gm [] [] c.res r:=by
 unfold yT at h;have h0:Sy [0] 1 []:=⟨rfl,rfl,λq hq=>by simp at hq⟩;have hv:=tT (O:=[]) h0 (a:= .tup c.pre) (t:= .tup ts) (.tup _ _ (ht.ext (ρ':=[0]) (λj v h=>by simp at h) (.refl _)).1 (ht.ext (ρ':=[0]) (λj v h=>by simp at h) (.refl _)).2);split at h
 .rename_i a n cs hm;rw[hm]at hv;obtain⟨ρ1,e1,s1,g1⟩:=hv;cases g1 with
  |tup _ _ g1 g2=>
  split at h
  .rename_i rs hrs;have hh:GH [] 0 ρ1 [] ⟨0,.nl⟩:=⟨rfl,λl o h=>by simp[pY]at h,λl l' o o' x h=>by simp[pY]at h,λl x h=>by simp at h,λl e xs h=>by simp[pY]at h,λm o h=>by rw[uI]at h;cases h⟩;obtain⟨ih1,ih2⟩:=Ks (P:=P) hc hs d;have hK:∀n d,Tg (vH P ⟨gl,uH k pe⟩ X.own X.top n d).ee:=λn d=>(yO d).1;have hKy:∀n d,Xq (vH P ⟨gl,uH k pe⟩ X.own X.top n d).yd:=λn d=>(yO d).2;obtain⟨htop,r,H',⟨m,e2⟩,R,m1,ρ2,μ2,x1,x2,x3,x4,x5⟩:=Iz hc ih1 ih2 hK hKy hrs (U:=ρ1) (O:=[]) (H:=⟨0,.nl⟩) (ts:=ts) s1 hh ⟨g1,g2⟩;have hl:=aH.1 h R m1;split at hl
   .rename_i b hb;obtain⟨r',f1,f2⟩:=Uy x3.zero x4 sJ R.a b r hb x5 k hk;have hg:=zF x3.cs x3.zero 0 0 sJ _ _ _ hl f2;rw[TZ,TZ]at hg;refine⟨r',⟨m+1,λn' d' hn hd=> ?_⟩,hg⟩;unfold pureE;have e3:(vH P ⟨gl,uH k pe⟩ X.own X.top n' d').ee c.f ts ⟨0,.nl⟩=some (r,H'):=by
     obtain⟨d',rfl⟩:∃d0,d'=d0+1:=⟨d'-1,by omega⟩;simp only[vH];rw[if_pos htop];exact e2 n' d' (by omega) (by omega)
    rw[e3];exact f1
   .cases hl
  .cases h
 .cases h
def vJ(P:fV)(gl:fY)(pe:gG)(X:AX)(k:Nat)(c:rE):Prop:=DV (qY sJ) c.pre=true/\∀ts,qO [] [] c.pre ts->∃r,Ans P gl pe X.own X.top k c.f ts r/\Gm [] [] c.res r
theorem aDp{pe:gG}{k:Nat}(hk:sJ<=k){pa:FuncId->List A->Nat->List qV->Option AV}(hpa:PeA (uH k pe) pa){l:List rE}(hl:∀c∈l,vJ P gl pe X k c):
  PeA (uH k (FW P gl pe X.own X.top k λf=>l.any λc=>Nat.beq c.f f)) (qX l pa):=by
 intro f a n cs v h U O H ts hs hg;unfold qX at h;split at h
 .rename_i hany;split at h
  .rename_i c hf;have hmem:=List.mem_of_find?_eq_some hf;have hcf:=List.find?_some (p:=λc:rE=>Nat.beq c.f f&&BD (KV cs 0 0 sJ) a c.pre) hf;simp only[aA]at hcf;obtain⟨hcf,hle⟩:=hcf;have hcf:=pX hcf;subst hcf;obtain⟨h2,h3⟩:=hl c hmem;cases h;have hgp:qO [] [] c.pre ts:=by
    have:=BW (λa t x=>zF hs.cs hs.zero 0 0 sJ a t x) hle hg
    rwa [TZ,TZ]at this
   obtain⟨r,r1,r2⟩:=h3 ts hgp;have hfz:mapO (qJ k ⟨0,.nl⟩) ts=some ts:=xL _ λx hx=>by
    obtain⟨a,ha,hga⟩:=xI hgp.1 hgp.2 hx;exact EE sJ a x (rF h2 a ha) hga k hk
   refine⟨r,?_,tT hs (r2.ext (λj v h=>by simp at h) (λj v h=>by simp at h))⟩;unfold uH;rw[hfz];exact XF hany r1
  .cases h
 .rename_i hno;obtain⟨r,r1,r2⟩:=hpa f a n cs v h U O H ts hs hg;refine⟨r,?_,r2⟩;have hfn:∀ts,FW P gl pe X.own X.top k (λf=>l.any λc=>Nat.beq c.f f) f ts=pe f ts:=λts=>by
   unfold FW;rw[if_neg hno]
  unfold uH at r1⊢;simp only[hfn];exact r1
variable{k:Nat}{ga:Nat->Option A}{pa:FuncId->List A->Nat->List qV->Option AV}{pc:gG}{dom:iA}
theorem Lay.stepZ(h:Lay P gl k ga pa pc dom)(hm:P.follows .mixedOrders=true)(hz:wR gl)(hk:sJ<=k){X:AX}{tl:gI}(ht:X.top=λf=>sQ f tl)(htl:tl.all (λf=>vL P f&&zD P f)=true){l:List rE}(hl:∀c∈l,vJ P gl pc X k c):
  Lay P gl k ga (qX l pa) (FW P gl pc X.own X.top k λf=>l.any λc=>Nat.beq c.f f) (λf=>(l.any λc=>Nat.beq c.f f)||dom f):=by
 refine⟨h.gA,aDp hk h.pA hl,aPh hm hz h.hx h.pc (λf hf=>bIb htl f (by rw[ht]at hf;exact hf)),λf ts hd=> ?_,h.hx⟩;simp only[eM]at hd;unfold FW;rw[if_neg (λq=>by have q':(l.any λc=>Nat.beq c.f f)=true:=q;rw[hd.1]at q';cases q')];exact h.dm f ts hd.2
theorem Lay.smy(h:Lay P gl k ga pa pc dom){X:AX}(h1:X.gl=ga)(h2:X.pe=pa){il tl:gI}(h3:X.inl=λf=>sQ f il)(h4:il.all (λf=> !dom f)=true)(h5:X.top=λf=>sQ f tl)(h6:tl.all (λf=> !dom f)=true)
  {tab:List CF} (ht:∀s∈tab,GW (λn d=>(vH P ⟨gl,uH k pc⟩ X.own X.top n d).ee) s) {d:Nat} {s:CF} (hr:qZ P X tab d s=true) (h7:dom 123=false) (h8:dom 79=false) (hk:sJ<=k:=by first|assumption|decide):GW (λn d=>(vH P ⟨gl,uH k pc⟩ X.own X.top n d).ee) s:=by
 refine aYw (h.cn h1 h2 h3 h4) (λR A B f ts r c e=>aDc c e) (λf hf B ts=> ?_) (λf ts A v hv B ts'=> ?_) ht hr
 rotate_left 1
 .have hd:dom f=false:=by
   unfold Az at hv;by_cases h1:f=123
   .subst h1;exact h7
   .rw[if_neg h1]at hv;by_cases h2:f=79
    .subst h2;exact h8
    .rw[if_neg h2]at hv;cases hv
  have hn:∀ts,pc f ts=none:=λts=>h.dm f ts hd;unfold uH;split
  .exact hn _
  .split
   .simp only[hn]
   .rfl
 rw[h5]at hf;have hd:=OI h6 f hf;have hn:∀ts,pc f ts=none:=λts=>h.dm f ts (by simpa using hd);unfold uH;split
 .exact hn _
 .split
  .simp only[hn]
  .rfl
end
theorem Gt{ee:gP}{s:CF}
  (h:∀(ts:fU) (O:fW),qO [0] O s.pre ts->∃s':CF,GW ee s'/\s'.f=s.f/\s'.objs=s.objs/\qO [0] O s'.pre ts/\∀r,Gm [0] O s'.res r->Gm [0] O s.res r):GW ee s:=by
 intro H ts xs h1 h2 h3 h4 h5;obtain⟨s',k1,k2,k3,k4,k5⟩:=h ts _ h4;obtain⟨r,H',q1,q2,q3⟩:=k1 H ts xs h1 (by rw[k3];exact h2) h3 k4 (by rw[k3];exact h5);rw[k2]at q1;rw[k3]at q3;exact⟨r,H',q1,k5 r q2,q3⟩
section
variable{P:fV}{gl:fY}{k:Nat}
theorem CG{pe:gG}{X:AX}{c:rE}(hp:DV (qY sJ) c.pre=true)
  (h:∀ts,qO [] [] c.pre ts->∃c':rE,vJ P gl pe X k c'/\c'.f=c.f/\qO [] [] c'.pre ts/\∀r,Gm [] [] c'.res r->Gm [] [] c.res r):vJ P gl pe X k c:=by
 refine⟨hp,λts ht=> ?_⟩;obtain⟨c',h1,h2,h3,h4⟩:=h ts ht;obtain⟨r,r1,r2⟩:=h1.2 ts h3;rw[h2]at r1;exact⟨r,r1,h4 r r2⟩
open Classical in
noncomputable def knQ(P:fV)(gl:fY)(f0:gV)(Q:List T->T->Prop)(pe:gG):FuncId->List T->Option T:=λf ts=>
 if Nat.beq f0 f=true then(if h:∃r,pW P gl f ts r/\Q ts r then some (Classical.choose h)else none)else pe f ts
variable{ga:Nat->Option A}{pa:FuncId->List A->Nat->List qV->Option AV}{pe:gG}{dom:iA}
theorem Lay.knownQ(h:Lay P gl k ga pa pe dom){f0:gV}{Q:List T->T->Prop}{pq:List A->Nat->List qV->Option AV}
  (hq:∀a_s n cs v,pq a_s n cs=some v->∀U O ts,Sy U n cs->qO U O a_s ts->mapO (qJ k ⟨0,.nl⟩) ts=some ts/\(∃r,pW P gl f0 ts r/\Q ts r)/\∀r,Q ts r->VOk U O v r):
  Lay P gl k ga (λf a_s n cs=>if Nat.beq f0 f then pq a_s n cs else pa f a_s n cs) (knQ P gl f0 Q pe) (λf=>Nat.beq f0 f||dom f):=by
 refine⟨h.gA,?_,?_,λf ts hd=> ?_,h.hx⟩
 .intro f a n cs v hv U O H ts hs hg;have hv2:(if Nat.beq f0 f=true then pq a n cs else pa f a n cs)=some v:=hv;by_cases hf:Nat.beq f0 f=true
  .rw[if_pos hf]at hv2;have e:=pX hf;subst e;obtain⟨h1,h2,h3⟩:=hq a n cs v hv2 U O ts hs hg;refine⟨Classical.choose h2,?_,h3 _ (dF h2).2⟩;unfold uH;rw[h1];show knQ P gl f0 Q pe f0 ts=_;unfold knQ;rw[if_pos hf,dif_pos h2]
  .rw[if_neg hf]at hv2;obtain⟨r,r1,r2⟩:=h.pA f a n cs v hv2 U O H ts hs hg;refine⟨r,?_,r2⟩;have hfn:∀ts,knQ P gl f0 Q pe f ts=pe f ts:=λts=>by unfold knQ;rw[if_neg hf]
   unfold uH at r1⊢;simp only[hfn];exact r1
 .intro f ts r hr;unfold knQ at hr;split at hr
  .split at hr
   .rename_i h';cases hr;have q:=(dF h').1;exact⟨q.1,λg vs hg hal hgl hv=>q.2 g vs hg ⟨0,λl _ =>hal l⟩ hgl hv⟩
   .cases hr
  .exact h.pc f ts r hr
 .simp only[eM]at hd;unfold knQ;rw[if_neg (λq=>by rw[hd.1]at q;cases q)];exact h.dm f ts hd.2
abbrev xD:=AX×List Nat×List rE
def GZ:List xD->List rE
 |[]=>[]|[g]=>g.2.2|g::r=>g.2.2++GZ r
noncomputable def sF(P:fV)(gs:List xD):Bool:=gs.all λg=>g.2.2.all λc=>yT P g.1 [] 8 c
noncomputable def aHn(dom:iA)(gs:List xD):Bool:=gs.all λg=>g.2.1.all (λf=> !dom f)&&g.2.2.all λc=>DV (qY sJ) c.pre
def bGo:List xD->FuncId->Nat->Bool
 |[]=>λ_ _ =>false|g::_ =>g.1.own
def bIa:List xD->FuncId->Bool
 |[]=>λ_ =>false|g::_ =>g.1.top
def MR(ga:Nat->Option A)(pa:FuncId->List A->Nat->List qV->Option AV)(X:AX):List xD->Prop
 |[]=>True|g::r=>(g.1.gl=ga/\g.1.pe=pa/\(g.1.inl=λf=>sQ f g.2.1)/\g.1.own=X.own/\g.1.top=X.top)/\MR ga pa X r
theorem r5{I β C δ ε:Type}{a:I}{b:β}{c:C}{d:δ}{e:ε}:a=a/\b=b/\c=c/\d=d/\e=e:=⟨rfl,rfl,rfl,rfl,rfl⟩
theorem aVl(h:Lay P gl k ga pa pe dom)(hk:sJ<=k){X:AX}:∀{gs:List xD},MR ga pa X gs->aHn dom gs=true->sF P gs=true->∀c∈GZ gs,vJ P gl pe X k c:=by
 have one:∀g:xD,(g.1.gl=ga/\g.1.pe=pa/\(g.1.inl=λf=>sQ f g.2.1)/\g.1.own=X.own/\g.1.top=X.top)->(g.2.1.all (λf=> !dom f)&&g.2.2.all λc=>DV (qY sJ) c.pre)=true->(g.2.2.all λc=>yT P g.1 [] 8 c)=true->∀c∈g.2.2,vJ P gl pe X k c:=by
  intro g ⟨h1,h2,h3,h4,h5⟩ hc hr c hm;simp only[aA]at hc;refine⟨aH.1 hc.2 c hm,λts ht=> ?_⟩;obtain⟨r,r1,r2⟩:=yU (h.cn (X:=g.1) h1 h2 (l:=g.2.1) h3 hc.1) hk (tab:=[]) (by simp) (aH.1 hr c hm) ht;rw[h4,h5]at r1;exact⟨r,r1,r2⟩
 intro gs
 induction gs with
 |nil=>intro _ _ _ c hm;cases hm
 |cons g r ih=>
  intro hi hc hr c hm;unfold aHn at hc;unfold sF at hr;simp only[List.all_cons,aA]at hc hr;have h1:=one g hi.1 (by simp only[aA];exact hc.1) hr.1;have h2:=ih hi.2 hc.2 hr.2;cases r with
  |nil=>exact h1 c hm
  |cons g' r'=>
   rcases bH.1 (show c∈g.2.2++GZ (g'::r')from hm)with h|h
   .exact h1 c h
   .exact h2 c h
theorem Lay.go(h:Lay P gl k ga pa pe dom)(hm:P.follows .mixedOrders=true)(hz:wR gl)(hk:sJ<=k){g:xD}{gs:List xD}(tl:gI)(ht:g.1.top=λf=>sQ f tl)(htl:tl.all (λf=>vL P f&&zD P f)=true)
  (h1:MR ga pa g.1 (g::gs)) (h2:aHn dom (g::gs)=true) (h3:sF P (g::gs)=true):
  Lay P gl k ga (qX (GZ (g::gs)) pa) (FW P gl pe (bGo (g::gs)) (bIa (g::gs)) k λf=>(GZ (g::gs)).any λc=>Nat.beq c.f f) (λf=>((GZ (g::gs)).any λc=>Nat.beq c.f f)||dom f):=
 h.stepZ hm hz hk (X:=g.1) ht htl (aVl h hk h1 h2 h3)
end
end Go.Ps
namespace Go.Proofs.Tryz
noncomputable section
open Go.Ps
def ifull:A:= .ival .i64 (-9223372036854775808) 9223372036854775807
def ES:A:= .ival .i64 0 255
def WP:A:= .ival .i64 0 4611686018427387904
def txt(n:Int):A:= .strv 0 n
def cBig:Int:=9223372036854775807
def a6:List A:=[ifull,ifull,ifull,txt 0,.sxv 0 0,.sxv 0 0]
def a5:List A:=[ifull,ifull,txt 0,.sxv 0 0,.sxv 0 0]
def vA(t w:Int):Nat->List A
 |0=>[ifull,ifull,ifull,txt t,.slv (.agg a6) 0 0,.slv (.agg (txt 0::a6)) 0 0]|d+1=>[ifull,ifull,ifull,txt t,.slv (.agg (vA t w d)) 0 w,.slv (.agg (txt t::vA t w d)) 0 w]
def eA:Nat->List A
 |0=>[ifull,ifull,txt 60,.slv (.agg (vA 40 6 1)) 0 2,.slv (.agg a5) 0 0]|d+1=>[ifull,ifull,txt 60,.slv (.agg (vA 40 6 1)) 0 2,.slv (.agg (eA d)) 0 4]
def vI:Nat->List A
 |0=>[ifull,ifull,ifull,txt cBig,.sxv 0 cBig,.sxv 0 cBig]|d+1=>[ifull,ifull,ifull,txt cBig,.slv (.agg (vI d)) 0 cBig,.slv (.agg (txt cBig::vI d)) 0 cBig]
def eI:Nat->List A
 |0=>[ifull,ifull,txt cBig,.slv (.agg (vI 1)) 0 cBig,.sxv 0 cBig]|d+1=>[ifull,ifull,txt cBig,.slv (.agg (vI 1)) 0 cBig,.slv (.agg (eI d)) 0 cBig]
def aKy:A:= .agg [ifull,ifull,txt 1000000]
def HD(n:Int):A:= .ival .i64 n n
def JL(i n:Tmp):LA:={sp:=[(i,.a WP)],ms:= .up (.slot i) (.slot n) 0}
def ZL(i out:Tmp)(e:fS)(sz:Nat)(a:A)(m:Int):LA:={sp:=[(i,.a WP),(out,.row e sz a 0 m)],cons:=[(.slot out,.slot i,0)],ms:= .up (.slot i) .zero m,m0:=m}
def fld(d j:Tmp)(i:Tmp)(e:fS)(sz:Nat)(a:A)(m:Int):LA:={sp:=[(i,.a WP)],oc:=[(d,j,.row e sz a 0 m)],cons:=[(.cell d j,.slot i,0)],ms:= .up (.slot i) .zero m,m0:=m}
def peS:FuncId->List A->Nat->List qV->Option AV:=λf l n cs=>
 if Nat.beq f 115 then match l with
  |[s,.strc b]=>if Tu b [46,91,63]then match LV s with
   |some (x,c)=>if leq cs x c 0 4000000000 then some ⟨.int .i64 n 0,n+1,.le 0 n 1:: .le n x (c-1):: .le n 0 1000000000000000000::cs⟩else none
   |none=>none
   else none
  |_ =>none
 else if Nat.beq f 207 then match l with
  |[s,t]=>match LV s,LV t with
   |some (x,c),some _ =>if leq cs x c 0 4000000000 then some ⟨.tup [.str n 0,.str (n+1) 0,.bool sW],n+2,.le 0 n 0:: .le n x c:: .le 0 (n+1) 0:: .le (n+1) x c::cs⟩else none
   |_,_ =>none
  |_ =>none
 else if Nat.beq f 208 then match l with
  |[s]=>match LV s with
   |some (x,c)=>if leq cs x c 0 4000000000 then some (vY (.tup [ifull,.or [.nili,.ifc]]) n cs)else none
   |none=>none
  |_ =>none
 else if Nat.beq f 56 then match l with
  |[s]=>match LV s with
   |some (x,c)=>if leq cs x c 0 4000000000 then some ⟨.bool sW,n,cs⟩else none
   |none=>none
  |_ =>none
 else if Nat.beq f 40 then match l with
  |[.int .i64 _ _]=>some (vY (.strv 0 40) n cs)|_ =>none
 else none
def bBw(l:gI):FuncId->Bool:=λf=>sQ f l
def Dd:FuncId->An:=λf=>
 if Nat.beq f 26 then .node .leaf (.node .leaf (.node (.node .leaf (.loop (JL 16 15) .leaf)) .leaf))
 else if Nat.beq f 273 then .node .leaf (.node (.node .leaf (.loop (JL 7 6) .leaf)) .leaf)
 else if Nat.beq f 280 then .node .leaf (.node .leaf (.node (.node .leaf (.loop (JL 16 15) .leaf)) .leaf))
 else if Nat.beq f 283 then .node .leaf (.node .leaf (.node (.node .leaf (.loop {JL 17 16 with oc:=[(5002,0,.a ifull),(3002,0,.a ES)]} .leaf)) .leaf))
 else if Nat.beq f 317 then .node .leaf (.node (.node .leaf (.node .leaf (.node .leaf (.node .leaf (.node (.node .leaf (.node (.node .leaf (.loop {ZL 18 3 36 6 (.agg (vA 40 6 0)) 6 with cons:=[(.slot 3,.slot 18,0),(.slot 18,.slot 17,0)]} .leaf)) .leaf)) .leaf))))) .leaf)
 else if Nat.beq f 137 then .node .leaf (.node .leaf (.node .leaf (.node (.node .leaf (.node .leaf (.loop {oc:=[(4,0,.a ifull),(2,0,.a ES)],ms:= .down .zero} .leaf))) .leaf)))
 else if Nat.beq f 57 then .node .leaf (.node .leaf (.node .leaf (.node .leaf (.node .leaf (.node (.node .leaf (.loop {JL 25 24 with oc:=[(2,0,.a ifull)]} .leaf)) .leaf)))))
 else if Nat.beq f 92 then .node .leaf (.node .leaf (.node .leaf (.node (.node .leaf (.loop {sp:=[(5,.a (txt 61)),(4,.row 165 3 aKy 0 100)],cons:=[(.slot 4,.ghost,0)],ms:= .down (.slot 5),m0:=61} .leaf)) .leaf)))
 else if Nat.beq f 141 then .node .leaf (.node (.node .leaf (.loop (JL 8 7) .leaf)) .leaf)
 else if Nat.beq f 209 then .node .leaf (.node .leaf (.node (.node .leaf (.loop (JL 25 24) .leaf)) .leaf))
 else .leaf
def poK:FuncId->Option Mb:=λf=>
 if Nat.beq f 57 then some {res:=ES,oc:=[(2,0,.a ifull)]}
 else if Nat.beq f 91 then some {res:=ES}
 else if Nat.beq f 88 then some {res:= .tup [ifull,ifull]}
 else if sQ f [89,90,138,93]then some {res:= .bool sW}
 else none
def jrK:FuncId->Nat->Bool:=λf r=>Nat.beq f 205||Nat.beq f 60||Nat.beq f 26||Nat.beq f 209&&Nat.beq r 6||Nat.beq f 58&&(Nat.beq r 6||Nat.beq r 4||Nat.beq r 21)
def kX(pe:FuncId->List A->Nat->List qV->Option AV)(t i:gI):AX:={gl:=λ_ =>none,pe:=pe,inl:=bBw i,top:=bBw t,own:=λf s=> !(Nat.beq f 272&&Nat.beq s 9),jr:=jrK,an:=Dd,post:=poK,lk:=true}
def bKe:rE:=⟨209,[txt 1000000],.bool sW⟩
def c92:rE:=⟨92,[txt 60],.tup [.slv aKy 0 100,ES]⟩
def bAu:rE:=⟨137,[.agg (vA 40 6 1)],ES⟩
def c58:rE:=⟨58,[.agg (eA 3)],ES⟩
def kq(f0:gV)(pq:List A->Nat->List qV->Option AV)(pa:FuncId->List A->Nat->List qV->Option AV):FuncId->List A->Nat->List qV->Option AV:=λf l n cs=>if Nat.beq f0 f then pq l n cs else pa f l n cs
def lK1:List rE:=[bKe]
def cK1:=kX peS [209] []
def pK1:=qX lK1 peS
def cR(f:Nat):rE:=⟨f,[.agg (vA 40 6 1)],ES⟩
def bKd:rE:=⟨205,[.agg (vA 40 6 1)],.bool sW⟩
def c60:rE:=⟨60,[.agg (vA 40 6 1)],.bool sW⟩
def bBk:rE:=⟨317,[.agg (vA 40 6 0)],.slv (.agg a6) 0 0⟩
def bBl:rE:=⟨317,[.agg (vA 40 6 1)],.slv (.agg (vA 40 6 0)) 0 6⟩
def c26:rE:=⟨26,[txt 100],.bool sW⟩
def c27:rE:=⟨27,[txt 1000000],.bool sW⟩
def uT:Nat->Int
 |0=>2000|d+1=>4*(uT d+20)
def tB:Int:=uT 3
def wB:Int:=200000
def vT(t:Int)(d:Nat):List A:=vA t wB d
def vW(d:Nat):List A:=vA tB wB d
def bLc:rE:=⟨60,[.agg (vT (uT 3) 5)],.bool sW⟩
def lR:List rE:=[cR 269,cR 271,cR 272,cR 274,cR 276,cR 277,cR 278,cR 279,cR 280,cR 281,bKd,c60,bLc,bBk,bBl,c26,c27]
def bKm:rE:=⟨270,[ifull,ifull,ifull],ES⟩
def bKn:rE:=⟨273,[.slv ES 0 10],ES⟩
def bKo:rE:=⟨275,[ifull,ifull,ES],ES⟩
def lKq:List rE:=[bKm,bKn,bKo]
def cKq:=kX pK1 [270,273,275] []
def pKq:=qX lKq pK1
def cKr:=kX pKq [26,27,60,205,317,269,271,272,274,276,277,278,279,280,281] []
def pKr:=qX lR pKq
def cKv:=kX pKr [137,203,204,282,283,92,139,140,197,206,262] [203,204,282,283]
def cK3:=kX pKr [137,203,204,282,283,92,139,140,197,206,262] [139,140,197,206,262]
def lK3:List rE:=[c92]++[bAu]
def pK3:=qX lK3 pKr
def cK4:=kX pK3 [58,88,89,90,91,93,94,138,141] [88,89,90,91,93,94,138,141]
def Mr(d:Nat)(lo hi:Int):A:=match d with
 |0=> .slv (.agg a5) 0 0|d+1=> .slv (.agg (eA d)) lo hi
def vsl(lo hi:Int):A:= .slv (.agg (vA 40 6 1)) lo hi
def aDe(k:Int):Int:=if k=1\/k=2\/k=22\/k=26 then 0 else if k=3\/k=16\/k=18\/k=19\/k=20\/k=27\/k=28 then 1 else if k=21\/k=24 then 3 else 2
def aXy:List Int:=[3,4,5,6,7,8,9,10,11,12,13,14,15,16,17,18,19,20,21,23,24,25,27,28]
def aLo(d:Nat):List (List A):=
 [.ival .i64 (-9223372036854775808) 0,ifull,txt 60,vsl 0 2,Mr d 0 4]::
 [.ival .i64 29 9223372036854775807,ifull,txt 60,vsl 0 2,Mr d 0 4]::
 [.ival .i64 1 1,ifull,txt 60,vsl 0 0,Mr d 0 4]::
 [.ival .i64 1 1,ifull,txt 60,vsl 2 2,Mr d 0 4]::
 aXy.map λk=>[.ival .i64 k k,ifull,txt 60,vsl 0 2,Mr d 0 (aDe k-1)]
def aQe(d n i:Nat):List A:=[ifull,ifull,txt 60,vsl 0 2,.slk ((List.range n).map λj=>if Nat.beq j i then .prd (200+d+1) (eA d)else .agg (eA d))]
def bAr(d:Nat)(lo:Int):A:=match d with
 |0=> .slv (.agg a5) 0 0|d+1=> .slv (.prd (100+d+1) (eA d)) lo 4
def IZ(d:Nat):List Int:=match d with
 |0=>[1,2,22,26]|_ +1=>[1,2,3,4,5,6,7,8,9,10,11,12,13,14,15,16,17,18,19,20,21,22,23,24,25,26,27,28]
def okE(d:Nat)(k:Int):List A:=[.ival .i64 k k,ifull,txt 60,(if k=1 then vsl 1 1 else vsl 0 2),bAr d (aDe k)]
def Bc:A:= .ival .i64 1 255
def bDe:List rE:=(aLo 3).map λr=>⟨58,[.agg r],Bc⟩
def l58:List rE:=bDe++[c58]
def bLk:AX:={cK4 with post:=λ_ =>none}
def RY:=qX l58 pK3
def peN:=RY
def anS(d:Nat):FuncId->An:=λf=>
 if Nat.beq f 29 then .node .leaf (.node .leaf (.node .leaf (.node .leaf (.node (.node .leaf (.loop (ZL 7 5 36 6 (.agg (vA 40 6 (d-1))) (if Nat.beq d 0 then 0 else 6)) .leaf)) (.node (.node .leaf (.loop (ZL 8 6 114 7 (.agg (txt 40::vA 40 6 (d-1))) (if Nat.beq d 0 then 0 else 6)) .leaf)) .leaf)))))
 else if Nat.beq f 55 then .node .leaf (.node .leaf (.node .leaf (.node (.node .leaf (.loop (ZL 6 5 36 6 (.agg (vA 40 6 1)) 2) .leaf)) (.node .leaf (.node (.node .leaf (.loop (ZL 8 7 66 5 (.agg (eA (d-1))) (if Nat.beq d 0 then 0 else 4)) .leaf)) .leaf)))))
 else if Nat.beq f 23 then .node .leaf (.node .leaf (.node (.node .leaf (.loop (fld 3 0 4 68 6 (.agg (txt 60::eA 3)) 8) .leaf)) .leaf))
 else if Nat.beq f 8 then .node .leaf (.node .leaf (.node (.node .leaf (.loop (fld 3 0 4 68 6 (.agg (txt 0::eI 3)) 2) .leaf)) (.node .leaf (.node .leaf (.node (.node .leaf (.loop (fld 1 4 5 66 5 (.agg (eA 3)) 8) .leaf)) .leaf)))))
 else .leaf
def Td(d:Nat):rE:=⟨29,[.agg (vI d),HD (d+1)],.agg (vA 40 6 d)⟩
def Dn(d:Nat):rE:=⟨55,[.agg (eI d),HD (d+1)],.agg (eA d)⟩
def c8:rE:=⟨8,[.agg [txt cBig,txt cBig,ifull,ifull,.slv (.agg (eI 3)) 0 cBig]],.agg [txt 100,txt 100,ifull,ifull,.slv (.agg (eA 3)) 0 8]⟩
def bLl:FuncId->Tmp->Bool:=λf s=> !(Nat.beq f 29&&Nat.beq s 84||Nat.beq f 8&&(Nat.beq s 25||Nat.beq s 46)||Nat.beq f 23&&Nat.beq s 41)
def cS(d:Nat)(pe:FuncId->List A->Nat->List qV->Option AV)(t i:gI):AX:={gl:=λ_ =>none,pe:=pe,inl:=λf=>sQ f i,top:=λf=>sQ f t,own:=bLl,jr:=λ_ _ =>false,an:=anS d,post:=λ_ =>none}
def l29:Nat->List rE
 |0=>[]|d+1=>Td d::l29 d
def pZ:Nat->(FuncId->List A->Nat->List qV->Option AV)
 |0=>peN|d+1=>qX (l29 (d+1)) (pZ d)
def pS3:=qX [Dn 0] (pZ 5)
def pS4:=qX [Dn 0,Dn 1] pS3
def pS5:=qX [Dn 0,Dn 1,Dn 2] pS4
def pS6:=qX [Dn 0,Dn 1,Dn 2,Dn 3] pS5
def pS7:=qX [c8] pS6
def c12:rE:=⟨12,[.agg ([ifull,.slv ifull 0 cBig,ifull,.slv ifull 0 cBig]++vI 4)],.agg ([ifull,.slv ifull 0 6,ifull,.slv ifull 0 6]++vA 40 6 4)⟩
def pS8:=qX [c12] pS7
def aJa:A:= .fn 57 [] [.ptr 0 0,.ptr 1 0]
def sCk(e r:A):CF:=⟨57,[e,ifull,.ptr 0 0,.ptr 1 0],[(3,[ifull],[ifull]),(112,[aJa],[aJa])],r⟩
def Wh(d:Nat):CF:=sCk (.agg (eA d)) ES
def aYq(d:Nat):CF:=sCk (.prd (200+d+1) (eA d)) Bc
def Fr(d:Nat):List CF:=(aLo d).map λr=>sCk (.agg r) Bc
def aLs(e:Nat):List CF:=[(1,0),(2,0),(2,1),(3,0),(3,1),(3,2),(4,0),(4,1),(4,2),(4,3)].map λq=>sCk (.agg (aQe e q.1 q.2)) Bc
def aNu:FuncId->An:=λf=>if Nat.beq f 57 then .node .leaf (.node .leaf (.node .leaf (.node .leaf (.node .leaf (.node (.node .leaf (.unl [.leaf,.leaf,.leaf,.leaf,.leaf])) .leaf)))))else Dd f
def UJ(an:FuncId->An)(pe:FuncId->List A->Nat->List qV->Option AV):AX:={gl:=λ_ =>none,pe:=pe,inl:=λf=>sQ f [57,28],top:=λf=>sQ f [57,28],own:=λf s=> !(Nat.beq f 28&&Nat.beq s 1||Nat.beq f 57&&(Nat.beq s 4||(Nat.beq s 9||Nat.beq s 1009))),jr:=jrK,an:=an,post:=λ_ =>none}
def Hd:Nat->List CF
 |0=>[]|d+1=>[aYq d,Wh d]
def c28:rE:=⟨28,[.agg (eA 3)],ES⟩
def bKq:rE:=⟨28,[.prd 204 (eA 3)],Bc⟩
def l28:List rE:=[bKq,c28]
def pK5:=qX l28 RY
def zM:A:= .agg [ifull,ifull]
def nV:A:= .agg [.ival .i64 (-999999999999999) 999999999999999,.ival .i64 0 12]
def nR:A:= .tup [.agg [ifull,ifull],ES]
def aFf(f:Nat->An):List An:=[f 0,f 1,f 2,f 3,f 4,f 5,f 6,f 7,f 8,f 9,f 10,f 11,f 12,f 13,f 14,f 15,f 16]
def aVw:rE:=⟨342,[],.agg [HD 1,HD 10,HD 100,HD 1000,HD 10000,HD 100000,HD 1000000,HD 10000000,HD 100000000,HD 1000000000,HD 10000000000,HD 100000000000,HD 1000000000000]⟩
def anD:FuncId->An:=λf=>
 if Nat.beq f 287 then(.node .leaf (.node (.node .leaf (.unl (aFf λk=> .leaf))) .leaf))
 else if Nat.beq f 297 then(.node .leaf (.node .leaf (.node (.loop ({sp:=[(1,.a (.ival .i64 1 40000000000000000)),(2,.a (.ival .i64 (-12) 24))],ms:= .up (.slot 2) .zero 0,m0:=100}) .leaf) (.node .leaf (.node .leaf (.node (.loop ({sp:=[(7,.a ifull),(8,.a ifull),(2,.a (.ival .i64 (-12) 24))],ms:= .down (.slot 2),m0:=100}) .leaf) .leaf))))))
 else if Nat.beq f 293 then(.node .leaf (.node .leaf (.node .leaf (.node (.node .leaf (.loop ({JL 16 15 with sp:=[(16,.a WP),(7,.a ifull),(8,.a ifull)]}) .leaf)) .leaf))))
 else if Nat.beq f 35 then(.node .leaf (.node .leaf (.node (.node .leaf (.loop (JL 8 7) .leaf)) .leaf)))
 else if Nat.beq f 219 then(.node .leaf (.node .leaf (.node .leaf (.node .leaf (.node (.node .leaf (.loop ({JL 20 19 with sp:=[(20,.a WP),(5,.a (.ival .i64 0 12))]}) .leaf)) .leaf)))))
 else .leaf
def bLw:FuncId->Tmp->Bool:=λf s=> !(Nat.beq f 215&&(Nat.beq s 13||Nat.beq s 34)||(Nat.beq f 221&&(Nat.beq s 9||Nat.beq s 17)||(Nat.beq f 222&&Nat.beq s 9||(Nat.beq f 223&&Nat.beq s 10||Nat.beq f 224&&Nat.beq s 12))))
def cD(an:FuncId->An)(pe:FuncId->List A->Nat->List qV->Option AV)(t i:gI):AX:={gl:=λ_ =>none,pe:=pe,inl:=λf=>sQ f i,top:=λf=>sQ f t,own:=bLw,jr:=λ_ _ =>false,an:=an,post:=λ_ =>none,lk:=true}
def pD0:=qX [aVw] pK5
def bKw:rE:=⟨323,[.ival .i64 0 12],.ival .i64 1 1000000000000⟩
def bKb:rE:=⟨162,[ifull,ifull],ifull⟩
def c35:rE:=⟨35,[.slv ifull 0 100],ifull⟩
def xD1:=cD anD pD0 [323,162,35,243] [243]
def lD1:List rE:=[bKw,bKb,c35]
def pD1:=qX lD1 pD0
def bKp:rE:=⟨288,[.agg [ifull,.ival .i64 0 12]],.tup [ifull,ifull]⟩
def bKt:rE:=⟨296,[ifull,ifull],nR⟩
def bBi:rE:=⟨297,[ifull,.ival .i64 1 999999999999999,.ival .i64 (-12) 24],ifull⟩
def bBh:rE:=⟨297,[ifull,.ival .i64 (-999999999999999) (-1),.ival .i64 (-12) 24],ifull⟩
def lD2:List rE:=[bKp,bKt,bBi,bBh]
def xD2:=cD anD pD1 [288,296,297,295] [295]
def pD2:=qX lD2 pD1
def bBd:rE:=⟨293,[.slv (.agg [ifull,.ival .i64 0 12]) 0 256,.ival .i64 0 12],nR⟩
def xD3:=cD anD pD2 [293,295] [295]
def pD3:=qX [bBd] pD2
def Mv:rE:=⟨287,[.slpv 20 zM 0 256],.ival .i64 1 255⟩
def bKf:rE:=⟨215,[zM,zM],.tup [ifull,ES]⟩
def bKg:rE:=⟨221,[zM,zM],nR⟩
def bS:List A:=[.ival .i64 1 9223372036854775807,HD 0,.ival .i64 (-9223372036854775808) (-1)]
def bBa(b:A):rE:=⟨223,[zM,.agg [b,ifull]],nR⟩
def bBb(b:A):rE:=⟨224,[zM,.agg [b,ifull],ifull],nR⟩
def bKj:rE:=⟨228,[zM],nR⟩
def bAz:rE:=⟨219,[.slv nV 0 1000000],nR⟩
def aTh:rE:=⟨219,[.slpv 20 zM 0 1000000],nR⟩
def Dm:rE:=⟨224,[zM,zM,ifull],nR⟩
def Oz:List rE:=[bKf,bKg,bKj]++bS.map bBb
def lD4:List rE:=Oz++[Dm]
def xD4:=cD anD pD3 [215,221,228,224,287,301,295] [287,301,295]
def pD4:=qX lD4 pD3
def bBf:rE:=⟨295,[.ival .i64 1 9223372036854775807],.ival .i64 1 9223372036854775807⟩
def bBe:rE:=⟨295,[.ival .i64 (-999999999999999) (-1)],.ival .i64 1 999999999999999⟩
def bKs:rE:=⟨295,[ifull],ifull⟩
def lD5:List rE:=[bBf,bBe,bKs]
def xD5:=cD anD pD4 [295] []
def pD5:=qX lD5 pD4
def bKh:rE:=⟨222,[zM,zM],nR⟩
def Dl:rE:=⟨223,[zM,zM],nR⟩
def Pa:List rE:=bKh::bS.map bBa
def lD6:List rE:=Pa++[Dl]
def xD6:=cD anD pD5 [222,223,287,301] [287,301]
def pD6:=qX lD6 pD5
def bJx:FuncId->An:=λf=>if Nat.beq f 287 then .node .leaf (.node (.node .leaf (.loop (JL 8 7) .leaf)) .leaf)else anD f
def Ya:rE:=⟨287,[.slv zM 0 256],ES⟩
def bCy:List A->Nat->List qV->Option AV:=λl n cs=>qX [Mv,Ya] (λ_ _ _ _ =>none) 287 l n cs
def pD8:=kq 287 bCy pD6
def xD9:=cD bJx pD8 [219] []
def WO:rE:=⟨219,[.slv zM 0 1000000],nR⟩
def Bp:List rE:=[bAz,aTh]
def lD9:List rE:=Bp++[WO]
def pD9:=qX lD9 pD8
def aOf:rE:=⟨261,[.strv 1 cBig],.tup [.ival .i32 0 1114111,.ival .i64 1 4]⟩
def aVv:rE:=⟨312,[.strc [48],.ival .i64 0 100],.strv 0 100⟩
def pC0:=qX [aVv] (qX [aOf] pD9)
def anC(u:Int):FuncId->An:=λf=>
 if Nat.beq f 326 then(.node .leaf (.loop ({sp:=[(3,.a (.ival .i64 0 (u+4)))],oc:=[(5000,0,.row 3 1 ifull 0 (u+5))],cons:=[(.cell 5000 0,.ghost,0)],ms:= .up (.slot 3) .zero (u+4),m0:=u+4}) .leaf))
 else if Nat.beq f 227 then(.node .leaf (.node .leaf (.node (.node .leaf (.loop ({sp:=[(9,.a WP)],oc:=[(4,0,.a (.or [.nilp,.ptr 0 0])),(4,1,.row 5 1 (.ival .u8 0 255) 0 (4*(u+20)))],cons:=[(.cell 4 1,.ghost,0)],ms:= .up (.slot 9) (.slot 8) 0,m0:=u+10,gk:=4}) .leaf)) .leaf)))
 else .leaf
def bBu:FuncId->Tmp->Bool:=λf s=> !(Nat.beq f 226&&Nat.beq s 17)
def cC(u:Int)(pe:FuncId->List A->Nat->List qV->Option AV)(t i:gI):AX:={gl:=λ_ =>none,pe:=pe,inl:=λf=>sQ f i,top:=λf=>sQ f t,own:=bBu,jr:=λ_ _ =>false,an:=anC u,post:=λ_ =>none}
def aCb(d:Nat):rE:=⟨226,[txt (uT d)],.tup [.slv ifull 0 (uT d+10),ES]⟩
def xC1(d:Nat):=cC (uT d) pC0 [226,298,326] [298,326]
def lC1:List rE:=[aCb 0]++([aCb 1]++[aCb 2])
def pC1:=qX lC1 pC0
def aCc(d:Nat):rE:=⟨227,[.slv ifull 0 (uT d+10)],.tup [txt (uT (d+1)),ES]⟩
def xC2(d:Nat):=cC (uT d) pC1 [227,299,300,327,344] [299,300,327,344,123,79]
def lC2:List rE:=[aCc 0]++([aCc 1]++[aCc 2])
def pC2:=qX lC2 pC1
def aVu:rE:=⟨309,[ifull],.tup [.ival .i64 0 9999,.ival .i64 0 12,.ival .i64 0 31,ES]⟩
def pV0:=qX [aVu] pC2
def cL(pe:FuncId->List A->Nat->List qV->Option AV)(t i:gI):AX:={gl:=λ_ =>none,pe:=pe,inl:=λf=>sQ f i,top:=λf=>sQ f t,own:=λ_ _ =>true,jr:=λ_ _ =>false,an:=λ_ => .leaf,post:=λ_ =>none}
def bKu:rE:=⟨310,[.ival .i64 0 9999,.ival .i64 2 4],txt 140⟩
def bKv:rE:=⟨311,[ifull],.tup [ifull,.ival .i64 0 86399999,ES]⟩
def bKk:rE:=⟨256,[ifull],.tup [txt 500,ES]⟩
def bKl:rE:=⟨257,[ifull],.tup [txt 1400,ES]⟩
def lL1:List rE:=[bKu,bKv]
def xL1:=cL pV0 [310,311,329] [329]
def pL1:=qX lL1 pV0
def lL2:List rE:=[bKk]
def xL2:=cL pL1 [256] []
def pL2:=qX lL2 pL1
def lL3:List rE:=[bKl]
def xL3:=cL pL2 [257] []
def pL3:=qX lL3 pL2
def aQd:List A->Nat->List qV->Option AV:=λl n cs=>match l with
 |[s,.int .u8 _ _,.int .i64 _ _]=>match LV s with
  |some (x,c)=>if leq cs x c 0 4000000000 then some ⟨.str x c,n,cs⟩else none
  |none=>none
 |_ =>none
def aVt:rE:=⟨259,[zM],.tup [txt 40,ES]⟩
def pP0:=qX [aVt] (kq 302 aQd pL3)
def bKc:rE:=⟨194,[txt 1000000],nR⟩
def xP1:=cL pP0 [194] []
def lP1:List rE:=[bKc]
def pP1:=qX lP1 pP0
def wOf(d:Nat):Int:=if Nat.beq d 0 then 0 else wB
def wO(w:Int)(d:Nat):Int:=if Nat.beq d 0 then 0 else w
def anV(t w:Int)(d:Nat):FuncId->An:=λf=>
 if Nat.beq f 62 then(.node .leaf (.node .leaf (.node .leaf (.node (.node .leaf (.loop (fld 3 4 14 36 6 (.agg (vA t w (d-1))) (wO w d)) .leaf)) (.node (.node .leaf (.loop (fld 3 5 29 114 7 (.agg (txt t::vA t w (d-1))) (wO w d)) .leaf)) .leaf)))))
 else if Nat.beq f 165 then(.node .leaf (.node (.node .leaf (.loop (JL 13 12) .leaf)) .leaf))
 else if Nat.beq f 166 then(.node .leaf (.node (.node .leaf (.loop (JL 13 12) .leaf)) .leaf))
 else .leaf
def bSh:FuncId->Tmp->Bool:=λf s=> !(Nat.beq f 62&&(Nat.beq s 22||Nat.beq s 41)||Nat.beq f 112&&Nat.beq s 35||Nat.beq f 167&&Nat.beq s 15)
def cV(u w:Int)(d:Nat)(pe:FuncId->List A->Nat->List qV->Option AV)(t i:gI):AX:={gl:=λ_ =>none,pe:=pe,inl:=λf=>sQ f i,top:=λf=>sQ f t,own:=bSh,jr:=λ_ _ =>false,an:=anV u w d,post:=λ_ =>none}
def c66:rE:=⟨66,[txt cBig,txt cBig],ifull⟩
def q5:=qX [c66] pP1
def c36:rE:=⟨36,[txt cBig,txt cBig],ifull⟩
def l36:List rE:=[c36]
def q6:=qX l36 q5
def xS(t w:Int)(d:Nat):rE:=⟨62,[.agg (vA t w d)],.agg (vA t w d)⟩
def l62:Nat->List rE
 |0=>[]|d+1=>l62 d++[xS 40 6 d,xS (uT 0) wB d,xS tB wB d]
def wQ:Nat->(FuncId->List A->Nat->List qV->Option AV)
 |0=>q6|d+1=>qX (l62 (d+1)) (wQ d)
def DA(d:Nat):rE:=⟨112,[.agg (vW d),.agg (vW d)],ifull⟩
def DB(d:Nat):rE:=⟨165,[.slv (.agg (vW (d-1))) 0 (wOf d),.slv (.agg (vW (d-1))) 0 (wOf d),.fn 112 [] []],ifull⟩
def DC(d:Nat):rE:=⟨166,[.slv (.agg (txt tB::vW (d-1))) 0 (wOf d),.slv (.agg (txt tB::vW (d-1))) 0 (wOf d),.fn 167 [] []],ifull⟩
def bCz:Nat->List rE
 |0=>[]|d+1=>DA d::bCz d
def lCf:Nat->List rE
 |0=>[]|d+1=>DB d::DC d::lCf d
def yG:Nat->(FuncId->List A->Nat->List qV->Option AV)
 |0=>wQ 6|d+1=>qX (bCz (d+1)) (qX (lCf (d+1)) (yG d))
def RW(d:Nat):=qX (lCf (d+1)) (yG d)
def c71:rE:=⟨71,[.agg (vW 5),.agg (vW 5)],.bool sW⟩
def BP:List A:=[.ival .i64 1 4,.ival .i64 0 100000000,txt 1000000]
def pw6:Nat->Int
 |0=>1|k+1=>6*pw6 k+6
def aWo(k:Nat):LA:=
 if Nat.blt k 5 then{sp:=[(31,.a WP),(10,.row 36 6 (.agg (vA 40 6 (4-k))) 0 (pw6 (k+1)))],cons:=[(.slot 10,.ghost,0)],ms:= .up (.slot 31) (.slot 30) 0,m0:=pw6 k,gk:=6}
 else{sp:=[(31,.a WP),(10,.row 36 6 (.agg [.any,.any,.any,.any,.any,.any]) 0 0)],cons:=[(.slot 10,.zero,0)],ms:= .up (.slot 31) (.slot 30) 0,m0:=if Nat.blt k 6 then pw6 k else 0}
def anP:FuncId->An:=λf=>
 if Nat.beq f 217 then(.node .leaf (.node .leaf (.node .leaf (.node (.node .leaf (.unl (aFf λk=>(.node .leaf (.node .leaf (.node (.node .leaf (.node .leaf (.node (.node .leaf (.loop (aWo k) .leaf)) .leaf))) .leaf)))))) (.node .leaf (.node .leaf (.node (.node .leaf (.loop ({sp:=[(57,.a WP),(13,.row 36 6 (.agg (vT (uT 0) 4)) 0 102642)],cons:=[(.slot 13,.slot 57,0),(.slot 57,.slot 13,0)],ms:= .up (.slot 57) (.slot 56) 0,m0:=102642}) .leaf)) .leaf)))))))
 else if Nat.beq f 155 then(.node .leaf (.node (.node .leaf (.loop (JL 8 7) .leaf)) .leaf))
 else if Nat.beq f 141 then(.node .leaf (.node (.node .leaf (.loop (JL 8 7) .leaf)) .leaf))
 else if Nat.beq f 289 then(.node .leaf (.node .leaf (.node .leaf (.node (.node .leaf (.loop ({JL 23 22 with sp:=[(23,.a WP),(3,.a ifull)]}) .leaf)) .leaf))))
 else if Nat.beq f 92 then(.node .leaf (.node .leaf (.node .leaf (.node (.node .leaf (.loop ({sp:=[(5,.a (txt 61)),(4,.row 165 3 (.agg BP) 0 100)],cons:=[(.slot 4,.ghost,0)],ms:= .down (.slot 5),m0:=61}) .leaf)) .leaf))))
 else .leaf
def bRb:FuncId->Tmp->Bool:=λf s=> !(Nat.beq f 217&&(Nat.beq s 2||(Nat.beq s 9||(Nat.beq s 12||(Nat.beq s 15||(Nat.beq s 22||Nat.beq s 64)))))||Nat.beq f 291&&(Nat.beq s 2||(Nat.beq s 3||Nat.beq s 22))||Nat.beq f 289&&Nat.beq s 5||Nat.beq f 140&&Nat.beq s 1||Nat.beq f 324&&Nat.beq s 1)
def cP(pe:FuncId->List A->Nat->List qV->Option AV)(t i:gI):AX:={gl:=λ_ =>none,pe:=pe,inl:=λf=>sQ f i,top:=λf=>sQ f t,own:=bRb,jr:=λ_ _ =>false,an:=anP,post:=λ_ =>none}
def bLj:rE:=⟨92,[txt 60],.tup [.slv (.agg BP) 0 100,ES]⟩
def ZO:A:= .slv (.agg BP) 0 100
def aOe:rE:=⟨218,[ZO],.bool sW⟩
def bAx:rE:=⟨218,[.slpv 10 (.agg BP) 0 100],.bool (.lit false)⟩
def bAy:rE:=⟨218,[.slpv 11 (.agg BP) 0 100],.bool (.lit true)⟩
def anN:FuncId->An:=λf=>
 if Nat.beq f 61 then(.node .leaf (.node .leaf (.node (.node .leaf (.unl (aFf λk=> .leaf))) .leaf)))
 else if Nat.beq f 155 then(.node .leaf (.node (.node .leaf (.unl (aFf λk=> .leaf))) .leaf))
 else if Nat.beq f 156 then(.node .leaf (.node .leaf (.unl (aFf λk=> .leaf))))
 else if Nat.beq f 234 then(.node .leaf (.unl (aFf λk=>(.node .leaf (.node (.node .leaf (.loop (JL 0 0) .leaf)) .leaf)))))
 else .leaf
def bPi:FuncId->Tmp->Bool:=λf s=> !(Nat.beq f 61&&(Nat.beq s 32||Nat.beq s 8000033))
def cN(pe:FuncId->List A->Nat->List qV->Option AV)(t i:gI):AX:={gl:=λ_ =>none,pe:=pe,inl:=λf=>sQ f i,top:=λf=>sQ f t,own:=bPi,jr:=λ_ _ =>false,an:=anN,post:=λ_ =>none}
def tN:List Nat:=[31,61,96,97,98,99,155,156,234,65,109,108]
def c31:rE:=⟨31,[.agg (vA 40 6 4)],.agg (vA 40 6 5)⟩
def l71:List rE:=[c71]
def q71:=qX l71 (yG 6)
def aCd(k:Nat):rE:=⟨291,[.agg BP,.agg (vA 40 6 k)],if Nat.beq k 0 then .slv (.agg a6) 0 0 else .slv (.agg (vA 40 6 (k-1))) 0 6⟩
def bKr:rE:=⟨290,[.agg BP,.agg (vA 40 6 5)],.bool sW⟩
def bKx:rE:=⟨324,[.agg BP],txt 1000100⟩
def lPa:List rE:=[bLj]
def lPb:List rE:=[aOe]
def lPc:List rE:=[bKr,bKx]
def lPd:List rE:=[aCd 0,aCd 1,aCd 2,aCd 3,aCd 4,aCd 5]
def lP0:List rE:=lPa++(lPc++lPd)
def qP0:=qX lP0 q71
def lPq:List rE:=[bAx,bAy,aOe]
def qP1:=qX lPq qP0
def vE:A:= .agg (vA 40 6 5)
def NL:rE:=⟨217,[vE,.slpv 10 (.agg BP) 0 100],.tup [.slv (.agg (vT (uT 0) 4)) 0 102642,ES]⟩
def NM:rE:=⟨217,[vE,.slpv 11 (.agg BP) 0 100],.tup [.slv (.agg (vT (uT 0) 4)) 0 102642,ES]⟩
def NJ:rE:=⟨146,[vE,.slpv 10 (.agg BP) 0 100],.tup [.agg (vT (uT 0) 5),ES]⟩
def NK:rE:=⟨146,[vE,.slpv 11 (.agg BP) 0 100],.tup [.agg (vT (uT 0) 5),ES]⟩
def inQ:List Nat:=[325,155,343]
def tP0:List Nat:=[92,139,140,197,206,262,290,324,291,325,155,343]
def xPa:=cP q71 tP0 [139,140,197,206,262]
def xPc:=cP q71 tP0 []
def xPd:=cP q71 tP0 inQ
def xPq:=cP qP0 [218,93,141,292] [93,141,292]
def xPn:=cP qP1 [217,146,289,140] [289,140]
def xPm:=cP qP1 [217,146,289,140] [217,289,140]
def WN:rE:=⟨217,[vE,ZO],.tup [.slv (.agg (vT (uT 0) 4)) 0 102642,ES]⟩
def WM:rE:=⟨146,[vE,ZO],.tup [.agg (vT (uT 0) 5),ES]⟩
def lPn:List rE:=[NL,NM]
def lPm:List rE:=[NJ,NK]
def lP2:List rE:=lPn++(lPm++[WN,WM])
def pE0:=qX lP2 qP1
def xE1:AX:={cL pE0 [214,216,144,229,294,225,232,233] []with own:=λ_ _ =>true}
def bKi(u:Int):rE:=⟨225,[txt u],.agg (vA u 0 0)⟩
def c232(u:Int):rE:=⟨232,[txt u],txt u⟩
def c233(u:Int):rE:=⟨233,[txt u],txt u⟩
def uS:List Int:=[1024,uT 0,uT 1,uT 2,uT 3]
def lE1:List rE:=[⟨214,[.agg (vT (uT 3) 5)],.bool sW⟩,⟨216,[.agg (vT (uT 3) 5)],.agg [ifull,ifull]⟩,⟨144,[.bool sW],.agg (vA 0 0 0)⟩,⟨229,[ifull],.agg (vA 0 0 0)⟩,⟨294,[ifull,ifull],.agg (vA 0 0 0)⟩]++uS.map bKi++uS.map c232++uS.map c233
def pE1:=qX lE1 pE0
def bPf:TypeId×List A×List A:=(169,vA 40 6 5++[ES],vA 40 6 5++[ES])
def sM(f:gV)(args:List A)(res:A):CF:=⟨f,.ptr 0 0::args,[bPf],res⟩
def z0:A:= .agg (vA 0 0 0)
def vD(d:Nat):A:= .agg (vT (uT d) 5)
def vB:A:= .agg (vT (uT 3) 5)
def Iu(f a:Nat)(s:Tmp)(l:iR):Bool:=Nat.beq f a&&sQ s l
def bMa:FuncId->Tmp->Bool:=λf s=>if Nat.ble 9000000 s then !(Iu f 95 s [9000032,9000045,9000072])else
 sQ f [147,143,230,231]&&Nat.beq s 4||(Iu f 95 s [4]||(Iu f 148 s [4,36,1015]||(Iu f 151 s [8,10]||(Iu f 152 s [6]||(Iu f 153 s [8]||(Iu f 154 s [6]||(Iu f 220 s [8]||(sQ f [216,144,229,225]&&Nat.beq s 2||(Iu f 294 s [4]||(Nat.beq f 59&& !(sQ s [2,3,8,1008])))))))))))
def mOc:List (Tmp×Nat×TA):=[(0,0,.a ifull),(0,1,.a ifull),(0,2,.a ifull),(0,3,.a (txt 40)),(0,4,.a (.slv (.agg (vA 40 6 4)) 0 6)),(0,5,.a (.slv (.agg (txt 40::vA 40 6 4)) 0 6)),(0,6,.a ES)]
def anE(d:Nat):FuncId->An:=λf=>
 if Nat.beq f 148 then(.node .leaf (.node .leaf (.node .leaf (.node .leaf (.node .leaf (.node (.node .leaf (.loop ({ZL 39 9 101 2 (.agg [ifull,ifull]) 102642 with ms:= .up (.slot 39) (.slot 38) 0}) .leaf)) .leaf))))))
 else if Nat.beq f 95 then(.node .leaf (.node .leaf (.node .leaf (.node (.node .leaf (.node .leaf (.node .leaf (.node .leaf (.node .leaf (.node .leaf (.node .leaf (.node .leaf (.node .leaf (.node .leaf (.node .leaf (.node .leaf (.node .leaf (.node .leaf (.node .leaf (.node .leaf (.node (.node .leaf (.node .leaf (.node .leaf (.node (.node .leaf (.loop ({ZL 190 17 36 6 (vD (d-1)) 4 with oc:=mOc,ms:= .up (.slot 190) (.slot 189) 0}) .leaf)) (.node (.node .leaf (.loop ({sp:=[(20,.a WP),(16,.a (.bool sW))],oc:=mOc,ms:= .up (.slot 20) (.slot 17) 0}) .leaf)) .leaf))))) .leaf))))))))))))))))) .leaf))))
 else .leaf
def cE(d:Nat)(pe:FuncId->List A->Nat->List qV->Option AV)(t:gI):AX:={gl:=λ_ =>none,pe:=pe,inl:=λf=>sQ f t,top:=λf=>sQ f t,own:=bMa,jr:=λ_ _ =>false,an:=anE d,post:=λ_ =>none}
def tE:List Nat:=[59,95,142,143,145,147,148,149,150,151,152,153,154,210,211,212,213,220,230,231,252,308]
def xE(d:Nat):=cE d pE1 tE
def UF:CF:=sM 147 [ES] z0
def Bx:CF:=sM 220 [.bool sW,.agg [ifull,ifull],ES] z0
def aYm:CF:=sM 145 [vB,vB] ifull
def aYo:CF:=sM 150 [vB,vB] (.bool sW)
def aYp:CF:=sM 151 [.agg (eA 3),vB,vB] z0
def Kv(d:Nat):CF:=sM 152 [vD d,vD d] (.agg (vA (uT (d+1)) 0 0))
def Kw(d:Nat):CF:=sM 153 [vD d,vB,vB] (.agg (vA (uT (d+1)) 0 0))
def aYn:CF:=sM 148 [.agg (eA 3)] z0
def ZM(d:Nat):CF:=sM 230 [vD d] (.agg (vA (uT d) 0 0))
def Wg:CF:=sM 231 [vB] z0
def Qv(d:Nat)(k:Int):CF:=sM 154 [HD k,vD d] (.agg (vA (uT d) 0 0))
def sEv(d:Nat)(k:Int):CF:=sM 95 [.agg (okE d k)] (vD d)
def ZN(d:Nat):CF:=sM 95 [.prd (100+d+1) (eA d)] (vD d)
def JG(d:Nat):CF:=sM 143 [.prd (100+d+1) (eA d)] (vD d)
def MJ(d:Nat):CF:=sM 149 [.prd (100+d+1) (eA d)] (.bool sW)
def Qh:List Int:=[16,18,19,20,27,28]
def tE0:List CF:=[UF,Bx,aYm,aYo,aYp,aYn,Wg]
def tEv:Nat->List CF
 |0=>tE0|d+1=>tE0++[ZN d,JG d,MJ d,Kv d,Kw d]++Qh.map (Qv d)
def bBq:rE:=⟨59,[.prd 104 (eA 3),vE],.tup [.agg (vT (uT 3) 5),ES]⟩
def bBp:rE:=⟨59,[.prd 204 (eA 3),vE],.tup [.agg (vA 0 0 0),Bc]⟩
def c59:rE:=⟨59,[.agg (eA 3),vE],.tup [.agg (vT (uT 3) 5),ES]⟩
def c30:rE:=⟨30,[.agg (eA 3),vE],.tup [.bool sW,ES]⟩
def aCw:List rE:=[bBq]
def aCx:List rE:=[bBp]
def l59:List rE:=aCw++(aCx++[c59])
def pE2:=qX l59 pE1
def xV:AX:={gl:=λ_ =>none,pe:=pE2,inl:=λf=>sQ f [],top:=λf=>sQ f [30],own:=λf s=> !(sQ s [5,1005]),jr:=λ_ _ =>false,an:=λ_ => .leaf,post:=λ_ =>none}
def l30:List rE:=[c30]
def pE3:=qX l30 pE2
def xN:=cN pE3 tN tN
def pN1:=qX [c31] pE3
def bCr:A:= .agg [txt 100,txt 100,ifull,ifull,.slv (.agg (eA 3)) 0 8]
def aXk:List A:=[ifull,.slv ifull 0 6,ifull,.slv ifull 0 6]++vA 40 6 4++[txt cBig,txt cBig,ifull]
def c13:rE:=⟨13,[bCr,.agg aXk],.bool sW⟩
def c14:rE:=⟨14,[bCr,.agg aXk],.bool sW⟩
def xM:AX:={gl:=λ_ =>none,pe:=pN1,inl:=λf=>sQ f [],top:=λf=>sQ f [13,14],own:=λ_ _ =>true,jr:=λ_ r=>Nat.beq r 2,an:=λ_ => .leaf,post:=λ_ =>none}
def lM:List rE:=[c13,c14]
def pM1:=qX lM pN1
def gK1:List xD:=[(cK1,[],lK1)]
def gKq:List xD:=[(cKq,[],lKq)]
def gKr:List xD:=[(cKr,[],lR)]
def gK3:List xD:=[(cK3,[139,140,197,206,262],[c92]),(cKv,[203,204,282,283],[bAu])]
def gK4:List xD:=[(bLk,[88,89,90,91,93,94,138,141],bDe),(cK4,[88,89,90,91,93,94,138,141],[c58])]
def gD1:List xD:=[(xD1,[243],lD1)]
def gD2:List xD:=[(xD2,[295],lD2)]
def gD3:List xD:=[(xD3,[295],[bBd])]
def gD5:List xD:=[(xD5,[],lD5)]
def gC1:List xD:=[((xC1 0),[298,326],[aCb 0]),((xC1 1),[298,326],[aCb 1]),((xC1 2),[298,326],[aCb 2])]
def gC2:List xD:=[((xC2 0),[299,300,327,344,123,79],[aCc 0]),((xC2 1),[299,300,327,344,123,79],[aCc 1]),((xC2 2),[299,300,327,344,123,79],[aCc 2])]
def gL1:List xD:=[(xL1,[329],lL1)]
def gL2:List xD:=[(xL2,[],lL2)]
def gL3:List xD:=[(xL3,[],lL3)]
def gP1:List xD:=[(xP1,[],lP1)]
def gQ6:List xD:=[((cV tB wB 0 q5 [36] []),[],l36)]
def gA0:List xD:=[((cV 40 6 0 (wQ 0) [62] []),[],[xS 40 6 0]),((cV (uT 0) wB 0 (wQ 0) [62] []),[],[xS (uT 0) wB 0]),((cV tB wB 0 (wQ 0) [62] []),[],[xS tB wB 0])]
def gA1:List xD:=[((cV 40 6 0 (wQ 1) [62] []),[],[xS 40 6 0]),((cV (uT 0) wB 0 (wQ 1) [62] []),[],[xS (uT 0) wB 0]),((cV tB wB 0 (wQ 1) [62] []),[],[xS tB wB 0]),((cV 40 6 1 (wQ 1) [62] []),[],[xS 40 6 1]),((cV (uT 0) wB 1 (wQ 1) [62] []),[],[xS (uT 0) wB 1]),((cV tB wB 1 (wQ 1) [62] []),[],[xS tB wB 1])]
def gA2:List xD:=[((cV 40 6 0 (wQ 2) [62] []),[],[xS 40 6 0]),((cV (uT 0) wB 0 (wQ 2) [62] []),[],[xS (uT 0) wB 0]),((cV tB wB 0 (wQ 2) [62] []),[],[xS tB wB 0]),((cV 40 6 1 (wQ 2) [62] []),[],[xS 40 6 1]),((cV (uT 0) wB 1 (wQ 2) [62] []),[],[xS (uT 0) wB 1]),((cV tB wB 1 (wQ 2) [62] []),[],[xS tB wB 1]),((cV 40 6 2 (wQ 2) [62] []),[],[xS 40 6 2]),((cV (uT 0) wB 2 (wQ 2) [62] []),[],[xS (uT 0) wB 2]),((cV tB wB 2 (wQ 2) [62] []),[],[xS tB wB 2])]
def gA3:List xD:=[((cV 40 6 0 (wQ 3) [62] []),[],[xS 40 6 0]),((cV (uT 0) wB 0 (wQ 3) [62] []),[],[xS (uT 0) wB 0]),((cV tB wB 0 (wQ 3) [62] []),[],[xS tB wB 0]),((cV 40 6 1 (wQ 3) [62] []),[],[xS 40 6 1]),((cV (uT 0) wB 1 (wQ 3) [62] []),[],[xS (uT 0) wB 1]),((cV tB wB 1 (wQ 3) [62] []),[],[xS tB wB 1]),((cV 40 6 2 (wQ 3) [62] []),[],[xS 40 6 2]),((cV (uT 0) wB 2 (wQ 3) [62] []),[],[xS (uT 0) wB 2]),((cV tB wB 2 (wQ 3) [62] []),[],[xS tB wB 2]),((cV 40 6 3 (wQ 3) [62] []),[],[xS 40 6 3]),((cV (uT 0) wB 3 (wQ 3) [62] []),[],[xS (uT 0) wB 3]),((cV tB wB 3 (wQ 3) [62] []),[],[xS tB wB 3])]
def gA4:List xD:=[((cV 40 6 0 (wQ 4) [62] []),[],[xS 40 6 0]),((cV (uT 0) wB 0 (wQ 4) [62] []),[],[xS (uT 0) wB 0]),((cV tB wB 0 (wQ 4) [62] []),[],[xS tB wB 0]),((cV 40 6 1 (wQ 4) [62] []),[],[xS 40 6 1]),((cV (uT 0) wB 1 (wQ 4) [62] []),[],[xS (uT 0) wB 1]),((cV tB wB 1 (wQ 4) [62] []),[],[xS tB wB 1]),((cV 40 6 2 (wQ 4) [62] []),[],[xS 40 6 2]),((cV (uT 0) wB 2 (wQ 4) [62] []),[],[xS (uT 0) wB 2]),((cV tB wB 2 (wQ 4) [62] []),[],[xS tB wB 2]),((cV 40 6 3 (wQ 4) [62] []),[],[xS 40 6 3]),((cV (uT 0) wB 3 (wQ 4) [62] []),[],[xS (uT 0) wB 3]),((cV tB wB 3 (wQ 4) [62] []),[],[xS tB wB 3]),((cV 40 6 4 (wQ 4) [62] []),[],[xS 40 6 4]),((cV (uT 0) wB 4 (wQ 4) [62] []),[],[xS (uT 0) wB 4]),((cV tB wB 4 (wQ 4) [62] []),[],[xS tB wB 4])]
def gA5:List xD:=[((cV 40 6 0 (wQ 5) [62] []),[],[xS 40 6 0]),((cV (uT 0) wB 0 (wQ 5) [62] []),[],[xS (uT 0) wB 0]),((cV tB wB 0 (wQ 5) [62] []),[],[xS tB wB 0]),((cV 40 6 1 (wQ 5) [62] []),[],[xS 40 6 1]),((cV (uT 0) wB 1 (wQ 5) [62] []),[],[xS (uT 0) wB 1]),((cV tB wB 1 (wQ 5) [62] []),[],[xS tB wB 1]),((cV 40 6 2 (wQ 5) [62] []),[],[xS 40 6 2]),((cV (uT 0) wB 2 (wQ 5) [62] []),[],[xS (uT 0) wB 2]),((cV tB wB 2 (wQ 5) [62] []),[],[xS tB wB 2]),((cV 40 6 3 (wQ 5) [62] []),[],[xS 40 6 3]),((cV (uT 0) wB 3 (wQ 5) [62] []),[],[xS (uT 0) wB 3]),((cV tB wB 3 (wQ 5) [62] []),[],[xS tB wB 3]),((cV 40 6 4 (wQ 5) [62] []),[],[xS 40 6 4]),((cV (uT 0) wB 4 (wQ 5) [62] []),[],[xS (uT 0) wB 4]),((cV tB wB 4 (wQ 5) [62] []),[],[xS tB wB 4]),((cV 40 6 5 (wQ 5) [62] []),[],[xS 40 6 5]),((cV (uT 0) wB 5 (wQ 5) [62] []),[],[xS (uT 0) wB 5]),((cV tB wB 5 (wQ 5) [62] []),[],[xS tB wB 5])]
def gF0:List xD:=[((cV tB wB 0 (yG 0) [165,166,167] [167]),[167],[DB 0,DC 0])]
def gB0:List xD:=[((cV tB wB 0 (RW 0) [112] []),[],[DA 0])]
def gF1:List xD:=[((cV tB wB 1 (yG 1) [165,166,167] [167]),[167],[DB 1,DC 1]),((cV tB wB 0 (yG 1) [165,166,167] [167]),[167],[DB 0,DC 0])]
def gB1:List xD:=[((cV tB wB 1 (RW 1) [112] []),[],[DA 1]),((cV tB wB 0 (RW 1) [112] []),[],[DA 0])]
def gF2:List xD:=[((cV tB wB 2 (yG 2) [165,166,167] [167]),[167],[DB 2,DC 2]),((cV tB wB 1 (yG 2) [165,166,167] [167]),[167],[DB 1,DC 1]),((cV tB wB 0 (yG 2) [165,166,167] [167]),[167],[DB 0,DC 0])]
def gB2:List xD:=[((cV tB wB 2 (RW 2) [112] []),[],[DA 2]),((cV tB wB 1 (RW 2) [112] []),[],[DA 1]),((cV tB wB 0 (RW 2) [112] []),[],[DA 0])]
def gF3:List xD:=[((cV tB wB 3 (yG 3) [165,166,167] [167]),[167],[DB 3,DC 3]),((cV tB wB 2 (yG 3) [165,166,167] [167]),[167],[DB 2,DC 2]),((cV tB wB 1 (yG 3) [165,166,167] [167]),[167],[DB 1,DC 1]),((cV tB wB 0 (yG 3) [165,166,167] [167]),[167],[DB 0,DC 0])]
def gB3:List xD:=[((cV tB wB 3 (RW 3) [112] []),[],[DA 3]),((cV tB wB 2 (RW 3) [112] []),[],[DA 2]),((cV tB wB 1 (RW 3) [112] []),[],[DA 1]),((cV tB wB 0 (RW 3) [112] []),[],[DA 0])]
def gF4:List xD:=[((cV tB wB 4 (yG 4) [165,166,167] [167]),[167],[DB 4,DC 4]),((cV tB wB 3 (yG 4) [165,166,167] [167]),[167],[DB 3,DC 3]),((cV tB wB 2 (yG 4) [165,166,167] [167]),[167],[DB 2,DC 2]),((cV tB wB 1 (yG 4) [165,166,167] [167]),[167],[DB 1,DC 1]),((cV tB wB 0 (yG 4) [165,166,167] [167]),[167],[DB 0,DC 0])]
def gB4:List xD:=[((cV tB wB 4 (RW 4) [112] []),[],[DA 4]),((cV tB wB 3 (RW 4) [112] []),[],[DA 3]),((cV tB wB 2 (RW 4) [112] []),[],[DA 2]),((cV tB wB 1 (RW 4) [112] []),[],[DA 1]),((cV tB wB 0 (RW 4) [112] []),[],[DA 0])]
def gF5:List xD:=[((cV tB wB 5 (yG 5) [165,166,167] [167]),[167],[DB 5,DC 5]),((cV tB wB 4 (yG 5) [165,166,167] [167]),[167],[DB 4,DC 4]),((cV tB wB 3 (yG 5) [165,166,167] [167]),[167],[DB 3,DC 3]),((cV tB wB 2 (yG 5) [165,166,167] [167]),[167],[DB 2,DC 2]),((cV tB wB 1 (yG 5) [165,166,167] [167]),[167],[DB 1,DC 1]),((cV tB wB 0 (yG 5) [165,166,167] [167]),[167],[DB 0,DC 0])]
def gB5:List xD:=[((cV tB wB 5 (RW 5) [112] []),[],[DA 5]),((cV tB wB 4 (RW 5) [112] []),[],[DA 4]),((cV tB wB 3 (RW 5) [112] []),[],[DA 3]),((cV tB wB 2 (RW 5) [112] []),[],[DA 2]),((cV tB wB 1 (RW 5) [112] []),[],[DA 1]),((cV tB wB 0 (RW 5) [112] []),[],[DA 0])]
def gEq:List xD:=[((cV tB wB 0 (yG 6) [71] []),[],l71)]
def gPp:List xD:=[(xPa,[139,140,197,206,262],lPa),(xPc,[],lPc),(xPd,inQ,lPd)]
def gE1:List xD:=[(xE1,[],lE1)]
def gE3:List xD:=[(xV,[],l30)]
def gZ0:List xD:=[((cS 0 (pZ 0) [29] []),[],[Td 0])]
def gZ1:List xD:=[((cS 1 (pZ 1) [29] []),[],[Td 1]),((cS 0 (pZ 1) [29] []),[],[Td 0])]
def gZ2:List xD:=[((cS 2 (pZ 2) [29] []),[],[Td 2]),((cS 1 (pZ 2) [29] []),[],[Td 1]),((cS 0 (pZ 2) [29] []),[],[Td 0])]
def gZ3:List xD:=[((cS 3 (pZ 3) [29] []),[],[Td 3]),((cS 2 (pZ 3) [29] []),[],[Td 2]),((cS 1 (pZ 3) [29] []),[],[Td 1]),((cS 0 (pZ 3) [29] []),[],[Td 0])]
def gZ4:List xD:=[((cS 4 (pZ 4) [29] []),[],[Td 4]),((cS 3 (pZ 4) [29] []),[],[Td 3]),((cS 2 (pZ 4) [29] []),[],[Td 2]),((cS 1 (pZ 4) [29] []),[],[Td 1]),((cS 0 (pZ 4) [29] []),[],[Td 0])]
def gW0:List xD:=[((cS 0 (pZ 5) [55] []),[],[Dn 0])]
def gW1:List xD:=[((cS 0 pS3 [55] []),[],[Dn 0]),((cS 1 pS3 [55] []),[],[Dn 1])]
def gW2:List xD:=[((cS 0 pS4 [55] []),[],[Dn 0]),((cS 1 pS4 [55] []),[],[Dn 1]),((cS 2 pS4 [55] []),[],[Dn 2])]
def gW3:List xD:=[((cS 0 pS5 [55] []),[],[Dn 0]),((cS 1 pS5 [55] []),[],[Dn 1]),((cS 2 pS5 [55] []),[],[Dn 2]),((cS 3 pS5 [55] []),[],[Dn 3])]
def gW8:List xD:=[((cS 3 pS6 [8,23] [23]),[23],[c8])]
def aWu:List xD:=[((cS 0 pS7 [12] []),[],[c12])]
def gE4:List xD:=[(xN,tN,[c31])]
def gM1:List xD:=[(xM,[],lM)]
end
open Go.Ps
variable[Inhabited Prd]
theorem WV:∀(k u:Nat) (acc:gU),(Ng k u acc).length<=k+acc.length
 |0,_,acc=>by simp[Ng]
 |k+1,u,acc=>by
  unfold Ng;split
  .simp;omega
  .have:=WV k (u/10) (UInt8.ofNat (48+u%10)::acc);simp only[bL]at this;omega
theorem Ej(n:Int):(vS n).length<=21:=by
 unfold vS;split
 .have:=WV 20 n.natAbs [];simp at this⊢;omega
 .have:=WV 20 n.toNat [];simp at this;omega
theorem TK(c:gU):∀l:List UInt8,Lib.indexAny l c+1<=l.length
 |[]=>by simp[Lib.indexAny]
 |b::l=>by
  have ih:=TK c l;simp only[Lib.indexAny,bL];split
  .omega
  .split<;>omega
theorem aOv(s sep:gU):(Lib.cut s sep).1.length<=s.length/\(Lib.cut s sep).2.1.length<=s.length:=by
 unfold Lib.cut;split
 .exact⟨by simp only[dX];omega,by simp only[cY];omega⟩
 .exact⟨aZ _,by simp⟩
theorem bAq(s:gU):HG .i64 (aV s):=by
 unfold aV;split
 .rename_i v h;have:=Lib.atoiAll_bounds h;exact wY (by omega)
 .unfold Lib.atoiSat;split<;>exact wY (by omega)
 .exact wY (by omega)
theorem EX{k:Nat}{pe:gG}{H:Hp}{f:gV}{ts:fU}(h:mapO (qJ k ⟨0,.nl⟩) ts=some ts){r:T}(hr:pe f ts=some r):uH k pe H f ts=some r:=by
 unfold uH;rw[h];exact hr
theorem aYb:PeA (uH 40 peZ) peS:=by
 intro f xs n cs v h U O H ts hs hg;unfold peS at h;split at h
 .rename_i hf;have hf:=pX hf;subst hf;split at h
  .rename_i s b;split at h
   .rename_i hb;have hb:=Hy hb;subst hb;split at h
    .rename_i x c hl;split at h
     .rename_i hle;cases h;obtain⟨t,r,rfl,g1,g2⟩:=hg.inv_cons;obtain⟨u,r',rfl,g3,g4⟩:=g2.inv_cons;rw[g4.inv_nil];cases g3;obtain⟨l,w,rfl,e1,e2⟩:=xK hs.zero g1 hl;have hle:=qB hs.cs hle e1 hs.zero;have hi:=TK Bf l;have hj:=Lib.indexAny_ge Bf l;refine⟨.int .i64 (Lib.indexAny l Bf),EX (by rfl) ?_,GG hs (wY (by omega)) ?_⟩
      .unfold peZ;rw[if_pos rfl];exact if_pos ⟨by omega,rfl⟩
      .obtain⟨n1,n2,n3,n4⟩:=hs.new (Lib.indexAny l Bf);exact .cons ⟨0,_,n4,n2,by omega⟩ (.cons ⟨_,w,n2,n1 _ _ e1,by omega⟩ (.cons ⟨_,0,n2,n4,by omega⟩ (hs.cs.ext n1)))
     .cases h
    .cases h
   .cases h
  .cases h
 .split at h
  .rename_i hf;have hf:=pX hf;subst hf;split at h
   .rename_i s t;split at h
    .rename_i x c y hl hl2;split at h
     .rename_i hle;cases h;obtain⟨t1,r,rfl,g1,g2⟩:=hg.inv_cons;obtain⟨u,r',rfl,g3,g4⟩:=g2.inv_cons;rw[g4.inv_nil];obtain⟨l,w,rfl,e1,e2⟩:=xK hs.zero g1 hl;obtain⟨l2,w2,rfl,e3,e4⟩:=xK hs.zero g3 (s:=y.1) (c:=y.2) (by simpa using hl2);have hle:=qB hs.cs hle e1 hs.zero;obtain⟨c1,c2⟩:=aOv l l2;refine⟨.tup [.str (Lib.cut l l2).1,.str (Lib.cut l l2).2.1,.bool (Lib.cut l l2).2.2],EX (by rfl) ?_,?_⟩
      .unfold peZ;rw[if_neg (by decide),if_pos rfl];exact if_pos (by omega)
      .obtain⟨n1,n2,n3,n4⟩:=hs.new ((Lib.cut l l2).1.length:Int);have hs1:Sy (U++[((Lib.cut l l2).1.length:Int)]) (n+1) (.le 0 n 0:: .le n x c::cs):=
        ⟨n3,n4,.cons ⟨0,_,n4,n2,by omega⟩ (.cons ⟨_,w,n2,n1 _ _ e1,by omega⟩ (hs.cs.ext n1))⟩
       obtain⟨m1,m2,m3,m4⟩:=hs1.new ((Lib.cut l l2).2.1.length:Int);refine⟨_,n1.trans m1,⟨m3,m4,?_⟩,.tup _ _ rfl ?_⟩
       .refine .cons ?_ (.cons ?_ (.cons ?_ (.cons ?_ (hs.cs.ext (n1.trans m1)))))
        .exact⟨0,_,m4,m1 _ _ n2,by omega⟩
        .exact⟨_,w,m1 _ _ n2,m1 _ _ (n1 _ _ e1),by omega⟩
        .exact⟨0,_,m4,m2,by omega⟩
        .exact⟨_,w,m2,m1 _ _ (n1 _ _ e1),by omega⟩
       .intro j a t ha ht
        match j,ha,ht with
        |0,ha,ht=>cases ha;cases ht;exact .str _ _ _ _ (m1 _ _ n2) (by omega)|1,ha,ht=>cases ha;cases ht;exact .str _ _ _ _ m2 (by omega)|2,ha,ht=>cases ha;cases ht;exact .bool _ _ (sY _)|j+3,ha,ht=>simp at ha
     .cases h
    .cases h
   .cases h
  .split at h
   .rename_i hf;have hf:=pX hf;subst hf;split at h
    .rename_i s;split at h
     .rename_i x c hl;split at h
      .rename_i hle;cases h;obtain⟨t1,r,rfl,g1,g2⟩:=hg.inv_cons;rw[g2.inv_nil];obtain⟨l,w,rfl,e1,e2⟩:=xK hs.zero g1 hl;have hle:=qB hs.cs hle e1 hs.zero;refine⟨.tup [.int .i64 (aV l),aE l],EX (by rfl) ?_,tT hs (.tup _ _ rfl ?_)⟩
       .unfold peZ;rw[if_neg (by decide),if_neg (by decide),if_pos rfl];exact if_pos (by omega)
       .intro j a t ha ht
        match j,ha,ht with
        |0,ha,ht=>
         cases ha;cases ht;have hb:=bAq l;exact .ival _ _ _ _ hb.1 hb.2 hb
        |1,ha,ht=>
         cases ha;cases ht;unfold aE;split
         .exact .or _ .nili _ (by simp) .nili
         .exact .or _ .ifc _ (by simp) (.ifc _ _)
        |j+2,ha,ht=>simp at ha
      .cases h
     .cases h
    .cases h
   .split at h
    .rename_i hf;have hf:=pX hf;subst hf;split at h
     .rename_i s;split at h
      .rename_i x c hl;split at h
       .rename_i hle;cases h;obtain⟨t1,r,rfl,g1,g2⟩:=hg.inv_cons;rw[g2.inv_nil];obtain⟨l,w,rfl,e1,e2⟩:=xK hs.zero g1 hl;have hle:=qB hs.cs hle e1 hs.zero;refine⟨.bool (Lib.validD l),EX (by rfl) ?_,.here hs (.bool _ _ (sY _))⟩;unfold peZ;rw[if_neg (by decide),if_neg (by decide),if_neg (by decide),if_pos rfl];exact if_pos (by omega)
       .cases h
      .cases h
     .cases h
    .split at h
     .rename_i hf;have hf:=pX hf;subst hf;split at h
      .rename_i s c;cases h;obtain⟨t1,r,rfl,g1,g2⟩:=hg.inv_cons;rw[g2.inv_nil];cases g1 with
       |int _ _ _ w e1 hk=>
       have hb:-9223372036854775808<=w+c/\w+c<=9223372036854775807:=hk;refine⟨.str (vS (w+c)),EX (by rfl) ?_,tT hs (.strv _ _ _ (by omega) ?_)⟩
       .unfold peZ;rw[if_neg (by decide),if_neg (by decide),if_neg (by decide),if_neg (by decide),if_pos rfl];exact if_pos hb
       .have:=Ej (w+c);omega
      .cases h
     .cases h
end Go.Proofs.Tryz
namespace Go.Proofs.Tryz
open Go.Ps
theorem bFr(l:Bool)(k:Int):28<=Cal.mdL l k/\Cal.mdL l k<=31:=by
 unfold Cal.mdL;repeat' split
 all_goals omega
theorem aYi(l:Bool)(k:Int):Cal.remL l k<=366:=by
 unfold Cal.remL;repeat' split
 all_goals omega
theorem Dr(m:Int)(te:fS)(q:Int){y:Int}(hy1:1<=y)(hy2:y<=9999):∀(d:Nat) (k n:Int),(13-k).toNat<=d->1<=k->k<=12->0<=n->n<Cal.remL (UV y) k->
  ∃k' n',(zW m te q).run (d+1) (.l1 y k n)=some (.tup [.int .i64 y,.int .i64 k',.int .i64 n',.int .i64 0])/\1<=k'/\k'<=12/\1<=n'/\n'<=31
 |d,k,n,hd,h1,h2,h3,h4=>by
  have hm:=bFr (UV y) k;have hrl:=aYi (UV y) k;have hK:MX m te q y k n=true:=by
   unfold MX;refine VI (λe=> ?_) (λe=> ?_)
   .simp only[QO,qA,e];simp[h1,h2]
   .simp only[QP,qA,e];simp[h1,h2]
  rw[vO.run_succ,show(zW m te q).step (.l1 y k n)=some (JP m te q y k n)from aNo m te q y k n hK];show∃k' n',(zW m te q).fin d (JP m te q y k n)=_ /\_;unfold JP;have hs:=Cal.rem_step (l:=UV y) h1 h2;by_cases hc:n>=Cal.mdL (UV y) k
  .rw[if_pos (by simpa using hc),vO.fin_inl,w64 (by omega) (by omega),w64 (by omega) (by omega)];have hk:k+1<=12:=by
    refine dG λhn=> ?_;rw[Cal.rem_end _ (k:=k+1) (by omega)]at hs;omega
   obtain⟨d',rfl⟩:∃d',d=d'+1:=⟨d-1,by omega⟩;exact Dr m te q hy1 hy2 d' (k+1) (n-Cal.mdL (UV y) k) (by omega) (by omega) hk (by omega) (by omega)
  .rw[if_neg (by simpa using hc),w64 (by omega) (by omega)];exact⟨k,n+1,rfl,h1,h2,by omega,by omega⟩
 termination_by d=>d
theorem aKf{y:Int}(h1:1<=y)(h2:y<=9999):UV y=Cal.leap y:=by
 unfold UV Aw;rw[decide_eq_true h1,decide_eq_true h2];rfl
theorem Mx(m:Int)(te:fS)(q n:Int)(hn:0<=n)(hn2:n<=4000000):∀(d:Nat) (y:Int),y.toNat=d->1<=y->y<=9999->n<Cal.bfZ (y+1)->
  ∃y' k' n',(zW m te q).run (d+20) (.l0 y n)=some (.tup [.int .i64 y',.int .i64 k',.int .i64 n',.int .i64 0])/\1<=y'/\y'<=9999/\1<=k'/\k'<=12/\1<=n'/\n'<=31
 |d,y,hd,h1,h2,h3=>by
  have hb:=Cal.bf_nn h1 (by omega);have hK:MW m te q y n=true:=by
   unfold MW;have hy3:y<=10000:=by omega
   refine VI (λe=> ?_) (λe=> ?_)
   .simp only[QM,qA,e];simp[h1,hy3]
   .simp only[QN,qA,e];simp[h1,hy3]
  rw[show d+20=(d+19)+1 by omega,vO.run_succ,show(zW m te q).step (.l0 y n)=some (JO m te q y n)from aNn m te q y n hK];show∃y' k' n',(zW m te q).fin (d+19) (JO m te q y n)=_ /\_;unfold JO;by_cases hc:Cal.bfZ y>n
  .rw[if_pos (by simpa using hc),vO.fin_inl,w64 (by omega) (by omega)];have hy:2<=y:=by
    refine dG λhq=> ?_;obtain rfl:y=1:=by omega
    rw[Cal.bf_one]at hc;omega
   obtain⟨d',rfl⟩:∃d',d=d'+1:=⟨d-1,by omega⟩;have:=Mx m te q n hn hn2 d' (y-1) (by omega) (by omega) (by omega) (by rw[Int.sub_add_cancel];exact hc)
   rwa [show d'+1+19=d'+20 by omega]
  .rw[if_neg (by simpa using hc),vO.fin_inl,w64 (by omega) (by omega)];have hs:=Cal.bf_succ h1
   obtain⟨k',n',e,q1,q2,q3,q4⟩:=Dr m te q h1 h2 (d+18) 1 (n-Cal.bfZ y) (by omega) (by omega) (by omega) (by omega) (by
    rw[Cal.rem_one,aKf h1 h2]
    omega)
   exact⟨y,k',n',e,h1,h2,q1,q2,q3,q4⟩
 termination_by d=>d
variable(m:Int)(te:fS)
theorem aHo(q:Int)(hq:-9223372036854775808<=q/\q<=9223372036854775807):
  ∃y k n e,pW prog (glZ m te) 309 [.int .i64 q] (.tup [.int .i64 y,.int .i64 k,.int .i64 n,.int .i64 e])/\(0<=y/\y<=9999)/\(0<=k/\k<=12)/\(0<=n/\n<=31)/\0<=e/\e<=255:=by
 have hK:Hi m te q=true:=by
  unfold Hi;refine VI (λe=> ?_) (λe=> ?_)
  .simp only[QQ,qA,e];rfl
  .simp only[QR,qA,e];rfl
 by_cases hi:Aw q (-719162) 2932896=true
 .have hi':=hi;unfold Aw at hi';simp only[aA,aJ]at hi';have e1:i64.wrap (q- -719162)=q+719162:=by rw[w64 (by omega) (by omega)];omega
  have e2:(q+719162).tdiv 365=(q+719162)/365:=Cal.tdiv_nn (by omega);have hst:=Cal.bf_start (n:=q+719162) (by omega) (by omega);obtain⟨Y,hY⟩:∃Y,min ((q+719162)/365+1) 9999=Y:=⟨_,rfl⟩;rw[hY]at hst;obtain⟨y',k',n',e,p1,p2,p3,p4,p5,p6⟩:=Mx m te q (q+719162) (by omega) (by omega) Y.toNat Y rfl (by omega) (by omega) hst;refine⟨y',k',n',0,aTj m te q _ hK (?_ :(zW m te q).fin (Y.toNat+20) _ =_),⟨by omega,p2⟩,⟨by omega,p4⟩,⟨by omega,p6⟩,by omega,by omega⟩;unfold Hn;rw[if_neg (by simp[hi]),vO.fin_inl,e1,e2,w64 (x:=(q+719162)/365) (by omega) (by omega),w64 (x:=(q+719162)/365+1) (by omega) (by omega)];rw[show(if 9999<(q+719162)/365+1 then 9999 else(q+719162)/365+1)=Y by rw[<-hY];split<;>omega];exact e
 .refine⟨0,0,0,2,aTj m te q 0 hK ?_,by omega,by omega,by omega,by omega,by omega⟩;unfold Hn;rw[if_pos (by simpa using hi)];rfl
variable[Inhabited Prd]
theorem aKm(q s:Int)(hq:-9223372036854775808<=q/\q<=9223372036854775807):
  ∃t e,pW prog (glZ m te) 259 [.agg [.int .i64 q,.int .i64 s]] (.tup [.str t,.int .i64 e])/\t.length<=40/\0<=e/\e<=255:=by
 by_cases hc:zT q s=0
 .obtain⟨h1,h2,h3,h4⟩:=Dq.1 hc;have ha0:-9223372036854775808<=wP q:=by
   unfold wP;split
   .rw[IntKind.wrap_i64];omega
   .omega
  have ha1:wP q<=9223372036854775807:=by unfold mxN at h1;omega
  have hl:=Ej (wP q);have hK:MV m te q s=true/\∃t,NA m te q s= .inr (.tup [.str t,.int .i64 0])/\t.length<=40:=by
   unfold MV NA EU JX JY JZ KA RB KC zc zd;have hd1:decide (-9223372036854775808<=wP q)=true:=decide_eq_true ha0;have hd2:decide (wP q<=9223372036854775807)=true:=decide_eq_true ha1;simp only[hd1,hd2,hc];generalize vS (wP q)=A at hl;have e1:i64.wrap (s+1)=s+1:=w64 (by omega) (by omega);have e2:i64.wrap (s+1-(A.length:Int))=s+1-(A.length:Int):=w64 (by omega) (by omega);simp only[e1,e2];obtain⟨c,hcc⟩:∃c,(if 0<s+1-(A.length:Int)then s+1-(A.length:Int)else 0)=c:=⟨_,rfl⟩;have hc0:0<=c/\c<=13/\s+1<=c+(A.length:Int):=by rw[<-hcc];split<;>omega
   simp only[hcc];have hZ:(Lib.repeatL [48] c.toNat).length=c.toNat:=by rw[Lib.repeatL_length];simp
   generalize Lib.repeatL [48] c.toNat=Z at hZ;have hS:(Z++A).length=Z.length+A.length:=bI;have e3:i64.wrap (((Z++A).length:Int)-s)=((Z++A).length:Int)-s:=w64 (by omega) (by omega);simp only[e3];have hlen:(Z.length:Int)=c:=by omega
   simp only[show((0:Int) !=0)=false from rfl,aY,if_false];by_cases p1:s>0
   .simp only[show decide (s>0)=true from decide_eq_true p1,if_true];generalize Z++A=S at hS;have b1:0<=(S.length:Int)-s:=by omega
    have b2:(S.length:Int)-s<=(S.length:Int):=by omega
    have l1:(List.drop 0 (List.take ((S.length:Int)-s).toNat S)).length=((S.length:Int)-s).toNat:=by simp;omega
    have l2:(List.drop ((S.length:Int)-s).toNat (List.take S.length S)).length=s.toNat:=by simp;omega
    have l3:(List.drop 0 (List.take ((S.length:Int)-s).toNat S)++[46]).length=((S.length:Int)-s).toNat+1:=by rw[bI,l1];rfl
    have l4:(List.drop 0 (List.take ((S.length:Int)-s).toNat S)++[46]++List.drop ((S.length:Int)-s).toNat (List.take S.length S)).length=((S.length:Int)-s).toNat+1+s.toNat:=by rw[bI,l3,l2]
    by_cases p2:q<0
    .simp only[show decide (q<0)=true from decide_eq_true p2,if_true];refine⟨?_,_,rfl,?_⟩
     .simp only[qA,l1,l2,l3,l4,aA,aJ];simp[xA,p1,p2];omega
     .simp only[bL,l4];omega
    .simp only[show decide (q<0)=false from decide_eq_false p2,aY,if_false];refine⟨?_,_,rfl,?_⟩
     .simp only[qA,l1,l2,l3,l4,aA,aJ];simp[xA,p1,p2];omega
     .rw[l4];omega
   .simp only[show decide (s>0)=false from decide_eq_false p1,aY,if_false];by_cases p2:q<0
    .simp only[show decide (q<0)=true from decide_eq_true p2,if_true];refine⟨?_,_,rfl,?_⟩
     .simp only[qA,aA,aJ];simp[xA,p1,p2];omega
     .simp only[bL];omega
    .simp only[show decide (q<0)=false from decide_eq_false p2,aY,if_false];refine⟨?_,_,rfl,?_⟩
     .simp only[qA,aA,aJ];simp[xA,p1,p2]
     .omega
  obtain⟨k1,t,k2,k3⟩:=hK;exact⟨t,0,aTi m te q s 0 k1 (by rw[k2];rfl),k3,by omega,by omega⟩
 .refine⟨[],zT q s,aTi m te q s 0 ?_ ?_,by simp,?_⟩
  .unfold MV EU;rw[if_pos (by simpa using hc)];simp[qA,hc]
  .unfold NA;rw[if_pos (by simpa using hc)];rfl
  .unfold zT;split<;>omega
end Go.Proofs.Tryz
namespace Go.Proofs.Tryz
open Go.Ps
def pureT(t:T):Prop:=∀(k:Nat) (H:Hp),20<=k->qJ k H t=some t
def VE:Nat->T->Prop
 |0,_ =>False|d+1,t=>∃(k:Int) (x y v a:T) (vs es:fU),t= .agg [.int .i64 k,x,y,v,a]/\CK v vs/\CK a es/\1<=k/\k<=28/\aDe k<=(es.length:Int)/\(k=1->vs.length=1)/\∀u∈es,VE d u
theorem Jl{t:T}{xs ys:fU}(h:CK t xs)(h':CK t ys):xs=ys:=by
 rcases h with⟨rfl,rfl⟩|⟨f,rfl⟩|⟨full,n,f,rfl,rfl⟩<;>rcases h' with⟨h,rfl⟩|⟨f',h⟩|⟨full',n',f',h,rfl⟩<;>cases h<;>rfl
variable[Inhabited Prd]
def okN(x:T):Prop:=∃n s:Int,x= .agg [.int .i64 n,.int .i64 s]/\-999999999999999<=n/\n<=999999999999999/\0<=s/\s<=12
def badNs(t:T):Prop:=∃xs,CK t xs/\∃x∈xs,¬okN x
structure Is:Prop where
 n:∀t:T,(default:Prd).q 20 t↔badNs t/\pureT t
 v:∀(d:Nat) (t:T),d<=5->((default:Prd).q (100+d) t↔VE d t/\pureT t)
 b:∀(d:Nat) (t:T),d<=5->((default:Prd).q (200+d) t↔¬VE d t/\pureT t)
variable{U:gJ}{O:fW}
theorem OV{a:A}{t:T}(h:qY 20 a=true)(hg:Gm U O a t):pureT t:=λk H hk=>EE 20 a t h hg k hk
theorem FM{es:List A}{ts:fU}(h:qO U O es ts):Gm U O (.agg es) (.agg ts):= .agg es ts h.1 h.2
theorem qC{a:A}{es:List A}{t:T}{ts:fU}(h:Gm U O a t)(h':qO U O es ts):qO U O (a::es) (t::ts):=by
 refine⟨by simp[h'.1],λj x y hx hy=> ?_⟩;cases j with
 |zero=>cases hx;cases hy;exact h|succ j=>exact h'.2 j x y (by simpa using hx) (by simpa using hy)
theorem vX:qO U O [] []:=⟨rfl,λj x y hx hy=>by simp at hx⟩
theorem aTt{o sx st va ar:A}{t:T}(h:Gm U O (.agg [o,sx,st,va,ar]) t):∃x0 x1 x2 x3 x4,t= .agg [x0,x1,x2,x3,x4]/\Gm U O o x0/\Gm U O sx x1/\Gm U O st x2/\Gm U O va x3/\Gm U O ar x4:=by
 cases h with
 |agg _ ts h1 h2=>
 obtain⟨a0,r0,rfl,g0,h⟩:=(show qO U O _ ts from⟨h1,h2⟩).inv_cons;obtain⟨a1,r1,rfl,g1,h⟩:=h.inv_cons;obtain⟨a2,r2,rfl,g2,h⟩:=h.inv_cons;obtain⟨a3,r3,rfl,g3,h⟩:=h.inv_cons;obtain⟨a4,r4,rfl,g4,h⟩:=h.inv_cons;obtain rfl:=h.inv_nil;exact⟨a0,a1,a2,a3,a4,rfl,g0,g1,g2,g3,g4⟩
theorem Vp{o sx st va ar:A}{x0 x1 x2 x3 x4:T}(g0:Gm U O o x0)(g1:Gm U O sx x1)(g2:Gm U O st x2)(g3:Gm U O va x3)(g4:Gm U O ar x4):Gm U O (.agg [o,sx,st,va,ar]) (.agg [x0,x1,x2,x3,x4]):=
 FM (qC g0 (qC g1 (qC g2 (qC g3 (qC g4 vX)))))
theorem inv_int{t:T}(h:Gm U O ifull t):∃n:Int,t= .int .i64 n/\-9223372036854775808<=n/\n<=9223372036854775807:=by
 unfold ifull at h;cases h with
 |ival _ _ _ n h1 h2 h3=>exact⟨n,rfl,h1,h2⟩
theorem AE{n lo hi:Int}(h1:lo<=n)(h2:n<=hi)(h3:-9223372036854775808<=n)(h4:n<=9223372036854775807):Gm U O (.ival .i64 lo hi) (.int .i64 n):= .ival _ _ _ _ h1 h2 ⟨h3,h4⟩
theorem GD{e:A}{lo hi:Int}{t:T}(h:Gm U O (.slv e lo hi) t):∃xs,CK t xs/\lo<=(xs.length:Int)/\(xs.length:Int)<=hi/\∀x∈xs,Gm U O e x:=by
 cases h with
 |slv _ _ _ _ xs h1 h2 h3 h4=>exact⟨xs,h1,h2,h3,h4⟩
theorem aTl(d:Nat):eA d=[ifull,ifull,txt 60,vsl 0 2,Mr d 0 4]:=by
 cases d<;>rfl
theorem Zd{d:Nat}{t:T}(h:Gm U O (Mr d 0 4) t):∃xs,CK t xs/\(d=0->xs=[])/\(xs.length:Int)<=4/\∀x∈xs,∀e,d=e+1->Gm U O (.agg (eA e)) x:=by
 cases d with
 |zero=>
  obtain⟨xs,h1,h2,h3,h4⟩:=GD (show Gm U O (.slv (.agg a5) 0 0) t from h);have:xs=[]:=dR.1 (by omega);exact⟨xs,h1,λ_ =>this,by omega,λx hx=>by rw[this]at hx;simp at hx⟩
 |succ d=>
  obtain⟨xs,h1,h2,h3,h4⟩:=GD (show Gm U O (.slv (.agg (eA d)) 0 4) t from h);exact⟨xs,h1,(by intro q;cases q),h3,λx hx e he=>by cases he;exact h4 x hx⟩
theorem aXq{d:Nat}{t:T}{xs:fU}{lo hi:Int}(h1:CK t xs)(h2:d=0->xs=[])(h3:∀x∈xs,∀e,d=e+1->Gm U O (.agg (eA e)) x)(h4:lo<=(xs.length:Int))(h5:(xs.length:Int)<=hi):Gm U O (Mr d lo hi) t:=by
 cases d with
 |zero=>
  have:=h2 rfl;subst this;exact .slv _ _ _ _ [] h1 (by simp) (by simp) (by simp)
 |succ d=>exact .slv _ _ _ _ xs h1 h4 h5 (λx hx=>h3 x hx d rfl)
theorem aYd:((List.range 5).all λd=>qY 20 (.agg (eA d)))=true:=by kernel_rfl
theorem pureE(d:Nat)(hd:d<=4):qY 20 (.agg (eA d))=true:=aH.1 aYd d (dJ.2 (by omega))
theorem aQu{k:Int}(h1:1<=k)(h2:k<=28)(h:0<aDe k):k∈aXy:=by
 have hk:k=1\/k=2\/k=3\/k=4\/k=5\/k=6\/k=7\/k=8\/k=9\/k=10\/k=11\/k=12\/k=13\/k=14\/k=15\/k=16\/k=17\/k=18\/k=19\/k=20\/k=21\/k=22\/k=23\/k=24\/k=25\/k=26\/k=27\/k=28:=by omega
 rcases hk with rfl|rfl|rfl|rfl|rfl|rfl|rfl|rfl|rfl|rfl|rfl|rfl|rfl|rfl|rfl|rfl|rfl|rfl|rfl|rfl|rfl|rfl|rfl|rfl|rfl|rfl|rfl|rfl<;>first|exact absurd h (by decide)|(unfold aXy;decide)
theorem aWc(hI:Is){d:Nat}(hd:d<=4){t:T}(hg:Gm U O (.prd (100+d+1) (eA d)) t):∃k∈IZ d,Gm U O (.agg (okE d k)) t:=by
 cases hg with
 |prd _ _ ts hq h1 h2=>
 obtain⟨hv,hp⟩:=(hI.v (d+1) _ (by omega)).1 hq;have hg:Gm U O (.agg (eA d)) (.agg ts):= .agg _ _ h1 h2;rw[aTl]at hg;obtain⟨x0,x1,x2,x3,x4,e,g0,g1,g2,g3,g4⟩:=aTt hg;cases e;obtain⟨vs',v1',v2,v3,v4⟩:=GD (show Gm U O (.slv (.agg (vA 40 6 1)) 0 2) x3 from g3);obtain⟨es',a1',a2,a3,a4⟩:=Zd g4;obtain⟨k,y1,y2,y3,y4,vs,es,e,v1,a1,k1,k2,k3,k4,k5⟩:=hv;cases e;obtain rfl:=Jl v1 v1';obtain rfl:=Jl a1 a1';have gv:Gm U O (if k=1 then vsl 1 1 else vsl 0 2) x3:=by
  split
  .rename_i c;have:=k4 c;exact .slv _ _ _ _ vs v1 (by omega) (by omega) v4
  .exact g3
 have ga:Gm U O (bAr d (aDe k)) x4:=by
  cases d with
  |zero=>
   have:=a2 rfl;subst this;exact .slv _ _ _ _ [] a1 (by simp) (by simp) (by simp)
  |succ e=>
   refine .slv _ _ _ _ es a1 k3 a3 λx hx=> ?_;have hg:=a4 x hx e rfl;have hq:=(hI.v (e+1) x (by omega)).2 ⟨k5 x hx,OV (pureE e (by omega)) hg⟩;cases hg with
   |agg _ ts h1 h2=>exact .prd _ _ _ hq h1 h2
 refine⟨k,?_,Vp (AE (fR _) (fR _) (by omega) (by omega)) g1 g2 gv ga⟩;have hk:k=1\/k=2\/k=3\/k=4\/k=5\/k=6\/k=7\/k=8\/k=9\/k=10\/k=11\/k=12\/k=13\/k=14\/k=15\/k=16\/k=17\/k=18\/k=19\/k=20\/k=21\/k=22\/k=23\/k=24\/k=25\/k=26\/k=27\/k=28:=by omega
 cases d with
 |zero=>
  rw[a2 rfl]at k3;rcases hk with rfl|rfl|rfl|rfl|rfl|rfl|rfl|rfl|rfl|rfl|rfl|rfl|rfl|rfl|rfl|rfl|rfl|rfl|rfl|rfl|rfl|rfl|rfl|rfl|rfl|rfl|rfl|rfl<;>first|exact absurd k3 (by decide)|(unfold IZ;decide)
 |succ e=>rcases hk with rfl|rfl|rfl|rfl|rfl|rfl|rfl|rfl|rfl|rfl|rfl|rfl|rfl|rfl|rfl|rfl|rfl|rfl|rfl|rfl|rfl|rfl|rfl|rfl|rfl|rfl|rfl|rfl<;>simp[IZ]
theorem cls(hI:Is){d:Nat}(hd:d<=4){t:T}(hg:Gm U O (.agg (eA d)) t)(hb:¬VE (d+1) t):
  (∃r∈aLo d,Gm U O (.agg r) t)\/∃e n i,d=e+1/\i<n/\n<=4/\Gm U O (.agg (aQe e n i)) t:=by
 rw[aTl]at hg;obtain⟨x0,x1,x2,x3,x4,rfl,g0,g1,g2,g3,g4⟩:=aTt hg;obtain⟨k,rfl,k1,k2⟩:=inv_int g0;obtain⟨vs,v1,v2,v3,v4⟩:=GD (show Gm U O (.slv (.agg (vA 40 6 1)) 0 2) x3 from g3);obtain⟨es,a1,a2,a3,a4⟩:=Zd g4;by_cases c1:k<=0
 .exact .inl ⟨_,aL,Vp (AE k1 c1 k1 k2) g1 g2 g3 g4⟩
 by_cases c2:29<=k
 .exact .inl ⟨_,aG _ aL,Vp (AE c2 k2 k1 k2) g1 g2 g3 g4⟩
 by_cases c3:aDe k<=(es.length:Int)
 .by_cases c4:k=1->vs.length=1
  .have hu:∃u∈es,¬VE d u:=by
    refine dG λhn=>hb ⟨k,x1,x2,x3,x4,vs,es,rfl,v1,a1,by omega,by omega,c3,c4,λu hu=> ?_⟩;exact dG λq=>hn ⟨u,hu,q⟩
   obtain⟨u,hu,hn⟩:=hu;obtain⟨i,hi,rfl⟩:=cO hu;cases d with
   |zero=>have:=a2 rfl;subst this;simp at hi
   |succ e=>
    refine .inr ⟨e,es.length,i,rfl,hi,by omega,Vp g0 g1 g2 g3 (.slk _ _ es a1 (by simp) λj a t ha ht=> ?_)⟩;obtain⟨hj,rfl⟩:=aO.1 ht;have hg:=a4 _ (cK hj) e rfl;rw[bA,dP hj]at ha;cases ha;by_cases hji:j=i
    .subst hji;show Gm U O (if Nat.beq j j=true then .prd (200+e+1) (eA e)else .agg (eA e)) _;rw[if_pos (by simp)];have hq:=(hI.b (e+1) es[j] (by omega)).2 ⟨hn,OV (pureE e (by omega)) hg⟩;generalize es[j]=u at hg hq;cases hg with
     |agg _ ts h1 h2=>exact .prd _ _ _ hq h1 h2
    .show Gm U O (if Nat.beq j i=true then .prd (200+e+1) (eA e)else .agg (eA e)) _;rw[if_neg (by simpa using hji)];exact hg
  .obtain⟨c5,c6⟩:k=1/\¬vs.length=1:=⟨dG λq=>c4 λe=>absurd e q,λq=>c4 λ_ =>q⟩;subst c5;have:vs.length=0\/vs.length=2:=by omega
   rcases this with c|c
   .exact .inl ⟨_,aG _ (aG _ aL),Vp (AE (by omega) (by omega) k1 k2) g1 g2 (.slv _ _ _ _ vs v1 (by omega) (by omega) v4) g4⟩
   .exact .inl ⟨_,aG _ (aG _ (aG _ aL)),Vp (AE (by omega) (by omega) k1 k2) g1 g2 (.slv _ _ _ _ vs v1 (by omega) (by omega) v4) g4⟩
 .have hm:=aQu (k:=k) (by omega) (by omega) (by omega);refine .inl ⟨_,aG _ (aG _ (aG _ (aG _ (eB hm)))),Vp (AE (by omega) (by omega) k1 k2) g1 g2 g3 (aXq a1 a2 a4 (by omega) (by omega))⟩
end Go.Proofs.Tryz
namespace Go.Ps
def pl1:T->Bool
 | .int .. | .bool _ | .str _ | .nilp| .nils| .nilf| .nili| .nilm| .slf .. =>true|_ =>false
theorem aRv{g:G}{u:gQ}{c:T}(h:pl1 c=true)(hr:Rd g u c):HH g u c:=by
 cases hr with
 |int k n=>exact .int k n|bool b=>exact .bool b|str s=>exact .str s|nilp=>exact .nilp|nils=>exact .nils|nilf=>exact .nilf|nili=>exact .nili|nilm=>exact .nilm|slfn full f p=>exact .slfn full f p|slf full n f sz b o cap vs h1 h2 h3 h4 h5 h6 h7 h8=>exact .slf full n f sz b o cap vs h1 h2 h3 h4 h5 h6 h7 h8|_ =>simp[pl1]at h
def flT:T->Bool
 | .sl b _ =>b| .slf b _ _ =>b|_ =>true
theorem aAn{g:G}{v:gQ}{t:T}{xs:fU}{f:gZ}(hx:CK t xs)(h:Rd g v t)(hs:∀x∈xs,∀c∈x.cells,pl1 c=true)(hf:∀i,i<xs.length->xs[i]? =some (f i)):Rd g v (.slf (flT t) xs.length f):=by
 rcases hx with⟨rfl,rfl⟩|⟨full,rfl⟩|⟨full,n,f',rfl,rfl⟩
 .cases h;exact .slfn true f _
 .cases h with
  |sl _ _ sz b o cap vs h1 h2 h3 h4 h5 h6 h7 h8=>
   refine .slf full xs.length f sz b o cap vs (λq=>h1 (λe=>q (by simp[e]))) (λi hi=>h2 _ (bB (hf i hi))) h3 h4 h5 h6 h7 (λi j u c hi hj hu hc=> ?_);have hm:=bB (hf i hi);have hr:=h8 _ u c hu (GP h2 (hf i hi) j c hc);exact aRv (hs _ hm c (bB hc)) hr
 .have hl:((List.range n).map f').length=n:=by simp
  have he:∀i,i<n->f i=f' i:=λi hi=>by
   have:=hf i (by omega);rw[bA,dP hi]at this;exact(bX this).symm
  rw[hl];cases h with
  |slfn _ _ p=>exact .slfn full f p
  |slf _ _ _ sz b o cap vs h1 h2 h3 h4 h5 h6 h7 h8=>
   exact .slf full n f sz b o cap vs h1 (λi hi=>by rw[he i hi];exact h2 i hi) h3 h4 h5 h6 h7 (λi j u c hi hj hu hc=>by rw[he i hi]at hc;exact h8 i j u c hi hj hu hc)
end Go.Ps
namespace Go.Proofs.Tryz
open Go.Ps
variable[Inhabited Prd]
theorem aRj(n s:Int)(h:zT n s=0):okN (.agg [.int .i64 n,.int .i64 s]):=by
 obtain⟨h1,h2,h3,h4⟩:=Dq.1 h;refine⟨n,s,rfl,h2,?_,h3,h4⟩;unfold wP mxN at h1;split at h1<;>omega
def bAo(ts:fU)(r:T):Prop:=∃e:Int,r= .int .i64 e/\0<=e/\e<=255/\(e=0->∀t xs,ts=[t]->CK t xs->∀x∈xs,okN x)
variable(m:Int)(te:fS)
theorem bRl{t:T}{xs:fU}(hx:CK t xs)(hl:(xs.length:Int)<=256)(hn:∀x∈xs,∃n s:Int,x= .agg [.int .i64 n,.int .i64 s]):∃r,pW prog (glZ m te) 287 [t] r/\bAo [t] r:=by
 have hex:∃f g:Nat->Int,∀i,i<xs.length->xs[i]? =some (.agg [.int .i64 (f i),.int .i64 (g i)]):=by
  refine⟨λi=>(match xs[i]? with|some (.agg [.int _ n,_])=>n|_ =>0),λi=>(match xs[i]? with|some (.agg [_,.int _ s])=>s|_ =>0),λi hi=> ?_⟩;obtain⟨n,s,e⟩:=hn xs[i] (cK hi);have:xs[i]? =some (.agg [.int .i64 n,.int .i64 s]):=by rw[aB hi,e]
  simp only[this]
 obtain⟨f,g,hfg⟩:=hex;have hp:∀x∈xs,∀c∈x.cells,pl1 c=true:=λx h c hc=>by
  obtain⟨n,s,rfl⟩:=hn x h;have hc:c∈[T.int .i64 n,T.int .i64 s]:=hc;simp only[aR,bR,or_false]at hc;rcases hc with rfl|rfl<;>rfl
 obtain⟨e,he,hb,h2⟩:=aOq m te (flT t) xs.length (by omega) f g;refine⟨.int .i64 e,⟨he.1,λG vs hg hN hgl hv=> ?_⟩,e,rfl,hb.1,hb.2,λhz t' xs' ht hx' x hm=> ?_⟩
 .obtain⟨v,rfl,hr⟩:∃v,vs=[v]/\Rd G v t:=by
   match vs,hv with
   |[v],hv=>exact⟨v,rfl,hv.2 0 v t rfl rfl⟩|[],hv=>have:=hv.1;simp at this|_ ::_ ::_,hv=>have:=hv.1;simp at this
  exact he.2 G [v] hg hN hgl (RdL.cons (aAn hx hr hp hfg) RdL.nil)
 .cases ht;obtain rfl:=Jl hx' hx;obtain⟨i,hi,rfl⟩:=cO hm;have:=hfg i hi;rw[aB hi]at this;rw[bX this];exact aRj _ _ (h2 hz i hi)
end Go.Proofs.Tryz
namespace Go.Proofs.Tryz
open Go.Ps
noncomputable section
section
variable(m:Int)(te:fS)
def sC(f:gV):List T->Option (T×List Bool)
 |[y]=>some (y,[pb (pW prog (glZ m te) f [y] y)])|_ =>none
def DG:Ed:=⟨glZ m te,rT 62 (sC m te 62) (rT 67 (sC m te 67) (rT 68 (sC m te 68) (λ_ _ _ =>none)))⟩
def F62:Fc:=⟨λs=>Nat.beq s 2||Nat.beq s 3,λ_ _ _ =>none⟩
def rsL(n:Nat)(f:gZ):T:=match n with
 |0=> .nils|n+1=> .sl false ((List.range (n+1)).map f)
theorem EG{g:G}{v:gQ}{n:Nat}{f:gZ}(hp:∀j,j<n->∀c∈(f j).cells,pl1 c=true)(h:Rd g v (rsL n f)):Rd g v (.slf false n f):=by
 cases n with
 |zero=>cases h;exact .slfn false f _
 |succ n=>
  have h':Rd g v (.sl false ((List.range (n+1)).map f)):=h
  have:=aAn (f:=f) (.inr (.inl ⟨false,rfl⟩)) h' (λx hx c hc=>by
   obtain⟨j,hj,rfl⟩:=bQ.1 hx
   exact hp j (dJ.1 hj) c hc) (λi hi=>by
   have hi:i<n+1:=by simpa using hi
   rw[bA,dP hi];rfl)
  have e:((List.range (n+1)).map f).length=n+1:=by simp
  rw[e]at this;exact this
theorem cxG(h67:True):Cx prog (DG m te) F62:=by
 have ok:∀{f:gV} {ts:fU} {r:T} {cs:gH},sC m te f ts=some (r,cs)->qA cs=true->pW prog (glZ m te) f ts r:=by
  intro f ts r cs h hc;unfold sC at h;split at h
  .cases h;simp only[qA,bC,rD]at hc;exact hc
  .cases h
 exact⟨follows,qN (qN (qN rR λts r cs h hc=>ok h hc) λts r cs h hc=>ok h hc) λts r cs h hc=>ok h hc,rG⟩
end
end
end Go.Proofs.Tryz
namespace Go.Ps
theorem AU.mono{P:fV}{E:tY}{ro:iB}{n:Nat}{c:Code}{fr:fU}{H:Hp}{Q Q':gR}(h:AU P E ro n c fr H Q)(k:∀x fr H,Q x fr H->Q' x fr H):AU P E ro n c fr H Q':=
 λg0 g H0 a ds hc R hno hR=>h g0 g H0 a ds hc R hno λx fr' H' a' g' hq=>hR x fr' H' a' g' (k _ _ _ hq)
end Go.Ps
namespace Go.Proofs.Tryz
open Go.Ps
noncomputable section
theorem aIn:∀(gs:iC) (i:Nat),(FU i gs).length=gs.length
 |[],_ =>rfl|a::gs,i=>by simp[FU,aIn gs (i+1)]
theorem aJy(gs:iC):wC [] (FU 0 gs)=FU 0 gs:=by
 unfold wC;exact List.filter_eq_self.2 λe _ =>rfl
theorem aPk{H:Hp}{l k:Nat}{L:gY}(q:Nat)(h:H.get l=some (obG L k))(hk:k<=12):qJ (q+2) H (.osl l 6 0 k)=some (.sl false ((List.range k).map λi=> .agg (L i).c)):=by
 simp only[qJ,h];rcases k with _ |_ |_ |_ |_ |_ |_ |_ |_ |_ |_ |_ |_ |k<;>first|omega|kernel_rfl
theorem ZF(done:gI):(List.range done.length).map (λi=>done.getD i 0)=done:=by
 refine List.ext_getElem (by simp) λi h1 h2=> ?_;simp[aW,h2]
def lD(gs:iC)(done:gI):Nat->Gr:=λi=>gs.getD (done.getD i 0) zG
theorem aSa(gs:iC)(done:gI):SD gs done=obG (lD gs done) done.length:=by
 unfold SD obG flG lD;congr 1
 conv=>lhs;rw[<-ZF done]
 rw[fD]
section
variable(m:Int)(te:fS)(a:Fl)(n:Nat)(w:iW)
def zS(o:T):List (Nat×T):=[(11,o)]
def zR(o:T):List (Nat×T):=[(4,o)]
def r18(F:Fc)(fr:fU)(H:Hp):RD (X×List T×Hp):=qE prog (Cc m te a n w) F m18 fr H [] []
theorem bQe(g:gZ)(H:Hp)(N:Nat):cX (r18 m te a n w Av (rQ (zB N .nils false) 80 g) H)=some (.normal,H)/\Te (r18 m te a n w Av (rQ (zB N .nils false) 80 g) H)=(pb (Bj=Bj)&&true)/\
  ED (r18 m te a n w Av (rQ (zB N .nils false) 80 g) H)=rQ (zS .nils) 80 (qR (ED (r18 m te a n w Av (rQ (zB N .nils false) 80 g) H))):=by
 refine⟨?_,?_,?_⟩<;>kernel_rfl
theorem bQf(g:gZ)(H:Hp)(N l k:Nat)(L:gY):cX (r18 m te a n w (F0S l k L H) (rQ (zB N (.osl l 6 0 k) false) 80 g) H)=some (.normal,H.put l (obG (AK k L) k))/\
  Te (r18 m te a n w (F0S l k L H) (rQ (zB N (.osl l 6 0 k) false) 80 g) H)=(pb ([T.osl l 6 0 k,Bj]=[.osl l 6 0 k,Bj])&&(pb (H=H)&&true))/\
  ED (r18 m te a n w (F0S l k L H) (rQ (zB N (.osl l 6 0 k) false) 80 g) H)=rQ (zS (.osl l 6 0 k)) 80 (qR (ED (r18 m te a n w (F0S l k L H) (rQ (zB N (.osl l 6 0 k) false) 80 g) H))):=by
 refine⟨?_,?_,?_⟩<;>kernel_rfl
theorem p19(E:tY)(g:gZ)(H:Hp)(o:T):sX (eV E m19 (rQ (zS o) 80 g) H)=some (.ret,H)/\Es (eV E m19 (rQ (zS o) 80 g) H)=rQ (zR o) 80 (qR (Es (eV E m19 (rQ (zS o) 80 g) H))):=by
 constructor<;>kernel_rfl
theorem aUl(g:gZ)(H:Hp)(o:T):sS prog (rQ (zR o) 80 g) H f16.results.toList=some [o]:=by kernel_rfl
variable{m te a n w}
theorem aWk{ro:iB}{q:Nat}{gs:iC}(hg:gs.length<=12){G:gY}(hG:∀done:List Nat,done.Nodup->(∀i∈done,i<gs.length)->done.length=gs.length->∀i,i<gs.length->AK gs.length (lD gs done) i=G i)
  (x:Cx prog (Cc m te a n w) Av) (fr:fU) (H:Hp) (hp:PM gs fr H):
  AU prog (Cc m te a n w).env ro q (.seq m18 m19) fr H (Cd prog f16 40 (.slf false gs.length λi=> .agg (G i).c)):=by
 obtain⟨N,done,o,g,rfl,ho,hnd,hlt,hlen⟩:=hp.ex;refine yK ?_;cases ho with
 |nil=>
  obtain⟨e1,e2,e3⟩:=bQe m te a n w g H N;have e:=PT 20 e1 (e2.trans (by simp[rD])) e3;refine uC x.hm x.hE x.hF (m:=20) (by kernel_rfl) (by kernel_rfl) e ?_;obtain⟨f1,f2⟩:=p19 (Cc m te a n w).env (qR (ED (r18 m te a n w Av (rQ (zB N .nils false) 80 g) H))) H .nils;refine uC x.hm x.hE x.hF (m:=20) (by kernel_rfl) (by kernel_rfl) (ZP f1 f2) ⟨.inr rfl,.nils,.nils,aUl _ _ _,rfl,λg v hv=> ?_⟩;have h0:gs.length=0:=by rw[<-hlen];rfl
  rw[h0];exact aAo false _ hv
 |row _ l h1 h2 h3 h4=>
  rw[aSa gs done]at h4;obtain⟨e1,e2,e3⟩:=bQf m te a n w g H N l done.length (lD gs done);have hF:=bAm m te (by omega) h4;have e:=PT 20 e1 (e2.trans (by simp[rD])) e3;refine uC x.hm x.hE hF (m:=20) (by kernel_rfl) (by kernel_rfl) e ?_;obtain⟨f1,f2⟩:=p19 (Cc m te a n w).env (qR (ED (r18 m te a n w (F0S l done.length (lD gs done) H) (rQ (zB N (.osl l 6 0 done.length) false) 80 g) H))) (H.put l (obG (AK done.length (lD gs done)) done.length)) (.osl l 6 0 done.length);have hget:(H.put l (obG (AK done.length (lD gs done)) done.length)).get l=some (obG (AK done.length (lD gs done)) done.length):=by rw[get_put _ _ _ _ rfl,if_pos rfl]
  refine uC x.hm x.hE x.hF (m:=20) (by kernel_rfl) (by kernel_rfl) (ZP f1 f2) ⟨.inr rfl,_,_,aUl _ _ _,aPk 38 hget (by omega),λg' v hv=> ?_⟩;have hm:(List.range done.length).map (λi=>T.agg (AK done.length (lD gs done) i).c)=(List.range gs.length).map λi=>T.agg (G i).c:=by
   rw[hlen];refine List.map_congr_left λi hi=> ?_;rw[hG done hnd hlt hlen i (dJ.1 hi)]
  rw[hm]at hv;refine EG (λj _ c hc=>by simp[T.cells,Gr.c]at hc;rcases hc with rfl|rfl|rfl|rfl|rfl|rfl<;>rfl) ?_;cases hgl:gs.length with
  |zero=>exact absurd (dR.1 (hlen.trans hgl)) h1|succ k=>rw[hgl]at hv;exact hv
end
theorem aIm(gs:iC):(wC [] (FU 0 gs)).length=gs.length:=by rw[aJy,aIn]
theorem Ol(o:Ob)(J:kG):∀r,(CZ o J r).next=r+1
 |0=>rfl
 |r+1=>by
  show(CZ o J r).next+1=_;rw[Ol o J r]
section
variable{m:Int}{te:fS}{a:Fl}{n:Nat}{w:iW}
theorem bBy:Cx prog (Cc m te a n w) Av:=⟨follows,bRh m te a n w,rG⟩
theorem aSp{ro:iB}{q:Nat}{gs:iC}(hg:gs.length<=12){G:gY}(hG:∀done:List Nat,done.Nodup->(∀i∈done,i<gs.length)->done.length=gs.length->∀i,i<gs.length->AK gs.length (lD gs done) i=G i)
  (g:gZ) (H:Hp) (hm:H.any 0=some (tH gs)) (hp:0<H.next):
  AU prog (Cc m te a n w).env ro q Sc (rQ aGj 80 g) H (Cd prog f16 40 (.slf false gs.length λi=> .agg (G i).c)):=by
 have x:=bBy (m:=m) (te:=te) (a:=a) (n:=n) (w:=w);rw[etl];obtain⟨a1,a2⟩:=p13 (Cc m te a n w).env g H;refine yK (uC x.hm x.hE x.hF (m:=20) (by kernel_rfl) (by kernel_rfl) (ZP a1 a2) ?_);generalize qR (Es (eV (Cc m te a n w).env m13 (rQ aGj 80 g) H))=g1;refine yK (yK ?_);rw[bMg];obtain⟨b1,b2⟩:=p14 (Cc m te a n w).env g1 H;have e1:=XG b1 b2;generalize qR (Ea (sV (Cc m te a n w).env m14 l14 (rQ z1 80 g1) H))=g2 at e1;obtain⟨o1,o2,o3⟩:=bGb;have hr:ZE prog H 78 (.mp 0)=some (.ptr H.next 0,H.new (KR (.mit 0 gs.length [] gs.length))):=by
  unfold ZE;simp only[aMl,hm,tH];rfl
 refine LP x.hE x.hF bPm bRq o3 e1 (Wn o1 (evM (Cc m te a n w).env.gl g2 0 .nils).1 hr) λt H2 hmem=> ?_;rcases bV.1 hmem with e;cases e;rw[o2,bGz];refine⟨_,_,rfl,?_⟩;have hI:IM gs gs.length (rQ (zL H.next .nils) 80 (qR (qU (rQ z2 80 g2) (some 68) (.ptr H.next 0)))) (H.new (KR (.mit 0 gs.length [] gs.length))):=by
  refine⟨H.next,[],.nils,_,rfl,⟨?_,?_,hp,by rw[IW];omega⟩,.nil,List.nodup_nil,λi hi=>by simp at hi,aIm gs,by simp⟩
  .rw[sB,if_neg (by omega)];exact hm
  .rw[sB,if_pos rfl]
 refine TH ((Og (IM gs) (aOd x hg) gs.length hI).mono λq' fr' H' hq=> ?_);obtain⟨rfl,hpm⟩:=hq;simp only[xH,if_true,wV];exact aWk hg hG x fr' H' hpm
noncomputable def n0:Code:=match qD f16 with
 | .seq x _ =>x|c=>c
noncomputable def n1:Code:=match qD f16 with
 | .seq _ (.seq x _)=>x|c=>c
noncomputable def n2:Code:=match qD f16 with
 | .seq _ (.seq _ (.seq (.seq x _) _))=>x|c=>c
def rfG:Code:= .block 0 (.rangeFunc (.tmp 17) #[18] Uz g16)
theorem e16:qD f16= .seq n0 (.seq n1 (.seq (.seq n2 rfG) Sc)):=by kernel_rfl
theorem bPw:GY rfG=true:=by kernel_rfl
section
variable(m:Int)(te:fS)(a:Fl)(n:Nat)(w:iW)
def Sf:List T:=[LX n w,yQ a]
def Bd(c:Code)(fr:fU)(H:Hp):RD (X×List T×Hp):=qE prog (Cc m te a n w) Av c fr H [] []
def y1:List (Nat×T):=[(2,.ref (LX n w) 0),(3,.ref (yQ a) 0)]
def y2:List (Nat×T):=(5,mR)::y1 a n w
def y3:List (Nat×T):=[(5,mR),(17,clo a n w)]
theorem pn0:cX (Bd m te a n w n0 (Sf a n w++List.replicate 78 pV) ⟨0,.nl⟩)=some (.normal,⟨0,.nl⟩)/\Te (Bd m te a n w n0 (Sf a n w++List.replicate 78 pV) ⟨0,.nl⟩)=true/\
  ED (Bd m te a n w n0 (Sf a n w++List.replicate 78 pV) ⟨0,.nl⟩)=rQ (y1 a n w) 80 (qR (ED (Bd m te a n w n0 (Sf a n w++List.replicate 78 pV) ⟨0,.nl⟩))):=by
 refine⟨?_,?_,?_⟩<;>kernel_rfl
theorem pn1(E:tY)(g:gZ)(J:kG):sX (eV E n1 (rQ (y1 a n w) 80 g) ⟨0,.nl⟩)=some (.normal,CZ (tH []) J 0)/\Es (eV E n1 (rQ (y1 a n w) 80 g) ⟨0,.nl⟩)=rQ (y2 a n w) 80 (qR (Es (eV E n1 (rQ (y1 a n w) 80 g) ⟨0,.nl⟩))):=by
 constructor<;>kernel_rfl
theorem pn2(g:gZ)(H:Hp):cX (Bd m te a n w n2 (rQ (y2 a n w) 80 g) H)=some (.normal,H)/\Te (Bd m te a n w n2 (rQ (y2 a n w) 80 g) H)=(pb (LX n w=LX n w)&&(pb (yQ a=yQ a)&&true))/\
  ED (Bd m te a n w n2 (rQ (y2 a n w) 80 g) H)=rQ (y3 a n w) 80 (qR (ED (Bd m te a n w n2 (rQ (y2 a n w) 80 g) H))):=by
 refine⟨?_,?_,?_⟩<;>kernel_rfl
def y3g(g:gZ):Nat->T:=λs=>pk s (g s) [(17,clo a n w)]
theorem fr3(g:gZ):rQ (y3 a n w) 80 g=rQ aGj 80 (y3g a n w g):=by kernel_rfl
theorem bMj(gl:fY)(g:gZ):qG gl (rQ (y3 a n w) 80 g) (.tmp 17)=some (.fn (.func 63) [] (DL a n w)):=by kernel_rfl
theorem aOp:mapO (qJ 40 ⟨0,.nl⟩) (DL a n w)=some (DL a n w):=by kernel_rfl
theorem aZi:mapO (qJ 40 ⟨0,.nl⟩) (Sf a n w)=some (Sf a n w):=by kernel_rfl
def ItG(xs:iU):FuncId->List T->Option (List (List T)):=λf cap=>if f=63/\pb (cap=DL a n w)=true then some xs else none
end
theorem VW:∀(ys:kH) (gs:iC),(EM ys gs).length<=gs.length+ys.length
 |[],gs=>aZ _
 |y::ys,gs=>by
  have h:=VW ys (yP y gs);obtain⟨l1,l2⟩:=VV y gs;have:(yP y gs).length<=gs.length+1:=by
   cases hf:UC y gs with
   |none=>rw[l1 hf];exact aZ _|some b=>rw[l2 b hf];omega
  show(EM ys (yP y gs)).length<=_;simp only[bL];omega
theorem Eh{S:gI}(hS:S.length<=12)(hit:Mg prog (glZ m te) 63 (DL a n w) (S.map λi=>[zI w i])){gs:iC}(hgs:EM (S.map w) []=gs){G:gY}
  (hG:∀done:List Nat,done.Nodup->(∀i∈done,i<gs.length)->done.length=gs.length->∀i,i<gs.length->AK gs.length (lD gs done) i=G i):
  pW prog (glZ m te) 16 [LX n w,yQ a] (.slf false gs.length λi=> .agg (G i).c):=by
 have x:=bBy (m:=m) (te:=te) (a:=a) (n:=n) (w:=w);have hgl:gs.length<=12:=by
  have:=VW (S.map w) [];rw[hgs]at this;simp at this;omega
 refine aDt (E:=(Cc m te a n w).env) (rC m te) (f:=16) (by kernel_rfl) func16 (c:=qD f16) (by kernel_rfl) (k:=40) (aZi a n w) λg0 g act hc R hno hR hmk=> ?_;have key:Ce prog (Cc m te a n w).env 0 (qD f16) (Sf a n w++List.replicate 78 pV) ⟨0,.nl⟩ (Cd prog f16 40 (.slf false gs.length λi=> .agg (G i).c)):=by
  rw[e16];obtain⟨a1,a2,a3⟩:=pn0 m te a n w;refine KB (uC x.hm x.hE x.hF (m:=20) (by kernel_rfl) (by kernel_rfl) (PT 20 a1 a2 a3) ?_).toM;generalize qR (ED (Bd m te a n w n0 (Sf a n w++List.replicate 78 pV) ⟨0,.nl⟩))=g1;obtain⟨b1,b2⟩:=pn1 a n w (Cc m te a n w).env g1 (λ_ =>tH []);refine KB (uC x.hm x.hE x.hF (m:=20) (by kernel_rfl) (by kernel_rfl) (ZP b1 b2) ?_).toM;generalize qR (Es (eV (Cc m te a n w).env n1 (rQ (y1 a n w) 80 g1) ⟨0,.nl⟩))=g2;refine KB (KB ?_);obtain⟨c1,c2,c3⟩:=pn2 m te a n w g2 (CZ (tH []) (λ_ =>tH []) 0);refine(uC x.hm x.hE x.hF (m:=20) (by kernel_rfl) (by kernel_rfl) (PT 20 c1 (c2.trans (by simp[rD])) c3) ?_).toM;generalize qR (ED (Bd m te a n w n2 (rQ (y2 a n w) 80 g2) (CZ (tH []) (λ_ =>tH []) 0)))=g3;obtain⟨J,hf⟩:=Yw (Cc m te a n w).env (y3g a n w g3) (S.map w) [] (λ_ =>tH []) 0 (by simpa using hS);rw[hgs,<-fr3]at hf;have hxs:(S.map w).map (λy=>[T.agg y.c])=S.map λi=>[zI w i]:=by rw[List.map_map];rfl
  rw[hxs]at hf;have he:xW prog (Cc m te a n w).env Av (ItG a n w (S.map λi=>[zI w i])) 20 40 rfG (rQ (y3 a n w) 80 g3) (CZ (tH []) (λ_ =>tH []) 0)=some (.normal,rQ (y3 a n w) 80 g3,CZ (tH gs) J (0+(S.map w).length)):=by
   have hI:ItG a n w (S.map λi=>[zI w i]) 63 (DL a n w)=some (S.map λi=>[zI w i]):=by
    unfold ItG;rw[if_pos ⟨rfl,rD.2 rfl⟩]
   have hall:((S.map λi=>[zI w i]).all λq=>Nat.beq q.length (#[18]:Array Tmp).size)=true:=by
    rw[aH];intro q hq;obtain⟨i,_,rfl⟩:=bQ.1 hq;rfl
   unfold rfG;simp only[xW,bMj,aOp,hI,hall,if_true];rw[hf]
  refine Oh x.hm (rC m te) x.hE x.hF (λf cap xs h=> ?_) bPw he ?_
  .unfold ItG at h;split at h
   .rename_i q;cases h;obtain⟨rfl,q2⟩:=q;rw[rD.1 q2];exact⟨by kernel_rfl,hit⟩
   .cases h
  .rw[fr3];refine(aSp hgl hG _ _ (Jg _ _ _ ?_) (by rw[Ol];omega)).toM;simpa using hS
 exact key g0 g _ act [] hc hmk R hno hR
end
end
theorem Hz:∀a:List UInt8,Op.bytesLess a a=false
 |[]=>rfl|x::a=>by simp[Op.bytesLess,Hz a]
theorem WI:∀a b c:List UInt8,Op.bytesLess a b=true->Op.bytesLess b c=true->Op.bytesLess a c=true
 |_,_,[],_,h=>by simp[Op.bytesLess]at h|[],[],_ ::_,h,_ =>by simp[Op.bytesLess]at h|[],_ ::_,_ ::_,_,_ =>rfl|_ ::_,[],_,h,_ =>by simp[Op.bytesLess]at h
 |x::a,y::b,z::c,h1,h2=>by
  simp only[Op.bytesLess,bF,aA,aJ,beq_iff_eq]at h1 h2⊢;rcases h1 with h1|⟨rfl,h1⟩
  .rcases h2 with h2|⟨rfl,h2⟩
   .exact .inl (UInt8.lt_trans h1 h2)
   .exact .inl h1
  .rcases h2 with h2|⟨rfl,h2⟩
   .exact .inl h2
   .exact .inr ⟨rfl,WI a b c h1 h2⟩
theorem Tv:∀a b:List UInt8,Op.bytesLess a b=false->Op.bytesLess b a=false->a=b
 |[],[],_,_ =>rfl|[],_ ::_,h,_ =>by simp[Op.bytesLess]at h|_ ::_,[],_,h=>by simp[Op.bytesLess]at h
 |x::a,y::b,h1,h2=>by
  simp only[Op.bytesLess,eM,Bool.and_eq_false_iff,decide_eq_false_iff_not,beq_eq_false_iff_ne]at h1 h2;have e:x=y:=by
   have q1:=UInt8.not_lt.1 h1.1;have q2:=UInt8.not_lt.1 h2.1;exact UInt8.le_antisymm q2 q1
  subst e;rw[Tv a b (h1.2.resolve_left (by simp)) (h2.2.resolve_left (by simp))]
theorem Ue:∀a b:List UInt8,(Lib.compareBytes a b<0↔Op.bytesLess a b=true)/\(Lib.compareBytes a b=0↔a=b)
 |[],[]=>by simp[Lib.compareBytes,Op.bytesLess]|[],_ ::_ =>by simp[Lib.compareBytes,Op.bytesLess]|_ ::_,[]=>by simp[Lib.compareBytes,Op.bytesLess]
 |x::a,y::b=>by
  obtain⟨h1,h2⟩:=Ue a b;unfold Lib.compareBytes Op.bytesLess;by_cases q1:x<y
  .have:x≠y:=λe=>by subst e;exact UInt8.lt_irrefl x q1
   simp[q1,this]
  .by_cases q2:y<x
   .have:x≠y:=λe=>by subst e;exact UInt8.lt_irrefl x q2
    simp[q1,q2,this]
   .have e:x=y:=UInt8.le_antisymm (UInt8.not_lt.1 q2) (UInt8.not_lt.1 q1);subst e;simp[q1,h1,h2]
def UW(a b:Gr):Bool:=Op.bytesLess a.node b.node||(a.node==b.node&&Op.bytesLess a.text b.text)
def Ov(a b:Gr):Prop:=a.node=b.node/\a.text=b.text
theorem bBt(a b:Gr):decide (cG a b<0)=UW a b:=by
 obtain⟨h1,h2⟩:=Ue a.node b.node;obtain⟨h3,h4⟩:=Ue a.text b.text;unfold cG cI UW;rw[eR];by_cases e:a.node=b.node
 .have h0:=h2.2 e;rw[h0,e];simp[Hz,h3]
 .have h0:Lib.compareBytes a.node b.node≠0:=λq=>e (h2.1 q);have hb:(Lib.compareBytes a.node b.node !=0)=true:=by simpa using h0
  rw[hb];simp[h1,e]
theorem Ep{a b c:Gr}(h1:UW a b=true)(h2:UW b c=true):UW a c=true:=by
 unfold UW at*;simp only[bF,aA,beq_iff_eq]at*;rcases h1 with h1|⟨e1,h1⟩
 .rcases h2 with h2|⟨e2,h2⟩
  .exact .inl (WI _ _ _ h1 h2)
  .exact .inl (e2▸h1)
 .rcases h2 with h2|⟨e2,h2⟩
  .exact .inl (e1▸h2)
  .exact .inr ⟨e1.trans e2,WI _ _ _ h1 h2⟩
theorem aQv{a b:Gr}(h:Ov a b):UW a b=false:=by
 unfold UW;rw[h.1,h.2];simp[Hz]
theorem Ju{a b:Gr}(h1:UW a b=false)(h2:UW b a=false):Ov a b:=by
 unfold UW at*;simp only[eM,Bool.and_eq_false_iff,beq_eq_false_iff_ne]at*;have e:=Tv _ _ h1.1 h2.1;exact⟨e,Tv _ _ (h1.2.resolve_left (by simp[e])) (h2.2.resolve_left (by simp[e]))⟩
theorem aDf{a b c:Gr}(h:Ov a b):UW a c=UW b c:=by unfold UW;rw[h.1,h.2]
def leK(a b:Gr):Prop:=UW b a=false
theorem aCz{a b:Gr}(h:UW a b=true):leK a b:=by
 unfold leK;cases h2:UW b a with
 |false=>rfl
 |true=>
  have:=Ep h h2;rw[aQv ⟨rfl,rfl⟩]at this;cases this
theorem aDa{a b c:Gr}(h1:leK a b)(h2:leK b c):leK a c:=by
 unfold leK at*;cases h:UW c a with
 |false=>rfl
 |true=>
  cases h3:UW b c with
  |true=>rw[Ep h3 h]at h1;cases h1
  |false=>
   have:=Ju h3 h2;rw[aDf this,h]at h1;cases h1
structure Bt(L:gY)(j i:Nat):Prop where
 o:∀a b,a<b->b<=i->a≠j->b≠j->leK (L a) (L b)
 f:∀b,j<b->b<=i->leK (L j) (L b)
def Srt(L:gY)(i:Nat):Prop:=∀a b,a<b->b<=i->leK (L a) (L b)
theorem bHz(L:gY)(j:Nat):sw L j j=L (j+1):=by unfold sw;simp[Nat.beq_refl]
theorem aBg(L:gY)(j:Nat):sw L j (j+1)=L j:=by
 unfold sw;have:Nat.beq (j+1) j=false:=by
  cases h:Nat.beq (j+1) j with
  |false=>rfl|true=>have:=aF h;omega
 simp[this,Nat.beq_refl]
theorem aMj(L:gY){j i:Nat}(h1:i≠j)(h2:i≠j+1):sw L j i=L i:=by
 unfold sw;have e1:Nat.beq i j=false:=by
  cases h:Nat.beq i j with
  |false=>rfl|true=>exact absurd (aF h) h1
 have e2:Nat.beq i (j+1)=false:=by
  cases h:Nat.beq i (j+1)with
  |false=>rfl|true=>exact absurd (aF h) h2
 rw[e1,e2];rfl
theorem Zc(i:Nat):∀(j:Nat) (L:gY),j<=i->Bt L j i->Srt (IL j L) i
 |0,L,_,h=>λa b hab hb=>by
  by_cases e:a=0
  .subst e;exact h.f b hab hb
  .exact h.o a b hab hb e (by omega)
 |j+1,L,hj,h=>by
  unfold IL;have hl:ltG L j=UW (L (j+1)) (L j):=bBt _ _;cases hb:ltG L j with
  |true=>
   rw[cond_true];rw[hb]at hl;refine Zc i j (sw L j) (by omega) ⟨λa b hab hbi ha hbj=> ?_,λb hjb hbi=> ?_⟩
   .by_cases e1:b=j+1
    .subst e1;rw[aBg,aMj L ha (by omega)];exact h.o a j (by omega) (by omega) (by omega) (by omega)
    .rw[aMj L hbj e1];by_cases e2:a=j+1
     .subst e2;rw[aBg];exact h.o j b (by omega) hbi (by omega) e1
     .rw[aMj L ha e2];exact h.o a b hab hbi e2 e1
   .rw[bHz];by_cases e1:b=j+1
    .subst e1;rw[aBg];exact aCz hl.symm
    .rw[aMj L (by omega) e1];exact h.f b (by omega) hbi
  |false=>
   rw[cond_false];rw[hb]at hl;have hle:leK (L j) (L (j+1)):=hl.symm;intro a b hab hbi;by_cases e1:a=j+1
   .subst e1;exact h.f b hab hbi
   .by_cases e2:b=j+1
    .subst e2;by_cases e3:a=j
     .subst e3;exact hle
     .exact aDa (h.o a j (by omega) (by omega) e1 (by omega)) hle
    .exact h.o a b hab hbi e1 e2
theorem aBa(k:Nat):∀(n i:Nat) (L:gY),i+n=k->0<i->Srt L (i-1)->Srt (srt n i L) (k-1)
 |0,i,L,h,_,hs=>by
  have e:i=k:=by omega
  subst e;exact hs
 |n+1,i,L,h,h0,hs=>by
  refine aBa k n (i+1) (IL i L) (by omega) (by omega) ?_;refine Zc i i L (aZ i) ⟨λa b hab hb ha hbi=>hs a b hab (by omega),λb h1 h2=>by omega⟩
theorem Ad(k:Nat)(hk:0<k)(L:gY):Srt (AK k L) (k-1):=by
 unfold AK;exact aBa k (k-1) 1 L (by omega) (by omega) λa b h1 h2=>by omega
def PF(k:Nat)(L' L:gY):Prop:=∃p:Nat->Nat,(∀i,L' i=L (p i))/\((List.range k).map p).Perm (List.range k)
theorem PF.refl(k:Nat)(L:gY):PF k L L:=⟨id,λi=>rfl,by simp⟩
theorem PF.trans{k:Nat}{L'' L' L:gY}(h:PF k L'' L')(h':PF k L' L):PF k L'' L:=by
 obtain⟨p,h1,h2⟩:=h;obtain⟨q,h3,h4⟩:=h';refine⟨λi=>q (p i),λi=>by rw[h1,h3],?_⟩;have:(List.range k).map (λi=>q (p i))=((List.range k).map p).map q:=by rw[List.map_map];rfl
 rw[this];exact(h2.map q).trans h4
theorem Qk{l l':gI}(h:l.Nodup)(h':l'.Nodup)(hm:∀a,a∈l↔a∈l'):l.Perm l':=by
 rw[List.perm_iff_count];intro a;rw[h.count,h'.count];simp only[hm a]
theorem bGt{k j:Nat}(hj:j+1<k)(L:gY):PF k (sw L j) L:=by
 refine⟨λi=>if i=j then j+1 else if i=j+1 then j else i,λi=> ?_,?_⟩
 .show sw L j i=L (if i=j then j+1 else if i=j+1 then j else i);by_cases e1:i=j
  .subst e1;rw[bHz,if_pos rfl]
  .by_cases e2:i=j+1
   .subst e2;rw[aBg,if_neg (by omega),if_pos rfl]
   .rw[aMj L e1 e2,if_neg e1,if_neg e2]
 .refine Qk ?_ fE λa=> ?_
  .unfold List.Nodup;rw[List.pairwise_map];refine List.Pairwise.imp ?_ (fE (n:=k));intro a b hab;split<;>split<;>(try split)<;>(try split)<;>omega
  .simp only[bQ,dJ];constructor
   .rintro⟨i,hi,rfl⟩;split
    .omega
    .split<;>omega
   .intro ha;by_cases e1:a=j
    .exact⟨j+1,hj,by rw[if_neg (by omega),if_pos rfl,e1]⟩
    .by_cases e2:a=j+1
     .exact⟨j,by omega,by rw[if_pos rfl,e2]⟩
     .exact⟨a,ha,by rw[if_neg e1,if_neg e2]⟩
theorem aLd(k:Nat):∀(j:Nat) (L:gY),j<k->PF k (IL j L) L
 |0,L,_ =>PF.refl k L
 |j+1,L,h=>by
  unfold IL;cases ltG L j with
  |true=>exact(aLd k j (sw L j) (by omega)).trans (bGt h L)|false=>exact PF.refl k L
theorem aLe(k:Nat):∀(n i:Nat) (L:gY),i+n<=k->PF k (srt n i L) L
 |0,i,L,_ =>PF.refl k L|n+1,i,L,h=>(aLe k n (i+1) (IL i L) (by omega)).trans (aLd k i L (by omega))
theorem aRt(k:Nat)(L:gY):PF k (AK k L) L:=by
 unfold AK;rcases k with _ |k
 .exact PF.refl 0 L
 .exact aLe (k+1) k 1 L (by omega)
theorem PF.perm{k:Nat}{L' L:gY}(h:PF k L' L):((List.range k).map L').Perm ((List.range k).map L):=by
 obtain⟨p,h1,h2⟩:=h;have:(List.range k).map L'=((List.range k).map p).map L:=by
  rw[List.map_map];exact List.map_congr_left λi _ =>h1 i
 rw[this];exact h2.map L
theorem Srt.pw{k:Nat}{L:gY}(h:Srt L (k-1)):((List.range k).map L).Pairwise leK:=by
 rw[List.pairwise_map];refine List.Pairwise.imp_of_mem ?_ (List.pairwise_lt_range (n:=k));intro a b ha hb hab;have:=dJ.1 hb;exact h a b hab (by omega)
def Dk(gs:iC):Prop:=gs.Pairwise λa b=>¬Ov a b
theorem Dk.eq{gs:iC}(h:Dk gs):∀a∈gs,∀b∈gs,Ov a b->a=b:=by
 induction gs with
 |nil=>intro a ha;simp at ha
 |cons c gs ih=>
  obtain⟨h1,h2⟩:=List.pairwise_cons.1 h;intro a ha b hb hk;rcases aR.1 ha with e|ha'
  .rcases aR.1 hb with e'|hb'
   .rw[e,e']
   .exact absurd (e▸hk) (h1 b hb')
  .rcases aR.1 hb with e'|hb'
   .exact absurd ⟨(e'▸hk.1).symm,(e'▸hk.2).symm⟩ (h1 a ha')
   .exact ih h2 a ha' b hb' hk
theorem pig:∀(n:Nat) (l:gI),l.Nodup->(∀i∈l,i<n)->l.length<=n
 |0,l,_,h=>by
  cases l with
  |nil=>exact aZ 0|cons a l=>exact absurd (h a aL) (by omega)
 |n+1,l,hn,h=>by
  by_cases hm:n∈l
  .have:=pig n (l.erase n) (hn.erase n) λi hi=>by
    have q:=(hn.mem_erase_iff).1 hi;have:=h i q.2;have:=q.1;omega
   rw[List.length_erase_of_mem hm]at this;omega
  .have:=pig n l hn λi hi=>by
    have:=h i hi;have:i≠n:=λe=>hm (e▸hi);omega
   omega
theorem aRu{l:gI}{n a:Nat}(h1:l.Nodup)(h2:∀i∈l,i<n)(h3:n<=l.length)(ha:a<n):a∈l:=by
 refine dG λhm=> ?_
 have:=pig (n-1) (l.map λi=>if a<i then i-1 else i) (by
  unfold List.Nodup;rw[List.pairwise_map];refine List.Pairwise.imp_of_mem ?_ h1;intro x y hx hy hxy;have q1:x≠a:=λe=>hm (e▸hx);have q2:y≠a:=λe=>hm (e▸hy)
  split<;>split<;>omega) λi hi=>by
  obtain⟨x,hx,rfl⟩:=bQ.1 hi;have q1:x≠a:=λe=>hm (e▸hx);have q2:=h2 x hx;split<;>omega
 rw[dV]at this;omega
noncomputable def UZ(gs:iC):Nat->Gr:=AK gs.length (lD gs (List.range gs.length))
theorem aXn(gs:iC)(done:gI):(List.range done.length).map (lD gs done)=done.map λi=>gs.getD i zG:=by
 have:=congrArg (List.map λi=>gs.getD i zG) (ZF done);rw[List.map_map]at this;exact this
theorem aQx(gs:iC):(List.range gs.length).map (λi=>gs.getD i zG)=gs:=by
 refine List.ext_getElem (by simp) λi h1 h2=> ?_;simp[aW,h2]
theorem JB{gs:iC}{done:gI}(h1:done.Nodup)(h2:∀i∈done,i<gs.length)(h3:done.length=gs.length):((List.range gs.length).map (AK gs.length (lD gs done))).Perm gs:=by
 have hp:done.Perm (List.range gs.length):=by
  refine Qk h1 fE λa=>⟨λh=>dJ.2 (h2 a h),λh=> ?_⟩;exact aRu h1 h2 (by omega) (dJ.1 h)
 refine(aRt gs.length _).perm.trans ?_;rw[<-h3,aXn];refine(hp.map _).trans ?_;rw[aQx]
theorem aAe{gs:iC}(hd:Dk gs)(done:gI)(h1:done.Nodup)(h2:∀i∈done,i<gs.length)(h3:done.length=gs.length)(i:Nat)(hi:i<gs.length):AK gs.length (lD gs done) i=UZ gs i:=by
 have p1:=JB h1 h2 h3;have p2:=JB (gs:=gs) (done:=List.range gs.length) fE (λi hi=>dJ.1 hi) (by simp);have s1:=(Ad gs.length (by omega) (lD gs done)).pw;have s2:=(Ad gs.length (by omega) (lD gs (List.range gs.length))).pw;have e:=List.Perm.eq_of_pairwise (λa b ha hb hab hba=>hd.eq a (p1.mem_iff.1 ha) b (p2.mem_iff.1 hb) (Ju hba hab)) s1 s2 (p1.trans p2.symm);have:=congrArg (λl=>l[i]?) e;simp only[bA,dP hi,cH]at this;exact bX this
def PR(g:Gr)(y:Lr):Gr:=⟨g.node,g.text,i64.wrap (g.cnt+1),i64.wrap (g.mass+y.ms),if g.cnt=0 then y.e else mnI g.first y.e,if g.cnt=0 then y.e else mxI g.last y.e⟩
def MR(nd tx:gU)(y:Lr):Bool:=y.node==nd&&y.text==tx
def zK(nd tx:gU):Gr:=⟨nd,tx,0,0,0,0⟩
def grp(nd tx:gU)(ys:kH):Gr:=ys.foldl (λg y=>if MR nd tx y=true then PR g y else g) (zK nd tx)
theorem XS(nd tx:gU)(ys:kH)(y:Lr):grp nd tx (ys++[y])=if MR nd tx y=true then PR (grp nd tx ys) y else grp nd tx ys:=by
 unfold grp;rw[List.foldl_append];rfl
theorem aBm{x:Int}(h0:0<=x)(h1:x<=1000):i64.wrap (x+1)=x+1:=by rw[IntKind.wrap_i64];omega
theorem Wy{g:Gr}(h:1<=g.cnt)(y:Lr):PR g y=Aq g y:=by
 unfold PR Aq;rw[if_neg (by omega),if_neg (by omega)]
theorem newL{nd tx:gU}{y:Lr}(h:MR nd tx y=true):PR (zK nd tx) y=RO y:=by
 unfold MR at h;simp only[aA,beq_iff_eq]at h;obtain⟨rfl,rfl⟩:=h;simp only[PR,zK,RO,if_true,mnI,mxI,Int.lt_irrefl,if_false]
theorem Hr{y:Lr}:∀{gs:iC},Dk gs->∀b∈yP y gs,(b∈gs/\MR b.node b.text y=false)\/(∃a∈gs,MR a.node a.text y=true/\b=Aq a y)\/(b=RO y/\∀a∈gs,MR a.node a.text y=false)
 |[],_,b,h=>by
  simp only[yP,bV]at h;exact .inr (.inr ⟨h,by simp⟩)
 |a::gs,hd,b,h=>by
  obtain⟨d1,d2⟩:=List.pairwise_cons.1 hd;unfold yP at h;split at h
  .rename_i hm;rcases aR.1 h with h|h
   .exact .inr (.inl ⟨a,aL,hm,h⟩)
   .refine .inl ⟨aG _ h,?_⟩;cases hb:MR b.node b.text y with
    |false=>rfl
    |true=>
     unfold MR at hb;simp only[aA,beq_iff_eq]at hb hm;exact absurd ⟨hm.1.symm.trans hb.1,hm.2.symm.trans hb.2⟩ (d1 b h)
  .rename_i hm;have hm:MR a.node a.text y=false:=by simpa [MR]using hm
   rcases aR.1 h with h|h
   .exact .inl ⟨h▸aL,h▸hm⟩
   .rcases Hr d2 b h with⟨q1,q2⟩|⟨c,q1,q2,q3⟩|⟨q1,q2⟩
    .exact .inl ⟨aG _ q1,q2⟩
    .exact .inr (.inl ⟨c,aG _ q1,q2,q3⟩)
    .refine .inr (.inr ⟨q1,λc hc=> ?_⟩);rcases aR.1 hc with e|hc
     .exact e▸hm
     .exact q2 c hc
theorem aGy{y:Lr}:∀{gs:iC},Dk gs->Dk (yP y gs)
 |[],_ =>List.pairwise_singleton _ _
 |a::gs,hd=>by
  obtain⟨d1,d2⟩:=List.pairwise_cons.1 hd;unfold yP;split
  .exact List.pairwise_cons.2 ⟨d1,d2⟩
  .rename_i hm;refine List.pairwise_cons.2 ⟨λb hb hk=> ?_,aGy d2⟩;rcases Hr d2 b hb with⟨q1,q2⟩|⟨c,q1,q2,rfl⟩|⟨rfl,q2⟩
   .exact d1 b q1 hk
   .exact d1 c q1 hk
   .have h1:a.node=y.node:=hk.1;have h2:a.text=y.text:=hk.2;exact hm (by rw[h1,h2];simp)
theorem Xs{y:Lr}:∀{gs:iC},(∀a∈gs,1<=a.cnt/\a.cnt<=1000)->((yP y gs).map Gr.cnt).sum=(gs.map Gr.cnt).sum+1
 |[],_ =>by
  have:=aBm (x:=0) (by omega) (by omega);simp only[yP,cB,List.map_nil,List.sum_cons,List.sum_nil,RO];omega
 |a::gs,h=>by
  unfold yP;have ha:=h a aL;split
  .have:=aBm (x:=a.cnt) (by omega) (by omega);simp only[cB,List.sum_cons,Aq];omega
  .have:=Xs (y:=y) (gs:=gs) λb hb=>h b (aG _ hb);simp only[cB,List.sum_cons];omega
theorem Mj{y:Lr}:∀{gs:iC},∀a∈gs,∃b∈yP y gs,Ov a b
 |c::gs,a,h=>by
  unfold yP;split
  .rcases aR.1 h with e|h
   .exact⟨_,aL,by rw[e];exact⟨rfl,rfl⟩⟩
   .exact⟨a,aG _ h,rfl,rfl⟩
  .rcases aR.1 h with e|h
   .exact⟨c,aL,by rw[e];exact⟨rfl,rfl⟩⟩
   .obtain⟨b,h1,h2⟩:=Mj a h;exact⟨b,aG _ h1,h2⟩
theorem aGz{y:Lr}:∀{gs:iC},∃b∈yP y gs,MR b.node b.text y=true
 |[]=>⟨RO y,bV.2 rfl,by simp[MR,RO]⟩
 |c::gs=>by
  unfold yP;split
  .rename_i hm;exact⟨_,aL,hm⟩
  .obtain⟨b,h1,h2⟩:=aGz (y:=y) (gs:=gs);exact⟨b,aG _ h1,h2⟩
structure GI(ys:kH)(gs:iC):Prop where
 d:Dk gs
 a:∀a∈gs,a=grp a.node a.text ys/\1<=a.cnt/\a.cnt<=ys.length
 z:∀nd tx,(∀a∈gs,¬(a.node=nd/\a.text=tx))->grp nd tx ys=zK nd tx
 s:(gs.map Gr.cnt).sum=ys.length
theorem GI.add{ys:kH}{gs:iC}(h:GI ys gs)(hl:ys.length<=12)(y:Lr):GI (ys++[y]) (yP y gs):=by
 have hlen:((ys++[y]).length:Int)=ys.length+1:=by simp
 refine⟨aGy h.d,λb hb=> ?_,λnd tx hk=> ?_,?_⟩
 .rw[XS];rcases Hr h.d b hb with⟨q1,q2⟩|⟨c,q1,q2,rfl⟩|⟨rfl,q2⟩
  .obtain⟨a1,a2,a3⟩:=h.a b q1;rw[if_neg (by rw[q2];exact Bool.false_ne_true)];exact⟨a1,a2,by omega⟩
  .obtain⟨a1,a2,a3⟩:=h.a c q1;have e:MR (Aq c y).node (Aq c y).text y=true:=q2;rw[if_pos e];have:=aBm (x:=c.cnt) (by omega) (by omega);refine⟨?_,by show 1<=i64.wrap (c.cnt+1);omega,by show i64.wrap (c.cnt+1)<=_;omega⟩;rw[<-Wy a2];exact congrArg (λg=>PR g y) a1
  .have e:MR (RO y).node (RO y).text y=true:=by simp[MR,RO]
   rw[if_pos e,h.z _ _ λa ha hk=> ?_,newL e]
   .have:=aBm (x:=0) (by omega) (by omega);exact⟨rfl,by show 1<=i64.wrap (0+1);omega,by show i64.wrap (0+1)<=_;omega⟩
   .have:=q2 a ha;rw[hk.1,hk.2,e]at this;cases this
 .rw[XS];have hi:MR nd tx y=false:=by
   cases e:MR nd tx y with
   |false=>rfl
   |true=>
    obtain⟨b,h1,h2⟩:=aGz (y:=y) (gs:=gs);unfold MR at e h2;simp only[aA,beq_iff_eq]at e h2;exact absurd ⟨h2.1.symm.trans e.1,h2.2.symm.trans e.2⟩ (hk b h1)
  rw[hi,if_neg Bool.false_ne_true];refine h.z nd tx λa ha q=> ?_;obtain⟨b,h1,h2⟩:=Mj (y:=y) a ha;exact hk b h1 ⟨h2.1.symm.trans q.1,h2.2.symm.trans q.2⟩
 .rw[Xs λa ha=>⟨(h.a a ha).2.1,by have:=(h.a a ha).2.2;omega⟩,h.s,hlen]
theorem GI.adds:∀(ys pre:kH) {gs:iC},GI pre gs->(pre++ys).length<=12->GI (pre++ys) (EM ys gs)
 |[],pre,gs,h,_ =>by rw[fP];exact h
 |y::ys,pre,gs,h,hl=>by
  have e:pre++y::ys=pre++[y]++ys:=by simp
  rw[e]at hl⊢;exact GI.adds ys (pre++[y]) (h.add (by simp at hl;omega) y) hl
theorem aTr{ys:kH}(h:ys.length<=12):GI ys (EM ys []):=by
 have:=GI.adds ys [] (gs:=[]) ⟨List.Pairwise.nil,λa ha=>by simp at ha,λnd tx _ =>rfl,rfl⟩ (by simpa using h);simpa using this
theorem aLc{l l':gJ}(h:l.Perm l'):l.sum=l'.sum:=by
 induction h with
 |nil=>rfl|cons a _ ih=>simp only[List.sum_cons,ih]|swap a b l=>simp only[List.sum_cons];omega|trans _ _ h1 h2=>exact h1.trans h2
def PO(L:gY):Nat->Int
 |0=>0|i+1=>PO L i+(L i).cnt
theorem aAz(L:gY):∀k,(((List.range k).map L).map Gr.cnt).sum=PO L k
 |0=>rfl
 |k+1=>by
  rw[fG,eQ,eQ,List.sum_append,aAz L k];simp[PO]
theorem Wq(L:gY){k:Nat}(h:∀i,i<k->0<=(L i).cnt):∀i j,i+j<=k->PO L i<=PO L (i+j)
 |i,0,_ =>fR _
 |i,j+1,hj=>by
  have h1:=Wq L h i j (by omega);have h2:=h (i+j) (by omega);show _ <=PO L (i+j)+(L (i+j)).cnt;omega
section
variable{ys:kH}{gs:iC}(h:GI ys gs)
include h
theorem aRp{i:Nat}(hi:i<gs.length):UZ gs i∈gs:=by
 have p:=JB (gs:=gs) (done:=List.range gs.length) fE (λi hi=>dJ.1 hi) (by simp);exact p.mem_iff.1 (bQ.2 ⟨i,dJ.2 hi,rfl⟩)
theorem aAf:PO (UZ gs) gs.length=ys.length:=by
 have p:=JB (gs:=gs) (done:=List.range gs.length) fE (λi hi=>dJ.1 hi) (by simp);rw[<-aAz,<-h.s];exact aLc (p.map Gr.cnt)
theorem aAd{i:Nat}(hi:i<gs.length):UZ gs i=grp (UZ gs i).node (UZ gs i).text ys/\1<=(UZ gs i).cnt/\(UZ gs i).cnt<=ys.length:=h.a _ (aRp h hi)
theorem aKv{i:Nat}(hi:i<=gs.length):0<=PO (UZ gs) i/\PO (UZ gs) i<=ys.length:=by
 have hc:∀j,j<gs.length->0<=(UZ gs j).cnt:=λj hj=>by have:=(aAd h hj).2.1;omega
 have h1:=Wq (UZ gs) hc 0 i (by omega);have h2:=Wq (UZ gs) hc i (gs.length-i) (by omega);rw[show i+(gs.length-i)=gs.length by omega,aAf h]at h2;rw[bP]at h1;exact⟨h1,h2⟩
theorem aXz{i:Nat}(hi:i+1<gs.length):UW (UZ gs i) (UZ gs (i+1))=true:=by
 have p:=JB (gs:=gs) (done:=List.range gs.length) fE (λi hi=>dJ.1 hi) (by simp);have s:=Ad gs.length (by omega) (lD gs (List.range gs.length)) i (i+1) (by omega) (by omega);cases e:UW (UZ gs i) (UZ gs (i+1))with
 |true=>rfl
 |false=>
  have hk:Ov (UZ gs i) (UZ gs (i+1)):=Ju e s;have hp:((List.range gs.length).map (UZ gs)).Pairwise λa b=>¬Ov a b:=by
   refine List.Pairwise.perm (l:=gs) h.d p.symm λ{a b} q w=>q ⟨w.1.symm,w.2.symm⟩
  rw[List.pairwise_map]at hp;have:=List.pairwise_iff_getElem.1 hp i (i+1) (by simp;omega) (by simp;omega) (by omega);simp only[List.getElem_range]at this;exact absurd hk this
end
noncomputable section
section
variable(m:Int)(te:fS)
theorem aWb{v:Vl}(hn:v.n=0)(hm:v.m=0):pW prog (glZ m te) 62 [Ly v] (Ly v):=by
 obtain⟨a,b,c,d,n,l,k,f⟩:=v;simp only at hn hm;subst hn hm;refine(u_ok (cxG m te trivial) rfl (f:=62) (by kernel_rfl) (by kernel_rfl) func62 (by kernel_rfl) (ts:=[Ly ⟨a,b,c,d,0,l,0,f⟩]) (by kernel_rfl) (ds:=[false,false]) (r:= .agg [.int .i64 a,.int .i64 b,.int .i64 c,.str d,.nils,.nils]) (b:=true) (by kernel_rfl) rfl).mono λG x hx=> ?_;cases hx with
 |agg _ vs k1 k2=>
  refine .agg _ vs k1 λj c t hc ht=> ?_
  match j,ht with
  |0,ht=>cases ht;exact k2 0 c _ hc rfl|1,ht=>cases ht;exact k2 1 c _ hc rfl|2,ht=>cases ht;exact k2 2 c _ hc rfl|3,ht=>cases ht;exact k2 3 c _ hc rfl|4,ht=>cases ht;exact EG (n:=0) (λj h=>absurd h (by omega)) (k2 4 c _ hc rfl)|5,ht=>cases ht;exact EG (n:=0) (λj h=>absurd h (by omega)) (k2 5 c _ hc rfl)|j+6,ht=>simp[vlC]at ht
def FG:Fc:=⟨λs=>Nat.beq s 2,λ_ _ _ =>none⟩
theorem cxH:Cx prog (DG m te) FG:=⟨follows,(cxG m te trivial).hE,rG⟩
theorem bLg{e:Int}{n:Nat}{p:gZ}(h:pW prog (glZ m te) 68 [.slf false n p] (.slf false n p)):pW prog (glZ m te) 67 [.agg [.int .i64 e,.slf false n p]] (.agg [.int .i64 e,.slf false n p]):=
 u_ok (cxH m te) rfl (f:=67) (by kernel_rfl) (by kernel_rfl) func67 (by kernel_rfl) (by kernel_rfl) (ds:=[]) (b:=pb (pW prog (glZ m te) 68 [.slf false n p] (.slf false n p))&&true) (by kernel_rfl) (by simp[rD,h])
theorem bLb{y:Lr}(hp:pW prog (glZ m te) 68 [.slf false y.np y.p] (.slf false y.np y.p))(ho:pW prog (glZ m te) 68 [.slf false y.no y.o] (.slf false y.no y.o))(hb:pW prog (glZ m te) 62 [Ly y.b] (Ly y.b)):pW prog (glZ m te) 37 [.agg y.m] (.agg y.m):=
 u_ok (cxH m te) rfl (f:=37) (by kernel_rfl) (by kernel_rfl) func37 (by kernel_rfl) (by kernel_rfl) (ds:=[]) (b:=pb (pW prog (glZ m te) 62 [Ly y.b] (Ly y.b))&&(pb (pW prog (glZ m te) 68 [.slf false y.no y.o] (.slf false y.no y.o))&&(pb (pW prog (glZ m te) 67 [.agg [.int .i64 y.e,.slf false y.np y.p]] (.agg [.int .i64 y.e,.slf false y.np y.p]))&&true))) (by kernel_rfl) (by simp[rD,hb,ho,bLg m te hp])
end
end
end Go.Proofs.Tryz
