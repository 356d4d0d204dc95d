/- Lemmas for the card; no conditions. -/
import Derived.Test.YthfdachbgpjafaaGreatDoorXd10
import Derived.Test.YthfdachbgpjafaaGreatDoorXd11
set_option linter.all false
set_option maxRecDepth 100000
open Go.IntKind
namespace Go.Proofs.Tryz
noncomputable section
open Go.Ps
def PW(m:Int)(C:gB)(q:Int):List Bool:=[]
def Wp(m:Int)(C:gB)(q:Int):Empty⊕T:=
 (.inr (T.int .i64 (if q<i64.wrap (0-q)then i64.wrap (0-q)else q)))
variable(m:Int)(C:gB)
def Wk(q:Int):Bool:=
 (oU (PW m C q))
theorem aEi(q:Int):tG prog f295 20 [] (qR prog (DZ m C) F0 2000 (.code (pO f295)) [] 0 ([.int .i64 q]++List.replicate 6 oS) ⟨0,.nl⟩ [] [])=PJ (T.int .i64 (if q<i64.wrap (0-q)then i64.wrap (0-q)else q)) (PW m C q):=by kernel_rfl
theorem bDh(q:Int)(n:Nat){r:T}(h:Wk m C q=true)(a:yJ.fin n (Wp m C q)=some r):fj prog (fo m C) 295 [.int .i64 q] r:=
 gi (M:=yJ) (fn:=f295) (k:=20) (d:=8) (c:=pO f295) (oK m C) (qN m C) (by kernel_rfl) func295 (by kernel_rfl) rfl (by kernel_rfl) (by kernel_rfl) (L:=6) (by kernel_rfl) sE (λJ=>J.elim) ((kD (aEi m C q)) h _ rfl) a
def QI(m:Int)(C:gB)(q a b:Int):List Bool:=let y:=decide (q>=a);[y,y,y,y]
def QJ(m:Int)(C:gB)(q a b:Int):List Bool:=let y:=decide (q>=a);[!y,!y,!y,!y]
def Wr(m:Int)(C:gB)(q a b:Int):Empty⊕T:=
 (if decide (q>=a)then(.inr (T.bool (decide (q<=b))))else(.inr (T.bool false)))
def Wm(q a b:Int):Bool:=
 (if decide (q>=a)then(oU (QI m C q a b))else(oU (QJ m C q a b)))
def Zs(q a b:Int)(ds:gL):RD Rt:=qR prog (DZ m C) F0 2000 (.code (pO f329)) [] 0 ([.int .i64 q,.int .i64 a,.int .i64 b]++List.replicate 12 oS) ⟨0,.nl⟩ ds []
theorem aEu(q a b:Int):tG prog f329 20 [] (Zs m C q a b (bt 4 15))=PJ (T.bool (decide (q<=b))) (QI m C q a b):=by kernel_rfl
theorem aEv(q a b:Int):tG prog f329 20 [] (Zs m C q a b (bt 4 0))=PJ (T.bool false) (QJ m C q a b):=by kernel_rfl
theorem bDl(q a b:Int)(n:Nat){r:T}(h:Wm m C q a b=true)(e:yJ.fin n (Wr m C q a b)=some r):fj prog (fo m C) 329 [.int .i64 q,.int .i64 a,.int .i64 b] r:=
 gi (M:=yJ) (fn:=f329) (k:=20) (d:=8) (c:=pO f329) (oK m C) (qN m C) (by kernel_rfl) func329 (by kernel_rfl) rfl (by kernel_rfl) (by kernel_rfl) (L:=12) (by kernel_rfl) sE (λJ=>J.elim) ((GT (kD (aEu m C q a b)) (kD (aEv m C q a b))) h _ rfl) e
def QK(m:Int)(C:gB)(q:Int):List Bool:=[true,true,true]
def Ws(m:Int)(C:gB)(q:Int):Empty⊕T:=
 (.inr (T.int .i64 (i64.wrap (i64.wrap (i64.wrap (i64.wrap (365*i64.wrap (q-1))+i64.wrap ((i64.wrap (q-1)).tdiv 4))-i64.wrap ((i64.wrap (q-1)).tdiv 100))+i64.wrap ((i64.wrap (q-1)).tdiv 400)))))
def Wn(q:Int):Bool:=
 (oU (QK m C q))
theorem aEw(q:Int):tG prog f330 20 [] (qR prog (DZ m C) F0 2000 (.code (pO f330)) [] 0 ([.int .i64 q]++List.replicate 16 oS) ⟨0,.nl⟩ [] [])=PJ (T.int .i64 (i64.wrap (i64.wrap (i64.wrap (i64.wrap (365*i64.wrap (q-1))+i64.wrap ((i64.wrap (q-1)).tdiv 4))-i64.wrap ((i64.wrap (q-1)).tdiv 100))+i64.wrap ((i64.wrap (q-1)).tdiv 400)))) (QK m C q):=by kernel_rfl
theorem bDm(q:Int)(n:Nat){r:T}(h:Wn m C q=true)(a:yJ.fin n (Ws m C q)=some r):fj prog (fo m C) 330 [.int .i64 q] r:=
 gi (M:=yJ) (fn:=f330) (k:=20) (d:=8) (c:=pO f330) (oK m C) (qN m C) (by kernel_rfl) func330 (by kernel_rfl) rfl (by kernel_rfl) (by kernel_rfl) (L:=16) (by kernel_rfl) sE (λJ=>J.elim) ((kD (aEw m C q)) h _ rfl) a
end
open Go.Ps
theorem ja{x:Int}(a:-9223372036854775808<=x)(h:x<=9223372036854775807):i64.wrap x=x:=by rw[IntKind.wrap_i64];omega
variable(m:Int)(C:gB)
theorem Rx(n:Int):fj prog (fo m C) 295 [.int .i64 n] (.int .i64 (wQ n)):=
 bDh m C n 0 (by unfold Wk PW;rfl) (by unfold Wp;rfl)
theorem aIj(n a b:Int):fj prog (fo m C) 329 [.int .i64 n,.int .i64 a,.int .i64 b] (.bool (ZS n a b)):=by
 refine bDl m C n a b 0 ?_ ?_;unfold Wm QI QJ;split<;>simp_all [oU];unfold Wr ZS;by_cases h:a<=n;simp[h,yJ,xD.fin];simp[h,yJ,xD.fin]
theorem bDa{y:Int}(a:1<=y)(h:y<=10000):fj prog (fo m C) 330 [.int .i64 y] (.int .i64 (hZ.i6 y)):=by
 refine bDm m C y 0 (by unfold Wn QK;rfl) ?_;unfold Ws hZ.i6;have e:i64.wrap (y-1)=y-1:=ja (by omega) (by omega);rw[e];simp only[hZ.hV (show(0:Int)<=y-1 by omega)]
 rw[ja (x:=365*(y-1)) (by omega) (by omega),ja (x:=(y-1)/4) (by omega) (by omega),ja (x:=(y-1)/100) (by omega) (by omega),ja (x:=(y-1)/400) (by omega) (by omega),
  ja (x:=365*(y-1)+(y-1)/4) (by omega) (by omega),ja (x:=365*(y-1)+(y-1)/4-(y-1)/100) (by omega) (by omega),ja (x:=365*(y-1)+(y-1)/4-(y-1)/100+(y-1)/400) (by omega) (by omega)]
 rfl
theorem uo:Cx prog (DP m C) F0:=by
 refine⟨follows,?_,vW⟩;refine pG (pG rM λa r c h b=> ?_) λa r c h b=> ?_;unfold aDe at h;split at h;cases h;exact Rx m C _;cases h;unfold aDf at h;split at h;cases h;exact aIj m C _ _ _;cases h
end Go.Proofs.Tryz
namespace Go.Proofs.Tryz
noncomputable section
open Go.Ps
def QT(m:Int)(C:gB)(q s:Int):List Bool:=let y:=decide (wQ q>999999999999999);[!y,!y,!y,!y]
variable(m:Int)(C:gB)
def QU(q s:Int):List Bool:=let y:=decide (q< -999999999999999);(!y)::(!y)::(!y)::(!y)::QT m C q s
def QV(q s:Int):List Bool:=let y:=decide (s<0);(!y)::(!y)::(!y)::(!y)::QU m C q s
def PX(m:Int)(C:gB)(q s:Int):List Bool:=let y:=decide (wQ q>999999999999999);[true,true,true,true,true,true,true,true,true,y,y,y,y]
def PY(q s:Int):List Bool:=let y:=decide (q< -999999999999999);true::true::true::true::true::y::y::y::y::QT m C q s
def PZ(q s:Int):List Bool:=let y:=decide (s<0);true::y::y::y::y::QU m C q s
def QA(q s:Int):List Bool:=(decide (s>12))::QV m C q s
def QB(q s:Int):List Bool:=(!decide (s>12))::QV m C q s
def Wq(m:Int)(C:gB)(q s:Int):Empty⊕T:=
 (if decide (wQ q>999999999999999)then(.inr (T.int .i64 2))else(if decide (q< -999999999999999)then(.inr (T.int .i64 2))else(if decide (s<0)then(.inr (T.int .i64 2))else(if decide (s>12)then(.inr (T.int .i64 2))else(.inr (T.int .i64 0))))))
def Wl(q s:Int):Bool:=
 (if decide (wQ q>999999999999999)then(oU (PX m C q s))else(if decide (q< -999999999999999)then(oU (PY m C q s))else(if decide (s<0)then(oU (PZ m C q s))else(if decide (s>12)then(oU (QA m C q s))else(oU (QB m C q s))))))
def OV(q s:Int)(ds:gL):RD Rt:=qR prog (DP m C) F0 2000 (.code (pO f301)) [] 0 ([.agg [.int .i64 q,.int .i64 s]]++List.replicate 21 oS) ⟨0,.nl⟩ ds []
theorem aEj(q s:Int):tG prog f301 20 [] (OV m C q s (bt 13 8191))=PJ (T.int .i64 2) (PX m C q s):=by kernel_rfl
theorem aEk(q s:Int):tG prog f301 20 [] (OV m C q s (bt 13 8176))=PJ (T.int .i64 2) (PY m C q s):=by kernel_rfl
theorem aEl(q s:Int):tG prog f301 20 [] (OV m C q s (bt 13 7936))=PJ (T.int .i64 2) (PZ m C q s):=by kernel_rfl
theorem aEm(q s:Int):tG prog f301 20 [] (OV m C q s (bt 13 4096))=PJ (T.int .i64 2) (QA m C q s):=by kernel_rfl
theorem aEn(q s:Int):tG prog f301 20 [] (OV m C q s (bt 13 0))=PJ (T.int .i64 0) (QB m C q s):=by kernel_rfl
theorem bDi(q s:Int)(n:Nat){r:T}(h:Wl m C q s=true)(a:yJ.fin n (Wq m C q s)=some r):fj prog (fo m C) 301 [.agg [.int .i64 q,.int .i64 s]] r:=
 gi (M:=yJ) (fn:=f301) (k:=20) (d:=8) (c:=pO f301) (uo m C) (qN m C) (by kernel_rfl) func301 (by kernel_rfl) rfl (by kernel_rfl) (by kernel_rfl) (L:=21) (by kernel_rfl) sE (λJ=>J.elim) ((GT (kD (aEj m C q s)) (GT (kD (aEk m C q s)) (GT (kD (aEl m C q s)) (GT (kD (aEm m C q s)) (kD (aEn m C q s)))))) h _ rfl) a
def QW(m:Int)(C:gB)(q:Int):List Bool:=[ZS q 1 9999,ZS q 1 9999,true,ZS q 1 9999,ZS q 1 9999]
def QX(q:Int):List Bool:=let y:=q.tmod 4==0;y::y::true::y::y::QW m C q
def QL(q:Int):List Bool:=let a:=q.tmod 4==0;let y:=q.tmod 100 !=0;a::y::a::y::y::y::QX m C q
def QM(q:Int):List Bool:=let a:=q.tmod 4==0;let y:=q.tmod 100 !=0;a::(!y)::a::(!y)::true::(!y)::(!y)::QX m C q
def QN(q:Int):List Bool:=let y:=q.tmod 4==0;(!y)::(!y)::(!y)::(!y)::(!y)::(!y)::QW m C q
def QO(m:Int)(C:gB)(q:Int):List Bool:=[true,true,true,true,true,true,!ZS q 1 9999,!ZS q 1 9999,!ZS q 1 9999,!ZS q 1 9999]
def Wt(m:Int)(C:gB)(q:Int):Empty⊕T:=
 (if ZS q 1 9999 then(if q.tmod 4==0 then(if q.tmod 100 !=0 then(.inr (T.bool true))else(.inr (T.bool (q.tmod 400==0))))else(.inr (T.bool false)))else(.inr (T.bool false)))
def Wo(q:Int):Bool:=
 (if ZS q 1 9999 then(if q.tmod 4==0 then(if q.tmod 100 !=0 then(oU (QL m C q))else(oU (QM m C q)))else(oU (QN m C q)))else(oU (QO m C q)))
def UE(q:Int)(ds:gL):RD Rt:=qR prog (DP m C) F0 2000 (.code (pO f345)) [] 0 ([.int .i64 q]++List.replicate 19 oS) ⟨0,.nl⟩ ds []
theorem aEx(q:Int):tG prog f345 20 [] (UE m C q (bt 14 16383))=PJ (T.bool true) (QL m C q):=by kernel_rfl
theorem aEy(q:Int):tG prog f345 20 [] (UE m C q (bt 14 10495))=PJ (T.bool (q.tmod 400==0)) (QM m C q):=by kernel_rfl
theorem aEz(q:Int):tG prog f345 20 [] (UE m C q (bt 10 15))=PJ (T.bool false) (QN m C q):=by kernel_rfl
theorem aFa(q:Int):tG prog f345 20 [] (UE m C q (bt 10 0))=PJ (T.bool false) (QO m C q):=by kernel_rfl
theorem bDn(q:Int)(n:Nat){r:T}(h:Wo m C q=true)(a:yJ.fin n (Wt m C q)=some r):fj prog (fo m C) 345 [.int .i64 q] r:=
 gi (M:=yJ) (fn:=f345) (k:=20) (d:=8) (c:=pO f345) (uo m C) (qN m C) (by kernel_rfl) func345 (by kernel_rfl) rfl (by kernel_rfl) (by kernel_rfl) (L:=19) (by kernel_rfl) sE (λJ=>J.elim) ((GT (GT (GT (kD (aEx m C q)) (kD (aEy m C q))) (kD (aEz m C q))) (kD (aFa m C q))) h _ rfl) a
end
open Go.Ps
variable(m:Int)(C:gB)
theorem Xf(q s:Int):fj prog (fo m C) 301 [.agg [.int .i64 q,.int .i64 s]] (.int .i64 (KO q s)):=by
 refine bDi m C q s 0 ?_ ?_
 .unfold Wl PX PY PZ QA QB QV QU QT
  repeat' split
  all_goals simp_all [oU]
 unfold Wq KO mm;by_cases h:wQ q>999999999999999;simp[h,yJ,xD.fin];by_cases a:q< -999999999999999;simp[h,a,yJ,xD.fin];by_cases b:s<0;simp[h,a,b,yJ,xD.fin];by_cases c:s>12;simp[h,a,b,c,yJ,xD.fin];simp[h,a,b,c,yJ,xD.fin]
theorem bGl(y:Int):fj prog (fo m C) 345 [.int .i64 y] (.bool (UA y)):=by
 refine bDn m C y 0 ?_ ?_
 .unfold Wo QL QM QN QO QX QW
  repeat' split
  all_goals simp_all [oU]
 unfold Wt UA hZ.leap;by_cases h:ZS y 1 9999=true;by_cases a:y.tmod 4=0;by_cases b:y.tmod 100=0;simp only[h,a,b];simp[yJ,xD.fin];rfl;simp[h,a,b,yJ,xD.fin];simp[h,a,yJ,xD.fin];simp[h,yJ,xD.fin]
theorem ka:Cx prog (DQ m C) F0:=by
 refine⟨follows,?_,vW⟩;refine pG (pG (pG (pG rM λa r c h b=> ?_) λa r c h b=> ?_) λa r c h b=> ?_) λa r c h b=> ?_;unfold aDe at h;split at h;cases h;exact Rx m C _;cases h;unfold aDf at h;split at h;cases h;exact aIj m C _ _ _;cases h;unfold aSw at h;split at h;cases h;exact Xf m C _ _;cases h;unfold bIa at h;split at h;cases h;exact bGl m C _;cases h
end Go.Proofs.Tryz
namespace Go.Proofs.Tryz
noncomputable section
open Go.Ps
def HU(m:Int)(C:gB)(q:Int):List Bool:=[true,true,true,true,true,true]
def Bh(m:Int)(C:gB)(q:Int):Empty⊕T:=
 (.inr (T.int .i64 31))
variable(m:Int)(C:gB)
def Au(q:Int):Bool:=
 (oU (HU m C q))
theorem Qz(q:Int):tG prog f331 20 [] (qR prog (DQ m C) F0 2000 (.code (pO f331)) [] 0 ([.int .i64 q,.int .i64 1]++List.replicate 13 oS) ⟨0,.nl⟩ (bt 4 0) [])=PJ (T.int .i64 31) (HU m C q):=by kernel_rfl
theorem aOs(q:Int)(n:Nat){r:T}(h:Au m C q=true)(a:yJ.fin n (Bh m C q)=some r):fj prog (fo m C) 331 [.int .i64 q,.int .i64 1] r:=
 gi (M:=yJ) (fn:=f331) (k:=20) (d:=8) (c:=pO f331) (ka m C) (qN m C) (by kernel_rfl) func331 (by kernel_rfl) rfl (by kernel_rfl) (by kernel_rfl) (L:=13) (by kernel_rfl) sE (λJ=>J.elim) ((kD (Qz m C q)) h _ rfl) a
def HV(m:Int)(C:gB)(q:Int):List Bool:=[UA q,true,true,true]
def HW(m:Int)(C:gB)(q:Int):List Bool:=[true,true,!UA q,true,true,true]
def Bi(m:Int)(C:gB)(q:Int):Empty⊕T:=
 (if UA q then(.inr (T.int .i64 29))else(.inr (T.int .i64 28)))
def Av(q:Int):Bool:=
 (if UA q then(oU (HV m C q))else(oU (HW m C q)))
def Dz(q:Int)(ds:gL):RD Rt:=qR prog (DQ m C) F0 2000 (.code (pO f331)) [] 0 ([.int .i64 q,.int .i64 2]++List.replicate 13 oS) ⟨0,.nl⟩ ds []
theorem Ra(q:Int):tG prog f331 20 [] (Dz m C q (bt 4 15))=PJ (T.int .i64 29) (HV m C q):=by kernel_rfl
theorem Rb(q:Int):tG prog f331 20 [] (Dz m C q (bt 4 7))=PJ (T.int .i64 28) (HW m C q):=by kernel_rfl
theorem aOt(q:Int)(n:Nat){r:T}(h:Av m C q=true)(a:yJ.fin n (Bi m C q)=some r):fj prog (fo m C) 331 [.int .i64 q,.int .i64 2] r:=
 gi (M:=yJ) (fn:=f331) (k:=20) (d:=8) (c:=pO f331) (ka m C) (qN m C) (by kernel_rfl) func331 (by kernel_rfl) rfl (by kernel_rfl) (by kernel_rfl) (L:=13) (by kernel_rfl) sE (λJ=>J.elim) ((GT (kD (Ra m C q)) (kD (Rb m C q))) h _ rfl) a
def HX(m:Int)(C:gB)(q:Int):List Bool:=[true,true,true,true,true,true]
def Bj(m:Int)(C:gB)(q:Int):Empty⊕T:=
 (.inr (T.int .i64 31))
def Aw(q:Int):Bool:=
 (oU (HX m C q))
theorem Rc(q:Int):tG prog f331 20 [] (qR prog (DQ m C) F0 2000 (.code (pO f331)) [] 0 ([.int .i64 q,.int .i64 3]++List.replicate 13 oS) ⟨0,.nl⟩ (bt 4 0) [])=PJ (T.int .i64 31) (HX m C q):=by kernel_rfl
theorem aOu(q:Int)(n:Nat){r:T}(h:Aw m C q=true)(a:yJ.fin n (Bj m C q)=some r):fj prog (fo m C) 331 [.int .i64 q,.int .i64 3] r:=
 gi (M:=yJ) (fn:=f331) (k:=20) (d:=8) (c:=pO f331) (ka m C) (qN m C) (by kernel_rfl) func331 (by kernel_rfl) rfl (by kernel_rfl) (by kernel_rfl) (L:=13) (by kernel_rfl) sE (λJ=>J.elim) ((kD (Rc m C q)) h _ rfl) a
def HY(m:Int)(C:gB)(q:Int):List Bool:=[true,true,true,true,true,true]
def Bm(m:Int)(C:gB)(q:Int):Empty⊕T:=
 (.inr (T.int .i64 30))
def Ax(q:Int):Bool:=
 (oU (HY m C q))
theorem Re(q:Int):tG prog f331 20 [] (qR prog (DQ m C) F0 2000 (.code (pO f331)) [] 0 ([.int .i64 q,.int .i64 4]++List.replicate 13 oS) ⟨0,.nl⟩ (bt 4 0) [])=PJ (T.int .i64 30) (HY m C q):=by kernel_rfl
theorem aOv(q:Int)(n:Nat){r:T}(h:Ax m C q=true)(a:yJ.fin n (Bm m C q)=some r):fj prog (fo m C) 331 [.int .i64 q,.int .i64 4] r:=
 gi (M:=yJ) (fn:=f331) (k:=20) (d:=8) (c:=pO f331) (ka m C) (qN m C) (by kernel_rfl) func331 (by kernel_rfl) rfl (by kernel_rfl) (by kernel_rfl) (L:=13) (by kernel_rfl) sE (λJ=>J.elim) ((kD (Re m C q)) h _ rfl) a
def HZ(m:Int)(C:gB)(q:Int):List Bool:=[true,true,true,true,true,true]
def Bn(m:Int)(C:gB)(q:Int):Empty⊕T:=
 (.inr (T.int .i64 31))
def Ay(q:Int):Bool:=
 (oU (HZ m C q))
theorem Rf(q:Int):tG prog f331 20 [] (qR prog (DQ m C) F0 2000 (.code (pO f331)) [] 0 ([.int .i64 q,.int .i64 5]++List.replicate 13 oS) ⟨0,.nl⟩ (bt 4 0) [])=PJ (T.int .i64 31) (HZ m C q):=by kernel_rfl
theorem aOw(q:Int)(n:Nat){r:T}(h:Ay m C q=true)(a:yJ.fin n (Bn m C q)=some r):fj prog (fo m C) 331 [.int .i64 q,.int .i64 5] r:=
 gi (M:=yJ) (fn:=f331) (k:=20) (d:=8) (c:=pO f331) (ka m C) (qN m C) (by kernel_rfl) func331 (by kernel_rfl) rfl (by kernel_rfl) (by kernel_rfl) (L:=13) (by kernel_rfl) sE (λJ=>J.elim) ((kD (Rf m C q)) h _ rfl) a
def IA(m:Int)(C:gB)(q:Int):List Bool:=[true,true,true,true,true,true]
def Bp(m:Int)(C:gB)(q:Int):Empty⊕T:=
 (.inr (T.int .i64 30))
def Az(q:Int):Bool:=
 (oU (IA m C q))
theorem Rg(q:Int):tG prog f331 20 [] (qR prog (DQ m C) F0 2000 (.code (pO f331)) [] 0 ([.int .i64 q,.int .i64 6]++List.replicate 13 oS) ⟨0,.nl⟩ (bt 4 0) [])=PJ (T.int .i64 30) (IA m C q):=by kernel_rfl
theorem aOx(q:Int)(n:Nat){r:T}(h:Az m C q=true)(a:yJ.fin n (Bp m C q)=some r):fj prog (fo m C) 331 [.int .i64 q,.int .i64 6] r:=
 gi (M:=yJ) (fn:=f331) (k:=20) (d:=8) (c:=pO f331) (ka m C) (qN m C) (by kernel_rfl) func331 (by kernel_rfl) rfl (by kernel_rfl) (by kernel_rfl) (L:=13) (by kernel_rfl) sE (λJ=>J.elim) ((kD (Rg m C q)) h _ rfl) a
def IB(m:Int)(C:gB)(q:Int):List Bool:=[true,true,true,true,true,true]
def Bq(m:Int)(C:gB)(q:Int):Empty⊕T:=
 (.inr (T.int .i64 31))
def Ba(q:Int):Bool:=
 (oU (IB m C q))
theorem Rh(q:Int):tG prog f331 20 [] (qR prog (DQ m C) F0 2000 (.code (pO f331)) [] 0 ([.int .i64 q,.int .i64 7]++List.replicate 13 oS) ⟨0,.nl⟩ (bt 4 0) [])=PJ (T.int .i64 31) (IB m C q):=by kernel_rfl
theorem aOy(q:Int)(n:Nat){r:T}(h:Ba m C q=true)(a:yJ.fin n (Bq m C q)=some r):fj prog (fo m C) 331 [.int .i64 q,.int .i64 7] r:=
 gi (M:=yJ) (fn:=f331) (k:=20) (d:=8) (c:=pO f331) (ka m C) (qN m C) (by kernel_rfl) func331 (by kernel_rfl) rfl (by kernel_rfl) (by kernel_rfl) (L:=13) (by kernel_rfl) sE (λJ=>J.elim) ((kD (Rh m C q)) h _ rfl) a
def IC(m:Int)(C:gB)(q:Int):List Bool:=[true,true,true,true,true,true]
def Br(m:Int)(C:gB)(q:Int):Empty⊕T:=
 (.inr (T.int .i64 31))
def Bb(q:Int):Bool:=
 (oU (IC m C q))
theorem Ri(q:Int):tG prog f331 20 [] (qR prog (DQ m C) F0 2000 (.code (pO f331)) [] 0 ([.int .i64 q,.int .i64 8]++List.replicate 13 oS) ⟨0,.nl⟩ (bt 4 0) [])=PJ (T.int .i64 31) (IC m C q):=by kernel_rfl
theorem aOz(q:Int)(n:Nat){r:T}(h:Bb m C q=true)(a:yJ.fin n (Br m C q)=some r):fj prog (fo m C) 331 [.int .i64 q,.int .i64 8] r:=
 gi (M:=yJ) (fn:=f331) (k:=20) (d:=8) (c:=pO f331) (ka m C) (qN m C) (by kernel_rfl) func331 (by kernel_rfl) rfl (by kernel_rfl) (by kernel_rfl) (L:=13) (by kernel_rfl) sE (λJ=>J.elim) ((kD (Ri m C q)) h _ rfl) a
def IE(m:Int)(C:gB)(q:Int):List Bool:=[true,true,true,true,true,true]
def Bt(m:Int)(C:gB)(q:Int):Empty⊕T:=
 (.inr (T.int .i64 30))
def Bc(q:Int):Bool:=
 (oU (IE m C q))
theorem Rj(q:Int):tG prog f331 20 [] (qR prog (DQ m C) F0 2000 (.code (pO f331)) [] 0 ([.int .i64 q,.int .i64 9]++List.replicate 13 oS) ⟨0,.nl⟩ (bt 4 0) [])=PJ (T.int .i64 30) (IE m C q):=by kernel_rfl
theorem aPa(q:Int)(n:Nat){r:T}(h:Bc m C q=true)(a:yJ.fin n (Bt m C q)=some r):fj prog (fo m C) 331 [.int .i64 q,.int .i64 9] r:=
 gi (M:=yJ) (fn:=f331) (k:=20) (d:=8) (c:=pO f331) (ka m C) (qN m C) (by kernel_rfl) func331 (by kernel_rfl) rfl (by kernel_rfl) (by kernel_rfl) (L:=13) (by kernel_rfl) sE (λJ=>J.elim) ((kD (Rj m C q)) h _ rfl) a
def FL(m:Int)(C:gB)(q:Int):List Bool:=[true,true,true,true,true,true]
def UZ(m:Int)(C:gB)(q:Int):Empty⊕T:=
 (.inr (T.int .i64 31))
def UU(q:Int):Bool:=
 (oU (FL m C q))
theorem Km(q:Int):tG prog f331 20 [] (qR prog (DQ m C) F0 2000 (.code (pO f331)) [] 0 ([.int .i64 q,.int .i64 10]++List.replicate 13 oS) ⟨0,.nl⟩ (bt 4 0) [])=PJ (T.int .i64 31) (FL m C q):=by kernel_rfl
theorem aGh(q:Int)(n:Nat){r:T}(h:UU m C q=true)(a:yJ.fin n (UZ m C q)=some r):fj prog (fo m C) 331 [.int .i64 q,.int .i64 10] r:=
 gi (M:=yJ) (fn:=f331) (k:=20) (d:=8) (c:=pO f331) (ka m C) (qN m C) (by kernel_rfl) func331 (by kernel_rfl) rfl (by kernel_rfl) (by kernel_rfl) (L:=13) (by kernel_rfl) sE (λJ=>J.elim) ((kD (Km m C q)) h _ rfl) a
def FN(m:Int)(C:gB)(q:Int):List Bool:=[true,true,true,true,true,true]
def VA(m:Int)(C:gB)(q:Int):Empty⊕T:=
 (.inr (T.int .i64 30))
def UV(q:Int):Bool:=
 (oU (FN m C q))
theorem Kn(q:Int):tG prog f331 20 [] (qR prog (DQ m C) F0 2000 (.code (pO f331)) [] 0 ([.int .i64 q,.int .i64 11]++List.replicate 13 oS) ⟨0,.nl⟩ (bt 4 0) [])=PJ (T.int .i64 30) (FN m C q):=by kernel_rfl
theorem aGi(q:Int)(n:Nat){r:T}(h:UV m C q=true)(a:yJ.fin n (VA m C q)=some r):fj prog (fo m C) 331 [.int .i64 q,.int .i64 11] r:=
 gi (M:=yJ) (fn:=f331) (k:=20) (d:=8) (c:=pO f331) (ka m C) (qN m C) (by kernel_rfl) func331 (by kernel_rfl) rfl (by kernel_rfl) (by kernel_rfl) (L:=13) (by kernel_rfl) sE (λJ=>J.elim) ((kD (Kn m C q)) h _ rfl) a
def FO(m:Int)(C:gB)(q:Int):List Bool:=[true,true,true,true,true,true]
def VB(m:Int)(C:gB)(q:Int):Empty⊕T:=
 (.inr (T.int .i64 31))
def UW(q:Int):Bool:=
 (oU (FO m C q))
theorem Ko(q:Int):tG prog f331 20 [] (qR prog (DQ m C) F0 2000 (.code (pO f331)) [] 0 ([.int .i64 q,.int .i64 12]++List.replicate 13 oS) ⟨0,.nl⟩ (bt 4 0) [])=PJ (T.int .i64 31) (FO m C q):=by kernel_rfl
theorem aGj(q:Int)(n:Nat){r:T}(h:UW m C q=true)(a:yJ.fin n (VB m C q)=some r):fj prog (fo m C) 331 [.int .i64 q,.int .i64 12] r:=
 gi (M:=yJ) (fn:=f331) (k:=20) (d:=8) (c:=pO f331) (ka m C) (qN m C) (by kernel_rfl) func331 (by kernel_rfl) rfl (by kernel_rfl) (by kernel_rfl) (L:=13) (by kernel_rfl) sE (λJ=>J.elim) ((kD (Ko m C q)) h _ rfl) a
end
open Go.Ps
theorem Kj{Q:Type}{b:Bool}{x y z:Q}(a:b=true->x=z)(h:b=false->y=z):(if b=true then x else y)=z:=by
 cases b;exact h rfl;exact a rfl
theorem aBg{q s:Int}:KO q s=0↔wQ q<=mm/\-mm<=q/\0<=s/\s<=12:=by
 unfold KO;split<;>constructor<;>intro h<;>first|omega|(constructor<;>omega)
variable(m:Int)(C:gB)
theorem bGn(y:Int){k:Int}(c:1<=k)(b:k<=12):fj prog (fo m C) 331 [.int .i64 y,.int .i64 k] (.int .i64 (hZ.iD (UA y) k)):=by
 have a:k=1\/k=2\/k=3\/k=4\/k=5\/k=6\/k=7\/k=8\/k=9\/k=10\/k=11\/k=12:=by omega
 rcases a with rfl|rfl|rfl|rfl|rfl|rfl|rfl|rfl|rfl|rfl|rfl|rfl;exact aOs m C y 0 (by unfold Au HU;rfl) (by unfold Bh;simp[hZ.iD,yJ,xD.fin]);refine aOt m C y 0 ?_ ?_;unfold Av HV HW;split<;>simp_all [oU];unfold Bi hZ.iD;by_cases h:UA y=true;simp[h,yJ,xD.fin];simp[h,yJ,xD.fin];exact aOu m C y 0 (by unfold Aw HX;rfl) (by unfold Bj;simp[hZ.iD,yJ,xD.fin]);exact aOv m C y 0 (by unfold Ax HY;rfl) (by unfold Bm;simp[hZ.iD,yJ,xD.fin]);exact aOw m C y 0 (by unfold Ay HZ;rfl) (by unfold Bn;simp[hZ.iD,yJ,xD.fin]);exact aOx m C y 0 (by unfold Az IA;rfl) (by unfold Bp;simp[hZ.iD,yJ,xD.fin]);exact aOy m C y 0 (by unfold Ba IB;rfl) (by unfold Bq;simp[hZ.iD,yJ,xD.fin]);exact aOz m C y 0 (by unfold Bb IC;rfl) (by unfold Br;simp[hZ.iD,yJ,xD.fin]);exact aPa m C y 0 (by unfold Bc IE;rfl) (by unfold Bt;simp[hZ.iD,yJ,xD.fin]);exact aGh m C y 0 (by unfold UU FL;rfl) (by unfold UZ;simp[hZ.iD,yJ,xD.fin]);exact aGi m C y 0 (by unfold UV FN;rfl) (by unfold VA;simp[hZ.iD,yJ,xD.fin]);exact aGj m C y 0 (by unfold UW FO;rfl) (by unfold VB;simp[hZ.iD,yJ,xD.fin])
theorem aQt(n:Int)(h:-9223372036854775808<=n/\n<=9223372036854775807):fj prog (fo m C) 40 [.int .i64 n] (.str (qL n)):=by
 refine Ph ?_;unfold j7;rw[aH (by decide),aH (by decide),aH (by decide),aH (by decide),aJ rfl];exact aJ h
theorem uq:Cx prog (DR m C) F0:=by
 refine⟨follows,?_,vW⟩;refine pG (pG (pG (pG (pG (pG (pG rM λb r c h a=> ?_) λb r c h a=> ?_) λb r c h a=> ?_) λb r c h a=> ?_) λb r c h a=> ?_) λb r c h a=> ?_) λb r c h a=> ?_;unfold aDe at h;split at h;cases h;exact Rx m C _;cases h;unfold aDf at h;split at h;cases h;exact aIj m C _ _ _;cases h;unfold aSw at h;split at h;cases h;exact Xf m C _ _;cases h;unfold rP at h;split at h;cases h;simp only[oU,bM,aA,aF]at a;exact aQt m C _ a;cases h;unfold bHw at h;split at h;cases h;rename_i s n;simp only[oU,bM,aA,aF]at a;have:=aKs (m:=m) (C:=C) s n.toNat (by omega) (by have:=Nat.mul_le_mul a.2.2 (show n.toNat<=100 by omega);omega)
 rwa [show((n.toNat:Nat):Int)=n by omega]at this
 cases h;unfold bHy at h;split at h;cases h;simp only[oU,bM,aA,aF]at a;exact bGn m C _ a.1 a.2;cases h;unfold bHx at h;split at h;cases h;simp only[oU,bM,aA,aF]at a;exact bDa m C a.1 a.2;cases h
end Go.Proofs.Tryz
namespace Go.Proofs.Tryz
noncomputable section
open Go.Ps
inductive RW where
 |l0 (x2 x6:Int)
 |l1 (x2 x3 x6:Int)
def QG(m:Int)(C:gB)(q:Int):List Bool:=[!ZS q (-719162) 2932896]
def QH(m:Int)(C:gB)(q:Int):List Bool:=[true,!!ZS q (-719162) 2932896]
def QC(m:Int)(C:gB)(q x a:Int):List Bool:=[decide (hZ.i6 x>a),decide (1<=x),decide (x<=10000)]
def QD(m:Int)(C:gB)(q x b:Int):List Bool:=let a:=decide (1<=x);let y:=decide (x<=10000);[a,y,!decide (hZ.i6 x>b),a,y]
def QE(m:Int)(C:gB)(q b x c:Int):List Bool:=let a:=decide (1<=x);let y:=decide (x<=12);[a,y,decide (c>=hZ.iD (UA b) x),a,y]
def QF(m:Int)(C:gB)(q b x a:Int):List Bool:=[!decide (a>=hZ.iD (UA b) x),decide (1<=x),decide (x<=12)]
def JE(m:Int)(C:gB)(q x a:Int):RW⊕T:=
 (if decide (hZ.i6 x>a)then(.inl (.l0 (i64.wrap (x-1)) a))else(.inl (.l1 x 1 (i64.wrap (a-hZ.i6 x)))))
variable(m:Int)(C:gB)
def MV(q a x:Int):Bool:=
 (if decide (hZ.i6 a>x)then(oU (QC m C q a x))else(oU (QD m C q a x)))
def ZH(q a x:Int):Option (RW⊕T):=if MV m C q a x then some (JE m C q a x)else none
theorem aNv(q a x:Int)(h:MV m C q a x=true):ZH m C q a x=some (JE m C q a x):=aJ h
def JF(m:Int)(C:gB)(q a x b:Int):RW⊕T:=
 (if decide (b>=hZ.iD (UA a) x)then(.inl (.l1 a (i64.wrap (x+1)) (i64.wrap (b-hZ.iD (UA a) x))))else(.inr (T.fm [T.int .i64 a,T.int .i64 x,T.int .i64 (i64.wrap (b+1)),T.int .i64 0])))
def MW(q b a x:Int):Bool:=
 (if decide (x>=hZ.iD (UA b) a)then(oU (QE m C q b a x))else(oU (QF m C q b a x)))
def ZI(q b a x:Int):Option (RW⊕T):=if MW m C q b a x then some (JF m C q b a x)else none
theorem aNw(q b a x:Int)(h:MW m C q b a x=true):ZI m C q b a x=some (JF m C q b a x):=aJ h
def Fj(m:Int)(C:gB)(q:Int):RW⊕T:=
 (if !ZS q (-719162) 2932896 then(.inr (T.fm [T.int .i64 0,T.int .i64 0,T.int .i64 0,T.int .i64 2]))else(.inl (.l0 (if 9999<i64.wrap (i64.wrap ((i64.wrap (q- -719162)).tdiv 365)+1)then 9999 else i64.wrap (i64.wrap ((i64.wrap (q- -719162)).tdiv 365)+1)) (i64.wrap (q- -719162)))))
def Fb(q:Int):Bool:=
 (if !ZS q (-719162) 2932896 then(oU (QG m C q))else(oU (QH m C q)))
def aLu(q:Int):RW->Option (RW⊕T)
 | .l0 a x=>ZH m C q a x| .l1 a b x=>ZI m C q a b x
def zL(q:Int):xD RW where
 lp:=λJ=>match J with
  | .l0 .. =>0| .l1 .. =>1
 keep:=λW=>match W with
  |0=>[2,6]|1=>[2,3,6]|_ =>[]
 par:=λW=>match W with
  |0=>[]|1=>[]|_ =>[]
 vs:=λJ=>match J with
  | .l0 x2 x6=>[T.int .i64 x2,T.int .i64 x6]| .l1 x2 x3 x6=>[T.int .i64 x2,T.int .i64 x3,T.int .i64 x6]
 hp:=λ_ =>⟨0,.nl⟩
 len:=42
 step:=aLu m C q
def Zp(q a x:Int)(f:gC)(ds:gL):RD Rt:=(zL m C q).rk prog (DR m C) F0 f309 (.l0 a x) f ds
theorem aEo(q a x:Int)(f:gC):(zL m C q).wa prog f309 (Zp m C q a x f [true]) 0 (QC m C q a x) (.l0 (i64.wrap (a-1)) x):=by unfold xD.wa;kernel_rfl
theorem aEp(q x a:Int)(f:gC):(zL m C q).wl prog f309 (Zp m C q x a f [false]) 1 (QD m C q x a) (.l1 x 1 (i64.wrap (a-hZ.i6 x))):=by unfold xD.wl;kernel_rfl
def Zq(q b a x:Int)(f:gC)(ds:gL):RD Rt:=(zL m C q).rk prog (DR m C) F0 f309 (.l1 b a x) f ds
theorem aEq(q a x b:Int)(f:gC):(zL m C q).wa prog f309 (Zq m C q a x b f [true]) 0 (QE m C q a x b) (.l1 a (i64.wrap (x+1)) (i64.wrap (b-hZ.iD (UA a) x))):=by unfold xD.wa;kernel_rfl
theorem aEr(q b a x:Int)(f:gC):tG prog f309 20 [] (Zq m C q b a x f [false])=PJ (T.fm [T.int .i64 b,T.int .i64 a,T.int .i64 (i64.wrap (x+1)),T.int .i64 0]) (QF m C q b a x):=by kernel_rfl
def Zr(q:Int)(ds:gL):RD Rt:=qR prog (DR m C) F0 2000 (.code (pO f309)) [] 0 ([.int .i64 q]++List.replicate 41 oS) ⟨0,.nl⟩ ds []
theorem aEs(q:Int):tG prog f309 20 [] (Zr m C q [true])=PJ (T.fm [T.int .i64 0,T.int .i64 0,T.int .i64 0,T.int .i64 2]) (QG m C q):=by kernel_rfl
theorem aEt(q:Int):(zL m C q).wl prog f309 (Zr m C q [false]) 0 (QH m C q) (.l0 (if 9999<i64.wrap (i64.wrap ((i64.wrap (q- -719162)).tdiv 365)+1)then 9999 else i64.wrap (i64.wrap ((i64.wrap (q- -719162)).tdiv 365)+1)) (i64.wrap (q- -719162))):=by unfold xD.wl;kernel_rfl
theorem aMw(q:Int):(zL m C q).dr prog (DR m C) F0 f309 20:=by
 intro J o f h;cases J with
 |l0 x a=>
  obtain⟨c,d⟩:=Yr (K:=MV m C q x a) (V:=JE m C q x a) h;exact(GT (kA (aEo m C q x a f) rfl) (kL (aEp m C q x a f) rfl)) c o d
 |l1 x b a=>
  obtain⟨c,d⟩:=Yr (K:=MW m C q x b a) (V:=JF m C q x b a) h;exact(GT (kA (aEq m C q x b a f) rfl) (kD (aEr m C q x b a f))) c o d
theorem aSd(q:Int):∀J,Ps.codeOk (rY f309 ((zL m C q).lp J)).1=true/\FU (.lp::(rY f309 ((zL m C q).lp J)).2)=true:=aZq 2 (by kernel_rfl) (by intro J;cases J<;>exact dX rfl)
theorem aUw(q:Int)(n:Nat){r:T}(h:Fb m C q=true)(a:(zL m C q).fin n (Fj m C q)=some r):fj prog (fo m C) 309 [.int .i64 q] r:=
 gi (M:=(zL m C q)) (fn:=f309) (k:=20) (d:=8) (c:=pO f309) (uq m C) (qN m C) (by kernel_rfl) func309 (by kernel_rfl) rfl (by kernel_rfl) (by kernel_rfl) (L:=41) (by kernel_rfl) (aMw m C q) (aSd m C q) ((GT (kD (aEs m C q)) (kL (aEt m C q) rfl)) h _ rfl) a
def zd(q s:Int):List UInt8:=Lib.repeatL [48] (if 0<i64.wrap (i64.wrap (s+1)-(↑(qL (wQ q)).length:Int))then i64.wrap (i64.wrap (s+1)-(↑(qL (wQ q)).length:Int))else 0).toNat++qL (wQ q)
def zc(q s:Int):Int:=i64.wrap ((↑(zd q s).length:Int)-s)
def JQ(m:Int)(C:gB)(q s:Int):List Bool:=[decide (-9223372036854775808<=wQ q),decide (wQ q<=9223372036854775807),!KO q s !=0]
def QS(q s:Int):List Bool:=let a:=decide (0<=zc q s);let y:=decide (zc q s<=(↑(zd q s).length:Int));(decide ((List.drop 0 (List.take (zc q s).toNat (zd q s))++[46]).length+(List.drop (zc q s).toNat (List.take (zd q s).length (zd q s))).length<=pK))::a::y::(decide ((List.drop 0 (List.take (zc q s).toNat (zd q s))).length+1<=pK))::a::y::(decide ((Lib.repeatL [48] (if 0<i64.wrap (i64.wrap (s+1)-(↑(qL (wQ q)).length:Int))then i64.wrap (i64.wrap (s+1)-(↑(qL (wQ q)).length:Int))else 0).toNat).length+(qL (wQ q)).length<=pK))::(decide (0<=if 0<i64.wrap (i64.wrap (s+1)-(↑(qL (wQ q)).length:Int))then i64.wrap (i64.wrap (s+1)-(↑(qL (wQ q)).length:Int))else 0))::(decide ((if 0<i64.wrap (i64.wrap (s+1)-(↑(qL (wQ q)).length:Int))then i64.wrap (i64.wrap (s+1)-(↑(qL (wQ q)).length:Int))else 0)<=100))::true::(decide (s>0))::JQ m C q s
def ED(m:Int)(C:gB)(q s:Int):List Bool:=[KO q s !=0]
def OU(q s:Int)(ds:gL):RD Rt:=qR prog (DR m C) F0 2000 (.code (pO f259)) [] 0 ([.agg [.int .i64 q,.int .i64 s]]++List.replicate 49 oS) ⟨0,.nl⟩ ds []
theorem aEd(q s:Int):tG prog f259 20 [] (OU m C q s [true])
  =some (Fi.done (some (T.fm [T.str [],T.int .i64 (KO q s)])),ED m C q s,{next:=0,J:=Ht.nl},[],0):=by kernel_rfl
def JM(q s:Int):List Bool:=(decide (1+(List.drop 0 (List.take (zc q s).toNat (zd q s))++[46]++List.drop (zc q s).toNat (List.take (zd q s).length (zd q s))).length<=pK))::(decide (q<0))::QS m C q s
theorem aEe(q s:Int):tG prog f259 20 [] (OU m C q s [false,true,true])
  =some (Fi.done (some (T.fm [T.str (45::(List.drop 0 (List.take (zc q s).toNat (zd q s))++[46]++List.drop (zc q s).toNat (List.take (zd q s).length (zd q s)))),T.int .i64 0])),JM m C q s,{next:=0,J:=Ht.nl},[],0):=by kernel_rfl
def JN(q s:Int):List Bool:=(!decide (q<0))::QS m C q s
theorem aEf(q s:Int):tG prog f259 20 [] (OU m C q s [false,true,false])
  =some (Fi.done (some (T.fm [T.str (List.drop 0 (List.take (zc q s).toNat (zd q s))++[46]++List.drop (zc q s).toNat (List.take (zd q s).length (zd q s))),T.int .i64 0])),JN m C q s,{next:=0,J:=Ht.nl},[],0):=by kernel_rfl
def JO(q s:Int):List Bool:=(decide (1+(qL (wQ q)).length<=pK))::(decide (q<0))::(!decide (s>0))::JQ m C q s
theorem aEg(q s:Int):tG prog f259 20 [] (OU m C q s [false,false,true])
  =some (Fi.done (some (T.fm [T.str (45::(qL (wQ q))),T.int .i64 0])),JO m C q s,{next:=0,J:=Ht.nl},[],0):=by kernel_rfl
def JP(q s:Int):List Bool:=(!decide (q<0))::(!decide (s>0))::JQ m C q s
theorem aEh(q s:Int):tG prog f259 20 [] (OU m C q s [false,false,false])
  =some (Fi.done (some (T.fm [T.str (qL (wQ q)),T.int .i64 0])),JP m C q s,{next:=0,J:=Ht.nl},[],0):=by kernel_rfl
def aVu(q s:Int):Option (Empty⊕T):=
 (if KO q s !=0 then(if oU (ED m C q s)then some (.inr (T.fm [T.str [],T.int .i64 (KO q s)]))else none)else(if decide (s>0)then(if decide (q<0)then(if oU (JM m C q s)then some (.inr (T.fm [T.str (45::(List.drop 0 (List.take (zc q s).toNat (zd q s))++[46]++List.drop (zc q s).toNat (List.take (zd q s).length (zd q s)))),T.int .i64 0]))else none)else(if oU (JN m C q s)then some (.inr (T.fm [T.str (List.drop 0 (List.take (zc q s).toNat (zd q s))++[46]++List.drop (zc q s).toNat (List.take (zd q s).length (zd q s))),T.int .i64 0]))else none))else(if decide (q<0)then(if oU (JO m C q s)then some (.inr (T.fm [T.str (45::(qL (wQ q))),T.int .i64 0]))else none)else(if oU (JP m C q s)then some (.inr (T.fm [T.str (qL (wQ q)),T.int .i64 0]))else none))))
def MX(m:Int)(C:gB)(q s:Int):Empty⊕T:=
 (if KO q s !=0 then(.inr (T.fm [T.str [],T.int .i64 (KO q s)]))else(if decide (s>0)then(if decide (q<0)then(.inr (T.fm [T.str (45::(List.drop 0 (List.take (zc q s).toNat (zd q s))++[46]++List.drop (zc q s).toNat (List.take (zd q s).length (zd q s)))),T.int .i64 0]))else(.inr (T.fm [T.str (List.drop 0 (List.take (zc q s).toNat (zd q s))++[46]++List.drop (zc q s).toNat (List.take (zd q s).length (zd q s))),T.int .i64 0])))else(if decide (q<0)then(.inr (T.fm [T.str (45::(qL (wQ q))),T.int .i64 0]))else(.inr (T.fm [T.str (qL (wQ q)),T.int .i64 0])))))
def MU(q s:Int):Bool:=
 (if KO q s !=0 then(oU (ED m C q s))else(if decide (s>0)then(if decide (q<0)then(oU (JM m C q s))else(oU (JN m C q s)))else(if decide (q<0)then(oU (JO m C q s))else(oU (JP m C q s)))))
theorem aNu(q s:Int)(h:MU m C q s=true):aVu m C q s=some (MX m C q s):=
 (UO ET (UO (UO ET ET) (UO ET ET))) h
theorem aSt(q s:Int){n:Nat}{o:Empty⊕T}{r:T}(h:aVu m C q s=some o)(b:yJ.fin n o=some r):fj prog (fo m C) 259 [.agg [.int .i64 q,.int .i64 s]] r:=by
 refine gi (M:=yJ) (fn:=f259) (k:=20) (d:=8) (c:=pO f259) (uq m C) (qN m C) (by kernel_rfl) func259 (by kernel_rfl) rfl (by kernel_rfl) (by kernel_rfl) (L:=49) (by kernel_rfl) sE (λJ=>J.elim) ?_ b;exact(UQ (EV λa=>⟨2000,_,_,_,_,_,_,aEd m C q s,a⟩) (UQ (UQ (EV λa=>⟨2000,_,_,_,_,_,_,aEe m C q s,a⟩) (EV λa=>⟨2000,_,_,_,_,_,_,aEf m C q s,a⟩)) (UQ (EV λa=>⟨2000,_,_,_,_,_,_,aEg m C q s,a⟩) (EV λa=>⟨2000,_,_,_,_,_,_,aEh m C q s,a⟩)))) o h
theorem aUv(q s:Int)(n:Nat){r:T}(h:MU m C q s=true)(a:yJ.fin n (MX m C q s)=some r):fj prog (fo m C) 259 [.agg [.int .i64 q,.int .i64 s]] r:=aSt m C q s (aNu m C q s h) a
end
open Go.Ps
theorem bGm(l:Bool)(k:Int):28<=hZ.iD l k/\hZ.iD l k<=31:=by
 unfold hZ.iD;repeat' split
 all_goals omega
theorem bAd(l:Bool)(k:Int):hZ.i8 l k<=366:=by
 unfold hZ.i8;repeat' split
 all_goals omega
theorem Ce(m:Int)(C:gB)(q:Int){y:Int}(i:1<=y)(f:y<=9999):∀(d:Nat) (k n:Int),(13-k).toNat<=d->1<=k->k<=12->0<=n->n<hZ.i8 (UA y) k->
  ∃c a,(zL m C q).run (d+1) (.l1 y k n)=some (.fm [.int .i64 y,.int .i64 c,.int .i64 a,.int .i64 0])/\1<=c/\c<=12/\1<=a/\a<=31
 |d,k,n,B,b,h,z,x=>by
  have w:=bGm (UA y) k;have p:=bAd (UA y) k;have s:MW m C q y k n=true:=by
   unfold MW;refine Kj (λe=> ?_) (λe=> ?_);simp only[QE,oU,e];simp[b,h];simp only[QF,oU,e];simp[b,h]
  rw[xD.co,show(zL m C q).step (.l1 y k n)=some (JF m C q y k n)from aNw m C q y k n s];show∃c a,(zL m C q).fin d (JF m C q y k n)=_ /\_;unfold JF;have o:=hZ.km (l:=UA y) b h;by_cases j:n>=hZ.iD (UA y) k;rw[aJ (by simpa using j),xD.bu,ja (by omega) (by omega),ja (by omega) (by omega)];have u:k+1<=12:=by
   refine dJ λv=> ?_;rw[hZ.ln _ (k:=k+1) (by omega)]at o;omega
  obtain⟨g,rfl⟩:∃g,d=g+1:=⟨d-1,by omega⟩;exact Ce m C q i f g (k+1) (n-hZ.iD (UA y) k) (by omega) (by omega) u (by omega) (by omega);rw[aH (by simpa using j),ja (by omega) (by omega)];exact⟨k,n+1,rfl,b,h,by omega,by omega⟩
 termination_by d=>d
theorem aJh{y:Int}(a:1<=y)(h:y<=9999):UA y=hZ.leap y:=by
 unfold UA ZS;rw[bU a,bU h];rfl
theorem Lx(m:Int)(C:gB)(q n:Int)(p:0<=n)(i:n<=4000000):∀(d:Nat) (y:Int),y.toNat=d->1<=y->y<=9999->n<hZ.i6 (y+1)->
  ∃f k a,(zL m C q).run (d+20) (.l0 y n)=some (.fm [.int .i64 f,.int .i64 k,.int .i64 a,.int .i64 0])/\1<=f/\f<=9999/\1<=k/\k<=12/\1<=a/\a<=31
 |d,y,F,h,j,D=>by
  have B:=hZ.mV h (by omega);have u:MV m C q y n=true:=by
   unfold MV;have c:y<=10000:=by omega
   refine Kj (λe=> ?_) (λe=> ?_);simp only[QC,oU,e];simp[h,c];simp only[QD,oU,e];simp[h,c]
  rw[show d+20=(d+19)+1 by omega,xD.co,show(zL m C q).step (.l0 y n)=some (JE m C q y n)from aNv m C q y n u];show∃f k a,(zL m C q).fin (d+19) (JE m C q y n)=_ /\_;unfold JE;by_cases g:hZ.i6 y>n;rw[aJ (by simpa using g),xD.bu,ja (by omega) (by omega)];have z:2<=y:=by
   refine dJ λE=> ?_;obtain rfl:y=1:=by omega
   rw[hZ.l3]at g;omega
  obtain⟨b,rfl⟩:∃b,d=b+1:=⟨d-1,by omega⟩;have:=Lx m C q n p i b (y-1) (by omega) (by omega) (by omega) (by rw[Int.sub_add_cancel];exact g)
  rwa [show b+1+19=b+20 by omega]
  rw[aH (by simpa using g),xD.bu,ja (by omega) (by omega)];have x:=hZ.ll h
  obtain⟨k,a,e,w,v,s,o⟩:=Ce m C q h j (d+18) 1 (n-hZ.i6 y) (by omega) (by omega) (by omega) (by omega) (by
   rw[hZ.lm,aJh h j]
   omega)
  exact⟨y,k,a,e,h,j,w,v,s,o⟩
 termination_by d=>d
variable(m:Int)(C:gB)
theorem aGl(q:Int)(B:-9223372036854775808<=q/\q<=9223372036854775807):
  ∃y k n e,fj prog (fo m C) 309 [.int .i64 q] (.fm [.int .i64 y,.int .i64 k,.int .i64 n,.int .i64 e])/\(0<=y/\y<=9999)/\(0<=k/\k<=12)/\(0<=n/\n<=31)/\0<=e/\e<=255:=by
 have d:Fb m C q=true:=by
  unfold Fb;refine Kj (λe=> ?_) (λe=> ?_);simp only[QG,oU,e];rfl;simp only[QH,oU,e];rfl
 by_cases b:ZS q (-719162) 2932896=true;have h:=b;unfold ZS at h;simp only[aA,aF]at h;have f:i64.wrap (q- -719162)=q+719162:=by rw[ja (by omega) (by omega)];omega
 have o:(q+719162).tdiv 365=(q+719162)/365:=hZ.hV (by omega);have a:=hZ.kl (n:=q+719162) (by omega) (by omega);obtain⟨Y,c⟩:∃Y,min ((q+719162)/365+1) 9999=Y:=⟨_,rfl⟩;rw[c]at a;obtain⟨s,u,i,e,w,j,v,p,z,g⟩:=Lx m C q (q+719162) (by omega) (by omega) Y.toNat Y rfl (by omega) (by omega) a;refine⟨s,u,i,0,aUw m C q _ d (?_ :(zL m C q).fin (Y.toNat+20) _ =_),⟨by omega,j⟩,⟨by omega,p⟩,⟨by omega,g⟩,by omega,by omega⟩;unfold Fj;rw[aH (by simp[b]),xD.bu,f,o,ja (x:=(q+719162)/365) (by omega) (by omega),ja (x:=(q+719162)/365+1) (by omega) (by omega)];rw[show(if 9999<(q+719162)/365+1 then 9999 else(q+719162)/365+1)=Y by rw[<-c];split<;>omega];exact e;refine⟨0,0,0,2,aUw m C q 0 d ?_,by omega,by omega,by omega,by omega,by omega⟩;unfold Fj;rw[aJ (by simpa using b)];rfl
variable[Inhabited gy]
theorem aJs(q s:Int)(K:-9223372036854775808<=q/\q<=9223372036854775807):
  ∃t e,fj prog (fo m C) 259 [.agg [.int .i64 q,.int .i64 s]] (.fm [.str t,.int .i64 e])/\t.length<=40/\0<=e/\e<=255:=by
 by_cases b:KO q s=0;obtain⟨z,J,I,H⟩:=aBg.1 b;have n:-9223372036854775808<=wQ q:=by
  unfold wQ;split;rw[IntKind.wrap_i64];omega;omega
 have o:wQ q<=9223372036854775807:=by unfold mm at z;omega
 have F:=tZ (wQ q);have B:MU m C q s=true/\∃t,MX m C q s= .inr (.fm [.str t,.int .i64 0])/\t.length<=40:=by
  unfold MU MX ED JM JN JO JP QS JQ;unfold zc zd;have j:decide (-9223372036854775808<=wQ q)=true:=bU n;have f:decide (wQ q<=9223372036854775807)=true:=bU o;simp only[j,f,b];generalize qL (wQ q)=A at F;have x:i64.wrap (s+1)=s+1:=ja (by omega) (by omega);have E:i64.wrap (s+1-(A.length:Int))=s+1-(A.length:Int):=ja (by omega) (by omega);simp only[x,E];obtain⟨c,h⟩:∃c,(if 0<s+1-(A.length:Int)then s+1-(A.length:Int)else 0)=c:=⟨_,rfl⟩;have y:0<=c/\c<=13/\s+1<=c+(A.length:Int):=by rw[<-h];split<;>omega
  simp only[h];have v:(Lib.repeatL [48] c.toNat).length=c.toNat:=by rw[Lib.repeatL_length];simp
  generalize Lib.repeatL [48] c.toNat=Z at v;have w:(Z++A).length=Z.length+A.length:=aU;have D:i64.wrap (((Z++A).length:Int)-s)=((Z++A).length:Int)-s:=ja (by omega) (by omega);simp only[D];have u:(Z.length:Int)=c:=by omega
  simp only[show((0:Int) !=0)=false from rfl,bI,cN];by_cases a:s>0;simp only[show decide (s>0)=true from bU a,cB];generalize Z++A=S at w;have b1:0<=(S.length:Int)-s:=by omega
  have b2:(S.length:Int)-s<=(S.length:Int):=by omega
  have g:(List.drop 0 (List.take ((S.length:Int)-s).toNat S)).length=((S.length:Int)-s).toNat:=by simp;omega
  have i:(List.drop ((S.length:Int)-s).toNat (List.take S.length S)).length=s.toNat:=by simp;omega
  have k:(List.drop 0 (List.take ((S.length:Int)-s).toNat S)++[46]).length=((S.length:Int)-s).toNat+1:=by rw[aU,g];rfl
  have d:(List.drop 0 (List.take ((S.length:Int)-s).toNat S)++[46]++List.drop ((S.length:Int)-s).toNat (List.take S.length S)).length=((S.length:Int)-s).toNat+1+s.toNat:=by rw[aU,k,i]
  by_cases p:q<0;simp only[show decide (q<0)=true from bU p,cB];refine⟨?_,_,rfl,?_⟩;simp only[oU,g,i,k,d,aA,aF];simp[pK,a,p];omega;simp only[aZ,d];omega;simp only[show decide (q<0)=false from cT p,bI,cN];refine⟨?_,_,rfl,?_⟩;simp only[oU,g,i,k,d,aA,aF];simp[pK,a,p];omega;rw[d];omega;simp only[show decide (s>0)=false from cT a,bI,cN];by_cases p:q<0;simp only[show decide (q<0)=true from bU p,cB];refine⟨?_,_,rfl,?_⟩;simp only[oU,aA,aF];simp[pK,a,p];omega;simp only[aZ];omega;simp only[show decide (q<0)=false from cT p,bI,cN];refine⟨?_,_,rfl,?_⟩;simp only[oU,aA,aF];simp[pK,a,p];omega
 obtain⟨k1,t,k2,k3⟩:=B;exact⟨t,0,aUv m C q s 0 k1 (by rw[k2];rfl),k3,by omega,by omega⟩;refine⟨[],KO q s,aUv m C q s 0 ?_ ?_,by simp,?_⟩;unfold MU ED;rw[aJ (by simpa using b)];simp[oU,b];unfold MX;rw[aJ (by simpa using b)];rfl;unfold KO;split<;>omega
noncomputable section
theorem aQp{V:gN}{U:gE}{t:T}(h:Gm V U aZm t):∃n s:Int,t= .agg [.int .i64 n,.int .i64 s]/\(-9223372036854775808<=n/\n<=9223372036854775807)/\(-9223372036854775808<=s/\s<=9223372036854775807):=by
 cases(show Gm V U (.agg [fk,fk]) t from h)with
 |agg _ o d c=>
 obtain⟨a,r,rfl,f,i⟩:=(show pT V U [fk,fk] o from⟨d,c⟩).I;obtain⟨b,r,rfl,g,p⟩:=i.I;have e:=p.ae;subst e;obtain⟨n,rfl,j⟩:=gm f;obtain⟨s,rfl,k⟩:=gm g;exact⟨n,s,rfl,j,k⟩
theorem Nm{V:gN}{U:gE}{a b:Int}{t:T}(h:Gm V U (.fy a b) t):∃l:List UInt8,t= .str l/\a<=(l.length:Int)/\(l.length:Int)<=b:=by
 cases h with
 |fy _ _ l d c=>exact⟨l,rfl,d,c⟩
theorem aYq{V:gN}{U:gE}{a b:Int}{k:iC}{t:T}(h:Gm V U (.ft k a b) t):∃n:Int,t= .int k n/\a<=n/\n<=b/\CL k n:=by
 cases h with
 |ft _ _ _ n e d c=>exact⟨n,rfl,e,d,c⟩
theorem aVd{I:Inhabited gy}{t:gH}{e a b:Int}(d:a<=(t.length:Int))(c:(t.length:Int)<=b)(h:0<=e)(f:e<=255): @Gm I [] [] (.fm [.fy a b,EB]) (.fm [.str t,.int .i64 e]):=by
 have z:= @pV I [] [] _ _ _ _ (@Gm.fy I [] [] a b t d c) (@pV I [] [] _ _ _ _ (@Gm.ft I [] [] .i64 0 255 e h f (vC (by omega))) (@wF I [] []));exact @Gm.fm I [] [] _ _ z.1 z.2
abbrev Ff:=iu prog (fo m C) 40 Tn
def ur:=Yq prog (fo m C) VT (ui m C)
def ut:FuncId->Bool:=λf=>Nat.beq 259 f||uj f
theorem bFu(hI:Is)(m:Int)(C:gB):Ff m C (pY [VT] kI) (ur m C) ut:=by
 refine(aVn hI m C).known xV (c:=VT) (by kernel_rfl) λi h=> ?_;obtain⟨t,r,rfl,g,d⟩:=(show pT [] [] [aZm] i from h).I;have e:=d.ae;subst e;obtain⟨n,s,rfl,f,o⟩:=aQp g;obtain⟨t,e,j,k,b,a⟩:=aJs m C n s f;exact⟨_,j,λI=>aVd (by omega) (by omega) b a⟩
def uu:=Yq prog (fo m C) ZV (ur m C)
def uv:FuncId->Bool:=λf=>Nat.beq 312 f||ut f
theorem bFt(hI:Is)(m:Int)(C:gB):Ff m C (pY [ZV] (pY [VT] kI)) (uu m C) uv:=by
 refine(bFu hI m C).known xV (c:=ZV) (by kernel_rfl) λf h=> ?_;obtain⟨t,r,rfl,b,d⟩:=(show pT [] [] [.gh [48],.ft .i64 0 100] f from h).I;obtain⟨u,p,rfl,g,i⟩:=d.I;have e:=i.ae;subst e;cases b;obtain⟨n,rfl,o,k,j⟩:=aYq g;have a:=aKs (m:=m) (C:=C) [48] n.toNat (by omega) (by simp;omega);rw[show((n.toNat:Nat):Int)=n by omega]at a;refine⟨_,a,λI=> @Gm.fy I [] [] 0 100 _ (by omega) ?_⟩;rw[Lib.repeatL_length];simp;omega
def uw:=Yq prog (fo m C) Ge (uu m C)
def ux:FuncId->Bool:=λf=>Nat.beq 309 f||uv f
theorem bFs(hI:Is)(m:Int)(C:gB):Ff m C (pY [Ge] (pY [ZV] (pY [VT] kI))) (uw m C) ux:=by
 refine(bFt hI m C).known xV (c:=Ge) (by kernel_rfl) λg h=> ?_;obtain⟨t,r,rfl,u,v⟩:=(show pT [] [] [fk] g from h).I;have e:=v.ae;subst e;obtain⟨q,rfl,D,w⟩:=gm u;obtain⟨y,k,n,e,j,⟨s,B⟩,⟨k1,k2⟩,⟨x,d⟩,f,E⟩:=aGl m C q ⟨D,w⟩;refine⟨_,j,λI=> ?_⟩;have i:∀(b a n:Int),b<=n->n<=a->0<=n->n<=10000-> @Gm I [] [] (.ft .i64 b a) (.int .i64 n):=λb a n p o H F=> @Gm.ft I [] [] _ _ _ _ p o (vC (by omega));have z:= @pV I [] [] _ _ _ _ (i 0 9999 y s B (by omega) (by omega)) (@pV I [] [] _ _ _ _ (i 0 12 k k1 k2 (by omega) (by omega)) (@pV I [] [] _ _ _ _ (i 0 31 n x d (by omega) (by omega)) (@pV I [] [] _ _ _ _ (i 0 255 e f E (by omega) (by omega)) (@wF I [] []))));exact @Gm.fm I [] [] _ _ z.1 z.2
def uy:=Yq prog (fo m C) Lu (uw m C)
def uz:FuncId->Bool:=λf=>Nat.beq 260 f||ux f
theorem bFr(hI:Is)(m:Int)(C:gB):Ff m C (pY [Lu] (pY [Ge] (pY [ZV] (pY [VT] kI)))) (uy m C) uz:=by
 refine(bFs hI m C).known xV (c:=Lu) (by kernel_rfl) λf h=> ?_;obtain⟨t,r,rfl,g,d⟩:=(show pT [] [] [fk] f from h).I;have e:=d.ae;subst e;obtain⟨q,rfl,n,k⟩:=gm g;obtain⟨l,x,j,b,a,i⟩:=bDe (m:=m) (C:=C) q;exact⟨_,i,λI=>aVd (by omega) (by omega) b a⟩
def uP:=Yq prog (fo m C) Sm (uy m C)
def uS:FuncId->Bool:=λf=>Nat.beq 255 f||uz f
theorem bFq(hI:Is)(m:Int)(C:gB):Ff m C (pY [Sm] (pY [Lu] (pY [Ge] (pY [ZV] (pY [VT] kI))))) (uP m C) uS:=by
 refine(bFr hI m C).known xV (c:=Sm) (by kernel_rfl) λa h=> ?_;obtain⟨t,r,rfl,g,d⟩:=(show pT [] [] [.fy 0 40] a from h).I;have e:=d.ae;subst e;obtain⟨l,rfl,i,f⟩:=Nm g;obtain⟨r,j,b⟩:=bDd (m:=m) (C:=C) l (by omega);exact⟨_,b,λI=> @Gm.fy I [] [] 0 100 _ (by omega) (by omega)⟩
def u4:=Yq prog (fo m C) aBf (uP m C)
def u6:FuncId->Bool:=λf=>Nat.beq 199 f||uS f
theorem bFp(hI:Is)(m:Int)(C:gB):Ff m C (pY [aBf] (pY [Sm] (pY [Lu] (pY [Ge] (pY [ZV] (pY [VT] kI)))))) (u4 m C) u6:=by
 refine(bFq hI m C).known xV (c:=aBf) (by kernel_rfl) λd h=> ?_;obtain⟨t,r,rfl,a,b⟩:=(show pT [] [] [.fy 0 4000000000,.gh [10]] d from h).I;obtain⟨u,k,rfl,g,f⟩:=b.I;have e:=f.ae;subst e;cases g;obtain⟨l,rfl,j,i⟩:=Nm a;have:=Gl 10 l;exact⟨_,bDc (m:=m) (C:=C) l,λI=> @Gm.ft I [] [] .i64 0 4000000000 _ (by omega) (by omega) (vC (by omega))⟩
def A6(a:gC)(r:T):Prop:=∃l:List UInt8,r= .str l/\1<=(l.length:Int)/\(l.length:Int)<=2
def va:=kG prog (fo m C) 73 A6 (u4 m C)
def vb:FuncId->Bool:=λf=>Nat.beq 73 f||u6 f
theorem bFo(hI:Is)(m:Int)(C:gB):Ff m C (kq 73 m6 (pY [aBf] (pY [Sm] (pY [Lu] (pY [Ge] (pY [ZV] (pY [VT] kI))))))) (va m C) vb:=by
 refine(bFp hI m C).cu (f0:=73) (pq:=m6) λa n J v h V U H d y=> ?_;unfold m6 at h;split at h
 .rename_i x c b;split at h
  .rename_i f;cases h;simp only[aA,bN]at f;obtain⟨rfl,o,p⟩:=f;obtain⟨t1,r,rfl,z,B⟩:=y.I;obtain⟨t2,r,rfl,k,E⟩:=B.I;have e:=E.ae;subst e;cases z with
   |int _ _ _ w i F=>
   cases k with
   |int _ _ _ u g j=>
   have D:u=0:=by rw[d.zero]at g;exact(bV g).symm
   subst D;have N:=oX d.cs o d.zero i;have L:=oX d.cs p i d.zero;obtain⟨l,I,K,q⟩:=bMh (m:=m) (C:=C) (w+c) (by omega) (by omega);refine⟨rfl,⟨_,q,l,rfl,by omega,by omega⟩,λr s=> ?_⟩;obtain⟨M,rfl,b1,b2⟩:=s;exact rB d (.fy _ _ _ b1 b2)
  cases h
 cases h
def bLg(a:gC)(r:T):Prop:=∃s x y,a=[.str s]/\r= .fm [.int .i32 x,.int .i64 y]/\0<=x/\x<=1114111/\1<=y/\y<=4/\y<=(s.length:Int)
def vc:=kG prog (fo m C) 261 bLg (va m C)
def vd:FuncId->Bool:=λf=>Nat.beq 261 f||vb f
theorem bFn(hI:Is)(m:Int)(C:gB):Ff m C (kq 261 aQw (kq 73 m6 (pY [aBf] (pY [Sm] (pY [Lu] (pY [Ge] (pY [ZV] (pY [VT] kI)))))))) (vc m C) vd:=by
 refine(bFo hI m C).cu (f0:=261) (pq:=aQw) λa n K v h V U S b L=> ?_;unfold aQw at h;split at h;rename_i sa;split at h;rename_i x c P;split at h;rename_i k;cases h;simp only[aA]at k;obtain⟨t1,r,rfl,M,N⟩:=L.I;have e:=N.ae;subst e;obtain⟨l,w,rfl,E,e2⟩:=wH b.zero M P;have q1:=oX b.cs k.1 b.zero E;have o:=aXq l (by omega);have u:=aPi l (by omega);refine⟨rfl,⟨_,aBh l,l,_,_,rfl,rfl,o.1,o.2.1,o.2.2.1,o.2.2.2,u⟩,λr I=> ?_⟩;obtain⟨W,p,q,B,rfl,R,Y,J,Z,Q⟩:=I;cases B;obtain⟨f,i,H,z⟩:=b.new p;have y:Sy (V++[p]) (n+1) (.le 0 n 0:: .le n 0 1114111::K):=⟨H,z,.cons ⟨0,_,z,i,by omega⟩ (.cons ⟨_,0,i,z,by omega⟩ (b.cs.ext f)),b.fst f⟩;obtain⟨d,s,O,g⟩:=y.new q;refine⟨_,f.trans d,⟨O,g,?_,b.fst (f.trans d)⟩,.fm _ _ rfl ?_⟩;exact .cons ⟨0,_,g,d _ _ i,by omega⟩ (.cons ⟨_,0,d _ _ i,g,by omega⟩ (.cons ⟨0,_,g,s,by omega⟩ (.cons ⟨_,0,s,g,by omega⟩ (.cons ⟨_,w,s,d _ _ (f _ _ E),by omega⟩ (b.cs.ext (f.trans d))))));intro j c t D F
 match j with
 |0=>cases D;cases F;exact tM (d _ _ i) (by omega) ⟨by simp[IntKind.min,IntKind.bits,IntKind.signed];omega,by simp[IntKind.max,IntKind.bits,IntKind.signed];omega⟩|1=>cases D;cases F;exact tM s (by omega) (vC (by omega))|j+2=>simp at D
 cases h;cases h;cases h
def A7(a:gC)(r:T):Prop:=∃s b x,a=[.str s,b]/\r= .int .i64 x/\-1<=x/\x+1<=(s.length:Int)
def ve:=kG prog (fo m C) 72 A7 (vc m C)
def vf:FuncId->Bool:=λf=>Nat.beq 72 f||vd f
theorem aVj(hI:Is)(m:Int)(C:gB):Ff m C o8 (ve m C) vf:=by
 refine(bFn hI m C).cu (f0:=72) (pq:=o7) λa n N v h V U L b z=> ?_;unfold o7 at h;split at h
 .rename_i S J u;split at h
  .rename_i x c E;split at h
   .rename_i f;cases h;obtain⟨t1,r,rfl,B,D⟩:=z.I;obtain⟨t2,r,rfl,q,F⟩:=D.I;have e:=F.ae;subst e;obtain⟨l,w,rfl,j,R⟩:=wH b.zero B E;have Q:=oX b.cs f j b.zero;cases q with
    |int _ _ _ i s H=>
    have i1:=Lib.indexByte_ge l (i+u).toNat.toUInt8;have i2:=OC (i+u).toNat.toUInt8 l;refine⟨rfl,⟨_,bMg l (i+u),l,_,_,rfl,rfl,i1,i2⟩,λr y=> ?_⟩;obtain⟨M,O,p,g,rfl,K,P⟩:=y;cases g;refine DE b (vC (by omega)) ?_;obtain⟨o,d,I,k⟩:=b.new p;exact .cons ⟨0,_,k,d,by omega⟩ (.cons ⟨_,w,d,o _ _ j,by omega⟩ (.cons ⟨_,0,d,k,by omega⟩ (b.cs.ext o)))
   cases h
  cases h
 cases h
def vg:=nE px ve
def vh:=nD px vf
theorem aVk(hI:Is)(m:Int)(C:gB):xE m C (ph) (vg m C) vh:=go (aVj hI m C) tc ul rfl (by kernel_rfl) (by kernel_rfl) ⟨r5,trivial⟩
def vj:=nE py vg
def vk:=nD py vh
theorem bFe(hI:Is)(m:Int)(C:gB):xE m C (pj) (vj m C) vk:=go (aVk hI m C) [373,256,177,192,329,377,330,251] AM rfl (by kernel_rfl) (by kernel_rfl) ⟨r5,trivial⟩
def vl:=nE pz vj
def vn:=nD pz vk
theorem bFf(hI:Is)(m:Int)(C:gB):xE m C (pk) (vl m C) vn:=go (bFe hI m C) [368,370,257,372,375,374,378,197,262,329] AN rfl (by kernel_rfl) (by kernel_rfl) ⟨r5,trivial⟩
def vo:=nE pI vl
def vp:=nD pI vn
theorem aVl(hI:Is)(m:Int)(C:gB):xE m C (pl) (vo m C) vp:=go (bFf hI m C) [182,252,308] AT rfl (by kernel_rfl) (by kernel_rfl) ⟨r5,trivial⟩
def mH:=nE n6 vo
def qr:=nD n6 vp
theorem Ny(hI:Is)(m:Int)(C:gB):xE m C (nZ) (mH m C) qr:=go (aVl hI m C) [121,181] um rfl (by kernel_rfl) (by kernel_rfl) ⟨r5,trivial⟩
def vq:=nE p0 mH
def vr:=nD p0 qr
theorem bFg(hI:Is)(m:Int)(C:gB):xE m C (pH 1) (vq m C) vr:=go (Ny hI m C) [75,117,179] A0 rfl (by kernel_rfl) (by kernel_rfl) ⟨r5,trivial⟩
def vt:=nE qa vq
def vu:=nD qa vr
theorem bFh(hI:Is)(m:Int)(C:gB):xE m C (pH 2) (vt m C) vu:=go (bFg hI m C) [75,117,179] A3 rfl (by kernel_rfl) (by kernel_rfl) ⟨r5,trivial⟩
def vv:=nE qb vt
def vw:=nD qb vu
theorem aVm(hI:Is)(m:Int)(C:gB):xE m C (pH 3) (vv m C) vw:=go (bFh hI m C) [75,117,179] A4 rfl (by kernel_rfl) (by kernel_rfl) ⟨r5,trivial⟩
def A8:=nE qc vv
def A9:=nD qc vw
theorem bFi(hI:Is)(m:Int)(C:gB):xE m C (pH 4) (A8 m C) A9:=go (aVm hI m C) [75,117,179] un rfl (by kernel_rfl) (by kernel_rfl) ⟨r5,trivial⟩
end
end Go.Proofs.Tryz
