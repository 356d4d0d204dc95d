/- Lemmas for the card; no conditions. -/
import Derived.Test.YthfdachbgpjafaaGreatDoorXd17
import Derived.Test.YthfdachbgpjafaaGreatDoorXd18
import Derived.Test.YthfdachbgpjafaaGreatDoorXd15
set_option linter.all false
set_option maxRecDepth 100000
namespace Go.Proofs.Tryz
open Go.Ps
variable[Inhabited gy]
noncomputable section
variable(m:Int)(C:gB)
abbrev ly(s:tJ):Prop:=lO m C (rm m C) (λf=>sA f tQ) s
theorem kd:tQ.all (λf=> !mM f)=true:=by kernel_rfl
theorem nt:mM 123=false:=by kernel_rfl
theorem nu:mM 79=false:=by kernel_rfl
theorem nw:mM 130=false:=by kernel_rfl
section
variable(hI:Is)(m:Int)(C:gB)
include hI
theorem xp{done:List tJ}(h:∀s∈done,ly m C s){s:tJ}(d:qS prog xQ (done.map λs=>(s,none)) 0 8 s=true):ly m C s:=
 jl (OH hI m C) (X:=xQ) rfl rfl rfl (il:=tQ) rfl kd rfl kd nt nu nw h d
theorem ny:∀s∈lT,ly m C s:=λs h=>
 jc (OH hI m C) (X:=λ_ =>xQ) (λ_ =>rfl) (λ_ =>rfl) (λ_ =>rfl) (il:=tQ) (λ_ =>rfl) kd (λ_ =>rfl) kd nt nu nw (t:=[]) (by simp) _ rT s (List.mem_reverse.2 h)
theorem rp:∀s∈fF,ly m C s:=λs h=>
 jc (OH hI m C) (X:=xF) (λ_ =>rfl) (λ_ =>rfl) (λ_ =>rfl) (il:=tQ) (λ_ =>rfl) kd (λ_ =>rfl) kd nt nu nw (ny hI m C) _ rF s (List.mem_reverse.2 h)
theorem xq:∀s∈fZ,ly m C s:=λs h=>
 jc (OH hI m C) (X:=xF) (λ_ =>rfl) (λ_ =>rfl) (λ_ =>rfl) (il:=tQ) (λ_ =>rfl) kd (λ_ =>rfl) kd nt nu nw (t:=fF++lT) (λs h=>(bZ.1 h).elim (rp hI m C s) (ny hI m C s)) _ rZ s (List.mem_reverse.2 h)
omit [Inhabited gy] hI in
theorem bIu:tK=fK.map (λq=>(q.1,some q.2))++(fF++fZ++lT).map λs=>(s,none):=by
 unfold tK;rw[eX (l₁:=fF++fZ),<-eJ];rfl
omit [Inhabited gy] hI in
theorem bOc:∀i:Nat,i<16->qS prog (xF (AF i).1.f) tK (AF i).2 8 (AF i).1=true:=by
 intro i d
 match i,d with
 |0,_ =>exact bPw|1,_ =>exact bPx|2,_ =>exact bPy|3,_ =>exact bPz|4,_ =>exact bQa|5,_ =>exact bQb|6,_ =>exact bQc|7,_ =>exact bQd|8,_ =>exact bQe|9,_ =>exact bQf|10,_ =>exact bHe|11,_ =>exact bHf|12,_ =>exact bHg|13,_ =>exact bHh|14,_ =>exact bHi|15,_ =>exact bHj|i+16,h=>omega
omit [Inhabited gy] hI in
theorem aYc:fK.length=16:=by kernel_rfl
theorem E9:∀s∈fK,ly m C s.1:=by
 obtain⟨j,n,k⟩:=iu.side (OH hI m C) (tp:=λf=>sA f tQ) rfl kd nt nu nw;refine aLq (X:=xF) (λ_ =>rfl) (λ_ =>rfl) (λf=>(OH hI m C).cn (X:=xF f) rfl rfl (l:=tQ) rfl kd) j n k (done:=fF++fZ++lT) (λs hs=> ?_) (d:=8) λq o=> ?_;rcases bZ.1 hs with hs|hs;exact(bZ.1 hs).elim (rp hI m C s) (xq hI m C s);exact ny hI m C s hs;rw[<-bIu];obtain⟨i,h,rfl⟩:=bX o;have:=bOc i (by rw[<-aYc];exact h);have e:AF i=fK[i]:=by unfold AF;rw[bC,aB h];rfl
 rw[e]at this;exact this
theorem Fs:∀s∈lC,ly m C s:=λs h=>xp hI m C (done:=lT) (ny hI m C) (rC s h)
theorem bQv:ly m C n4:=xp hI m C (done:=fK.map (·.1)++fF++fZ++lT) (λs hs=>by
 rcases bZ.1 hs with hs|hs;rcases bZ.1 hs with hs|hs;rcases bZ.1 hs with hs|hs;obtain⟨q,h,rfl⟩:=bS.1 hs;exact E9 hI m C q h;exact rp hI m C s hs;exact xq hI m C s hs
 exact ny hI m C s hs) E8
omit [Inhabited gy] hI in
theorem bOw:tQ.all (λf=>uQ prog f&&zN prog f)=true:=by kernel_rfl
theorem bIn:∀s∈tt,ly m C s:=λs h=>(bZ.1 h).elim (Fs hI m C s) λh=>by rw[bR.1 h];exact bQv hI m C
def F1(m:Int)(C:gB):=LN prog (fo m C) (rm m C) xQ.own xQ.top 40 λf=>[c21].any λc=>Nat.beq c.f f
def F2:FuncId->Bool:=λf=>([c21].any λc=>Nat.beq c.f f)||mM f
theorem bFm:xE m C (pY [c21] pL) (F1 m C) F2:=
 (OH hI m C).ct follows (qN m C) xV (X:=xQ) (tl:=tQ) rfl bOw (l:=[c21]) λc d=>by
  rw[bR.1 d];exact⟨by kernel_rfl,λe h=>Gn ((OH hI m C).cn (X:=xQ) rfl rfl (l:=tQ) rfl kd) xV (bIn hI m C) xo h⟩
end
end
end Go.Proofs.Tryz
namespace Go.Proofs.Tryz
open Go.Ps
noncomputable section
section
variable(m:Int)(C:gB)(x:gC)(a g:Fq)(S t:gH)(X E x2 l c y:Int)(b:Bool)
def D7:Ed:=⟨fo m C,qC 8 (sT m C 8 (BI a)) (qC 19 (sT m C 19 (.fm [.str S,.int .i64 X])) (qC 9 (sT m C 9 (.bool true)) (qC 11 (sT m C 11 (.int .i64 E)) (qC 20 (sT m C 20 (.fm [.str t,.int .i64 x2])) (qC 21 (sT m C 21 (.fm [BI g,.int .i64 l,.int .i64 c,.int .i64 y])) (qC 22 (sT m C 22 (.bool b)) λ_ _ _ =>none))))))⟩
theorem bCq:rV prog (D7 m C a g S t X E x2 l c y b).env.gl (D7 m C a g S t X E x2 l c y b).env.pe:=
 pG (pG (pG (pG (pG (pG (pG rM λf r e h d=>xY m C h d) λf r e h d=>xY m C h d) λf r e h d=>xY m C h d) λf r e h d=>xY m C h d) λf r e h d=>xY m C h d) λf r e h d=>xY m C h d) λf r e h d=>xY m C h d
def F7:Fc:=⟨λs=>Nat.beq s 1,λ_ _ _ =>none⟩
abbrev pF(f:gX)(d:gC)(r:T):Bool:=pb (fj prog (fo m C) f d r)
def rq:List Bool:=[pF m C 11 [BI a] (.int .i64 E),pF m C 9 [] (.bool true),pF m C 19 [BI a] (.fm [.str S,.int .i64 X]),pF m C 8 [.agg x] (BI a)]
abbrev x5(e f i h d:T):List T:=[e,f,i,h,d]
abbrev u7(x:gC)(ds:gL):Option (T×Bool):=(uF (D7 m C a g S t X E x2 l c y b) F7 f7 [.agg x] ds).map λq=>(q.1,oU q.2)
def nz:List Bool:=pF m C 20 [BI a] (.fm [.str t,.int .i64 x2])::rq m C x a S X E
abbrev Tryz.md:Bool:=pF m C 21 [.str t] (.fm [BI g,.int .i64 l,.int .i64 c,.int .i64 y])
abbrev xr:Bool:=pF m C 22 [BI a,BI g] (.bool b)
section
variable(y0 y1 y2 y3 y4:T)
theorem F3:u7 m C a g [] t E E x2 l c y b (x5 y0 y1 y2 y3 y4) [false,true,true,true,true,true]=some (.bool (E==E),oU ((E !=0)::rq m C (x5 y0 y1 y2 y3 y4) a [] E E)):=by kernel_rfl
theorem F4:u7 m C a g [] [] x2 0 x2 l c y b (x5 y0 y1 y2 y3 y4) [false,false,true,true,true,true,true]=some (.bool (x2==x2),oU ((x2 !=0)::nz m C (x5 y0 y1 y2 y3 y4) a [] [] x2 0 x2)):=by kernel_rfl
theorem F5:u7 m C a g [] t 3 0 0 l c y b (x5 y0 y1 y2 y3 y4) (List.replicate 3 false++List.replicate 9 true)=some (.bool true,oU (List.replicate 5 (y !=0)++Tryz.md m C g t l c y::nz m C (x5 y0 y1 y2 y3 y4) a [] t 3 0 0)):=by kernel_rfl
theorem F6:u7 m C a g [] t 3 0 0 l c 0 false (x5 y0 y1 y2 y3 y4) (List.replicate 8 false++List.replicate 4 true)=some (.bool true,oU (xr m C a g false::Tryz.md m C g t l c 0::nz m C (x5 y0 y1 y2 y3 y4) a [] t 3 0 0)):=by kernel_rfl
theorem F8:u7 m C a g t t 0 0 0 l c 0 true (x5 y0 y1 y2 y3 y4) (List.replicate 9 false++List.replicate 3 true)=some (.bool true,oU (List.replicate 3 (t==t)++xr m C a g true::Tryz.md m C g t l c 0::nz m C (x5 y0 y1 y2 y3 y4) a t t 0 0 0)):=by kernel_rfl
end
end
variable[Inhabited gy]
section
variable{m:Int}{C:gB}
theorem aKa(hI:Is){t:gH}(F:t.length<=4000000000):∃(g:Fq) (l c y:Int),fj prog (fo m C) 21 [.str t] (.fm [BI g,.int .i64 l,.int .i64 c,.int .i64 y])/\∀i,i<g.k->Bx (g.u i):=by
 obtain⟨r,M,U⟩:=iu.e8 (X:=xQ) (bFm hI m C) (qN m C) xV (c:=c21) (aO:c21∈[c21]) ⟨by kernel_rfl,λq F=>Gn ((OH hI m C).cn (X:=xQ) rfl rfl (l:=tQ) rfl kd) xV (bIn hI m C) xo F⟩ (ts:=[.str t]) (pV (.fy _ _ t (by omega) (by omega)) wF);cases(show Gm [] [] (.fm [.agg [txt 140000,txt 1000000,fk,fk,l9],fk,fk,EB]) r from U)with
 |fm _ q k1 k2=>
 obtain⟨x0,r,rfl,g0,k⟩:=(show pT [] [] [.agg [txt 140000,txt 1000000,fk,fk,l9],fk,fk,EB] q from⟨k1,k2⟩).I;obtain⟨x1,r,rfl,Y,k⟩:=k.I;obtain⟨x2,r,rfl,Z,k⟩:=k.I;obtain⟨x3,r,rfl,L,k⟩:=k.I;have e:=k.ae;subst e;obtain⟨l,rfl,_,_⟩:=gm Y;obtain⟨c,rfl,_,_⟩:=gm Z;cases L with
 |ft _ _ _ y _ _ _ =>
 cases g0 with
 |agg _ O Q j2=>
 obtain⟨y0,r,rfl,q0,k⟩:=(show pT [] [] [txt 140000,txt 1000000,fk,fk,l9] O from⟨Q,j2⟩).I;obtain⟨y1,r,rfl,q1,k⟩:=k.I;obtain⟨y2,r,rfl,q2,k⟩:=k.I;obtain⟨y3,r,rfl,K,k⟩:=k.I;obtain⟨y4,r,rfl,J,k⟩:=k.I;have e:=k.ae;subst e;obtain⟨D,rfl⟩:=Hu q0;obtain⟨I,rfl⟩:=Hu q1;obtain⟨s,rfl,_,_⟩:=gm q2;obtain⟨o,rfl,_,_⟩:=gm K;cases(show Gm [] [] (.gr 31 .top 0 1000000000000) y4 from J)with
 |gr _ _ _ _ _ xs hq _ _ _ _ =>
 obtain⟨n,u,N,R⟩:=aUj (((default:gy).ex y4).1 hq);refine⟨⟨D,I,s,o,n,u⟩,l,c,y,M.mono λg v h=> ?_,N⟩;cases h with
 |fm _ vs V z=>
  refine .fm _ vs V λj w d p f=> ?_
  match j,f with
  |0,f=>cases f;exact Xt (a:=⟨D,I,s,o,n,u⟩) R (z 0 w _ p rfl)|1,f=>cases f;exact z 1 w _ p rfl|2,f=>cases f;exact z 2 w _ p rfl|3,f=>cases f;exact z 3 w _ p rfl|j+4,f=>simp at f
theorem Zc(f:Nat)(i:f=26\/f=27){s:gH}(h:s.length<=1000000):∃b:Bool,fj prog (fo m C) f [.str s] (.bool b):=by
 have k:∀{c:tW},c∈CB mB->c.pre=[txt 1000000]->c.res= .bool tA->∃b:Bool,fj prog (fo m C) c.f [.str s] (.bool b):=λ{c} n j o=>by
  obtain⟨r,e,d⟩:=out (aVo m C) tz (by kernel_rfl) ⟨r5,trivial⟩ (aVp m C) n (ts:=[.str s]) (by rw[j];exact pV (.fy _ _ s (by omega) (by omega)) wF);rw[o]at d;cases d with
  |bool _ b _ =>exact⟨b,e⟩
 rcases i with rfl|rfl;exact k (c:=sO) (by unfold mB CB lR;simp) rfl rfl;exact k (c:=s5) (by unfold mB CB lR;simp) rfl rfl
theorem aKq(hI:Is){s:gH}(h:s.length<=100):∃q:List UInt8,fj prog (fo m C) 39 [.str s] (.str q)/\q.length<=700:=by
 obtain⟨r,e,d⟩:=out (aVj hI m C) ul (by kernel_rfl) ⟨r5,trivial⟩ (aVk hI m C) (c:=ta) (by unfold CB pg;simp) (ts:=[.str s]) (pV (.fy _ _ s (by omega) (by omega)) wF);cases(show Gm [] [] (txt 700) r from d)with
 |fy _ _ q _ f=>exact⟨q,e,by omega⟩
theorem lA(hI:Is)(hk:fj prog (fo m C) 9 [] (.bool true)){x:T}(Y:pT [] [] c8.pre [x]):fj prog (fo m C) 7 [x] (.bool true):=by
 obtain⟨r,h8,g8⟩:=aLi m C Y;obtain⟨a,ga,O,⟨nd,rs⟩,M⟩:=aYe (show Gm [] [] fA r from g8);have h8:=h8.mono M;obtain⟨y0,y1,y2,y3,y4,rfl⟩:∃y0 y1 y2 y3 y4,x= .agg (x5 y0 y1 y2 y3 y4):=by
  have g:=Y.head;cases(show Gm [] [] (.agg [txt gO,txt gO,fk,fk,.gp (.agg (eI 3)) 0 gO]) x from g)with
  |agg _ ts N h2=>
   match ts,N with
   |[a,b,c,d,e],_ =>exact⟨a,b,c,d,e,rfl⟩
 have hz:qJ (pM 40 ⟨0,.nl⟩) [.agg (x5 y0 y1 y2 y3 y4)]=some [.agg (x5 y0 y1 y2 y3 y4)]:=yY _ λx h=>by
  obtain⟨b,N,h2⟩:=yU Y.1 Y.2 h;exact FK qZ b x (qM (show HD (qT qZ) c8.pre=true by kernel_rfl) b N) h2 40 xV
 obtain⟨q,hq,R⟩:=aKq (m:=m) (C:=C) hI rs;obtain⟨b6,h6⟩:=Zc (m:=m) (C:=C) 26 (.inl rfl) (s:=a.nd) (by omega);obtain⟨b7,h7⟩:=Zc (m:=m) (C:=C) 27 (.inr rfl) (s:=a.rs) (by omega);obtain⟨e,h28⟩:∃e:Int,0<a.k->fj prog (fo m C) 28 [pJ (a.u 0)] (.int .i64 e):=by
  by_cases h:0<a.k;obtain⟨e,D,_⟩:=Lw (m:=m) (C:=C) hI (O 0 h).1;exact⟨e,λ_ =>D⟩;exact⟨0,λh'=>absurd h' h⟩
 obtain⟨E,hE,hb⟩:=aXo h6 h7 h28;have I:fj prog (fo m C) 10 [BI a] (.int .i64 E):=hE true;have h11:fj prog (fo m C) 11 [BI a] (.int .i64 E):=hE false;have p8:=pN.2 h8;have p9:=pN.2 hk;have p11:=pN.2 h11;have go:∀{a g:Fq} {S t:gH} {X E x2 l c y:Int} {b:Bool} {ds:gL} {w:Bool},u7 m C a g S t X E x2 l c y b (x5 y0 y1 y2 y3 y4) ds=some (.bool true,w)->w=true->fj prog (fo m C) 7 [.agg (x5 y0 y1 y2 y3 y4)] (.bool true):=λhw hb=>
  aMm (bCq m C _ _ _ _ _ _ _ _ _ _ _) vW rfl (by kernel_rfl) (by kernel_rfl) func7 (by kernel_rfl) hz hw hb
 have la:∀{S:gH} {X:Int},fj prog (fo m C) 19 [BI a] (.fm [.str S,.int .i64 X])->oU (rq m C (x5 y0 y1 y2 y3 y4) a S X E)=true:=λh=>qB p11 (qB p9 (qB (pN.2 h) (qB p8 rfl)));by_cases h0:E=0;subst h0;obtain⟨hf,ht,hk1⟩:=hb rfl;obtain⟨K,Q⟩:∃K:Bool,a=aK a K:=by
  by_cases h:a.k=0;exact⟨false,by unfold aK;rw[aH (by decide),<-h]⟩;exact⟨true,by unfold aK;rw[aJ rfl,show(1:Nat)=a.k by omega]⟩
 have J:K=true->a.k=1:=λe=>by rw[Q,e];rfl
 have Z:lM m C a q:=⟨nd,R,hq,hf,ht⟩;have U:∀{S t:gH} {X x2:Int},fj prog (fo m C) 19 [BI a] (.fm [.str S,.int .i64 X])->fj prog (fo m C) 20 [BI a] (.fm [.str t,.int .i64 x2])->oU (nz m C (x5 y0 y1 y2 y3 y4) a S t X 0 x2)=true:=λh k=>qB (pN.2 k) (la h);obtain⟨s,F,p,hs⟩:∃(s:gH) (F:Int),(K=true->fj prog (fo m C) 41 [pJ (a.u 0)] (.fm [.str s,.int .i64 F]))/\s.length<=100000000:=by
  cases K with
  |false=>exact⟨[],0,λh=>(by cases h),by simp⟩
  |true=>
   have N:=J rfl;obtain⟨s,F,h,hl⟩:=aKk (m:=m) (C:=C) hI (O 0 (by omega)).2 (O 0 (by omega)).1;exact⟨s,F,λ_ =>h,dK hl (by decide)⟩
 by_cases D:K=true/\F≠0;obtain⟨rfl,D⟩:=D;have f:=aCq Z (by rw[<-Q];exact I) (p rfl) D;have i:=aMe Z (p rfl) D;rw[<-Q]at f i;exact go (by rw[F4 m C a a F 0 0 0 true y0 y1 y2 y3 y4,beq_self_eq_true]) (qB (bne_iff_ne.2 D) (U f i));have p:K=true->fj prog (fo m C) 41 [pJ (a.u 0)] (.fm [.str s,.int .i64 0]):=λh=>by
  have e0:F=0:=dJ λq=>D ⟨h,q⟩;rw[<-e0];exact p h
 have hl:=aIr (q:=q) (s:=s) (a:=a) (Tryz.b1 a) (Tryz.b2 a) (Tryz.b3 a) (Tryz.b4 a) K nd R;obtain⟨g,l,c,y,L,hbx⟩:=aKa (m:=m) (C:=C) hI (t:=kU a q s K) (dK hl (by omega));have hY:K=true->g.k=1->Y2 m C 44 (pJ (a.u 0)) (pJ (g.u 0)):=λh h'=>by
  have N:=J h;exact aXz m C 3 _ _ (O 0 (by omega)).2 (O 0 (by omega)).1 (hbx 0 (by omega))
 have h43:=E5 hY;have B:=aSx hY;have i:=aTs Z hs p;have f:=aKl Z hs (by rw[<-Q];exact I) p L h43;rw[<-Q]at f i B;have md:=pN.2 L;by_cases hy:y=0;subst hy;cases hsm:((g.nd==a.nd)&&((g.rs==a.rs)&&((g.fr==a.fr)&&((g.till==a.till)&&bW m C a g K))))with
 |false=>
  rw[hsm]at B;rw[show lx a g 0 (bW m C a g K)=false from hsm]at f;exact go (F6 m C a g _ l c y0 y1 y2 y3 y4) (qB (pN.2 B) (qB md (U f i)))
 |true=>
  rw[hsm]at B;rw[show lx a g 0 (bW m C a g K)=true from hsm]at f;exact go (F8 m C a g _ l c y0 y1 y2 y3 y4) (BD 3 (beq_self_eq_true _) (qB (pN.2 B) (qB md (U f i))))
 rw[show lx a g y (bW m C a g K)=false by unfold lx;rw[show(y==0)=false by simpa using hy];rfl]at f;exact go (F5 m C a g _ l c y true y0 y1 y2 y3 y4) (BD 5 (bne_iff_ne.2 hy) (qB md (U f i)));exact go (by rw[F3 m C a a [] E 0 0 0 0 true y0 y1 y2 y3 y4,beq_self_eq_true]) (qB (bne_iff_ne.2 h0) (la (aCp I h0)))
end
end
end Go.Proofs.Tryz
namespace Go.Ps
section
variable{H:Type}{enc:TypeId×Value->H}{P:gD}{W:iG}
instance:Inhabited Vl:=⟨⟨0,0,0,[],0,λ_ =>oS,0,λ_ =>oS⟩⟩
instance:Inhabited Fd:=⟨⟨[],default⟩⟩
instance:Inhabited Ex:=⟨⟨0,0,[],0,λ_ =>oS,0,λ_ =>oS⟩⟩
structure aWt(P:gD)(tV tI tS tLV tF tLF:gB):Prop where
 i:P.underlying tI=some (.int .i64)
 s:P.underlying tS=some .string
 lv:P.underlying tLV=some (.slice tV)
 lf:P.underlying tLF=some (.slice tF)
 cV:P.cellsOf tV=6
 cF:P.cellsOf tF=7
 v0:fieldAt P tV 0=some (tI,0,1)
 v1:fieldAt P tV 1=some (tI,1,1)
 v2:fieldAt P tV 2=some (tI,2,1)
 v3:fieldAt P tV 3=some (tS,3,1)
 v4:fieldAt P tV 4=some (tLV,4,1)
 v5:fieldAt P tV 5=some (tLF,5,1)
 f0:fieldAt P tF 0=some (tS,0,1)
 f1:fieldAt P tF 1=some (tV,1,6)
theorem aVw{J I tS o tF k:gB}(h:aWt P J I tS o tF k):∀(n:Nat) (e:gV) (y:DataW H×List MemPlace),DataW.trod enc P W 0 (λ_ =>true) true n J e=some y->∃v:Vl,xG (G.start W) e (lr v)/\lG (AK v):=by
 intro n
 induction n using Nat.strongRecOn with
 |ind n u=>
  intro e y d;have hI:tL enc P W I (λn:Int=>[T.int .i64 n]) (λn=>IntKind.i64.has n):=tL.int h.i;have q:tL enc P W tS (λs:List UInt8=>[T.str s]) (λs=>s.length<=maxLen):=tL.str h.s;obtain⟨V,R,_⟩:=hI.field d h.v0;obtain⟨Z,h1,_⟩:=hI.field d h.v1;obtain⟨a2,h2,_⟩:=hI.field d h.v2;obtain⟨a3,h3,_⟩:=q.field d h.v3;obtain⟨hl,z,y4,hn4,L⟩:=ER d h.v4;obtain⟨_,B,y5,hn5,Q⟩:=ER d h.v5;obtain⟨F,K,_,M⟩:=tL.bv (N:=z) (A:=Vl) (mk:=lr) (ok:=λv=>lG (AK v)) AK h.lv h.cV (by decide) (λ_ =>rfl) (λ_ =>rfl)
   (λD j e y d=>u D (by omega) e y d) z (bB _) _ _ L
  obtain⟨x5,U,_,k5⟩:=tL.bv (N:=B) (A:=Fd) (mk:=λf=>(nQ f).cells) (ok:=λf=>lG (AK f.val)) nQ h.lf h.cF (by decide) (λ_ =>rfl) (λ_ =>rfl)
   (λD j e y d=>by
    obtain⟨O,g0,_⟩:=q.field d h.f0;obtain⟨p,m1,y1,hm1,Y⟩:=ER d h.f1;obtain⟨v,g1,w⟩:=u m1 (by omega) _ _ Y
    exact⟨⟨O,v⟩,by have:=g0.cut (g1.cut (xG.end_ (p.trans h.cF)));rw[fD]at this;exact this,w⟩) B (bB _) _ _ Q
  refine⟨⟨V,Z,a2,a3,F.1,λi=>AK (F.2 i),x5.1,λi=>nQ (x5.2 i)⟩,?_,?_⟩;have:=R.cut (h1.cut (h2.cut (h3.cut (K.cut (U.cut (xG.end_ (hl.trans h.cV)))))));rw[fD]at this;exact this;exact .mk _ M (λi _ =>rfl) k5
structure bCt(P:gD)(tE tI tS tLV tLE:gB):Prop where
 le:P.underlying tLE=some (.slice tE)
 cE:P.cellsOf tE=5
 e0:fieldAt P tE 0=some (tI,0,1)
 e1:fieldAt P tE 1=some (tI,1,1)
 e2:fieldAt P tE 2=some (tS,2,1)
 e3:fieldAt P tE 3=some (tLV,3,1)
 e4:fieldAt P tE 4=some (tLE,4,1)
theorem bGw{tV u tS j tF q z p:gB}(h:aWt P tV u tS j tF q)(k:bCt P z u tS j p):∀(n:Nat) (f:gV) (y:DataW H×List MemPlace),DataW.trod enc P W 0 (λ_ =>true) true n z f=some y->∃e:Ex,xG (G.start W) f (ls e).cells/\nR (ls e):=by
 intro n
 induction n using Nat.strongRecOn with
 |ind n R=>
  intro f y d;have hI:tL enc P W u (λn:Int=>[T.int .i64 n]) (λn=>IntKind.i64.has n):=tL.int h.i;have O:tL enc P W tS (λs:List UInt8=>[T.str s]) (λs=>s.length<=maxLen):=tL.str h.s;obtain⟨U,Q,_⟩:=hI.field d k.e0;obtain⟨V,h1,_⟩:=hI.field d k.e1;obtain⟨a2,Z,_⟩:=O.field d k.e2;obtain⟨hl,w,y3,I,e3⟩:=ER d k.e3;obtain⟨_,B,y4,hn4,K⟩:=ER d k.e4;obtain⟨D,Y,_,k3⟩:=tL.bv (N:=w) (A:=Vl) (mk:=lr) (ok:=λv=>lG (AK v)) AK h.lv h.cV (by decide) (λ_ =>rfl) (λ_ =>rfl)
   (λo _ f y d=>aVw h o f y d) w (bB _) _ _ e3
  obtain⟨F,J,_,M⟩:=tL.bv (N:=B) (A:=Ex) (mk:=λe=>(ls e).cells) (ok:=λe=>nR (ls e)) ls k.le k.cE (by decide) (λ_ =>rfl) (λ_ =>rfl)
   (λo L f y d=>R o (by omega) f y d) B (bB _) _ _ K
  refine⟨⟨U,V,a2,D.1,λi=>AK (D.2 i),F.1,λi=>ls (F.2 i)⟩,?_,?_⟩;have:=Q.cut (h1.cut (Z.cut (Y.cut (J.cut (xG.end_ (hl.trans k.cE))))));rw[fD]at this;exact this;exact .mk _ k3 M
end
end Go.Ps
