/- Lemmas for the card; no conditions. -/
import Derived.Test.YthfdachbgpjafaaGreatDoorXd12
import Derived.Test.YthfdachbgpjafaaGreatDoorXd16
set_option linter.all false
set_option maxRecDepth 100000
namespace Go.Ps
variable[Inhabited gy]
section
variable{P:gD}{gl:gG}{pe:gM}{ga:Nat->Option A}{ow:iA}{tp:hC}
theorem aTb{X:AX}(D:X.own=ow)(q:X.top=tp)(F:Cn X gl pe)(i:∀R A B f a r,rU R A B->pe A f a=some r->pe B f a=some r)(c:∀f,tp f=true->∀B a,pe B f a=none)(b:∀f a A v,MR f a A=some v->∀B a,pe B f a=none){done:List tJ}
  (o:∀s∈done,RY (λn d=>(qW P ⟨gl,pe⟩ ow tp n d).ee) s) {d:Nat} {s:tJ} (h:qS P X (done.map λs=>(s,none)) 0 d s=true):RY (λn d=>(qW P ⟨gl,pe⟩ ow tp n d).ee) s:=by
 subst D q;intro y w j;obtain⟨u,E,_⟩:=YO h j
 exact @aLp _ ⟨some u⟩ P X gl pe (F.fg _) i c b u rfl 0 _ (λx z g H=>by
  obtain⟨s,p,rfl⟩:=bS.1 z
  exact o s p g) d s h y E w j
theorem Qg{X:AX}(I:X.own=ow)(F:X.top=tp)(K:Cn X gl pe)(w:∀R A B f b r,rU R A B->pe A f b=some r->pe B f b=some r)(j:∀f,tp f=true->∀B b,pe B f b=none)(i:∀f b A v,MR f b A=some v->∀B b,pe B f b=none){done:List tJ}{T:List (tJ×Nat)}
  (z:∀s∈done,RY (λn d=>(qW P ⟨gl,pe⟩ ow tp n d).ee) s) {d:Nat} {q:tJ×Nat} (h:qS P X (T.map (λq=>(q.1,some q.2))++done.map λs=>(s,none)) q.2 d q.1=true) (L:q∈T) {p:gN} {u:Int} (J:p[0]? =some u)
  (H:∀g∈T,∀(a:gN) (c:Int),a[0]? =some c->(c<u\/c<=u/\g.2<q.2)->UY (λn d=>(qW P ⟨gl,pe⟩ ow tp n d).ee) g.1 a):UY (λn d=>(qW P ⟨gl,pe⟩ ow tp n d).ee) q.1 p:=by
 subst I F
 exact @aLp _ ⟨some u⟩ P X gl pe (K.fg _) w j i u rfl q.2 _ (λx hx a D=>by
  rcases bZ.1 hx with hx|hx;obtain⟨g,o,rfl⟩:=bS.1 hx;obtain⟨c,e,y⟩:=D _ rfl;exact H g o a c e y;obtain⟨s,E,rfl⟩:=bS.1 hx
  exact z s E a) d q.1 h p J
theorem aLq{X:FuncId->AX}(M:∀f,(X f).own=ow)(L:∀f,(X f).top=tp)(Q:∀f,Cn (X f) gl pe)(F:∀R A B f w r,rU R A B->pe A f w=some r->pe B f w=some r)(E:∀f,tp f=true->∀B w,pe B f w=none)(D:∀f w A v,MR f w A=some v->∀B w,pe B f w=none){done:List tJ}{T:List (tJ×Nat)}
  (O:∀s∈done,RY (λn d=>(qW P ⟨gl,pe⟩ ow tp n d).ee) s) {d:Nat} (h:∀q∈T,qS P (X q.1.f) (T.map (λq=>(q.1,some q.2))++done.map λs=>(s,none)) q.2 d q.1=true):∀q∈T,RY (λn d=>(qW P ⟨gl,pe⟩ ow tp n d).ee) q.1:=by
 have J:∀(N R:Nat),∀q∈T,∀i:List Int,(∃u,i[0]? =some u/\(u.toNat<N\/u.toNat=N/\q.2<R))->UY (λn d=>(qW P ⟨gl,pe⟩ ow tp n d).ee) q.1 i:=by
  intro N
  induction N with
  |zero=>
   intro R
   induction R with
   |zero=>rintro q c i ⟨u,j,I⟩;omega
   |succ R x=>
    rintro q c i ⟨u,j,I⟩;intro z o;have U:0<=u:=YN (h q c) o j
    exact Qg (M _) (L _) (Q _) F E D O (h q c) c j (λp a g y e b=>by
     rcases b with b|⟨b,S⟩;intro b1 b2;have:=YN (h p a) b2 e;omega;intro b1 b2;have:=YN (h p a) b2 e
     exact x p a g ⟨y,e,.inr ⟨by omega,by omega⟩⟩ b1 b2) z o
  |succ N K=>
   intro R
   induction R with
   |zero=>
    rintro q c i ⟨u,j,I⟩;exact K (q.2+1) q c i ⟨u,j,by omega⟩
   |succ R x=>
    rintro q c i ⟨u,j,I⟩;intro z o;have U:0<=u:=YN (h q c) o j;by_cases H:u.toNat<N+1;exact x q c i ⟨u,j,.inl H⟩ z o
    exact Qg (M _) (L _) (Q _) F E D O (h q c) c j (λp a g y e b=>by
     intro b1 b2;have:=YN (h p a) b2 e;rcases b with b|⟨b,S⟩
     exact x p a g ⟨y,e,.inl (by omega)⟩ b1 b2;by_cases V:y=u;exact x p a g ⟨y,e,.inr ⟨by omega,by omega⟩⟩ b1 b2
     exact x p a g ⟨y,e,.inl (by omega)⟩ b1 b2) z o
 intro q c i;intro z o;cases h0:i[0]? with
 |none=>
  exfalso;have:=YO (h q c) o;simp[h0]at this
 |some u=>exact J u.toNat (q.2+1) q c i ⟨u,h0,.inr ⟨rfl,by omega⟩⟩ z o
end
section
variable{P:gD}{gl:gG}{k:Nat}{ga:Nat->Option A}{pa:FuncId->List A->Nat->List pR->Option AV}{pc:gI}{dom:hC}
theorem iu.side(h:iu P gl k ga pa pc dom){tp:hC}{p:gU}(s:tp=λf=>sA f p)(y:p.all (λf=> !dom f)=true)(x:dom 123=false)(u:dom 79=false)(q:dom 130=false):
  (∀R A B f a r,rU R A B->sR k pc A f a=some r->sR k pc B f a=some r)/\(∀f,tp f=true->∀B a,sR k pc B f a=none)/\(∀f a A v,MR f a A=some v->∀B a,sR k pc B f a=none):=by
 refine⟨λR A B f a r c e=>Dd c e,λf i B a=> ?_,λf a A v b B w=> ?_⟩;rw[s]at i;have g:=IQ y f i;have d:∀a,pc f a=none:=λa=>h.dm f a (by simpa using g);unfold sR;split;exact d _;split;simp only[d];rfl;have g:dom f=false:=by
  unfold MR at b;by_cases o:f=123;subst o;exact x;rw[aH o]at b;by_cases n:f=79;subst n;exact u;rw[aH n]at b;by_cases j:f=130;subst j;exact q;rw[aH j]at b;cases b
 have d:∀a,pc f a=none:=λa=>h.dm f a g;unfold sR;split;exact d _;split;simp only[d];rfl
end
end Go.Ps
namespace Go.Proofs.Tryz
open Go.Ps
variable[Inhabited gy]
noncomputable section
theorem TN(s:gH):∀(n a:Nat),a<=s.length->a<=AL s n a/\AL s n a<=s.length
 |0,a,h=>⟨bB _,h⟩
 |n+1,a,h=>by
  unfold AL;split;exact⟨bB _,h⟩;rename_i c g;have d:a<s.length:=(aQ.1 g).1;split;have:=TN s n (a+1) d;omega;split;split;rename_i i f;have b:=(List.findIdx?_eq_some_iff_getElem.1 f).1;rw[cP]at b;have:=TN s n (a+i) (by omega);omega;have:=TN s n (a+(s.length-a)) (by omega);omega;exact⟨bB _,h⟩
theorem aSv{P:gD}{E:uW}{ow:iA}{tp:hC}(F:tp 130=false):RY (λn d=>(qW P E ow tp n d).ee) Vb:=by
 intro vs hl K H ts xs z hxl hnd I J;obtain⟨g,f,i,rfl⟩:∃g f i,vs=[g,f,i]:=by
  match vs,hl with
  |[a,b,c],_ =>exact⟨a,b,c,rfl⟩
 obtain⟨x,rfl⟩:∃x,xs=[x]:=by
  match xs,hxl with
  |[x],_ =>exact⟨x,rfl⟩
 obtain⟨t0,r0,rfl,g1,g2⟩:=(show pT (0::[g,f,i]) ([x].map some) [.ptr 0 0] ts from I).I;have e:=g2.ae;subst e;cases g1 with
 |ptr _ _ x' hx'=>
 cases hx';obtain⟨x',o,hx,ho,⟨Q,L⟩,s⟩:=J 0 (200,[.str 1 0,.int .i64 2 0,.int .i64 3 0,j9],[]) rfl;cases hx;obtain⟨c0,r,Z,q0,s⟩:=(show pT (0::[g,f,i]) ([x].map some) [.str 1 0,.int .i64 2 0,.int .i64 3 0,j9] o.cells from s).I;obtain⟨c1,r,rfl,q1,s⟩:=s.I;obtain⟨c2,r,rfl,q2,s⟩:=s.I;obtain⟨R,r,rfl,q3,s⟩:=s.I;have e:=s.ae;subst e;cases q0 with
 |str _ _ w1 l hw1 hl1=>
 cases hw1;cases q1 with
 |int _ _ _ w2 hw2 hk2=>
 cases hw2;cases q2 with
 |int _ _ _ w3 hw3 hk3=>
 cases hw3;have le:∀{a b:Nat} {c:Int} {u v:Int},pR.le a b c∈lH->(0::[g,f,i])[a]? =some u->(0::[g,f,i])[b]? =some v->u<=v+c:=λ{a b c u v} S hu hv=>by
  obtain⟨u',v',e1,e2,e3⟩:=K _ S;rw[hu]at e1;rw[hv]at e2;cases e1;cases e2;exact e3
 have b1:(0:Int)<=g+0:=le (a:=0) (b:=1) (by simp[lH]) rfl rfl;have b2:g<=0+65536:=le (a:=1) (b:=0) (by simp[lH]) rfl rfl;have b3:(0:Int)<=f+0:=le (a:=0) (b:=2) (by simp[lH]) rfl rfl;have b4:f<=g+0:=le (a:=2) (b:=1) (by simp[lH]) rfl rfl;have Y:=TN l (l.length+1-f.toNat) f.toNat (by omega);obtain⟨w,hw⟩:∃w:Nat,AL l (l.length+1-f.toNat) f.toNat=w:=⟨_,rfl⟩;rw[hw]at Y;have h2:f+0=f:=by omega
 have M:o.cells=[.str l,.int .i64 f,.int .i64 (i+0),R]:=by rw[Z,h2]
 have S:o.me=none:=by
  have:=ho;rw[uN]at this;cases hz:H.any x with
  |none=>rw[hz]at this;cases this
  |some q=>
   rw[hz]at this;cases p:q.me with
   |none=>
    have:Ob.plain q=some o:=this;unfold Ob.plain at this;rw[p]at this;cases this;exact p
   |some y=>
    have:Ob.plain q=some o:=this;unfold Ob.plain at this;rw[p]at this;cases this
 have O:H.any x=some o:=by
  have:=ho;rw[uN]at this;cases hz:H.any x with
  |none=>rw[hz]at this;cases this
  |some q=>
   rw[hz]at this;have:Ob.plain q=some o:=this;unfold Ob.plain at this;split at this;cases this;rfl;cases this
 have W:∀D:Ob,D.me=none->(H.put x D).get x=some D:=λD h=>(gw H x D x h).trans (aJ rfl);have hX:MR 130 [.ptr x 0] H=some (.fm [],H.put x {o with cells:=[.str l,.int .i64 ((w:Nat):Int),.int .i64 (i+0),R]}):=by
  unfold MR;rw[aH (by decide),aH (by decide),aJ rfl];unfold Se;simp only[ho,M];rw[aJ ⟨Q,L,by omega,by omega,by omega⟩,hw]
 refine⟨.fm [],H.put x {o with cells:=[.str l,.int .i64 ((w:Nat):Int),.int .i64 (i+0),R]},⟨1,λn d _ hd=> ?_⟩,λm D B=> ?_,bB _,λy hy _ => ?_,_,bR.2 rfl,[(w:Int)],rfl,?_,?_,?_⟩;obtain⟨d,rfl⟩:∃d0,d=d0+1:=⟨d-1,by omega⟩;show(if tp 130=true then _ else MR 130 [.ptr x 0] H)=_;rw[aH (by rw[F];decide)];exact hX;rw[qP]at B;show m<H.next;split at B;rename_i e;subst e;exact z _ _ O;exact z _ _ B;rw[qP,aH (λe=>hy (by rw[e];simp))];intro q p;have p:q∈[pR.le 2 4 0,.le 0 4 0,.le 4 1 0]:=p;simp only[aY,dF,fQ]at p;rcases p with rfl|rfl|rfl
 exact⟨f,w,rfl,rfl,by omega⟩;exact⟨0,w,rfl,rfl,by omega⟩;exact⟨w,g,rfl,rfl,by omega⟩;exact .fm _ _ rfl λj a t h=>by simp at h
 intro j q p
 match j with
 |0=>
  cases p;refine⟨x,{o with cells:=[.str l,.int .i64 ((w:Nat):Int),.int .i64 (i+0),R]},rfl,W _ S,⟨Q,L⟩,rfl,λj a t N F=> ?_⟩
  match j with
  |0=>cases N;cases F;exact .str _ _ g l rfl hl1
  |1=>
   cases N;cases F;have:=Gm.int (V:=0::[g,f,i]++[(w:Int)]) (U:=[x].map some) .i64 4 0 w rfl (vC (by omega))
   rwa [show((w:Nat):Int)+0=w by omega]at this
  |2=>cases N;cases F;exact .int .i64 3 0 i rfl hk3|3=>cases N;cases F;exact q3.ext (rX.app _ _) (.refl _)|j+4=>simp[mw]at N
 |j+1=>simp[EU,Vb]at p
variable(m:Int)(C:gB)
abbrev lO(e:gI)(tp:hC)(s:tJ):Prop:=RY (λn d=>(qW prog ⟨fo m C,sR 40 e⟩ aSj tp n d).ee) s
section
variable{m:Int}{C:gB}{pa:FuncId->List A->Nat->List pR->Option AV}{e:gI}{dom:hC}
theorem jl(h:xE m C pa e dom){X:AX}{il a:gU}(o:X.own=aSj)(d:X.gl=Tn)(c:X.pe=pa)(b:X.inl=λf=>sA f il)(g:il.all (λf=> !dom f)=true)(n:X.top=λf=>sA f a)(w:a.all (λf=> !dom f)=true)
  (v:dom 123=false) (p:dom 79=false) (i:dom 130=false) {done:List tJ} (x:∀s∈done,lO m C e (λf=>sA f a) s) {s:tJ} (y:qS prog X (done.map λs=>(s,none)) 0 8 s=true):lO m C e (λf=>sA f a) s:=by
 obtain⟨u,j,q⟩:=iu.side h (tp:=λf=>sA f a) rfl w v p i;exact aTb o n (h.cn d c b g) u j q x y
theorem jc(h:xE m C pa e dom){X:Nat->AX}{il b:gU}(q:∀f,(X f).own=aSj)(j:∀f,(X f).gl=Tn)(i:∀f,(X f).pe=pa)(g:∀f,(X f).inl=λf=>sA f il)(n:il.all (λf=> !dom f)=true)(p:∀f,(X f).top=λf=>sA f b)(x:b.all (λf=> !dom f)=true)
  (w:dom 123=false) (v:dom 79=false) (o:dom 130=false) {t:List tJ} (d:∀s∈t,lO m C e (λf=>sA f b) s):∀l:List tJ,aDd prog X t l=true->∀s∈l,lO m C e (λf=>sA f b) s
 |[],_,s,hs=>by simp at hs
 |a::r,c,s,hs=>by
  unfold aDd at c;simp only[aA]at c;have u:=jc h q j i g n p x w v o d r c.2;rcases aY.1 hs with rfl|hs
  exact jl h (q _) (j _) (i _) (g _) n (p _) x w v o (λs hs=>by
   rcases bZ.1 hs with hs|hs;exact u s hs
   exact d s hs) c.1
  exact u s hs
end
theorem bOv:tS.all (λf=>uQ prog f&&zN prog f)=true:=by kernel_rfl
theorem aTc(hI:Is)(m:Int)(C:gB):∀s∈aWb,lO m C (mH m C) (λf=>sA f tS) s:=by
 have b:lO m C (mH m C) (λf=>sA f tS) Vb:=aSv rfl;have a:∀{s:tJ},qS prog xS mz 0 8 s=true->lO m C (mH m C) (λf=>sA f tS) s:=λ{s} c=>
  jl (Ny hI m C) (X:=xS) rfl rfl rfl (il:=iS) rfl (by kernel_rfl) rfl (by kernel_rfl) (by kernel_rfl) (by kernel_rfl) (by kernel_rfl) (done:=[Vb]) (λs h=>by rw[bR.1 h];exact b) c
 intro s h;have h:s∈[Vb,Vd 125,Vd 126,Vd 127,Vd 128,Vd 129]:=h;simp only[aY,dF,fQ]at h;rcases h with rfl|rfl|rfl|rfl|rfl|rfl
 exact b;exact a bHk;exact a bHl;exact a bHm;exact a bHn;exact a bHo
def xm:=LN prog (fo m C) (mH m C) xS.own xS.top 40 λf=>[m7].any λc=>Nat.beq c.f f
def xn:FuncId->Bool:=λf=>([m7].any λc=>Nat.beq c.f f)||qr f
theorem bFl(hI:Is)(m:Int)(C:gB):xE m C po (xm m C) xn:=
 (Ny hI m C).ct follows (qN m C) xV (X:=xS) (tl:=tS) rfl bOv (l:=[m7]) λc a=>by
  rw[bR.1 a];exact⟨by kernel_rfl,λb h=>Gn ((Ny hI m C).cn (X:=xS) rfl rfl (l:=iS) rfl (by kernel_rfl)) xV (aTc hI m C) E7 h⟩
def rm:=nE qn xm
def mM:=nD qn xn
theorem OH(hI:Is)(m:Int)(C:gB):xE m C (pL) (rm m C) mM:=go (bFl hI m C) [10,25] A5 rfl (by kernel_rfl) (by kernel_rfl) ⟨r5,trivial⟩
end
end Go.Proofs.Tryz
