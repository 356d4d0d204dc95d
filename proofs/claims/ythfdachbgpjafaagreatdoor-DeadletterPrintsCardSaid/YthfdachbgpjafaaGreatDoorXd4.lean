/- Lemmas for the card; no conditions. -/
import Derived.Test.YthfdachbgpjafaaGreatDoorXd3
set_option linter.all false
namespace Go.Ps
variable[Inhabited gy][jm]
def mU(d:gM)(p:FuncId->List A->Nat->List pR->Option AV):Prop:=
 ∀g a n cs v,p g a n cs=some v->∀(V:gN) (U:gE) (H:Hp) (b:gC),Sy V n cs->pT V U a b->∃r,d H g b=some r/\im V U v r
structure Cn(X:AX)(gc:gG)(pc:gM):Prop where
 gl:lZ gc X.gl
 pe:mU pc X.pe
 inl:∀g H ts,X.inl g=true->pc H g ts=none
 fz:∃k,qZ<=k/\∀H g ts bs r,qJ (pM k H) ts=some bs->qJ (pM k ⟨0,.nl⟩) bs=some bs->pc H g bs=some r->Ai r=true->pc H g ts=some r
section
variable{V V':gN}{U μ':gE}
theorem aTw{a:A}{t:T}{B:Bo}{b:Bool}(h:Gm V U a t)(d:tX V B b):Gm V U (.fm [a,.bool B]) (.fm [t,.bool b]):=by
 have c:=pT.cons h (pT.cons (show Gm V U (.bool B) (.bool b)from .bool B _ d) .nil);exact .fm _ _ c.1 c.2
theorem Uf{P:gD}{N:gP}{nl n:Nat}{Q:List pR}{H:Hp}(d:Sy V n Q)(hh:GH N nl V U H){t:gB}{x k:A}{y z:T}(hx:Gm V U x y)(J:Gm V U k z){ok:Bool}{v:AV}(h:Ib P N n Q t x k ok=some v):
  ∃r,BK P H t y z ok=some r/\im V U v r:=by
 have g:∀b,tX V tA b:=λb=>⟨λ_ => .nil,λ_ => .nil⟩;unfold Ib at h;split at h
 .rename_i l;cases hx with
  |mp _ l' E=>
  split at h;rename_i M hf;obtain⟨o,o1,c0,u,o2,O,W⟩:=hh.fb hf E;have i:NV H (.mp l')=some u:=by simp only[NV,o1,o2]
  split at h;rename_i D et Z;split at h;rename_i q hq;obtain rfl:=Yn d.zero hq J;split at h;rename_i c;simp only[aA,aP]at c;have f:=XM c.1;have:=WR (V:=V) (U:=U) c.1 M u 0 O W c.2;simp only[BK,Z,f,i,cB];split at h;rename_i a p;cases h;obtain⟨j,b,v,e,w⟩:=this.1 a p;simp only[e];cases ok with
  |true=>exact⟨_,rfl,.here d (aTw w rfl)⟩|false=>exact⟨_,rfl,.here d w⟩
  rename_i p;have e:=this.2 p;simp only[e];split at h;rename_i z I;cases h;obtain⟨z',F,B⟩:=zH (V:=V) (U:=U) d.zero I;simp only[F];cases ok with
  |true=>exact⟨_,rfl,.here d (aTw B rfl)⟩|false=>exact⟨_,rfl,.here d B⟩
  cases h;cases h;split at h;rename_i sc z0 m I;split at h;rename_i c;simp only[aA,aP]at c;split at h;rename_i a p;cases h;obtain⟨b,rfl⟩:∃b,z= .str b:=by
   unfold GY at m;split at m;cases J;exact⟨_,rfl⟩;cases J;exact⟨_,rfl⟩;cases m
  have C:yV P D (.s b)=true:=c.1;have f:OG P D (.str b)=true:=XM C;obtain⟨L,Y⟩:=OE (U:=U) d.cs d.zero _ _ _ p;simp only[BK,Z,f,i,cB];rcases WO (V:=V) (U:=U) C M u 0 O W c.2 with e|⟨j,b',v,e,R,w,K⟩
  have e:zM P D (.str b) u 0=some none:=e;obtain⟨z',F,B⟩:=zH (V:=V) (U:=U) d.zero I;simp only[e,F];cases ok with
  |true=>exact⟨_,rfl,rB d (aTw (L _ B) (g _))⟩|false=>exact⟨_,rfl,rB d (L _ B)⟩
  have e:zM P D (.str b) u 0=some (some (j,b',v)):=e;simp only[e];cases ok with
  |true=>exact⟨_,rfl,rB d (aTw (Y R w _ K) (g _))⟩|false=>exact⟨_,rfl,rB d (Y R w _ K)⟩
  cases h;cases h;cases h;cases h;cases h
 cases h
theorem Qd{sz:Nat}{ag:Bool}:∀(p:List (Nat×A)) (q:iE) (x:gC),p.map Prod.fst=q.map Prod.fst->pT V U (p.map Prod.snd) (q.map Prod.snd)->UK sz ag x.length p=true->
  ∃f,GR sz ag x q=some f/\f.length=x.length/\∀(i:Nat) (y:T),f[i]? =some y->(x[i]? =some y/\i∉p.map Prod.fst)\/∃a∈p.map Prod.snd,Gm V U a y/\y.cells.length=sz
 |[],[],x,_,_,_ =>⟨x,rfl,rfl,λi y h=> .inl ⟨h,by simp⟩⟩
 |(i,a)::p,(j,t)::q,x,k,o,h=>by
  simp only[dN,fT]at k o;obtain⟨rfl,k⟩:=k;simp only[UK,aA,bN]at h;obtain⟨k1,k2,k3,s,k5,k6⟩:=h;obtain⟨C,B⟩:=qU o.head k1;have k2:=oT k2;have s:=pC s;obtain⟨f,w,D,z⟩:=Qd p q (x.set i t) k o.tail (by simpa using k6);have c:t.cells.length=sz:=by rw[<-B.1];exact k2
  refine⟨f,?_,by simpa using D,λm y v=> ?_⟩;simp only[GR];rw[aJ ⟨c,C.trans k3,s⟩];exact w;rcases z m y v with⟨g,u⟩|⟨b,g,u⟩
  rw[dM]at g;split at g;rename_i d;cases g;exact .inr ⟨a,by simp,o.head,c⟩;rename_i d;exact .inl ⟨g,by simp only[dN,aY,not_or];exact⟨λe=>d e.symm,u⟩⟩;exact .inr ⟨b,by simp only[dN,aY];exact .inr g,u⟩
 |[],_ ::_,_,h,_,_ =>by simp at h|_ ::_,[],_,h,_,_ =>by simp at h
theorem SN:∀(p:List (Nat×A)) (j i:Nat),CS j p=true->j<=i->i<j+p.length->i∈p.map Prod.fst
 |[],j,i,_,c,b=>by simp at b;omega
 |(k,a)::r,j,i,h,c,b=>by
  simp only[CS,aA]at h;have:=oT h.1;subst this;by_cases d:i=k;simp[d];have:=SN r (k+1) i h.2 (by omega) (by simp at b;omega);simp only[dN,aY];exact .inr this
theorem ZC{s:Nat}{g:Bool}:∀(p:List (Nat×A)) (q:iE) (x y:gC) (j:Nat),GR s g x q=some y->p.map Prod.fst=q.map Prod.fst->CS j p=true->(∀i,i<j->y[i]? =x[i]?)/\∀m,m<q.length->y[j+m]? =(q.map Prod.snd)[m]?
 |[],[],x,y,j,h,_,_ =>by simp only[GR]at h;cases h;exact⟨λi _ =>rfl,λm b=>by simp at b⟩|[],_ ::_,_,_,_,_,h,_ =>by simp at h|_ ::_,[],_,_,_,_,h,_ =>by simp at h
 |(i,a)::p,(u,t)::q,x,y,j,h,c,d=>by
  simp only[dN,fT]at c;obtain⟨rfl,c⟩:=c;simp only[CS,aA]at d;have e:=oT d.1;subst e;simp only[GR]at h;split at h;rename_i o;obtain⟨f,k⟩:=ZC p q _ y (i+1) h c d.2;refine⟨λm b=> ?_,λm b=> ?_⟩;rw[f m (by omega),dE (by omega)];cases m with
  |zero=>
   rw[fW,f i (by omega),List.getElem?_set_self o.2.2];rfl
  |succ m=>
   have:=k m (by simpa using b);rw[show i+(m+1)=i+1+m by omega,this];rfl
  cases h
theorem PQ{n:Nat}{R:List pR}(o:Sy V n R){P:gD}{t:gB}{len:Nat}{x:List (Nat×A)}{u:iE}(h1:x.map Prod.fst=u.map Prod.fst)(h2:pT V U (x.map Prod.snd) (u.map Prod.snd)){C:gB}{k:Nat}{c:A}
  (h:WD P R t len x=some (C,k,c)):∃M,P.underlying t=some (.slice C)/\sM P t len u=some (.sl true M)/\uI P C=some k/\M.length=len/\∀y∈M,Gm V U c y/\y.cells.length=k:=by
 unfold WD at h;split at h;rename_i e Y;split at h;rename_i s Q z m F hz;split at h;rename_i Z;simp only[aA,bN,aF]at Z;obtain⟨⟨⟨⟨⟨⟨k1,k2⟩,k3⟩,k4⟩,k5⟩,k6⟩,k7⟩:=Z;obtain⟨N,e1,W⟩:=zH (V:=V) (U:=U) o.zero hz;obtain⟨kz,kc⟩:=qU W k5;have q:N.cells.length=s:=by rw[<-kc.1];exact oT k3
 obtain⟨B,g1,g2,O⟩:=Qd (V:=V) (U:=U) (sz:=s) (ag:=Q) x u (List.replicate len N) h1 h2 (by simpa using k7);have D:sM P t len u=some (.sl true B):=by
  simp only[sM,Y,m,F,e1];rw[aJ ⟨pC k1,k2,q,kz.trans k4⟩,g1];rfl
 split at h;rename_i el f;split at h;cases h;have g:B.length=len:=by simpa using g2
 have w:∀y∈B,Gm V U c y/\y.cells.length=k:=by
  intro y hy;obtain⟨i,hi,L⟩:=bX hy;have p:B[i]? =some y:=by rw[aB hi,L]
  have d:(∀t,Gm V U z t->Gm V U c t)->(∀b∈x.map Prod.snd,∀t,Gm V U b t->Gm V U c t)->Gm V U c y/\y.cells.length=k:=by
   intro q1 q2;rcases O i y p with⟨r1,j⟩|⟨a,r1,j,E⟩
   rw[List.getElem?_replicate]at r1;split at r1;cases r1;exact⟨q1 _ W,q⟩;cases r1;exact⟨q2 a r1 y j,E⟩
  split at f;rename_i i0 v r;split at f;rename_i J;simp only[aA]at J;obtain⟨I,K⟩:=OE (U:=U) o.cs o.zero _ _ _ f;rcases O i y p with⟨r1,j⟩|⟨a,r1,j,E⟩
  exact absurd (SN _ 0 i J.1 (by omega) (by have:=oT J.2;omega)) j;refine⟨?_,E⟩;simp only[dN,aY]at r1;rcases r1 with rfl|r1
  exact I y j;exact K a r1 y j;obtain⟨I,K⟩:=OE (U:=U) o.cs o.zero _ _ _ f;exact d I K;cases f;exact d (λt h=>h) (λb D=>by simp at D)
 exact⟨B,Y,D,m,g,w⟩;cases h;cases h;cases h;cases h;cases h
end
section
variable{V V':gN}{U μ':gE}{n:Nat}{cs:List pR}{X:AX}{gl:gG}{pe:gM}
theorem CY(f:Sy V n cs){a:Option A}{v:AV}(h:Po n cs a=some v){q:jE}(e:∀b,a=some b->∃t,q=some t/\Gm V U b t):∃t,q=some t/\im V U v t:=by
 cases a with
 |none=>cases h
 |some b=>
  cases h;obtain⟨t,d,c⟩:=e b rfl;exact⟨t,d,.here f c⟩
theorem aNy{P:gD}(o:Cn X gl pe)(d:Sy V n cs){K:List A}{I:gC}(p:pT V U K I){H:Hp}{c:Call}{v:AV}(h:aWv P X K n cs c=some v):
  ∃t,yT P ⟨gl,pe⟩ H I c=some t/\im V U v t:=by
 unfold aWv at h;unfold yT;split at h
 .rename_i f e;rw[e];simp only;split at h
  .rename_i g first Z W
   obtain⟨t,j,m⟩:=sV o.gl d.zero p W;cases m with
   |fn _ _ _ f' c' R Q O L=>
   split at h;rename_i Y B;obtain⟨J,k,i⟩:=yS o.gl d.zero p B;simp only[j,k];exact o.pe _ _ _ _ _ h V U H _ d ((pT.app ⟨R,Q⟩ i).app ⟨O,L⟩);cases h
  cases h
 cases h;rename_i b e;rw[e];simp only;split at h;simp only;split at h;rename_i x t r z N;rw[z,N];simp only;split at h;rename_i a q;obtain⟨y,M,rfl⟩:=aG.1 h;obtain⟨u,j,m⟩:=sV o.gl d.zero p q;obtain⟨w,k,i⟩:=aRg d m M;exact⟨w,by simp only[j];exact aRh k,.here d i⟩;cases h;cases h;simp only;split at h;rename_i x r z;obtain⟨J,j,m⟩:=yS o.gl d.zero p z;obtain⟨t,E,rfl,k,i⟩:=m.I;obtain⟨w,C,F⟩:=WT (λV n cs a b x y v d q D h=>aRv d q D h) r V n cs x t E v d k i h;exact⟨w,by simp only[j];exact C,F⟩;cases h;simp only;split at h;rename_i x r z;obtain⟨J,j,m⟩:=yS o.gl d.zero p z;obtain⟨t,E,rfl,k,i⟩:=m.I;obtain⟨w,C,F⟩:=WT (λV n cs a b x y v d q D h=>aRr d q D h) r V n cs x t E v d k i h;exact⟨w,by simp only[j];exact C,F⟩;cases h;cases h
theorem aNz{P:gD}(i:Cn X gl pe)(e:Sy V n cs){C:gP}{nl:Nat}{H:Hp}(Y:GH C nl V U H){E:List A}{z:gC}(B:pT V U E z){c:Call}{v:AV}(h:aWw X C E n cs c=some v):
  ∃t,yT P ⟨gl,pe⟩ H z c=some t/\im V U v t:=by
 unfold aWw at h;unfold yT;split at h
 .rename_i f d;rw[d];simp only;split at h
  .rename_i g first cap q
   obtain⟨t,Q,e2⟩:=sV i.gl e.zero B q;cases e2 with
   |fn _ _ _ f' c' h1 h2 h3 L=>
   split at h;rename_i ars j;obtain⟨ts,e3,K⟩:=yS i.gl e.zero B j;simp only[Q,e3];split at h;split at h;rename_i bs s;split at h;rename_i x;split at h;rename_i w O;split at h;rename_i m;cases h;obtain⟨k,F,W⟩:=i.fz;obtain⟨u,q1,y⟩:=WW (g:=pM k H) (λa b t p o=>WV e.zero Y qZ a b t p o k F) _ _ _ s ((pT.app ⟨h1,h2⟩ K).app ⟨h3,L⟩);have J:qJ (pM k ⟨0,.nl⟩) u=some u:=yY u λt Z=>by
    obtain⟨a,I,q⟩:=yU y.1 y.2 Z;exact FK qZ a t (qM x a I) q k F
   obtain⟨r,N,r2⟩:=i.pe _ _ _ _ _ O V U H _ e y;obtain⟨V',M,R,D⟩:=r2;exact⟨r,W H _ _ _ _ q1 J N (aQd m D),V',M,R,D⟩;cases h;cases h;cases h;cases h;cases h;cases h
  cases h
 cases h
theorem PN:∀(a:gC),(∀t∈a,∃n:Int,t= .int .u8 n/\0<=n/\n<256)->∃b,BU a=some b/\b.length=a.length
 |[],_ =>⟨[],rfl,rfl⟩
 |t::a,h=>by
  obtain⟨n,rfl,e,d⟩:=h t aO;obtain⟨b,g,f⟩:=PN a (λt c=>h t (aC _ c));exact⟨UInt8.ofNat n.toNat::b,by simp only[BU,g];rw[aJ ⟨e,d⟩],by simp[f]⟩
theorem aMa{P:gD}{D:gP}{nl:Nat}{H:Hp}(g:Sy V n cs)(N:GH D nl V U H){src i:gB}{a:A}{x:T}(ha:Gm V U a x){v:AV}(h:aLz P D n cs src i a=some v):∃t,Al P H src i x=some t/\im V U v t:=by
 unfold aLz at h;split at h
 .rename_i l sz si ci s c;split at h
  .rename_i K;simp only[aA,bN]at K;obtain⟨W,c2,rfl,c4⟩:=K;obtain rfl:=oT W;obtain rfl:=oT c2;split at h
   .rename_i e el R lo hi s' c' m B Z;split at h
    .rename_i he;split at h
     .rename_i C;simp only[aA]at C;obtain rfl:=oT C.1;cases h;cases ha with
      |ar _ _ _ _ _ _ vi w J p L k w5=>
       have:=oX g.cs c4 g.zero k;omega
      |ge _ _ _ _ _ _ y vi w J p L k w5=>
       rw[g.zero]at p;cases p;obtain⟨o,p1,p2,p3,f,w',r1,Q,j,E⟩:=N.at Z J;have M:=oX g.cs C.2 k r1;have d:∀u∈f,∃n:Int,u= .int .u8 n/\0<=n/\n<256:=λu q=>by
        have:=(E u q).1;cases this with
        |ft _ _ _ n n1 n2 z=>
        have z:(0:Int)<=n/\n<=255:=z;exact⟨n,rfl,z.1,by omega⟩
       have b:f.flatMap T.cells=f:=by
        clear E j Q
        induction f with
        |nil=>rfl
        |cons u f ih=>
         obtain⟨n,rfl,_⟩:=d u aO;rw[bP,ih (λu q=>d u (aC _ q))];rfl
       rw[b]at j;obtain⟨I,b1,b2⟩:=PN (f.take (w+c).toNat) λt O=>d t (eC O);have F:I.length=(w+c).toNat:=by rw[b2,cY];omega
       refine⟨.str I,?_,.here g (.str _ _ w _ k (by omega))⟩;have Y:((0:Int)+0).toNat=0:=rfl;unfold Al;rw[Y];simp only[m,B,he,p1];rw[aJ ⟨p3.1,by rw[j];omega⟩,j,b1]
     cases h
    cases h
   cases h
  cases h
 cases h
theorem Fm{P:gD}(L:Cn X gl pe)(k:Sy V n cs){Q:gP}{nl:Nat}{H:Hp}(hh:GH Q nl V U H){fa:List A}{fr:gC}(J:pT V U fa fr){own:Bool}{o:Oper}{v:AV}
  (h:aOb P X own Q fa n cs o=some v):∃t,pS P ⟨gl,pe⟩ own H fr o=some t/\im V U v t:=by
 have ev:∀{x:jH} {a:A},LK X.gl fa x=some a->∃t,pQ gl fr x=some t/\Gm V U a t:=λh=>sV L.gl k.zero J h;obtain⟨dst,op,type,pos,after,guard⟩:=o;cases op<;>simp only[aOb]at h<;>simp only[pS]<;>try(cases h;done)
 case move x=>exact CY k h λb D=>ev D
 case assign x=>exact CY k h λb D=>ev D
 case pick c x y=>
  split at h;rename_i b D;obtain⟨t,B,g⟩:=ev D;cases g with
  |bool _ b' hB=>
   simp only[tX]at hB;subst hB;refine CY k h λa C=> ?_;simp only[B];cases b' with
   |true=>exact ev (by simpa using C)|false=>exact ev (by simpa using C)
  cases h
 case box t x=>
  cases own with
  |true=>simp at h
  |false=>
   simp only[bI,cN]at h⊢;split at h;rename_i y R;split at h;rename_i hk;cases h;obtain⟨t,B,g⟩:=ev R;exact⟨.ref t 0,by simp[B],.here k (.ref _ t 0 hk g)⟩;cases h;cases h
 case build t parts=>
  split at h;rename_i l K;obtain⟨W,B,g,E⟩:=JY L.gl k.zero J K;simp only[B];exact CY k h λb D=>aBc k.zero g E D;cases h
 case buildSlice t len parts=>
  cases own with
  |true=>simp at h
  |false=>
   simp only[bI,cN]at h⊢;split at h;rename_i l K;obtain⟨W,B,g,E⟩:=JY L.gl k.zero J K;split at h;rename_i e s el hel;cases h;obtain⟨M,O,I,q3,q4,q5⟩:=PQ k g E hel;refine⟨.sl true M,by simp only[B,I],.here k ?_⟩;split;exact .g7 _ _ _ _ _ M 0 (((default:gy).fu _).2 ⟨M,rfl⟩) (.inr (.inl ⟨_,rfl⟩)) k.zero (by omega) (λy R=>(q5 y R).1);split;rename_i Y;simp only[aA]at Y;obtain⟨_,ho,Z⟩:=Y;have Z:=oT Z;have hlq:l.length=W.length:=by have:=bG List.length g;simpa using this
   have N:∃sz ag z,GR sz ag (List.replicate len z) W=some M:=by
    unfold sM at I;split at I;split at I;split at I;obtain⟨ys,y1,y2⟩:=aG.1 I;cases y2;exact⟨_,_,_,y1⟩;cases I;cases I;cases I
   obtain⟨sz,ag,z,N⟩:=N;obtain⟨_,r2⟩:=ZC l W _ M 0 N g ho;refine .ie _ _ M (.inr (.inl ⟨_,rfl⟩)) (by simp;omega) λj a t C ht=> ?_;have hj:j<W.length:=by have:=(aQ.1 ht).1;omega
   have:=r2 j hj;rw[cG,ht]at this;exact E.2 j a t C this.symm;exact .sl _ _ _ _ M 0 (.inr (.inl ⟨_,rfl⟩)) k.zero (by omega) (λy R=>(q5 y R).1);cases h;cases h
 case load t a=>
  split at h;rename_i p Q;obtain⟨t',B,g⟩:=ev Q;simp only[B];exact Oi k hh g h;cases h
 case nilCheck x=>
  split at h;rename_i p Q;obtain⟨t',B,g⟩:=ev Q;simp only[B];exact CY k h λb D=>Ij g D;cases h
 case binOp op t x y ty=>
  split at h;rename_i a b C D;split at h;rename_i Z;obtain⟨t1,B,g⟩:=ev C;obtain⟨t2,E,F⟩:=ev D;simp only[B,E];rw[aJ (aCj g F Z)];exact aOl k g F h;cases h;cases h
 case unOp op t x=>
  split at h;rename_i a C;obtain⟨t1,B,g⟩:=ev C;simp only[B];exact bBb k g h;cases h
 case convert s d x=>
  split at h;rename_i a C;obtain⟨t1,B,g⟩:=ev C;simp only[B];split at h;rename_i w hw;cases h;obtain⟨t,O,I⟩:=aGp k g hw;exact⟨t,by unfold KT;rw[O],I⟩;obtain⟨t,O,I⟩:=aMa k hh g h;cases E:SG P s d t1 with
  |none=>exact⟨t,by unfold KT;rw[E];exact O,I⟩
  |some r=>
   unfold Al at O;split at O;unfold SG KU VS at E;split at E;rename_i hx;split at hx<;>simp_all;split at E<;>simp_all;cases O
  cases h
 case fieldAddr s x f=>
  split at h;rename_i a C;obtain⟨t1,B,g⟩:=ev C;simp only[B];exact CY k h λb D=>ZZ g D;cases h
 case field t x f=>
  split at h;rename_i a_s C;obtain⟨t1,B,g⟩:=ev C;cases g with
  |agg _ ts K hg=>
   simp only[B];split at h;rename_i fd hfd;simp only[hfd];exact CY k h λb D=>EL ⟨K,hg⟩ D;cases h
  cases h
 case indexAddr t x i=>
  split at h;rename_i a b C D;obtain⟨t1,B,g⟩:=ev C;obtain⟨t2,E,F⟩:=ev D;simp only[B,E];exact Aa k g F h;cases h
 case index t x i=>
  split at h;rename_i a b C D;obtain⟨t1,B,g⟩:=ev C;obtain⟨t2,E,F⟩:=ev D;simp only[B,E];exact aBv k g F h;cases h
 case slice t x lo hi mx=>
  cases mx with
  |some m=>cases h
  |none=>
   simp only at h⊢;split at h;rename_i a C;obtain⟨t1,B,g⟩:=ev C;simp only[B];split at h;rename_i l u K hu;obtain⟨l',E,F⟩:=Zj L.gl k.zero J K;obtain⟨u',e5,e6⟩:=Zj L.gl k.zero J hu;simp only[E,e5];have o1:Rs V U l l':=by cases l<;>cases l'<;>exact F
   have o2:Rs V U u u':=by cases u<;>cases u'<;>exact e6
   split at h;rename_i q e s c hq;have:=aLo hq;subst this;exact aDk k g o1 o2 h;exact El k g o1 o2 h;cases h;cases h
 case extract x i=>
  split at h;rename_i M C;obtain⟨t1,B,g⟩:=ev C;cases g with
  |fm _ ts K hg=>
   simp only[B];exact CY k h λb D=>pT.at ⟨K,hg⟩ D
  cases h
 case lookup t x i ok=>
  split at h;rename_i a b C D;obtain⟨t1,B,g⟩:=ev C;obtain⟨t2,E,F⟩:=ev D;simp only[B,E];exact Uf k hh g F h;cases h
 case makeFunc f first captured=>
  split at h;split at h;rename_i a c C D;cases h;obtain⟨a_s,B,g⟩:=yS L.gl k.zero J C;obtain⟨bs,E,F⟩:=yS L.gl k.zero J D;simp only[B,E];exact⟨_,rfl,.here k (.fn _ _ _ _ _ g.1 g.2 F.1 F.2)⟩;cases h;cases h
 case call c=>
  split at h;rename_i w hw;cases h;exact aNy L k J hw;exact aNz L k hh J h
end
abbrev jW:=Nat->Nat->Prop
def Ev(p:jW):Prop:=∃m,∀n d,m<=n->m<=d->p n d
theorem Ev.of{p:jW}(h:∀n d,p n d):Ev p:=⟨0,λn d _ _ =>h n d⟩
theorem Ev.mono{p q:jW}(h:Ev p)(e:∀n d,p n d->q n d):Ev q:=by
 obtain⟨m,c⟩:=h;exact⟨m,λn d b a=>e n d (c n d b a)⟩
theorem Ev.and{p q:jW}(h:Ev p)(c:Ev q):Ev λn d=>p n d/\q n d:=by
 obtain⟨m,b⟩:=h;obtain⟨k,a⟩:=c;exact⟨max m k,λn d f e=>⟨b n d (by omega) (by omega),a n d (by omega) (by omega)⟩⟩
def ip(V:gN)(U:gE)(R:AR)(t:T)(H:Hp):Prop:=
 ∃V' μ',rX V V'/\rX U μ'/\Sy V' R.nx R.cs/\GH R.hp R.nl V' μ' H/\Gm V' μ' R.a t
abbrev gQ:=Nat->Nat->FuncId->List T->Hp->Option (T×Hp)
def wN(c:FuncId->List A->AS->Option (List AR))(ee:gQ):Prop:=
 ∀f a S g,c f a S=some g->∀(V:gN) (U:gE) (H:Hp) (e:gC),Sy V S.nx S.cs->GH S.hp S.nl V U H->pT V U a e->
  ∃r b,Ev (λn d=>ee n d f e H=some (r,b))/\∃R∈g,ip V U R r b
section
variable{V V':gN}{U μ':gE}{X:AX}{gl:gG}{pe:gM}{H:Hp}{S:AS}{P:gD}
theorem RC(d:Sy V S.nx S.cs)(a:GH S.hp S.nl V U H){o:AO}{b:Ob}(c:Kv V U o b)(h:b.me=none:=by rfl):ip V U ⟨.ptr S.nl 0,(S.nl,o)::S.hp,S.nx,S.nl+1,S.cs⟩ (.ptr H.next 0) (H.new b):=
 ⟨V,U++[some H.next],.refl _,.app _ _,d,a.new (c.ext (.refl _) (.app _ _)) h,.ptr _ _ _ (sZ a.len _)⟩
theorem ZE{cs new:gC}{off:Nat}(h:off+new.length<=cs.length):(sC cs off new).length=cs.length:=by
 simp only[sC,aU,cY,cP];omega
theorem Qh{s:Nat}{a:gC}(c:∀t∈a,t.cells.length=s){i o:Nat}{x y:T}{new:gC}(b:a[i]? =some x)(g:y.cells=sC x.cells o new)(u:o+new.length<=s):
  sC (a.flatMap T.cells) (i*s+o) new=(a.set i y).flatMap T.cells:=by
 have h:=(aQ.1 b).1;have q:x.cells.length=s:=c x (bK b);have k:a=a.take i++x::a.drop (i+1):=by
  have:a.drop i=x::a.drop (i+1):=by
   rw[eN h];congr 1;exact(aQ.1 b).2
  rw[<-this,fH]
 have j:a.set i y=a.take i++y::a.drop (i+1):=by rw[List.set_eq_take_append_cons_drop,aJ h]
 have m:((a.take i).flatMap T.cells).length=i*s:=by
  rw[vU (sz:=s) _ (λt d=>c t (eC d)),cY,Nat.min_eq_left (by omega)]
 have f:a.flatMap T.cells=(a.take i).flatMap T.cells++(x.cells++(a.drop (i+1)).flatMap T.cells):=by
  conv=>lhs;rw[k]
  simp
 rw[j,f];simp only[dG,bP,g];unfold sC;rw[<-m,List.take_length_add_append,dT,List.drop_length_add_append];have p:List.take o (x.cells++(a.drop (i+1)).flatMap T.cells)=x.cells.take o:=List.take_append_of_le_length (by omega);have e:List.drop (o+new.length) (x.cells++(a.drop (i+1)).flatMap T.cells)=x.cells.drop (o+new.length)++(a.drop (i+1)).flatMap T.cells:=List.drop_append_of_le_length (by omega);rw[p,e];simp[eJ]
theorem Es(g:Sy V S.nx S.cs)(hh:GH S.hp S.nl V U H){t:gB}{p x:A}{q y:T}(hp:Gm V U p q)(hx:Gm V U x y){R:AR}(h:Kc P S t p x=some R):
  ∃Q,vZ P H t q y=some Q/\ip V U R oS Q:=by
 unfold Kc at h;split at h
 .rename_i n hn;split at h
  .rename_i Z;simp only[aA]at Z;obtain⟨k1,k2,k3⟩:=Z;obtain⟨_,C⟩:=qU hx k1;have k2:x.cells.length=n:=oT k2;have ky:y.cells.length=n:=by rw[<-C.1];exact k2
   have ko:=BT C k3;split at h
   .rename_i l o;cases hp with
    |ptr _ _ l' f=>
    split at h;rename_i e xs N;split at h;rename_i hle;cases h;obtain⟨b,B,L⟩:=hh.at N f;refine⟨H.put l' {b with cells:=sC b.cells o y.cells},?_,V,U,.refl _,.refl _,g,?_,tN⟩;simp only[vZ,B,hn];rw[aJ ⟨ky,by rw[<-L.2.1];exact hle,ko⟩];exact hh.put N f B ⟨L.1,MO L.2 C o⟩ (pD B).2;cases h;cases h
   .rename_i l m s c o;cases hp with
    |iv _ _ _ _ _ l' w f hw hw0=>
    split at h;rename_i e sz' a s' c' N;split at h;rename_i Z;simp only[aA,aF]at Z;obtain⟨⟨⟨⟨c1,c2⟩,c3⟩,c4⟩,c5⟩:=Z;have c1:=oT c1;subst c1;have c3:=oT c3;obtain⟨b,B,L,h3,W,v',g1,g2,g3,i⟩:=hh.at N f;have hlt:=oX g.cs c4 hw g1;have hi:(w+c).toNat<W.length:=by omega
    have k:=aB hi;have d:=cC hi;generalize hz:W[(w+c).toNat]=z at k d;have Y:((w+c).toNat+1)*m<=W.length*m:=cZ _ hi;rw[dA]at Y;have K:=vU W (λt j=>(i t j).2);have E:∀(bt:A) (z':T),z'.cells=sC z.cells o y.cells->(∀t,Gm V U a t->Gm V U bt t)->Gm V U bt z'->
      ∃Q,vZ P H t (.ptr l' ((w+c).toNat*m+o)) y=some Q/\ip V U ⟨.fm [],zZ S.hp l (.row e m bt s' c'),S.nx,S.nl,S.cs⟩ oS Q:=by
     intro bt z' O hb1 hb2;refine⟨H.put l' {b with cells:=sC b.cells ((w+c).toNat*m+o) y.cells},?_,V,U,.refl _,.refl _,g,?_,tN⟩;simp only[vZ,B,hn];rw[aJ ⟨ky,by rw[g3,K];omega,ko⟩]
     refine hh.put N f B ⟨L,⟨h3.1,λh5 e0=>h3.2 h5 (eU.1 (by
      have g:=ZE (cs:=b.cells) (new:=y.cells) (off:=(w+c).toNat*m+o) (by rw[g3,K];omega);have e0:sC b.cells ((w+c).toNat*m+o) y.cells=[]:=e0;rw[e0]at g
      exact g.symm))⟩,W.set (w+c).toNat z',v',g1,by simpa using g2,?_,λt j=> ?_⟩ (pD B).2
     rw[g3];exact Qh (λt j=>(i t j).2) k O (by omega);rcases List.mem_or_eq_of_mem_set j with j|rfl;exact⟨hb1 t (i t j).1,(i t j).2⟩;refine⟨hb2,?_⟩;rw[O,ZE (by rw[(i z d).2];omega)];exact(i z d).2
    split at h;rename_i a_s;split at h;rename_i bt v;split at h;cases h;obtain⟨j1,j2⟩:=XJ (U:=U) g.cs g.zero v;have hzg:=(i z d).1;cases hzg with
    |agg _ zs q1 q2=>
     have I:=MO (off:=o) ⟨q1,q2⟩ C;exact E bt (.agg (sC zs o y.cells)) rfl j1 (j2 _ (.agg _ _ I.1 I.2))
    cases h;cases h;cases h;rename_i D F;split at h;rename_i yy hyy;split at h;rename_i bt v;split at h;cases h;obtain⟨j1,j2⟩:=XJ (U:=U) g.cs g.zero v;have hzk:=qU (i z d).1 c2;have hag:a.isAgg=false:=by cases a<;>first|rfl|exact(D _ rfl).elim|exact(F _ _ rfl).elim
    have hac:a.cells=[a]:=by cases a<;>first|rfl|exact(D _ rfl).elim|exact(F _ _ rfl).elim
    have M:z.cells=[z]:=FB (hzk.1.trans hag);have hsz:m=1:=by rw[<-(i z d).2,M];rfl
    rw[hyy]at C k2;obtain⟨u,r,J,g5,g6⟩:=C.I;have:=g6.ae;subst this;have hu1:u.cells=[u]:=by
     have:qO y.cells=true:=ko;rw[J]at this;simp only[qO,bM]at this;cases u<;>simp_all [T.one,T.cells]
    have h01 : o = 0 := by have:n=1:=by rw[<-k2];rfl
                           omega
    subst h01;exact E bt u (by rw[hu1,J,M];rfl) j1 (j2 u g5);cases h;cases h;cases h;cases h;cases h
   cases h
  cases h
 cases h
theorem UG{x b:Nat}(h:(x:Int)<=70368744177664/((b:Int)+1)):AI x b=true:=by
 have d:(x:Int)*(b+1)<=70368744177664:=by
  have:=Int.mul_le_of_le_ediv (by omega) h;exact this
 have c:x*(b+1)<=70368744177664:=by
  have:((x*(b+1):Nat):Int)<=((70368744177664:Nat):Int):=by rw[Int.natCast_mul,Int.natCast_add];exact d
  exact Int.ofNat_le.1 this
 rw[Nat.mul_succ]at c;have a:x<=x*(b+1):=Nat.le_mul_of_pos_right _ (by omega);rw[Nat.mul_succ]at a;unfold AI;rw[aA,aF,aF];omega
theorem Ae(d:Sy V S.nx S.cs)(E:GH S.hp S.nl V U H){t:gB}{l c:A}{x y:T}(O:Gm V U l x)(u:Gm V U c y){R:AR}(h:MA P S t l c=some R):
  ∃r D,sX P H t x y=some (r,D)/\ip V U R r D:=by
 unfold MA at h;split at h
 .rename_i e s c s' Z Q;cases O with
  |int _ _ _ v i hi=>cases u with
   |int _ _ _ Y k J=>
   split at h;rename_i sz bytes z B C N;split at h;rename_i u;cases h;simp only[aA,bN]at u;obtain⟨⟨⟨⟨⟨⟨⟨⟨M,k1⟩,k2⟩,k3⟩,W⟩,k5⟩,k6⟩,k7⟩,k8⟩:=u;have k5:=oT k5;subst k5 k6;rw[i]at k;cases k;have k7:=oX d.cs k7 d.zero i;have k8:=oX d.cs k8 i d.zero;obtain⟨j,K,F⟩:=zH (V:=V) (U:=U) d.zero N;obtain⟨_,L⟩:=qU F k3;have f:j.cells.length=sz:=by rw[<-L.1];exact oT k2
   have a:=UG (x:=(v+c).toNat) (b:=bytes) (by omega);unfold AI at a;rw[aA,aF,aF]at a;have p:=E.new (o:= .row e sz z s c) (b:={elem:=e,sz:=sz,cells:=(List.replicate (v+c).toNat j).flatMap T.cells})
    ⟨rfl,⟨rfl,λI w=>by
     subst I;rcases(bO _ _ |>.mp M)with q|q;simp at q;have q:=oX d.cs q d.zero i;have k1:=pC k1;have g:=vU (sz:=sz) (List.replicate (v+c).toNat j) (λt m=>by rw[List.mem_replicate]at m;rw[m.2];exact f);have w:(List.replicate (v+c).toNat j).flatMap T.cells=[]:=w;rw[w]at g;simp only[List.length_replicate,bL]at g
     rcases Nat.mul_eq_zero.1 g.symm with z|z<;>omega⟩,List.replicate (v+c).toNat j,v,i,by simp;omega,rfl,λt m=>by
     rw[List.mem_replicate]at m;rw[m.2];exact⟨F.ext (.refl _) (.app _ _),f⟩⟩
   refine⟨.ge H.next sz 0 (v+c).toNat,_,?_,V,U++[some H.next],.refl _,.app _ _,d,p,?_⟩;simp only[sX,Q,B,C,K];rw[aJ ⟨pC k1,f,by omega,by first|rfl|trivial,a.1,by omega⟩];have:=Gm.ge (V:=V) (U:=U++[some H.next]) S.nl sz 0 0 s c H.next 0 v (sZ E.len _) d.zero (by omega) i (by omega);simpa using this;cases h;cases h
 cases h
end
section
variable{V V':gN}{U μ':gE}{X:AX}{gl:gG}{pe:gM}{H:Hp}{S:AS}{P:gD}
theorem TV{sz:Nat}{a:gC}(h:∀t∈a,t.cells.length=sz)(c:sz≠0)(b:a.length≠0):a.flatMap T.cells≠[]:=λe=>by
 have:=vU a h;rw[e]at this;rcases Nat.mul_eq_zero.1 this.symm with q|q
 exact b q;exact c q
theorem JU(g:Sy V S.nx S.cs)(j:GH S.hp S.nl V U H){e:gB}{sz:Nat}{a:A}{s:Nat}{c v:Int}{ts:gC}(f:V[s]? =some v)(i:(ts.length:Int)=v+c)(d:∀t∈ts,Gm V U a t/\t.cells.length=sz)(h:e=5->ts.flatMap T.cells≠[]):
  ip V U ⟨.ge S.nl sz 0 0 s c,(S.nl,.row e sz a s c)::S.hp,S.nx,S.nl+1,S.cs⟩ (.ge H.next sz 0 ts.length) (H.new {elem:=e,sz:=sz,cells:=ts.flatMap T.cells}):=by
 refine⟨V,U++[some H.next],.refl _,.app _ _,g,j.new ⟨rfl,⟨rfl,h⟩,ts,v,f,i,rfl,λt b=>⟨(d t b).1.ext (.refl _) (.app _ _),(d t b).2⟩⟩,?_⟩;have:=Gm.ge (V:=V) (U:=U++[some H.next]) S.nl sz 0 0 s c H.next 0 v (sZ j.len _) g.zero (by omega) f (by omega);rw[<-i]at this;simpa using this
theorem VQ(g:Sy V S.nx S.cs)(o:GH S.hp S.nl V U H){t:gB}{len:Nat}{p:List (Nat×A)}{q:iE}(j:p.map Prod.fst=q.map Prod.fst)(i:pT V U (p.map Prod.snd) (q.map Prod.snd)){R:AR}
  (h:HK P S t len p=some R):∃e b s,P.underlying t=some (.slice e)/\sM P t len q=some (.sl true b)/\uI P e=some s/\
   ip V U R (.ge H.next s 0 len) (H.new {elem:=e,sz:=s,cells:=b.flatMap T.cells}):=by
 unfold HK at h;split at h
 .rename_i e s C f;split at h
  case isFalse=>cases h
  rename_i d;cases h;obtain⟨b,B,y,u,m,k⟩:=PQ g j i f;refine⟨e,b,s,B,y,u,?_⟩
  have:=JU g o (e:=e) (sz:=s) (a:=C) (s:=0) (c:=len) (v:=0) (ts:=b) g.zero (by omega) k (λz=>by
   subst z;rcases(bO _ _ |>.mp d)with h|h;simp at h;simp only[aA]at h;have j:=pC h.1;have i:=pC h.2
   exact TV (λx w=>(k x w).2) (by omega) (by omega))
  rw[m]at this;exact this
 cases h
theorem wU{t:T}{x:gC}(h:wP t x):wP (je t) x:=by
 rcases h with⟨rfl,rfl⟩|⟨f,rfl⟩|⟨a,n,f,rfl,rfl⟩
 exact .inl ⟨rfl,rfl⟩;show wP (if x.all T.i2=true then T.ac f x.length (λi=>x.getD i oS)else T.sl f x) x;split;refine .inr (.inr ⟨_,_,_,rfl,fL λj=> ?_⟩);rw[bA];by_cases b:j<x.length;simp[b];rw[cA (by omega),cA (by simp;omega)];rfl;exact .inr (.inl ⟨f,rfl⟩);exact .inr (.inr ⟨a,n,f,rfl,rfl⟩)
theorem UN{p:T->Prop}(g:∀x,p x->x.i2=true){t:T}{a:gC}(h:wP t a)(d:∀x∈a,p x)(e:(a.length:Int)<=1000000000000):je t= .fp\/∃b n f,je t=T.ac b n f/\((n:Nat):Int)<=1000000000000/\∀i,i<n->p (f i):=by
 rcases h with⟨rfl,rfl⟩|⟨f,rfl⟩|⟨b,n,f,rfl,rfl⟩
 exact .inl rfl;refine .inr ⟨f,a.length,λi=>a.getD i oS,?_,e,λi c=> ?_⟩;show(if a.all T.i2=true then T.ac f a.length (λi=>a.getD i oS)else T.sl f a)=_;rw[aJ (aP.2 λx h=>g x (d x h))];have:a.getD i oS=a[i]:=by simp[c]
 show p (a.getD i oS);rw[this];exact d _ (cC c);refine .inr ⟨b,n,f,rfl,by simpa using e,λi c=>d _ (bS.2 ⟨i,eT.2 c,rfl⟩)⟩
theorem aYa{t:T}(h:Wi t):t.i1=true:=by rcases h.inv with rfl|⟨_,_,_,rfl,_⟩<;>rfl
theorem bBi{t:T}(h:lY t):t.i1=true:=by rcases h with rfl|⟨_,_,_,rfl,_⟩<;>rfl
theorem aHm(x:T)(h:mj x):x.i2=true:=by
 obtain⟨a,b,s,v,w,rfl,_,_,_,d,c⟩:=h;simp only[T.i2,List.all_cons,List.all_nil,bBi d,aYa c];rfl
theorem aMt(x:T)(h:nN x):x.i2=true:=by
 obtain⟨a,b,c,s,rfl,_⟩:=h;rfl
theorem aHl{t:T}(h:t= .fp\/∃a n f,t=T.ac a n f/\((n:Nat):Int)<=1000000000000/\∀i,i<n->mj (f i)):Wi t:=by
 rcases h with rfl|⟨a,n,f,rfl,c,b⟩;exact .fp;exact .of c b
theorem IH{a:A}{t:T}(h:CT a=true)(c:Gm V U a t):∃n,t= .int .i64 n/\CL .i64 n:=by
 unfold CT at h;split at h;cases c with|int _ _ _ v _ b=>exact⟨_,rfl,b⟩
 cases c with|ft _ _ _ n _ _ b=>exact⟨n,rfl,b⟩
 cases h
theorem Qq{m:Int}{c:List pR}(f:oZ V c)(g:V[0]? =some 0){a:A}{t:T}(h:aAi m c a=true)(b:Gm V U a t):∃s,t= .str s/\(s.length:Int)<=m:=by
 unfold aAi at h;split at h;simp only[sQ,aF]at h;cases b;exact⟨_,rfl,h⟩;cases b with|str _ _ v l e d=>have:=oX f h e g;exact⟨l,rfl,by omega⟩
 simp only[sQ,aF]at h;cases b with|fy _ _ l _ d=>exact⟨l,rfl,by omega⟩
 cases h
theorem aIo{q:Nat}{a:A}{t:T}(h:nJ q a=true)(b:Gm V U a t):t= .fp\/(default:gy).q q t:=by
 unfold nJ at h;split at h;cases b;exact .inl rfl;have:=oT h;subst this;cases b with|g7 _ _ _ _ _ _ _ c=>exact .inr c
 have:=oT h;subst this;cases b with|gr _ _ _ _ _ _ c=>exact .inr c
 cases h
theorem Xs{d:List pR}(w:oZ V d)(f:V[0]? =some 0){a:A}{t:T}(h:aPu d a=true)(i:Gm V U a t):mj t:=by
 unfold aPu at h;split at h;simp only[aA]at h;obtain⟨k1,k2,k3,k,k5⟩:=h;cases i with
 |agg _ D u c=>
  obtain⟨y,B,rfl,m,b⟩:=pT.I ⟨u,c⟩;obtain⟨C,F,rfl,o,b⟩:=b.I;obtain⟨E,z,rfl,g,b⟩:=b.I;obtain⟨x,I,rfl,v,b⟩:=b.I;obtain⟨x5,r5,rfl,j,b⟩:=b.I;obtain rfl:=b.ae;obtain⟨p,rfl,i1⟩:=IH k1 m;obtain⟨e,rfl,i2⟩:=IH k2 o;obtain⟨s,rfl,q⟩:=Qq w f k3 g;refine⟨p,e,s,x,x5,rfl,i1,i2,q,?_,?_⟩;rcases aIo k v with rfl|h;exact .inl rfl;exact((default:gy).vs _).1 h;rcases aIo k5 j with rfl|h;exact .fp;exact((default:gy).ex _).1 h
 cases h
theorem aAq{e:List pR}(z:oZ V e)(j:V[0]? =some 0){a:A}{t:T}(h:aTz e a=true)(c:Gm V U a t):nN t:=by
 unfold aTz at h;split at h;simp only[aA]at h;obtain⟨k1,k2,k3,k,k5,k6⟩:=h;cases c with
 |agg _ F w d=>
  obtain⟨B,C,rfl,o,b⟩:=pT.I ⟨w,d⟩;obtain⟨E,K,rfl,p,b⟩:=b.I;obtain⟨J,D,rfl,g,b⟩:=b.I;obtain⟨L,M,rfl,x,b⟩:=b.I;obtain⟨x5,r5,rfl,m,b⟩:=b.I;obtain⟨I,r6,rfl,y,b⟩:=b.I;obtain rfl:=b.ae;obtain⟨q,rfl,i1⟩:=IH k1 o;obtain⟨i,rfl,i2⟩:=IH k2 p;obtain⟨f,rfl,u⟩:=IH k3 g;obtain⟨s,rfl,v⟩:=Qq z j k x;have nl:∀{a:A} {t:T},Yi a=true->Gm V U a t->t= .fp:=λh c=>by
   unfold Yi at h;split at h;cases c;rfl;cases h
  obtain rfl:=nl k5 m;obtain rfl:=nl k6 y;exact⟨q,i,f,s,rfl,i1,i2,u,v⟩
 cases h
theorem Hd{q:Nat}{s:Nat}{c v:Int}{t:T}{a:gC}(e:(default:gy).q q t)(h:wP t a)(d:V[s]? =some v)(b:(a.length:Int)=v+c):Gm V U (.g7 q .top s c) t:= .g7 q .top s c t a v e h d b (λx _ => .top x)
theorem aLk{j:List pR}(i:oZ V j)(g:V[0]? =some 0){e z:A}{s:Nat}{c:Int}{t:T}(p:Gm V U (.sl e s c) t)(o:Gm V U z (je t)):Gm V U (nK j e s c z) (je t):=by
 unfold nK;cases p with
 |sl _ _ _ _ q v a d k m=>
  split;rename_i h;have h:=oX i h d g;split;rename_i b;exact Hd (((default:gy).ex _).2 (aHl (UN aHm a (λx f=>Xs i g b (m x f)) (by omega)))) (wU a) d k;split;rename_i b;exact Hd (((default:gy).vs _).2 (UN aMt a (λx f=>aAq i g b (m x f)) (by omega))) (wU a) d k;exact o;exact o
theorem aAn{o:List pR}(p:oZ V o)(m:V[0]? =some 0){a:A}{t:T}(g:Gm V U a t):Gm V U (aMi o a) (je t):=by
 unfold aMi;split;have k:=g;cases g with|sl _ _ _ _ x v d b h f=>exact aLk p m k (.sl _ _ _ _ x v (wU d) b h f)
 rename_i q e s c;cases g with
 |g7 _ _ _ _ _ x v i d b h f=>
  split;rename_i j;simp only[aA]at j;have z:=dX j.1;have w:=dX j.2;refine .g7 _ _ _ _ _ x v ?_ (wU d) b h f;obtain rfl|rfl|rfl:q=30\/q=31\/q=32:=by omega
  obtain⟨y,k1,k2⟩:=((default:gy).fin t).1 i;exact((default:gy).fin _).2 ⟨y,wU k1,k2⟩;rcases(((default:gy).ex t).1 i).inv with rfl|⟨_,_,_,rfl,_⟩<;>exact i;rcases((default:gy).vs t).1 i with rfl|⟨_,_,_,rfl,_⟩<;>exact i;exact aLk p m (.sl _ _ _ _ x v d b h f) (.sl _ _ _ _ x v (wU d) b h f)
 cases g with|ie _ _ x d b h=>exact .ie _ _ x (wU d) b h
 cases g with|gp _ _ _ _ x d b h f=>exact .gp _ _ _ _ x (wU d) b h f
 split;rename_i u;have:je t=t:=by cases g<;>first|rfl|(simp[GC]at u)
 rw[this];exact g;exact .top _
theorem aHq{i:List pR}(s:oZ V i)(q:V[0]? =some 0){a:A}{t:T}(k:Gm V U a t):Gm V U (aHp i a) (jf t):=by
 unfold aHp;split;rename_i p;cases k with
 |agg _ e v o=>
  refine .agg _ _ (by simp[v]) λj b u d f=> ?_;rw[bA]at d f;cases ha:p[j]? with
  |none=>rw[ha]at d;cases d
  |some a=>cases c:e[j]? with
   |none=>rw[c]at f;cases f
   |some t=>
    rw[ha]at d;rw[c]at f;cases d;cases f;exact aAn s q (o j a t ha c)
 rename_i m;by_cases c:∃e,t= .agg e;obtain⟨e,rfl⟩:=c;have:aMi i a= .top:=by
  have g:∀x,¬wP (.agg e) x:=λx h=>by rcases h with⟨h,_⟩|⟨_,h⟩|⟨_,_,_,h,_⟩<;>cases h
  cases k<;>first|rfl|exact absurd ‹wP _ _› (g _)|exact absurd rfl (m _)
 rw[this];exact .top _;have:jf t=je t:=by
  cases t<;>first|rfl|exact absurd ⟨_,rfl⟩ c
 rw[this];exact aAn s q k
theorem aDj(b:Sy V S.nx S.cs)(o:GH S.hp S.nl V U H){t:gB}{len:Nat}{k:List (Nat×A)}{i:iE}(u:k.map Prod.fst=i.map Prod.fst)(D:pT V U (k.map Prod.snd) (i.map Prod.snd)){R:AR}
  (h:Vj P S t len k=some R):∃e d,P.underlying t=some (.slice e)/\sM P t len i=some (.sl true d)/\ip V U R (je (.sl true d)) H:=by
 unfold Vj at h;split at h;rename_i e s el v;obtain⟨d,q1,q,q3,q4,Y⟩:=PQ b u D v;refine⟨e,d,q1,q,?_⟩;split at h;rename_i F;simp only[aA]at F;obtain⟨Z,B⟩:=F;have B:=oT B;have J:k.length=i.length:=by have:=bG List.length u;simpa using this
 have g:∃E C z,GR E C (List.replicate len z) i=some d:=by
  unfold sM at q;split at q;split at q;split at q;obtain⟨ys,O,y2⟩:=aG.1 q;cases y2;exact⟨_,_,_,O⟩;cases q;cases q;cases q
 obtain⟨E,C,z,g⟩:=g;obtain⟨_,Q⟩:=ZC k i _ d 0 g u Z;have all:∀{f:A->Bool} {p:T->Prop},(∀a t,f a=true->Gm V U a t->p t)->HD f (k.map Prod.snd)=true->∀x∈d,p x:=λ{f p} M w x W=>by
  obtain⟨j,I,rfl⟩:=bX W;have e:=Q j (by omega);rw[cG,aB I]at e;obtain⟨a,K,N⟩:=D.at' e.symm;exact M a _ (qM w a (bK K)) N
 have c:wP (.sl true d) d:= .inr (.inl ⟨true,rfl⟩);split at h;rename_i m;simp only[aA,sQ,aF]at m;cases h;exact⟨V,U,.refl _,.refl _,b,o,Hd (((default:gy).ex _).2 (aHl (UN aHm c (all (λa t=>Xs b.cs b.zero) m.2) (by omega)))) (wU c) b.zero (by omega)⟩;split at h;rename_i m;simp only[aA,sQ,aF]at m;cases h;exact⟨V,U,.refl _,.refl _,b,o,Hd (((default:gy).vs _).2 (UN aMt c (all (λa t=>aAq b.cs b.zero) m.2) (by omega))) (wU c) b.zero (by omega)⟩;cases h;exact⟨V,U,.refl _,.refl _,b,o,.sl _ _ _ _ d 0 (wU c) b.zero (by omega) (λy L=>(Y y L).1)⟩;cases h;cases h
theorem aTd(R:Sy V S.nx S.cs)(hh:GH S.hp S.nl V U H){z:gB}{g:Nat}{x:A}{y:T}(D:Gm V U x y){I:A}{s:Nat}{c:Int}(h:bAs P S.hp S.cs z g x=some (I,s,c))
  (hk:I.known=true) (L:I.cells.length=g):
  ∃(o:gC) (v:Int),rA H y=some (o.flatMap T.cells)/\vO y=some o.length/\zG P z g y=true/\V[s]? =some v/\(o.length:Int)=v+c/\∀u∈o,Gm V U I u/\u.cells.length=g:=by
 have cl:∀{u:T},Gm V U I u->u.cells.length=g:=λi=>by rw[<-(qU i hk).2.1];exact L
 have w:∀{e:gB},P.underlying z=some (.slice e)->Gm V U (.sl I s c) y->∃(o:gC) (v:Int),rA H y=some (o.flatMap T.cells)/\vO y=some o.length/\zG P z g y=true/\V[s]? =some v/\(o.length:Int)=v+c/\∀u∈o,Gm V U I u/\u.cells.length=g:=by
  intro e i D;cases D with
  |sl _ _ _ _ xs v C J Y K=>
   refine⟨xs,v,?_,?_,?_,J,Y,λu i=>⟨K u i,cl (K u i)⟩⟩;rcases C with⟨rfl,rfl⟩|⟨f,rfl⟩|⟨B,m,f,rfl,rfl⟩
   rfl;rfl;simp only[rA,fO];rcases C with⟨rfl,rfl⟩|⟨f,rfl⟩|⟨B,m,f,rfl,rfl⟩
   rfl;rfl;simp[vO];rcases C with⟨rfl,rfl⟩|⟨f,rfl⟩|⟨B,m,f,rfl,rfl⟩<;>simp[zG,i]
 unfold bAs at h;split at h;rename_i l sz si F s0 c0 i;split at h;rename_i e0 sz' e s' c' hl;split at h;rename_i hc;simp only[aA]at hc;obtain⟨⟨⟨k1,k2⟩,k3⟩,k4⟩:=hc;have k1:=oT k1;have k2:=oT k2;subst k1 k2;split at h;rename_i q d W;split at h;rename_i N;cases h;cases D with
 |ge _ _ _ _ _ _ l' E v C J Y K g5=>
  obtain⟨b,k,h2,h3,p,v',r1,r2,r3,O⟩:=hh.at hl C;obtain⟨u,u1,u2⟩:=PH R.zero J K W;have N:=oX R.cs N u1 r1;have Z:=vU p (λt j=>(O t j).2);have M:(E+F).toNat+(v+c).toNat<=p.length:=by omega
  refine⟨(p.drop (E+F).toNat).take (v+c).toNat,v,?_,?_,by simp[zG,i],K,?_,λt j=> ?_⟩;simp only[rA,k];rw[aJ (by rw[r3,Z];exact cZ _ M),r3,FJ p _ (λt j=>(O t j).2) (by omega)];have:=FJ (p.drop (E+F).toNat) (v+c).toNat (λt j=>(O t (eR j)).2) (by rw[cP];omega);have e1:((p.drop (E+F).toNat).flatMap T.cells)=(((p.drop (E+F).toNat).take (v+c).toNat).flatMap T.cells)++(((p.drop (E+F).toNat).drop (v+c).toNat).flatMap T.cells):=by
   rw[<-dG,fH]
  have e2:(((p.drop (E+F).toNat).take (v+c).toNat).flatMap T.cells).length=(v+c).toNat*sz:=by
   rw[vU (sz:=sz) _ (λt j=>(O t (eR (eC j))).2),cY,cP,Nat.min_eq_left (by omega)]
  rw[e1,<-e2,List.take_left];simp only[vO,cY,cP];congr 1;omega;rw[cY,cP];omega;exact O t (eR (eC j))
 |ar _ _ _ _ _ _ E v C J Y K g5=>
  exact⟨[],v,rfl,rfl,by simp[zG,i],K,by simp;omega,λt j=>by simp at j⟩
 cases h;cases h;cases h;cases h;have i:=‹P.underlying z=_›;cases h;exact w i D;have i:=‹P.underlying z=_›;split at h;rename_i W;cases h;simp only[aA]at W;have Q:=D.cq;simp only[A.cq,W.1,cB]at Q;exact w i Q;cases h;have i:=‹P.underlying z=_›;split at h;cases h;cases D;exact⟨[],0,rfl,rfl,by simp[zG,i],R.zero,by simp,λt j=>by simp at j⟩;cases h;rename_i b i;split at h;rename_i k;cases h;cases D;have k:=oT k;subst k;refine⟨b.map λb=> .int .u8 b.toNat,0,?_,by simp[vO],by simp[zG,i],R.zero,by simp,λt j=> ?_⟩;simp only[rA,fO];congr 1;clear w
 induction b with
 |nil=>rfl|cons a r ih=>simp only[dN,bP,T.cells,ih];rfl
 obtain⟨a,_,rfl⟩:=bS.1 j;have:=UInt8.toNat_lt a;exact⟨.ft _ _ _ _ (by omega) (by omega) (by simp only[CL,IntKind.min,IntKind.max,IntKind.bits,IntKind.signed];simp;omega),rfl⟩;cases h
 .have i:=‹P.underlying z=_›;split at h
  .rename_i k;cases h;cases D with
   |str _ _ v b C J=>
   have k:=oT k;subst k;refine⟨b.map λb=> .int .u8 b.toNat,v,?_,by simp[vO],by simp[zG,i],C,by simpa using J,λt j=> ?_⟩;simp only[rA,fO];congr 1;clear J L w
   induction b with
   |nil=>rfl|cons a r ih=>simp only[dN,bP,T.cells,ih];rfl
   obtain⟨a,_,rfl⟩:=bS.1 j;have:=UInt8.toNat_lt a;exact⟨.ft _ _ _ _ (by omega) (by omega) (by simp only[CL,IntKind.min,IntKind.max,IntKind.bits,IntKind.signed];simp;omega),rfl⟩
  cases h
 cases h
end
section
variable{V V':gN}{U μ':gE}{X:AX}{gl:gG}{pe:gM}{H:Hp}{S:AS}{P:gD}
theorem SA{k:gP}{n nl:Nat}{m:List pR}(g:Sy V n m)(i:GH k nl V U H){e:gB}{f:Nat}{a:A}{s:Nat}{c v:Int}(j:V[s]? =some v){r:T}
  (h:(r= .fp/\v+c=0)\/∃(x:Nat) (d:gC) (b:Ob),r= .ge x f 0 d.length/\(d.length:Int)=v+c/\x<H.next/\(∀l q,oV k l=some q->U[l]? ≠some (some x))/\H.get x=some b/\b.elem=e/\(b.sz=f/\(e=5->b.cells≠[]))/\b.cells=d.flatMap T.cells/\∀t∈d,Gm V U a t/\t.cells.length=f):
  ip V U ⟨.ge nl f 0 0 s c,(nl,.row e f a s c)::k,n,nl+1,m⟩ r H:=by
 rcases h with⟨rfl,z⟩|⟨x,d,b,rfl,p,E,D,w,B,J,I,u⟩
 exact⟨V,U++[none],.refl _,.app _ _,g,i.alias (λ_ _ h=>by cases h) (λx F=>by cases F),.ar _ _ _ _ _ _ 0 v (sZ i.len _) g.zero (by omega) j z⟩;refine⟨V,U++[some x],.refl _,.app _ _,g,i.alias (λ_ _ h=>by cases h) (λy C=> ?_),?_⟩;cases C;exact⟨E,D,b,w,B,J,d,v,j,p,I,λt o=>⟨(u t o).1.ext (.refl _) (.app _ _),(u t o).2⟩⟩;have:=Gm.ge (V:=V) (U:=U++[some x]) nl f 0 0 s c x 0 v (sZ i.len _) g.zero (by omega) j (by omega);rw[<-p]at this;simpa using this
theorem ip.lift{n nl:Nat}{cs:List pR}{hp:gP}{R:AR}{t:T}{c:gN}(e:rX V c)(h:ip c U R t H):ip V U R t H:=by
 obtain⟨a,b,g,f,d⟩:=h;exact⟨a,b,e.trans g,f,d⟩
theorem aTy{e:List pR}(b:oZ V e)(d:V[0]? =some 0){s:Nat}{c v u:Int}(a:V[s]? =some v)(h:bBd e s c=some u):v+c<=u:=by
 unfold bBd at h;split at h;cases h;have:=oX b ‹_› a d;omega;split at h;cases h;have:=oX b ‹_› a d;omega;split at h;cases h;have:=oX b ‹_› a d;omega;split at h;cases h;have:=oX b ‹_› a d;omega;cases h
theorem Li(B:Sy V S.nx S.cs)(hh:GH S.hp S.nl V U H){t F:gB}{s x:A}{N y:T}(Z:Gm V U s N)(hx:Gm V U x y){R:AR}(h:VL P S t F s x=some R):
  ∃r L,CP P H t F N y=some (r,L)/\ip V U R r L:=by
 unfold VL at h;split at h
 .rename_i e es c hu;split at h
  .rename_i e2 i C hi;split at h
   .rename_i Y;simp only[aA,bN,sQ,aF]at Y;obtain⟨J,E,c3,c4,c5,c6,c7⟩:=Y;have J:1<i.size:=by simpa using J
    have E:=oT E;cases h;cases Z;cases hx with
    |sl _ _ _ _ b w d W q2 K=>
    rw[B.zero]at W;cases W;have I:(b.length:Int)=c:=by omega
    have j:b≠[]:=λe=>by rw[e]at I;simp at I;omega
    have v:bBn y=some b:=by
     rcases d with⟨rfl,rfl⟩|⟨f,rfl⟩|⟨p,m,f,rfl,rfl⟩
     exact absurd rfl j;rfl;rfl
    have k:zG P F i.size y=true:=by
     unfold zG;rw[C];rcases d with⟨rfl,rfl⟩|⟨f,rfl⟩|⟨p,m,f,rfl,rfl⟩<;>rfl
    have a:∀u∈b,u.cells.length=i.size/\qO u.cells=true:=λu g=>by
     have:=K u g;cases this with
     |agg _ M O g2=>
      refine⟨by show M.length=_;rw[<-O];exact E,?_⟩;exact BT (⟨O,g2⟩:pT V U es M) c3
    have o:∀l:List T,(∀u∈l,qO u.cells=true)->qO (l.flatMap T.cells)=true:=by
     intro l
     induction l with
     |nil=>intro _;rfl
     |cons u r ih=>
      intro Q;rw[bP];have d:=Q u (by simp);have h2:=ih (λw hw=>Q w (by simp[hw]));generalize u.cells=q at d
      induction q with
      |nil=>exact h2|cons z q D=>simp only[qO,aA,dR]at d⊢;exact⟨d.1,D d.2⟩
    refine⟨.sl false b,H,?_,?_⟩;unfold CP;rw[hu,v];simp only[hi];rw[aH];rintro(q|q|q|q|q|q|q);omega;exact j (List.isEmpty_iff.1 q);rw[aP.2 (λu g=>by simpa using(a u g).1)]at q;cases q;rw[o b (λu g=>(a u g).2)]at q;cases q;exact q c4;rw[k]at q;cases q;have:AI b.length i.bytes=true:=by
     unfold AI;simp only[aA,aF];constructor;have:((b.length*i.bytes:Nat):Int)<=70368744177664:=by rw[Int.natCast_mul,I];exact c6
     omega;omega
    rw[this]at q;cases q;exact⟨V,U,.refl _,.refl _,B,hh,.sl _ _ _ _ b 0 (.inr (.inl ⟨false,rfl⟩)) B.zero (by omega) K⟩
   cases h
  cases h
 cases h
theorem Fu{t w:gB}{s y r:T}{e:Hp}{u:T}(k:wP y [u])(h:rO P H t w s y=some (r,e)):
  ∃l c n o p,r= .ge l c 0 n/\e.get l=some o/\o.cells=p++u.cells/\u.cells.length=c/\o.sz=c:=by
 have a:rA H y=some u.cells/\vO y=some 1:=by
  rcases k with⟨_,b⟩|⟨f,rfl⟩|⟨j,n,f,rfl,b⟩
  cases b;simp[rA,vO];have x:n=1:=by have:=bG List.length b;simpa using this.symm
  subst x;simp at b;simp[rA,vO,b]
 unfold rO at h;split at h;rw[a.1,a.2]at h;split at h;rename_i i new m z v q;cases v;cases q;split at h;cases h;rename_i g;simp only[not_or]at g;have d:u.cells.length=i.size:=by have:=g.2.1;omega
 split at h;rw[aH (by decide)]at h;split at h;cases h;exact⟨_,_,_,_,[],rfl,by rw[FI _ _ _ rfl,aJ rfl],rfl,d,rfl⟩;cases h;rw[aH (by decide)]at h;split at h;cases h;exact⟨_,_,_,_,_,rfl,by rw[FI _ _ _ rfl,aJ rfl],rfl,d,rfl⟩;cases h;rw[aH (by decide)]at h;split at h;split at h;cases h;exact⟨_,_,_,_,_,rfl,by rw[FI _ _ _ rfl];exact aJ rfl,rfl,d,rfl⟩;cases h;cases h;cases h;cases h;cases h
theorem aJj{t tx:gB}{s y r:T}{x:A}{R:AR}{p:Hp}(L:V[0]? =some 0)(hx:Gm V U x y)(h:rO P H t tx s y=some (r,p))(C:ip V U R r p):ip V U (aJi x R) r p:=by
 unfold aJi;split
 .rename_i es l sz si ci s c o;split
  .rename_i e m a s' c' K;obtain⟨V',μ',x1,x2,x3,O,x5⟩:=C;refine⟨V',μ',x1,x2,x3,?_,x5⟩;rw[o]at x5;obtain⟨u,Y,w,hu⟩:∃u,wP y [u]/\∃w,u.cells= .int .i64 0::w:=by
    cases hx with
    |sl _ _ _ _ xs v g j k i=>
    rw[L]at j;cases j
    match xs,k with
    |[u],_ =>
     refine⟨u,g,?_⟩;have:=i u (by simp);cases this with
     |agg _ B q1 q2=>
      cases B with
      |nil=>simp at q1
      |cons z Z=>
       have:=q2 0 _ z rfl rfl;cases this with
       |int _ _ _ v F h2=>rw[L]at F;cases F;exact⟨Z,rfl⟩
   obtain⟨l1,sz1,n1,o1,pre,N,Q,D,W,e5⟩:=Fu Y h;obtain⟨f,v,g,i,rfl⟩:∃f v,μ'[l]? =some (some f)/\V'[s]? =some v/\l1=f:=by
    generalize d:r=r0 at x5;cases x5 with
    |ge _ _ _ _ _ _ f vi v g j k i g5=>rw[N]at d;injection d with q;exact⟨f,v,g,i,q⟩
    |ar _ _ _ _ _ _ vi v g j k i g5=>rw[N]at d;cases d
   obtain⟨b,b1,b2,b3,B,v1,r1,r2,E,I⟩:=O.at K g;rw[Q]at b1;cases b1;refine O.mark (o':= .ax e m a s' c') K g (λb M=> ?_) (λ_ _ h=>by cases h) rfl rfl;rw[Q]at M;cases M;refine⟨b2,b3,B,v1,r1,r2,E,I,λz hz=>⟨w,?_⟩⟩;obtain⟨ys,rfl⟩:=List.getLast?_eq_some_iff.1 hz;rw[E,dG]at D;simp only[bP,List.flatMap_nil,List.append_nil]at D;rw[<-hu];exact List.append_inj_right' D (by rw[(I z (by simp)).2,W,<-e5,b3.1])
  exact C
 exact C
theorem VK(g:Sy V S.nx S.cs)(hh:GH S.hp S.nl V U H){t tx:gB}{s x:A}{s' y:T}(hS:Gm V U s s')(hx:Gm V U x y){R:AR}(h:NC P S t tx s x=some R):
  ∃r H',rO P H t tx s' y=some (r,H')/\ip V U R r H':=by
 unfold NC at h;split at h;rename_i e hu;split at h;rename_i i hi;split at h;rename_i el sm cm hsrc;split at h;cases h;rename_i hc;simp only[bO,not_or,bQ,Bool.not_eq_false,bN]at hc;obtain⟨⟨⟨⟨c1,c2⟩,c3⟩,c4⟩,c5⟩:=hc;have c3:el.known=true:=by simpa using c3
 have c4:el.cells.length=i.size:=oT (by simpa using c4);have c5:uB el.cells=true:=by simpa using c5
 obtain⟨C,vm,u1,u2,u3,Q,u5,M⟩:=aTd g hh hx hsrc c3 c4;have hall:qO (C.flatMap T.cells)=true:=by
  clear u1 u2 u5
  induction C with
  |nil=>rfl
  |cons u r ih=>
   rw[bP];have h1:=BT (qU (M u (by simp)).1 c3).2 c5;have h2:=ih (λw hw=>M w (by simp[hw]));clear ih M;generalize u.cells=q at h1
   induction q with
   |nil=>exact h2|cons z q ih2=>simp only[qO,aA,dR]at h1⊢;exact⟨h1.1,ih2 h1.2⟩
 have hfl:=vU C (λu hu=>(M u hu).2);have guard:¬(i.size=0\/(C.flatMap T.cells).length≠C.length*i.size\/qO (C.flatMap T.cells)=false\/(i.zero.map λz=>z.cells.size)≠some i.size\/zG P tx i.size y=false):=by
  rintro(q|q|q|q|q);exact c1 q;exact q hfl;rw[hall]at q;cases q;exact q c2;rw[u3]at q;cases q
 have D:∀(b:A) (q:Nat) (d w:Int) (N:gN) (Z:Nat) (p:List pR) (hp1:gP),rX V N->Sy N Z p->GH hp1 S.nl N U H->N[q]? =some w->w+d=C.length->
   (C.length:Int)<=70368744177664/((i.bytes:Int)+1)->(∀u,Gm V U el u->Gm V U b u)->
   ∃r H',rO P H t tx .fp y=some (r,H')/\ip V U ⟨.ge S.nl i.size 0 0 q d,(S.nl,.row e i.size b q d)::hp1,Z,S.nl+1,p⟩ r H':=by
  intro b q d w N Z p hp1 B s1 K hw hwd f hb;by_cases Y:C.length=0;refine⟨.fp,H,?_,ip.lift (n:=0) (nl:=0) (cs:=[]) (hp:=[]) B (SA s1 K hw (.inl ⟨rfl,by omega⟩))⟩;simp only[rO,hu,hi,u1,u2];rw[aH guard];simp only[Y,cB];have:=JU (S:=⟨[],hp1,Z,S.nl,p⟩) s1 K (e:=e) (sz:=i.size) (a:=b) (s:=q) (c:=d) (v:=w) (ts:=C) hw (by omega) (λu hu=>⟨(hb u (M u hu).1).ext B (.refl _),(M u hu).2⟩) (λ_ =>TV (λu hu=>(M u hu).2) c1 Y);refine⟨_,_,?_,ip.lift (n:=0) (nl:=0) (cs:=[]) (hp:=[]) B this⟩;simp only[rO,hu,hi,u1,u2];rw[aH guard,aH Y,aJ (UG f)]
 split at h;split at h;rename_i F;simp only[aA]at F;have k2:=oX g.cs F.2 Q g.zero;cases h;cases hS;exact D el sm cm vm V S.nx S.cs S.hp (.refl _) g hh Q (by omega) (by omega) (λu hu=>hu);cases h
 .
  rename_i q a s0 c0;split at h;rename_i hq;simp only[aA]at hq;obtain⟨hq,hs0⟩:=hq;have hq:=oT hq;have hs0:=oT hs0;subst hq hs0;have hS0:=hS;cases hS with
  |g7 _ _ _ _ _ J k g0 K W g3 I=>
   obtain⟨xs,rfl⟩:=((default:gy).fu _).1 g0;have:=BR K (.inr (.inl ⟨true,rfl⟩):wP (.sl true xs) xs);subst this;rw[g.zero]at W;cases W;split at h;rename_i L;have L:=oX g.cs L Q g.zero;have Y:C.length=0:=by omega
   cases h;refine⟨.sl true J,H,?_,V,U,.refl _,.refl _,g,hh,hS0⟩;simp only[rO,hu,hi,u1,u2];rw[aH guard];simp only[Y,cB];split at h;rename_i F;simp only[aA,bN]at F;obtain⟨k1,k2,k3,k4,k5,k6,k7⟩:=F;have k1:=oX g.cs k1 g.zero Q;have k3:=oT k3;have k7:=oX g.cs k7 Q g.zero;have Y:C.length≠0:=by omega
   split at h;rename_i b hb;split at h;cases h;have jb:(∀u,Gm V U a u->Gm V U b u)/\(∀u,Gm V U el u->Gm V U b u):=by
    split at hb;rename_i hl;cases hb;exact⟨λu hu=>(wW g.cs g.zero 0 0 qZ _ _ _ hl hu).ext (λj v h=>by simp at h) (λj v h=>by simp at h),λu hu=>hu⟩;exact XJ g.cs g.zero hb
   have hsx:∀u∈J,u.cells.length=i.size:=λu hu=>by rw[<-(qU (I u hu) k4).2.1];exact k3
   have hsa:∀u∈J++C,u.cells.length=i.size:=λu hu=>by
    rcases bZ.1 hu with hu|hu;exact hsx u hu;exact(M u hu).2
   have hnr:=JU (S:=⟨[],S.hp,S.nx,S.nl,S.cs⟩) g hh (e:=e) (sz:=i.size) (a:=b) (s:=sm) (c:=cm+c0) (v:=vm) (ts:=J++C) Q (by rw[aU];omega) (λu hu=>⟨by
    rcases bZ.1 hu with hu|hu;exact jb.1 u (I u hu)
    exact jb.2 u (M u hu).1,hsa u hu⟩) (λ_ =>TV hsa c1 (by rw[aU];omega))
   refine⟨_,_,?_,hnr⟩;have hhd:DD i.size J=true:=by cases J with
    |nil=>rfl|cons x r=>simp[DD,hsx x (by simp)]
   have f:AI (J.length+C.length) i.bytes=true:=UG (by push_cast;omega);simp only[rO,hu,hi,u1,u2];rw[aH guard,aH Y,aJ (by simp[hhd,f])];simp only[dG,aU];cases h;cases h;cases h
  cases h
 rename_i l sz si ci s0 c0;split at h;rename_i e' sz' a q0 d0 hl;split at h;rename_i F;simp only[aA,bN]at F;obtain⟨⟨⟨⟨⟨⟨⟨k1,k2⟩,k3⟩,k4⟩,k5⟩,k6⟩,k7⟩,k8⟩:=F;have k1:=oT k1;have k2:=oT k2;have k3:=oT k3;have k4:=oT k4;have k6:=oT k6;subst k3 k4 k5 k6 k7;subst k1;split at h;rename_i b hb;split at h;rename_i hbb;simp only[aA]at hbb;obtain⟨⟨⟨⟨b1,b2⟩,b3⟩,b4⟩,b5⟩:=hbb;have b4:=oX g.cs b4 g.zero Q;obtain⟨j1,j2⟩:=XJ (U:=U) g.cs g.zero hb;have main:∀(q:Nat) (d w:Int) (N:gN) (Z:Nat) (p:List pR),rX V N->Sy N Z p->N[q]? =some w->(∀k,V[s0]? =some k->w+d=k+c0+(vm+cm))->
   w+d<=70368744177664/((i.bytes:Int)+1)->
   ∃r H',rO P H t tx s' y=some (r,H')/\ip V U ⟨.ge S.nl i.size 0 0 q d,(S.nl,.row e' i.size b q d)::vB S.hp l,Z,S.nl+1,p⟩ r H':=by
  intro q d w N Z p B s1 hw hwd f
  have O:GH (vB S.hp l) S.nl V U H:=hh.sub (λm o L=>by
   rw[zT]at L;split at L;cases L
   exact L)
  cases hS with
  |ar _ _ _ _ _ _ vi k K W g3 I g5=>
   have:=hwd k I;exact D b q d w N Z p (vB S.hp l) B s1 (O.ext B) hw (by omega) (by omega) j2
  |ge _ _ _ _ _ _ l' vi k K W g3 I g5=>
   have hlen:=hwd k I;obtain⟨ob,o1,o2,o3,ts,v1,r1,r2,r3,r4⟩:=hh.at hl K;rw[I]at r1;cases r1;rw[g.zero]at W;cases W;have htl:(k+c0).toNat=ts.length:=by omega
   by_cases Y:C.length=0;refine⟨.ge l' sz' 0 ts.length,H,?_,ip.lift (n:=0) (nl:=0) (cs:=[]) (hp:=[]) B (SA s1 (O.ext B) hw (.inr ⟨l',ts,ob,by rw[k2],by omega,hh.lt l l' K,λm o L he=> ?_,o1,o2,⟨by rw[o3.1,k2],o3.2⟩,r3,λu hu=>⟨(j1 u (r4 u hu).1).ext B (.refl _),by rw[<-k2];exact(r4 u hu).2⟩⟩))⟩;simp only[rO,hu,hi,u1,u2];rw[aH guard];simp only[Int.add_zero,Int.toNat_zero,Y,cB,htl,k2];rw[zT]at L;split at L;cases L;rename_i hne;exact hne (hh.inj l m _ o l' hl L K he);have hgd:=hh.cr hl K
   have hnr:=JU (S:=⟨[],vB S.hp l,Z,S.nl,p⟩) (H:=H.drop l') s1 (hgd.ext B) (e:=e') (sz:=i.size) (a:=b) (s:=q) (c:=d) (v:=w) (ts:=ts++C) hw (by rw[aU];omega) (λu hu=>by
    rcases bZ.1 hu with hu|hu;exact⟨(j1 u (r4 u hu).1).ext B (.refl _),by rw[<-k2];exact(r4 u hu).2⟩
    exact⟨(j2 u (M u hu).1).ext B (.refl _),(M u hu).2⟩) (λ_ =>TV (sz:=i.size) (λu hu=>by
    rcases bZ.1 hu with hu|hu;rw[<-k2];exact(r4 u hu).2
    exact(M u hu).2) c1 (by rw[aU];omega))
   refine⟨_,_,?_,ip.lift (n:=0) (nl:=0) (cs:=[]) (hp:=[]) B hnr⟩;simp only[rO,hu,hi,u1,u2];rw[aH guard];simp only[Int.add_zero,Int.toNat_zero,htl,o1];rw[aH Y,aJ ⟨by first|exact k2|trivial,by rw[o3.1,k2],o2,by rw[r3,vU ts (λu hu=>(r4 u hu).2),k2],UG (by push_cast;omega)⟩];simp only[r3,dG,aU,Hp.drop]
 split at h;rename_i q d hq;split at h;rename_i f;cases h;have:∃k,V[s0]? =some k:=by cases hS with
  |ar _ _ _ _ _ _ vi k K W g3 I g5=>exact⟨k,I⟩|ge _ _ _ _ _ _ l' vi k K W g3 I g5=>exact⟨k,I⟩
 obtain⟨k,E⟩:=this;obtain⟨w,w1,w2⟩:=PH g.zero E Q hq;have f:=oX g.cs f w1 g.zero;exact main q d w V S.nx S.cs (.refl _) g w1 (λv h=>by rw[E]at h;cases h;exact w2) (by omega);cases h;split at h;rename_i f;cases h;have:∃k,V[s0]? =some k:=by cases hS with
  |ar _ _ _ _ _ _ vi k K W g3 I g5=>exact⟨k,I⟩|ge _ _ _ _ _ _ l' vi k K W g3 I g5=>exact⟨k,I⟩
 obtain⟨k,E⟩:=this;simp only[aA]at f;have h1:=oX g.cs f.1 E g.zero;have h2:=oX g.cs f.2 Q g.zero;have b5:=oX g.cs b5 g.zero E;obtain⟨B,e2,e3,e4⟩:=g.new (k+c0+(vm+cm));have hk:(35184372088832:Int)/((i.bytes:Int)+1)+35184372088832/((i.bytes:Int)+1)<=70368744177664/((i.bytes:Int)+1):=by
  apply Int.le_ediv_of_mul_le (by omega);have:=Int.ediv_mul_le (35184372088832:Int) (b:=(i.bytes:Int)+1) (by omega);rw[Int.add_mul];omega
 have hk2:(70368744177664:Int)/((i.bytes:Int)+1)<=70368744177664:=Int.ediv_le_self _ (by omega);have up:∀{r:List pR},oZ (V++[k+c0+(vm+cm)]) r->oZ (V++[k+c0+(vm+cm)]) (oG S.cs s0 c0 sm cm S.nx r):=λ{r} hr=>by
  unfold oG;split;rename_i u hu;have:=aTy g.cs g.zero Q hu;exact .cons ⟨_,k,e2,B _ _ E,by omega⟩ hr;exact hr
 exact main S.nx 0 _ (V++[k+c0+(vm+cm)]) (S.nx+1) _ B ⟨e3,e4,up<| .cons ⟨k,_,B _ _ E,e2,by omega⟩ (.cons ⟨vm,_,B _ _ Q,e2,by omega⟩ (.cons ⟨0,_,e4,e2,by omega⟩ (.cons ⟨_,0,e2,e4,by omega⟩ (g.cs.ext B)))),g.fst B⟩ e2
  (λv h=>by rw[E]at h;cases h;omega) (by omega)
 cases h;cases h;cases h;cases h;cases h;cases h;cases h;cases h;cases h
end
end Go.Ps
