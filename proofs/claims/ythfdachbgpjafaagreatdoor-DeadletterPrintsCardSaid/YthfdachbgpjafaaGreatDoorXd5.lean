/- Lemmas for the card; no conditions. -/
import Derived.Test.YthfdachbgpjafaaGreatDoorXd4
set_option linter.all false
set_option maxRecDepth 100000
namespace Go.Ps
variable[Inhabited gy][jm]
structure GS(S:AS)(V:gN)(U:gE)(fr:gC)(H:Hp):Prop where
 sy:Sy V S.nx S.cs
 hp:GH S.hp S.nl V U H
 fr:pT V U S.fr fr
structure Wj(F:hJ)(ee:gQ)(Fc:Nat->Nat->Fc):Prop where
 own:∀n d,(Fc n d).own=F
 ee:∀n d,(Fc n d).ee=ee n d
def ij(P:gD)(gl:gG)(p:gM)(F:hJ)(a:hU)(f:gC)(H:Hp):Prop:=
 ∀o∈a,Yh o=true/\∃d,o.dst=some d/\pS P ⟨gl,p⟩ (AG F o) H f o=some (rW f d)
theorem ij.nil{P:gD}{gl:gG}{p:gM}{F:hJ}{f:gC}{H:Hp}:ij P gl p F [] f H:=λo h=>by simp at h
theorem Pe{P:gD}{E:uW}{H:Hp}{fr:gC}{f:Operand->Operand->Bool}(a:∀x y,f x y=true->pQ E.gl fr x=pQ E.gl fr y){b o:Oper}{b1 b2:Bool}(h:Pc f b.op o.op=true):
  pS P E b1 H fr b=pS P E b2 H fr o:=by
 obtain⟨d1,g,d,v,w,s⟩:=b;obtain⟨d2,j,i,q,p,u⟩:=o;unfold Pc at h;simp only at h;split at h;simp only[aA]at h;rw[aD h.1];simp only[pS,a _ _ h.2];simp only[aA]at h;rw[aD h.1,aD h.2.1];simp only[pS,a _ _ h.2.2];simp only[aA]at h;rw[aD h.1];simp only[pS,a _ _ h.2.1,a _ _ h.2.2];simp only[pS,a _ _ h];cases h
theorem Ml{o:Oper}{d:Tmp}(h:Cl o d=true):o.dst=some d:=by
 unfold Cl at h;split at h;rename_i e a;rw[a,aD h];cases h
theorem aXy{P:gD}{gl:gG}{s:gM}{F:hJ}{i:hU}{f:gC}{H:Hp}(j:ij P gl s F i f H):∀(n:Nat) (x y:jH),mR i n x y=true->pQ gl f x=pQ gl f y:=by
 intro n;have same:∀x y,UH x y=true->pQ gl f x=pQ gl f y:=by
  intro x y h;unfold UH at h;split at h;rw[aD h];cases h
 induction n with
 |zero=>intro x y h;exact same x y h
 |succ n B=>
  intro x y h;simp only[mR,bO]at h;rcases h with h|h
  exact same x y h;split at h;rename_i a b;obtain⟨o,I,g⟩:=eP.1 h;simp only[aA]at g;obtain⟨g,J⟩:=g;obtain⟨p,w,d⟩:=eP.1 J;simp only[aA]at d;obtain⟨d,v⟩:=d;obtain⟨_,d1,q,K⟩:=j o I;obtain⟨_,d2,u,z⟩:=j p w;rw[Ml g]at q;cases q;rw[Ml d]at u;cases u;have:=Pe (P:=P) (E:=⟨gl,s⟩) (H:=H) (fr:=f) (b1:=AG F o) (b2:=AG F p) B v;rw[K,z]at this;simp only[pQ];exact this;cases h
theorem aGq{P:gD}{gl:gG}{b:gM}{F:hJ}{a:hU}{f:gC}{H:Hp}(j:ij P gl b F a f H){o:Oper}{d:Tmp}(h:cse a o=some d):
  pS P ⟨gl,b⟩ (AG F o) H f o=some (rW f d):=by
 unfold cse at h;split at h;rename_i g i;obtain⟨_,d1,s,u⟩:=j g (eO i);rw[h]at s;cases s;have v:=List.find?_some (p:=λg:Oper=>Pc (mR a 6) g.op o.op) i;rw[<-u];exact(Pe (P:=P) (E:=⟨gl,b⟩) (λx y q=>aXy j 6 x y q) v).symm;cases h
theorem Hj:∀{l:iR} {d:Tmp},aIh d l=false->d∉l
 |[],d,_ =>by simp
 |x::a,d,h=>by
  simp only[aIh,fI]at h;simp only[aY,not_or];exact⟨λe=>by subst e;simp at h,Hj h.2⟩
theorem aBp{gl:gG}{f:gC}{d:Tmp}{v:T}{x:jH}(h:∀t,x= .tmp t->t≠d):pQ gl (f.set d v) x=pQ gl f x:=by
 cases x with
 |tmp t=>
  have:=h t rfl;simp only[pQ,uG,bC];rw[dE (λe=>this e.symm)]
 |_ =>rfl
theorem Yp{P:gD}{E:uW}{H:Hp}{j:gC}{o:Oper}{b:Bool}(w:Yh o=true){d:Tmp}{v:T}(h:d∉Uw o):pS P E b H (j.set d v) o=pS P E b H j o:=by
 obtain⟨I,p,L,J,u,guard⟩:=o;have q:∀x∈p.operands.toList,∀t,x= .tmp t->t≠d:=by
  intro x q t z K;subst z K;exact h (fE.2 ⟨_,q,rfl⟩)
 have g:∀x,x∈p.operands.toList->pQ E.gl (j.set d v) x=pQ E.gl j x:=λx B=>aBp (q x B);cases p<;>simp only[Yh]at w<;>try(cases w;done)
 case move x=>simp only[pS,g x (by simp[Op.operands])]
 case load t a=>simp only[pS,g a (by simp[Op.operands])]
 case fieldAddr s x f=>simp only[pS,g x (by simp[Op.operands])]
 case indexAddr t x i=>simp only[pS,g x (by simp[Op.operands]),g i (by simp[Op.operands])]
theorem QZ{P:gD}{gl:gG}{p:gM}{F:hJ}{f:gC}{H:Hp}{d:Tmp}{v:T}:∀{b:hU},ij P gl p F b f H->ij P gl p F (QY d b) (f.set d v) H
 |[],_ => .nil
 |o::r,g=>by
  have i:=QZ (d:=d) (v:=v) (λx hx=>g x (aC _ hx):ij P gl p F r f H);simp only[QY];split;exact i;rename_i a;simp only[bO,not_or,Bool.not_eq_true]at a;intro x hx;rcases aY.1 hx with rfl|hx
  obtain⟨k1,e,k2,k3⟩:=g x aO;refine⟨k1,e,k2,?_⟩;rw[Yp k1 (Hj a.2),k3];have h:e≠d:=by
   intro j;subst j;have:=a.1;unfold Cl at this;rw[k2]at this;simp at this
  simp only[uG,bC];rw[dE (λq=>h q.symm)];exact i x hx
theorem KC{P:gD}{gl:gG}{p:gM}{F:hJ}{j:List A}{f:gC}{H:Hp}(s:j.length=f.length){i:hU}(b:ij P gl p F i f H){o:Oper}{v:T}(q:pS P ⟨gl,p⟩ (AG F o) H f o=some v):
  ij P gl p F (Jc j o i) (pW f o.dst v) H:=by
 unfold Jc;split;rename_i d a;rw[a];simp only[pW];split;rename_i h;simp only[aA,bQ]at h;intro x hx;rcases aY.1 hx with rfl|hx
 refine⟨h.1,d,a,?_⟩;rw[Yp h.1 (Hj h.2.2),q];have g:d<f.length:=by rw[<-s];simpa [Nat.blt,Nat.lt_iff_add_one_le]using h.2.1
 simp only[uG,bC];rw[List.getElem?_set_self g];rfl;exact QZ b x hx;exact QZ b;rename_i a;rw[a];exact b
theorem rD{Y Z:Type}{f:Y->Option (List Z)}:∀{l:List Y} {r:List Z},AP f l=some r->∀x∈l,∃q,f x=some q/\∀y∈q,y∈r
 |a::o,r,h,x,hx=>by
  simp only[AP]at h;split at h;rename_i q j;split at h;rename_i s i;cases h;rcases aY.1 hx with rfl|hx
  exact⟨q,j,λy b=>List.mem_append_left _ b⟩;obtain⟨p,g,d⟩:=rD i x hx;exact⟨p,g,λy b=>List.mem_append_right _ (d y b)⟩;cases h;cases h
theorem pT.aS{V:gN}{U:gE}{g:List A}{i:gC}(h:pT V U g i){a:A}{d:Nat}(o:Gm V U a (rW i d)):pT V U (hT a g d) i:=by
 rw[UJ];refine⟨by simp[h.1],λj b u f p=> ?_⟩;rw[dM]at f;split at f;rename_i q;subst q;split at f;cases f;rw[uG,bC,p]at o;exact o;cases f;exact h.2 j b u f p
theorem pT.put{V:gN}{U:gE}{f:List A}{g:gC}(h:pT V U f g){a:A}{t:T}(i:Gm V U a t)(b:jC):pT V U (MJ f b a) (pW g b t):=by
 cases b with
 |none=>exact h|some d=>simp only[MJ,pW];rw[UJ];exact h.set i d
theorem pT.hT{V:gN}{U:gE}{b:List A}{f:gC}(h:pT V U b f){a:A}{t:T}(g:Gm V U a t)(d:Nat):pT V U (Go.Ps.hT a b d) (f.set d t):=by
 rw[UJ];exact h.set g d
section
variable{V V':gN}{U μ':gE}{X:AX}{gl:gG}{pe:gM}{H:Hp}{S:AS}{P:gD}
variable{call:FuncId->List A->AS->Option (List AR)}{ee:gQ}{F:hJ}{Fe:Nat->Nat->Fc}{fr:gC}
theorem GS.sym(h:GS S V U fr H){n:Nat}{cs:List pR}(a:rX V V')(d:Sy V' n cs):GS {S with nx:=n,cs:=cs} V' U fr H:=⟨d,h.hp.ext a,h.fr.ext a (.refl _)⟩
theorem XG(M:Sy V S.nx S.cs)(O:GH S.hp S.nl V U H){t:gB}{m k x:A}{y z u:T}(Z:Gm V U m y)(hk:Gm V U k z)(hx:Gm V U x u){R:AR}(h:Hq P S t m k x=some R):
  ∃N,Aq P H t y z u=some N/\ip V U R oS N:=by
 unfold Hq at h;split at h
 .rename_i l;split at h
  .rename_i q hq;obtain rfl:=Yn M.zero hq hk;cases Z with
   |mp _ K i=>
   split at h;rename_i w L;split at h;rename_i kt et hu;split at h;rename_i b;simp only[aA,aP]at b;split at h;rename_i B;cases h;obtain⟨o,o1,g,p,o2,W,Y⟩:=O.fb L i;have s:=XM b.1;have I:=(WR (V:=V) (U:=U) b.1 w p 0 W Y b.2).2 B;have f:GQ P H t (.mp K) q.t=some (K,o,g,p,et,none):=by
    simp only[GQ,hu,o1,o2,s,cB,I]
   refine⟨hD H K o (g+1) (p++[(g,q.t,u)]),by simp only[Aq,f],V,U,.refl _,.refl _,M,?_,tN⟩;refine O.cf L i (o':= .map (w++[(q,x)])) ⟨g+1,p++[(g,q.t,u)],rfl,by simp[W],λj k a d=> ?_⟩ rfl;by_cases J:j<w.length;rw[dI J]at d;obtain⟨c',v,q1,q2⟩:=Y j k a d;exact⟨c',v,by rw[dI (by omega)];exact q1,q2⟩;rw[cU (by omega)]at d;have:j-w.length=0:=by
    have:=(aQ.1 d).1;simp at this;exact this
   rw[this]at d;simp only[cJ,aI,bF]at d;obtain⟨rfl,rfl⟩:=d;exact⟨g,u,by rw[cU (by omega),show j-p.length=0 by omega];rfl,hx⟩;cases h;cases h;cases h;cases h
  cases h
 cases h
theorem Im{a:A}{t:T}(i:V[0]? =some 0)(h:Gm V U a t):Gm V U a.db t:=by
 unfold A.db;split;cases h with
 |ie _ _ j f d b=>
  obtain⟨u,rfl⟩:=eY.1 d.symm;refine .sl _ _ _ _ [u] 0 f i rfl λx g=> ?_;obtain rfl:x=u:=by simpa using g
  exact b 0 _ _ rfl rfl
 exact h
theorem aCi(d:Sy V S.nx S.cs)(b:GH S.hp S.nl V U H){t:gB}:ip V U ⟨.mp S.nl,(S.nl,.map [])::S.hp,S.nx,S.nl+1,S.cs⟩ (.mp H.next) (H.new {elem:=t,sz:=0,cells:=[],me:=some (.map 0 [])}):=
 ⟨V,U++[some H.next],.refl _,.app _ _,d,b.newL ⟨0,[],rfl,rfl,λj k a h=>by simp at h⟩ rfl,.mp _ _ (sZ b.len _)⟩
theorem VJ{t b:gB}{s x:A}:∀{l:List (Bool×List pR)} {a:jS},Fp P S t b s x l=some a->∀q∈l,∃R∈a,NC P {S with cs:=q.2} t b s x=some R
 |[],a,h,q,hq=>by simp at hq
 |q0::l,a,h,q,hq=>by
  simp only[Fp]at h;split at h;rename_i R f;split at h;rename_i i g;cases h;rcases aY.1 hq with rfl|hq
  exact⟨R,by simp,f⟩;obtain⟨d,k1,k2⟩:=VJ g q hq;exact⟨d,aC _ k1,k2⟩;cases h;cases h
theorem aCk(d:V[0]? =some 0){a:A}{t:T}(b:Gm V U a t){s:Nat}{c:Int}(h:KP a=some (s,c)):∃v,V[s]? =some v:=by
 unfold KP at h;split at h<;>cases h<;>first|exact⟨_,d⟩|(cases b<;>exact⟨_,by assumption⟩)
theorem aFv(a:Sy V S.nx S.cs)(B:GH S.hp S.nl V U H){t o:gB}{s x:A}{i y:T}(u:Gm V U s i)(j:Gm V U x y){p:jS}(h:aFu P S t o s x=some p):
  ∃r b,rO P H t o i y=some (r,b)/\∃R∈p,ip V U R r b:=by
 unfold aFu at h;split at h;rename_i n c L;obtain⟨v,g⟩:=aCk a.zero j L;have w:tX V (.imp [.le n 0 (-c)] [.le 0 n (c-1)]) (decide (v+c<=0)):=by
  refine⟨λe q f=> ?_,λe q f=> ?_⟩;have e:v+c<=0:=by simpa using e
  rw[bR.1 f];exact⟨v,0,g,a.zero,by omega⟩;have e:¬v+c<=0:=by simpa using e
  rw[bR.1 f];exact⟨0,v,a.zero,g,by omega⟩
 obtain⟨d,K,J⟩:=yL a.zero a.cs w;obtain⟨R,z,I⟩:=VJ h _ K;obtain⟨r,b,k1,k2⟩:=VK (S:={S with cs:=d}) ⟨a.len,a.zero,J,a.one⟩ B u j I;exact⟨r,b,k1,R,z,k2⟩;cases h
theorem TM(hc:Cn X gl pe)(O:wN call ee)(hF:Wj F ee Fe)(i:GS S V U fr H){o:Oper}{rs:jS}(h:aFp P X (GB F o.dst) call S o=some rs):
  ∃t J,Ev (λn d=>xW P ⟨gl,pe⟩ (Fe n d) H fr o=some (t,J))/\∃R∈rs,ip V U R t J:=by
 have ev:∀{x:jH} {a:A},LK X.gl S.fr x=some a->∃t,pQ gl fr x=some t/\Gm V U a t:=λh=>sV hc.gl i.sy.zero i.fr h;obtain⟨dst,op,type,pos,after,guard⟩:=o;cases op<;>simp only[aFp]at h<;>simp only[xW]<;>try(cases h;done)
 case alloc t=>
  split at h;rename_i z hz;split at h;rename_i hk;cases h;obtain⟨z',j,w⟩:=zH (V:=V) (U:=U) i.sy.zero hz;exact⟨.ptr H.next 0,H.new {elem:=t,sz:=0,cells:=z'.cells},.of λn d=>by simp only[j],_,aR _,RC i.sy i.hp ⟨⟨rfl,rfl⟩,(qU w hk).2⟩⟩;cases h;cases h
 case box t x=>
  split at h;rename_i y Y;split at h;rename_i hk;cases h;obtain⟨z,j,w⟩:=ev Y;exact⟨.ptr H.next 0,H.new {elem:=t,sz:=0,cells:=z.cells},.of λn d=>by simp only[j],_,aR _,RC i.sy i.hp ⟨⟨rfl,rfl⟩,(qU w hk).2⟩⟩;cases h;cases h
 case buildSlice t len parts=>
  split at h;rename_i l hl;obtain⟨R,L,rfl⟩:=aG.1 h;obtain⟨qs,j,w,K⟩:=JY hc.gl i.sy.zero i.fr hl;split at L;rename_i B;obtain⟨e,xs,u,I,q4⟩:=aDj i.sy i.hp w K L;exact⟨_,_,.of λn d=>by simp only[j,u,I,hF.own];rw[aJ B],R,aR _,q4⟩;rename_i B;obtain⟨e,xs,s,u,I,Z,q4⟩:=VQ i.sy i.hp w K L;exact⟨_,_,.of λn d=>by simp only[j,u,I,Z,hF.own];rw[aH B],R,aR _,q4⟩;cases h
 case store t p x=>
  split at h;rename_i q y hq Y;obtain⟨R,L,rfl⟩:=aG.1 h;obtain⟨q',j,w⟩:=ev hq;obtain⟨y',K,M⟩:=ev Y;obtain⟨J,u,I⟩:=Es i.sy i.hp w M L;exact⟨_,J,.of λn d=>by simp only[j,K,u],R,aR _,I⟩;cases h
 case makeMap t r=>
  split at h;cases h;exact⟨_,_,.of λn d=>by simp only[OP,Hh,cB];rfl,_,aR _,aCi i.sy i.hp⟩;cases h
 case mapUpdate t m k x=>
  split at h;rename_i a b v W hb hv;obtain⟨R,L,rfl⟩:=aG.1 h;obtain⟨a',j,w⟩:=ev W;obtain⟨b',K,M⟩:=ev hb;obtain⟨v',e5,e6⟩:=ev hv;obtain⟨J,u,I⟩:=XG i.sy i.hp w M e6 L;exact⟨_,J,.of λn d=>by simp only[j,K,e5,u],R,aR _,I⟩;cases h
 case insert t m k x=>
  split at h;rename_i a b v W hb hv;obtain⟨R,L,rfl⟩:=aG.1 h;obtain⟨a',j,w⟩:=ev W;obtain⟨b',K,M⟩:=ev hb;obtain⟨v',e5,e6⟩:=ev hv;obtain⟨J,u,I⟩:=XG i.sy i.hp w M e6 L;exact⟨_,J,.of λn d=>by simp only[j,K,e5,u],R,aR _,I⟩;cases h
 case makeSlice t l c=>
  split at h;rename_i q y hq Y;obtain⟨R,L,rfl⟩:=aG.1 h;obtain⟨q',j,w⟩:=ev hq;obtain⟨y',K,M⟩:=ev Y;obtain⟨r,J,u,I⟩:=Ae i.sy i.hp w M L;exact⟨r,J,.of λn d=>by simp only[j,K,u],R,aR _,I⟩;cases h
 case call c=>
  split at h
  .rename_i f N;rw[N];simp only;split at h
   .rename_i g first cap hf
    split at h
    .split at h
     .rename_i ars har;obtain⟨t,j,w⟩:=ev hf;cases w with
      |fn _ _ _ f' c' h1 h2 h3 h4=>
      obtain⟨ts,K,M⟩:=yS hc.gl i.sy.zero i.fr har;obtain⟨r,J,u,R,I,Z⟩:=O _ _ _ _ h V U H _ i.sy i.hp ((pT.app ⟨h1,h2⟩ M).app ⟨h3,h4⟩);refine⟨r,J,u.mono λn d q=> ?_,R,I,Z⟩;simp only[j,K,hF.ee];exact q
     cases h
    cases h
   cases h
  rename_i N;rw[N];simp only;split at h;rename_i s x t t' W ht;split at h;rename_i a b hsa hxb;obtain⟨q',j,w⟩:=ev hsa;obtain⟨y',K,M⟩:=ev hxb;split at h;split at h;cases h;rename_i B;obtain⟨r,J,u,R,I,Z⟩:=aFv i.sy i.hp w (Im i.sy.zero M) h;exact⟨r,J,.of λn d=>by simp only[W,ht,j,K,hF.own,TG];rw[aH B];exact u,R,I,Z⟩;obtain⟨R,L,rfl⟩:=aG.1 h;split at L;rename_i B;obtain⟨r,J,u,I⟩:=Li i.sy i.hp w (Im i.sy.zero M) L;exact⟨r,J,.of λn d=>by simp only[W,ht,j,K,hF.own,TG];rw[aJ B];exact u,R,aR _,I⟩;rename_i B;obtain⟨R0,hR0,rfl⟩:=aG.1 L;obtain⟨r,J,u,I⟩:=VK i.sy i.hp w (Im i.sy.zero M) hR0;exact⟨r,J,.of λn d=>by simp only[W,ht,j,K,hF.own,TG];rw[aH B];exact u,_,aR _,aJj i.sy.zero (Im i.sy.zero M) u I⟩;cases h;cases h;cases h
noncomputable def Cg(P:gD)(E:uW)(F:Fc)(s:Fx)(o:Oper):Option Fx:=
 match pS P E (CH F o) s.H s.fr o with
 |some v=>some {s with fr:=pW s.fr o.dst v}
 |none=>
  match wA F o with
  |some (d,t)=>if s.fq.isSome then none else match uI P t,wM P t with
   |some n,some z=>if z.cells.length=n/\d<s.fr.length then some {s with fr:=s.fr.set d oS,fq:=some (d,t)}else none
   |_,_ =>none
  |none=>match xW P E F s.H s.fr o with
   |some (v,a)=>some {s with fr:=pW s.fr o.dst v,H:=a}
   |none=>none
theorem RL{E:uW}{F:Fc}{a:gF}{s:Fx}{o:Oper}:vP P E F a s o=if pX a s.fr o then Cg P E F s o else some {s with fr:=pW s.fr o.dst oS}:=rfl
abbrev jJ:=Option (Tmp×TypeId)
def xU(P:gD)(gl:gG)(b:gM)(F:hJ)(l:iZ)(V:gN)(U:gE)(f:gC)(H:Hp)(p:jJ):Prop:=
 ∃s∈l,∃V' μ',rX V V'/\rX U μ'/\s.fq=p/\GS s.S V' μ' f H/\ij P gl b F s.av f H
theorem LY(q:Cn X gl pe){V:gN}{U:gE}(u:V[0]? =some 0){p:List A}(s:pT V U p fr){own:Bool}{o:Oper}(h:II X own p o=true)(K:VP own o=true):
  pS P ⟨gl,pe⟩ own H fr o=none:=by
 obtain⟨I,z,j,w,i,guard⟩:=o;cases z<;>simp only[II]at h<;>try(cases h;done)
 case alloc=>rfl
 case box=>simp only[pS];rw[aJ h]
 case buildSlice=>simp only[pS];rw[aJ h]
 case store=>rfl
 case makeSlice=>rfl
 case makeMap=>rfl
 case mapUpdate=>rfl
 case insert=>rfl
 case call c=>
  split at h;rename_i d;simp only[pS,yT,d]
  .rename_i f d;simp only[pS,yT,d];split at h
   .rename_i g a b x;obtain⟨t,v,B⟩:=sV q.gl u s x;cases B with
    |fn _ _ _ M L R O N J=>
    simp only[v];split;exact q.inl g _ _ h;rfl
   cases h
  cases h
theorem OS(hF:Wj F ee Fe)(o:Oper)(n d:Nat):wA (Fe n d) o=GP F o:=by
 obtain⟨b,g,f,p,a,guard⟩:=o;cases g<;>simp only[wA,GP,hF.own];cases b<;>rfl
theorem BL(hF:Wj F ee Fe)(o:Oper)(n d:Nat):CH (Fe n d) o=AG F o:=by
 unfold CH AG;rw[hF.own];cases o.dst<;>rfl
theorem Mb(hc:Cn X gl pe)(f:wN call ee)(hF:Wj F ee Fe){s:Af}(a:GS s.S V U fr H)(g:ij P gl pe F s.av fr H){o:Oper}{l:iZ}(h:DU P X call F s o=some l):
  ∃p J pd,Ev (λn d=>Cg P ⟨gl,pe⟩ (Fe n d) ⟨fr,H,s.fq⟩ o=some ⟨p,J,pd⟩)/\xU P gl pe F l V U p J pd:=by
 unfold DU at h;split at h;rename_i d t b;split at h;cases h;rename_i M;split at h;rename_i n z hn hz;split at h;rename_i x;cases h;simp only[aA]at x;obtain⟨⟨k1,k2⟩,k3⟩:=x;obtain⟨z',e1,e2⟩:=zH (V:=V) (U:=U) a.sy.zero hz;have N:z'.cells.length=n:=by rw[<-(qU e2 k2).2.1];exact oT k1
 have W:∃e,o.op= .alloc e:=by
  obtain⟨dst,op,type,pos,Y,guard⟩:=o;cases op<;>simp only[GP]at b<;>first|exact⟨_,rfl⟩|cases b
 refine⟨fr.set d oS,H,some (d,t),.of λn' d'=> ?_,_,aR _,V,U,.refl _,.refl _,rfl,⟨a.sy,a.hp,a.fr.hT tN d⟩,.nil⟩;have K:pS P ⟨gl,pe⟩ (CH (Fe n' d') o) H fr o=none:=by
  obtain⟨e,K⟩:=W;simp only[pS,K]
 unfold Cg;simp only[K,OS hF,b,hn,e1];rw[aH (by simpa using M),aJ ⟨N,by rw[<-a.fr.1];exact pC k3⟩];cases h;cases h;rename_i b;split at h;rename_i u;by_cases i:VP (AG F o) o=true;rw[aJ i]at h;split at h;rename_i rs L;cases h;obtain⟨t,J,j,R,w,V',μ',I,B,q5,q6,q7⟩:=TM hc f hF a L;refine⟨pW fr o.dst t,J,s.fq,j.mono λn d q=> ?_,_,bS.2 ⟨R,w,rfl⟩,V',μ',I,B,rfl,⟨q5,q6,(a.fr.ext I B).put q7 o.dst⟩,.nil⟩;unfold Cg;rw[BL hF];simp only[LY (P:=P) (H:=H) hc a.sy.zero a.fr u i,OS hF,b,q];cases h;rw[aH i]at h;cases h;split at h;rename_i d1 O;cases h;have j:=aGq g O;refine⟨pW fr o.dst (rW fr d1),H,s.fq,.of λn d=> ?_,_,aR _,V,U,.refl _,.refl _,rfl,⟨a.sy,a.hp,a.fr.put (a.fr.get d1) o.dst⟩,KC a.fr.1 g j⟩;unfold Cg;rw[BL hF];simp only[j];split at h;rename_i v hv;cases h;obtain⟨t,j,V',w,I,B⟩:=Fm hc a.sy a.hp a.fr hv;refine⟨pW fr o.dst t,H,s.fq,.of λn d=> ?_,_,aR _,V',U,w,.refl _,rfl,⟨I,a.hp.ext w,(a.fr.ext w (.refl _)).put B o.dst⟩,KC a.fr.1 g j⟩;unfold Cg;rw[BL hF];simp only[j];cases h
theorem Cz(g:GS S V U fr H){d:Tmp}{w:Bool}{a:A}(i:Gm V U a (rW fr d)){l:List (Bool×AS)}(h:Hg S d w a=some l):
  ∃q∈l,q.1=((match fr[d]? with|some (.bool b)=>some b|_ =>none)==some w)/\GS q.2 V U fr H:=by
 unfold Hg at h;have p:∀x,rW fr d=x->x≠oS->fr[d]? =some x:=by
  intro x f j;rw[uG,bC]at f;cases hf:fr[d]? with
  |none=>rw[hf]at f;exact absurd f.symm j|some y=>rw[hf]at f;rw[<-f];rfl
 split at h;rename_i b;cases h;generalize f:rW fr d=x at i;cases i with
 |bool _ u z=>
  obtain⟨o,B,v⟩:=yL g.sy.zero g.sy.cs z;have:=p _ f (by simp);refine⟨_,bS.2 ⟨(u,o),B,rfl⟩,?_,⟨g.sy.len,g.sy.zero,v,g.sy.one⟩,g.hp,g.fr.aS (by rw[f];exact .bool _ _ rfl)⟩;rw[this];cases u<;>cases w<;>rfl
 cases h;refine⟨_,aR _,?_,g.sy,g.hp,g.fr.aS i⟩;generalize f:rW fr d=x at i;cases i with
 |fm _ s I _ =>
  have:s=[]:=by cases s with|nil=>rfl|cons=>simp at I
  subst this;rw[uG,bC]at f;cases hf:fr[d]? with
  |none=>cases w<;>rfl|some y=>rw[hf]at f;simp only[fP]at f;subst f;cases w<;>rfl
 cases h
theorem EE(i:GS S V U fr H){g:gF}{o:Oper}{l:List (Bool×AS)}(h:LV g S o=some l):∃q∈l,q.1=pX g fr o/\GS q.2 V U fr H:=by
 unfold LV at h;unfold pX;split at h;rename_i f;cases h;exact⟨_,aR _,by rw[f],i⟩;rename_i j w f;rw[f];simp only[AJ];split at h;rename_i d K;rw[K];simp only[eD];have b:=i.fr.get d;split at h;rename_i J B;rw[B]at b;cases b with
 |or _ a _ x v=>
  obtain⟨r,z,I⟩:=rD h a x;obtain⟨q,u,s,p⟩:=Cz i v z;exact⟨q,I q u,s,p⟩
 obtain⟨q,u,s,p⟩:=Cz i b h;exact⟨q,u,s,p⟩;cases h
theorem Em(a:GS S V U fr H){i:Tmp}{k:iC}{s:Nat}{c w:Int}(b:V[s]? =some w)(p:rW fr i= .int k (w+c))(f:CL k (w+c))(q:0<=w+c):∀(n:Nat),w+c<n->∃d∈ZF S i k s c n,GS d V U fr H
 |0,h=>by omega
 |v+1,h=>by
  simp only[ZF];by_cases o:w+c=(v:Int);rw[aH];refine⟨_,aO,⟨a.sy.len,a.sy.zero,.cons ⟨w,0,b,a.sy.zero,by omega⟩ (.cons ⟨0,w,a.sy.zero,b,by omega⟩ a.sy.cs),a.sy.one⟩,a.hp,a.fr.aS ?_⟩;rw[p,o];have:=Gm.int (V:=V) (U:=U) k 0 (v:Int) 0 a.sy.zero (by rw[o]at f;simpa using f);simpa using this;simp only[bO,not_or,Bool.not_eq_true];refine⟨?_,?_⟩;cases hq:leq S.cs s c 0 ((v:Int)-1)with
  |false=>rfl|true=>have:=oX a.sy.cs hq b a.sy.zero;omega
  cases hq:leq S.cs 0 ((v:Int)+1) s c with
  |false=>rfl|true=>have:=oX a.sy.cs hq a.sy.zero b;omega
  obtain⟨d,j,g⟩:=Em a b p f q v (by omega);split;exact⟨d,j,g⟩;exact⟨d,aC _ j,g⟩
theorem pT.two{a b:A}{d:gC}(h:pT V U [a,b] d):∃x y,d=[x,y]/\Gm V U a x/\Gm V U b y:=by
 obtain⟨x,r,rfl,i,g⟩:=h.I;obtain⟨y,o,rfl,f,j⟩:=g.I;rw[j.ae];exact⟨x,y,rfl,i,f⟩
theorem aRm{V:gN}{U:gE}{k:A}{o:List A}{s:Nat}{c v:Int}{t:T}(B:V[0]? =some 0)(h:Gm V U (.g7 30 (.agg (k::o)) s c) t)(i:V[s]? =some v)(Y:v+c<=1):Gm V U (.sl (.agg (.int .i64 0 0::o)) s c) t:=by
 cases h with
 |g7 _ _ _ _ _ z w M p q g N=>
 rw[q]at i;cases i;refine .sl _ _ _ _ z _ p q g λx b=> ?_;obtain⟨R,J,O,I⟩:=((default:gy).fin t).1 M;have:=BR p J;subst this
 match z,g,b with
 |[y],_,b=>
  obtain rfl:x=y:=by simpa using b
  obtain⟨r,rfl⟩:=I x rfl;have:=N _ b;cases this with
  |agg _ W L K=>
   refine .agg _ _ (by simpa using L) λj a u d f=> ?_;cases j with
   |zero=>
    simp at d f;subst d f;exact .int .i64 0 0 0 B ⟨by decide,by decide⟩
   |succ j=>exact K (j+1) a u (by simpa using d) (by simpa using f)
 |_ ::_ ::_,g,_ =>simp at g;omega
theorem MP(g:GS S V U fr H){o:Oper}{l:List AS}(h:GD X S o=some l):∃S'∈l,GS S' V U fr H:=by
 unfold GD at h;split at h;rename_i c _ _ _;split at h;rename_i p n R;cases h;have d:=g.fr.get c;rw[R]at d;generalize L:rW fr c=x at d;cases d with
 |bool _ b' O=>
  obtain⟨B,J,I⟩:=yL g.sy.zero g.sy.cs O;exact⟨_,bS.2 ⟨(b',B),J,rfl⟩,⟨g.sy.len,g.sy.zero,I,g.sy.one⟩,g.hp,g.fr.aS (by rw[L];exact .bool _ _ rfl)⟩
 cases h;split at h;rename_i f _;split at h;rename_i a_s ho;cases h;have d:=g.fr.get f;rw[ho]at d;cases d with
 |or _ a _ Z M=>exact⟨_,bS.2 ⟨a,Z,rfl⟩,g.sy,g.hp,g.fr.aS M⟩
 cases h;cases h;rename_i i _;split at h;split at h;rename_i k s c hi;split at h;cases h;split at h;rename_i j;cases h;simp only[aA]at j;have d:=g.fr.get i;rw[hi]at d;generalize L:rW fr i=x at d;cases d with
 |int _ _ _ w W hk=>
  have k1:=oX g.sy.cs j.1 g.sy.zero W;have k2:=oX g.sy.cs j.2 W g.sy.zero;exact Em g W L hk (by omega) 16 (by omega)
 cases h;cases h;cases h;rename_i x _ _;split at h;rename_i a p n L;cases h;have d:=g.fr.get x;rw[L]at d;generalize hy:rW fr x=y at d;cases d with
 |fm _ ts K h2=>
  obtain⟨u,z,rfl,g1,g2⟩:=pT.two ⟨K,h2⟩;cases g2 with
  |bool _ b R=>
   obtain⟨B,J,I⟩:=yL g.sy.zero g.sy.cs R;refine⟨_,bS.2 ⟨(b,B),J,rfl⟩,⟨g.sy.len,g.sy.zero,I,g.sy.one⟩,g.hp,g.fr.aS ?_⟩;have:=pT.cons g1 (pT.cons (show Gm V U (.bool (.lit b)) (.bool b)from .bool _ _ rfl) .nil);rw[hy];exact .fm _ _ this.1 this.2
 cases h;rename_i a _ _;split at h;rename_i q k es s c M;split at h;rename_i Y;cases h;have d:=g.fr.get a;rw[M]at d;have Y:=oT Y;subst Y;obtain⟨v,N⟩:∃v,V[s]? =some v:=by cases d;exact⟨_,‹_›⟩
 have O:tX V (.imp [.le s 0 (1-c)] [.le 0 s (c-2)]) (decide (v+c<=1)):=⟨λe=> .cons ⟨v,0,N,g.sy.zero,by have:=cH e;omega⟩ .nil,λe=> .cons ⟨0,v,g.sy.zero,N,by have:=of_decide_eq_false e;omega⟩ .nil⟩;obtain⟨B,J,I⟩:=yL g.sy.zero g.sy.cs O;refine⟨_,bS.2 ⟨_,J,rfl⟩,?_⟩;by_cases K:v+c<=1;simp only[K,decide_true,cB];exact⟨⟨g.sy.len,g.sy.zero,I,g.sy.one⟩,g.hp,g.fr.aS (aRm g.sy.zero d N K)⟩;simp only[K,decide_false,bI,cN];exact⟨⟨g.sy.len,g.sy.zero,I,g.sy.one⟩,g.hp,g.fr⟩;cases h;cases h;cases h
theorem xU.lift{l a:iZ}{p:jJ}(f:∀y∈l,y∈a)(h:xU P gl pe F l V U fr H p):xU P gl pe F a V U fr H p:=by
 obtain⟨s,d,b⟩:=h;exact⟨s,f s d,b⟩
theorem xU.trans{l:iZ}{p:jJ}(o:rX V V')(i:rX U μ')(h:xU P gl pe F l V' μ' fr H p):xU P gl pe F l V U fr H p:=by
 obtain⟨s,g,a,b,f,d,j⟩:=h;exact⟨s,g,a,b,o.trans f,i.trans d,j⟩
theorem RJ(M:Cn X gl pe)(a:wN call ee)(hF:Wj F ee Fe){s:Af}(Z:GS s.S V U fr H)(j:ij P gl pe F s.av fr H){i:gF}{o:Oper}{l:iZ}(h:YK P X call F i s o=some l):
  ∃f b p,Ev (λn d=>vP P ⟨gl,pe⟩ (Fe n d) i ⟨fr,H,s.fq⟩ o=some ⟨f,b,p⟩)/\xU P gl pe F l V U f b p:=by
 unfold YK at h;split at h;rename_i gs B;obtain⟨q,Y,w,v⟩:=EE Z B;obtain⟨r,g,z⟩:=rD h q Y;split at g;rename_i I;rw[I]at w;split at g;rename_i ss K;obtain⟨L,R,p2⟩:=MP v K;obtain⟨u,O,W⟩:=rD g L R;obtain⟨f,b,p,x,J⟩:=Mb (s:={s with S:=L}) M a hF p2 j O;refine⟨f,b,p,x.mono λn d e=> ?_,J.lift λy N=>z y (W y N)⟩;rw[RL,aJ w.symm];exact e;obtain⟨f,b,p,x,J⟩:=Mb (s:={s with S:=q.2}) M a hF v j g;refine⟨f,b,p,x.mono λn d e=> ?_,J.lift z⟩;rw[RL,aJ w.symm];exact e;rename_i I;cases g;refine⟨pW fr o.dst oS,H,s.fq,.of λn d=> ?_,_,z _ (aR _),V,U,.refl _,.refl _,rfl,⟨v.sy,v.hp,v.fr.put tN o.dst⟩,.nil⟩;rw[RL,aH (by rw[<-w];exact I)];cases h
theorem Qm{E:uW}{G:Fc}{a:gF}{s:Fx}{o:Oper}{d:Tmp}{t:gB}(j:s.fq=some (d,t))(h:∀(p:gB) (i:Tmp) (x:jH),o.op= .store p (.tmp i) x->o.dst=none->o.guard=none->False):
  wL P E G a s o=if rQ a o d then none else vP P E G a s o:=by
 unfold wL;rw[j];simp only
 try(split<;>first|rfl|(rename_i g f b;exact(h _ _ _ g f b).elim))
theorem Ql(R:Cn X gl pe)(a:wN call ee)(hF:Wj F ee Fe){s:Af}(g:GS s.S V U fr H)(K:ij P gl pe F s.av fr H){J:gF}{o:Oper}{l:iZ}(h:aAg P X call F J s o=some l):
  ∃f v z,Ev (λn d=>wL P ⟨gl,pe⟩ (Fe n d) J ⟨fr,H,s.fq⟩ o=some ⟨f,v,z⟩)/\xU P gl pe F l V U f v z:=by
 unfold aAg at h;split at h;rename_i N;obtain⟨f,v,z,I,B⟩:=RJ R a hF g K h;refine⟨f,v,z,I.mono λn d e=> ?_,B⟩;unfold wL;simp only[N]at e⊢;exact e;rename_i d t N;split at h;rename_i t' d' x ho w M;split at h;rename_i j;have j:=oT j;split at h;rename_i ht;split at h;rename_i y n hy hn;split at h;rename_i hk;cases h;simp only[aA]at hk;obtain⟨k1,k2,k3⟩:=hk;obtain⟨u,I,B⟩:=sV R.gl g.sy.zero g.fr hy;obtain⟨_,Z⟩:=qU B k1;have W:u.cells.length=n:=by rw[<-Z.1];exact oT k2
 have i:∀O d',wL P ⟨gl,pe⟩ (Fe O d') J ⟨fr,H,s.fq⟩ o=some (YJ (Fe O d') ⟨fr,H,s.fq⟩ d t u):=λO d2=>by
  unfold wL;simp only[N,ho,w,M,I,hn];rw[aJ j,aJ ht,aJ ⟨W,BT Z k3⟩]
 by_cases p:F (d+1000)=true;refine⟨fr.set d (.ptr H.next 0),H.new {elem:=t,sz:=0,cells:=u.cells},none,.of λO d2=> ?_,_,aR _,?_⟩;rw[i];unfold YJ;rw[hF.own,aJ p];obtain⟨V',μ',q3,q4,q5,q6,q7⟩:=RC (o:= .fix t y.cells) (b:={elem:=t,sz:=0,cells:=u.cells}) g.sy g.hp ⟨⟨rfl,rfl⟩,Z⟩;unfold Un;rw[aJ p];exact⟨V',μ',q3,q4,rfl,⟨q5,q6,(g.fr.ext q3 q4).hT q7 d⟩,.nil⟩;refine⟨fr.set d (.ref u 0),H,none,.of λO d2=> ?_,_,aR _,?_⟩;rw[i];unfold YJ;rw[hF.own,aH p];unfold Un;rw[aH p];exact⟨V,U,.refl _,.refl _,rfl,⟨g.sy,g.hp,g.fr.hT (.ref _ _ _ k1 B) d⟩,.nil⟩;cases h;cases h;cases h;rename_i j;split at h;cases h;rename_i L;obtain⟨f,v,z,I,B⟩:=RJ R a hF g K h;refine⟨f,v,z,I.mono λn d2 e=> ?_,B⟩;unfold wL;simp only[N,ho,w,M]at e⊢;rw[aH (λq=>j (by rw[q];simp)),aH L];exact e;rename_i Y;split at h;cases h;rename_i L;obtain⟨f,v,z,I,B⟩:=RJ R a hF g K h;refine⟨f,v,z,I.mono λn d2 e=> ?_,B⟩;rw[Qm N Y,aH L];exact e
theorem Jr(N:Cn X gl pe)(f:wN call ee)(hF:Wj F ee Fe){u:gF}:∀(K:hU) (s:Af) (V:gN) (U:gE) (fr:gC) (H:Hp) (l:iZ),GS s.S V U fr H->ij P gl pe F s.av fr H->Aj P X call F u K s=some l->
  ∃p J L,Ev (λn d=>pU P ⟨gl,pe⟩ (Fe n d) u K ⟨fr,H,s.fq⟩=some ⟨p,J,L⟩)/\xU P gl pe F l V U p J L
 |[],s,V,U,fr,H,l,w,g,h=>by
  simp only[Aj]at h;cases h;exact⟨fr,H,s.fq,.of λn d=>rfl,_,aR _,V,U,.refl _,.refl _,rfl,w,g⟩
 |o::j,s,V,U,fr,H,l,w,g,h=>by
  simp only[Aj]at h;split at h;rename_i q hq;obtain⟨fr1,H1,pd1,Z,I,m1,V1,μ1,W,x2,x3,g1,x⟩:=Ql N f hF w g hq;obtain⟨r,Y,r2⟩:=rD h I m1;obtain⟨z,O,v,M,k2⟩:=Jr N f hF j I V1 μ1 fr1 H1 r g1 x Y;rw[x3]at M;refine⟨z,O,v,(Z.and M).mono λn d ⟨a,b⟩=> ?_,(k2.lift r2).trans W x2⟩;simp only[pU,a];exact b;cases h
end
end Go.Ps
namespace Go.Ps
noncomputable section
structure RV(r r':Lr):Prop where
 fr:r'.fr=r.fr
 n:r'.n=r.n
 ps:r'.ps=r.ps
 iF:r'.iF=r.iF
 bd:r'.bd=r.bd
 ow:r'.ow=r.ow
theorem RV.refl(r:Lr):RV r r:=⟨rfl,rfl,rfl,rfl,rfl,rfl⟩
theorem RV.trans{a b c:Lr}(h:RV a b)(k:RV b c):RV a c:=⟨k.fr.trans h.fr,k.n.trans h.n,k.ps.trans h.ps,k.iF.trans h.iF,k.bd.trans h.bd,k.ow.trans h.ow⟩
structure qF(H H':Hp):Prop where
 nx:H.next<=H'.next
 old:∀l,l<H.next->H.any l=none->H'.any l=none
 lp:∀l,l<H.next->∀o' r',H'.any l=some o'->o'.me=some (.loop r')->∃o r,H.any l=some o/\o.me=some (.loop r)/\RV r r'
theorem qF.refl(H:Hp):qF H H:=⟨bB _,λ_ _ h=>h,λ_ _ o a d b=>⟨o,a,d,b,.refl _⟩⟩
theorem qF.trans{A B C:Hp}(h:qF A B)(k:qF B C):qF A C:=⟨dK h.nx k.nx,λl a q=>k.old l (cX a h.nx) (h.old l a q),λl a o u d b=>by
 obtain⟨z,s,v,j,f⟩:=k.lp l (cX a h.nx) o u d b;obtain⟨i,g,x,p,w⟩:=h.lp l a z s v j
 exact⟨i,g,x,p,w.trans f⟩⟩
theorem qF.new(H:Hp)(o:Ob):qF H (H.new o):=⟨Nat.le_succ _,λl d q=>by rw[rN,aH (by omega)];exact q,λl d f a h b=>by
 rw[rN,aH (by omega)]at h
 exact⟨f,a,h,b,.refl _⟩⟩
theorem qF.drop(H:Hp)(l:Nat):qF H (H.drop l):=⟨bB _,λm _ q=>by rw[qY];split<;>first|rfl|exact q,λm _ o a h b=>by
 rw[qY]at h;split at h;cases h
 exact⟨o,a,h,b,.refl _⟩⟩
theorem qF.put{H:Hp}{l:Nat}{f:Ob}(i:H.any l=some f)(o:Ob)(h:∀r,o.me≠some (.loop r)):qF H (H.put l o):=⟨bB _,λm _ q=>by rw[qP,aH (λe=>by rw[e,i]at q;cases q)];exact q,λm _ g b a d=>by
 rw[qP]at a;split at a;cases a;exact absurd d (h b)
 exact⟨g,b,a,d,.refl _⟩⟩
theorem qF.cf{H:Hp}{l:Nat}{o:Ob}{r:Lr}(d:H.any l=some o)(g:o.me=some (.loop r))(a:Lr)(j:RV r a):qF H (H.put l (CN a)):=⟨bB _,λm _ q=>by rw[qP,aH (λe=>by rw[e,d]at q;cases q)];exact q,λm _ i f h b=>by
 rw[qP]at h;split at h;rename_i e;subst e;cases h;cases b;exact⟨o,r,d,g,j⟩
 exact⟨i,f,h,b,.refl _⟩⟩
theorem qF.hD{H:Hp}{l:Nat}{a:Ob}(d:H.any l=some a)(o:Ob)(c:Nat)(b:gS):qF H (Go.Ps.hD H l o c b):=qF.put d _ (λr h=>by cases h)
section
variable{P:gD}{E:uW}{F:Fc}
theorem ZK{H a:Hp}{t:gB}{p x:T}(h:vZ P H t p x=some a):qF H a:=by
 unfold vZ at h;split at h;split at h;rename_i o n b d;split at h;cases h;exact qF.put (pD b).1 _ (λr e=>by rw[show _ =o.me from rfl,(pD b).2]at e;cases e);cases h;cases h;cases h
theorem Ft{H a:Hp}{t b:gB}{s x r:T}(h:CP P H t b s x=some (r,a)):qF H a:=by
 unfold CP at h;split at h;split at h;split at h;cases h;cases h;exact qF.refl _;cases h;cases h
theorem Lj{H a:Hp}{t b:gB}{s x r:T}(h:rO P H t b s x=some (r,a)):qF H a:=by
 unfold rO at h;split at h;split at h;split at h;cases h;split at h;split at h;cases h;exact .refl _;split at h;cases h;exact .new _ _;cases h;split at h;cases h;exact .refl _;split at h;cases h;exact .new _ _;cases h;split at h;cases h;exact .refl _;split at h;split at h;cases h;exact(qF.drop _ _).trans (.new _ _);cases h;cases h;cases h;cases h;cases h
theorem aAv{H a:Hp}{p:Bool}{t b:gB}{s x r:T}(h:TG P p H t b s x=some (r,a)):qF H a:=by
 unfold TG at h;split at h;exact Ft h;exact Lj h
theorem aCc{H a:Hp}{t:gB}{l c r:T}(h:sX P H t l c=some (r,a)):qF H a:=by
 unfold sX at h;split at h;split at h;split at h;cases h;exact .new _ _;cases h;cases h;cases h
theorem EP{H:Hp}{t:gB}{m k:T}{l:Nat}{o:Ob}{c:Nat}{b:gS}{a:gB}{r:jI}(h:GQ P H t m k=some (l,o,c,b,a,r)):H.any l=some o:=by
 unfold GQ at h;split at h;split at h;split at h;rename_i d;split at h;split at h;split at h;cases h;exact d;cases h;cases h;cases h;cases h;cases h;cases h
theorem Qx{H b:Hp}{t:gB}{m k x:T}(h:Aq P H t m k x=some b):qF H b:=by
 unfold Aq at h;split at h;rename_i a;split at h;cases h;exact .hD (EP a) _ _ _;cases h;rename_i a;cases h;exact .hD (EP a) _ _ _;cases h
theorem Tg{H b:Hp}{t:gB}{m k r:T}(h:HO P H t m k=some (r,b)):qF H b:=by
 unfold HO at h;split at h;rename_i a;split at h;cases h;exact .hD (EP a) _ _ _;cases h;rename_i a;split at h;cases h;exact .hD (EP a) _ _ _;cases h;cases h
theorem Mr{H a:Hp}{m s x:T}(h:vH H m s x=some a):qF H a:=by
 unfold vH at h;split at h;split at h;rename_i b;split at h;split at h;cases h;exact .hD b _ _ _;cases h;cases h;cases h;cases h
theorem aGs{H b:Hp}{t:gB}{m k:T}(h:Mf P H t m k=some b):qF H b:=by
 unfold Mf at h;split at h;rename_i a;cases h;exact .hD (EP a) _ _ _;rename_i a;cases h;exact .hD (EP a) _ _ _;cases h
theorem NT(hF:∀f j H r b,F.ee f j H=some (r,b)->qF H b){H b:Hp}{g:gC}{o:Oper}{v:T}(h:xW P E F H g o=some (v,b)):qF H b:=by
 obtain⟨q,i,w,u,d,guard⟩:=o;cases i<;>simp only[xW]at h<;>try(cases h;done)
 case alloc t=>split at h<;>cases h;exact .new _ _
 case box t x=>split at h<;>cases h;exact .new _ _
 case buildSlice t len ps=>
  split at h;split at h;split at h;cases h;exact .refl _;split at h;cases h;exact .new _ _;cases h;cases h;cases h
 case store t p x=>
  split at h;split at h;rename_i a;cases h;exact ZK a;cases h;cases h
 case makeSlice t l c=>
  split at h;exact aCc h;cases h
 case makeMap t r=>
  split at h;split at h;cases h;exact .new _ _;cases h;cases h
 case mapUpdate t m k x=>
  split at h;split at h;rename_i a;cases h;exact Qx a;cases h;cases h
 case insert t m k x=>
  split at h;split at h;rename_i a;cases h;exact Qx a;cases h;cases h
 case mapEntry t m k=>
  split at h;exact Tg h;cases h
 case entryStore t m s x=>
  split at h;split at h;rename_i a;cases h;exact Mr a;cases h;cases h
 case call c=>
  split at h;split at h;split at h;exact hF _ _ _ _ _ h;cases h;cases h;split at h;split at h;split at h;rename_i a;cases h;exact aGs a;cases h;cases h;cases h;split at h;split at h;exact aAv h;cases h;cases h;cases h
theorem MH(hF:∀f i H r b,F.ee f i H=some (r,b)->qF H b){a:gF}{s d:Fx}{o:Oper}(h:vP P E F a s o=some d):qF s.H d.H:=by
 unfold vP at h;split at h;split at h;cases h;exact .refl _;split at h;split at h;cases h;split at h;split at h;cases h;exact .refl _;cases h;cases h;split at h;rename_i g;cases h;exact NT hF g;cases h;cases h;exact .refl _
theorem Ep(hF:∀f g H r b,F.ee f g H=some (r,b)->qF H b){a:gF}{s d:Fx}{o:Oper}(h:wL P E F a s o=some d):qF s.H d.H:=by
 unfold wL at h;split at h;exact MH hF h;split at h;split at h;split at h;split at h;split at h;cases h;unfold YJ;split;exact .new _ _;exact .refl _;cases h;cases h;cases h;split at h;cases h;exact MH hF h;split at h;cases h;exact MH hF h
theorem BG(hF:∀f i H r d,F.ee f i H=some (r,d)->qF H d){b:gF}:∀{l:hU} {s a:Fx},pU P E F b l s=some a->qF s.H a.H
 |[],s,a,h=>by cases h;exact .refl _
 |o::l,s,a,h=>by
  simp only[pU]at h;split at h;rename_i j g;exact(Ep hF g).trans (BG hF h);cases h
theorem JI(hF:∀f g H r d,F.ee f g H=some (r,d)->qF H d){b:gF}:∀{l:hU} {m:Nat} {s a:Fx},qI P E F b l m s=some a->qF s.H a.H
 |[],m,s,a,h=>by
  simp only[qI]at h;split at h;cases h;exact .refl _;cases h
 |o::l,m,s,a,h=>by
  simp only[qI]at h;split at h;split at h;exact BG hF h;cases h;split at h;cases h;split at h;split at h;have:=JI hF h;exact this;split at h;split at h;cases h;split at h;split at h;have:=JI hF h;exact this;cases h;cases h;split at h;exact BG hF h;cases h;have:=JI hF h;exact this
theorem AE(hF:∀f q H r i,F.ee f q H=some (r,i)->qF H i){b:gF}{A:gU}{p l:Nat}:∀{g:hU} {m:Nat} {d:Bool} {s a:Fx},sW P E F b A p l g m d s=some a->qF s.H a.H
 |[],m,d,s,a,h=>by
  simp only[sW]at h;split at h;cases h;exact .refl _;cases h
 |o::g,m,d,s,a,h=>by
  simp only[sW]at h;split at h;exact BG hF h;split at h;cases h;split at h;split at h;cases h;split at h;split at h;split at h;split at h;rename_i j;exact(ZK j).trans (AE hF h);cases h;cases h;cases h;cases h;split at h;split at h;split at h;split at h;have:=AE hF h;exact this;cases h;cases h;split at h;split at h;have:=AE hF h;exact this;cases h;cases h;have:=AE hF h;exact this
theorem Su(hF:∀f d H r a,F.ee f d H=some (r,a)->qF H a){o:gF}{b:gC}{H:Hp}{s:Fx}(h:rR P E F o b H=some s):qF H s.H:=by
 unfold rR at h;split at h;split at h;split at h;have:=AE hF h;exact this;cases h;cases h;have:=JI hF h;exact this
theorem Ta(hF:∀f L H r d,F.ee f L H=some (r,d)->qF H d){x:gW}{H d:Hp}{w:gC}{o:Oper}{v:T}(h:GW P E F x H w o=some (v,d)):qF H d:=by
 unfold GW at h;split at h;exact NT hF h;rename_i l _;split at h;rename_i R j;split at h;rename_i W H1 z;cases h;obtain⟨B,b⟩:=pD j;have k:=NT hF z;have u:∀m,m≠l->(H.drop l).any m=H.any m:=λm b=>by rw[qY,aH b]
 refine⟨k.nx,λm b q=> ?_,λm i M O g p=> ?_⟩;have a:m≠l:=λe=>by rw[e,B]at q;cases q
 rw[qP,aH a];exact k.old m b (by rw[u m a];exact q);rw[qP]at g;split at g;cases g;rw[b]at p;cases p;rename_i a;obtain⟨K,I,s,N,J⟩:=k.lp m i M O g p;rw[u m a]at s;exact⟨K,I,s,N,J⟩;cases h;cases h
theorem DX(hF:∀f u H r a,F.ee f u H=some (r,a)->qF H a){i:gF}{q:gW}{s:Pd}:∀(b:hU) (m:Nat) (fr:gC) (H:Hp) (f:gC) (a:Hp) (j ds:iV),GX P E F i q s b m fr H=some (f,a,j,ds)->qF H a
 |[],m,fr,H,f,a,j,ds,h=>by cases h;exact .refl _
 |o::b,m,fr,H,f,a,j,ds,h=>by
  simp only[GX]at h;split at h;cases h;split at h;cases h;exact DX hF b _ _ _ _ _ _ _ h;split at h;split at h;split at h;rename_i g;cases h;exact DX hF b _ _ _ _ _ _ _ g;cases h;split at h;rename_i p;split at h;rename_i g;cases h;exact(Ta hF p).trans (DX hF b _ _ _ _ _ _ _ g);cases h;cases h;exact DX hF b _ _ _ _ _ _ _ h
theorem Xi(hF:∀f i H r a,F.ee f i H=some (r,a)->qF H a){o:gF}{d:gW}{b:gC}{H:Hp}{s:Fx}(h:AW P E F o d b H=some s):qF H s.H:=by
 unfold AW at h;split at h;rename_i g;split at h;cases h;exact DX hF _ _ _ _ _ _ _ _ g;cases h;cases h
theorem Mi(hF:∀f i H r b,F.ee f i H=some (r,b)->qF H b){o:gF}{g a:Bool}{d:gC}{H:Hp}{s:Fx}(h:AU P E F o g a d H=some s):qF H s.H:=by
 unfold AU at h;split at h;exact Xi hF h;split at h;exact Xi hF h;exact Su hF h
end
section
variable{P:gD}{E:uW}{ee:gK}{yd:gR}{ow:hJ}{n:Nat}
abbrev ZQ(ee:gK):Prop:=∀f b H r a,ee f b H=some (r,a)->qF H a
abbrev Ky(f:gR):Prop:=∀l d H b a,f l d H=some (b,a)->qF H a
theorem Xu(hF:ZQ ee)(o:hJ):∀f b H r a,(LO o ee).ee f b H=some (r,a)->qF H a:=by rw[FH];exact hF
theorem EQ(hF:ZQ ee)(a:Ky yd){b:gF}:∀{l:hU} {s s':Fx},KQ P E ee yd ow b l s=some s'->qF s.H s'.H
 |[],s,s',h=>by cases h;exact .refl _
 |o::l,s,s',h=>by
  simp only[KQ]at h;split at h;split at h;rename_i f;exact(a _ _ _ _ _ f).trans (EQ hF a h);cases h;split at h;rename_i g d;exact(Ep (Xu hF ow) d).trans (EQ hF a h);cases h
theorem Tb{l:Nat}{b f:gC}{H a:Hp}{x:X}(h:WF l b H=some (x,f,a)):a=H.drop l:=by
 obtain⟨o,d,_,_,h⟩:=xX h;split at h;cases h;split at h<;>cases h<;>rfl
theorem uJ(hF:ZQ ee)(z:Ky yd){w:gW}:∀(c:Code) (fr:gC) (H:Hp) (x:X) (f:gC) (i:Hp),qA P E ee yd ow n w c fr H=some (x,f,i)->qF H i:=by
 intro c
 induction c with
 |skip=>intro fr H x f i h;cases h;exact .refl _|label l=>intro fr H x f i h;cases h;exact .refl _|exit id=>intro fr H x f i h;cases h;exact .refl _|ret=>intro fr H x f i h;cases h;exact .refl _
 |region id B v=>
  intro fr H x f i h;simp only[qA]at h;split at h;rename_i o;cases h;split at o;exact Mi (Xu hF ow) o;exact EQ hF z o;cases h
 |seq a b j p=>
  intro fr H x f i h;simp only[qA]at h;split at h;rename_i o;exact(j _ _ _ _ _ o).trans (p _ _ _ _ _ h);exact j _ _ _ _ _ h
 |cond c a b j p=>
  intro fr H x f i h;simp only[qA]at h;split at h;split at h;exact j _ _ _ _ _ h;exact p _ _ _ _ _ h;cases h
 |block id c q=>
  intro fr H x f i h;simp only[qA]at h;split at h;rename_i o;split at h<;>cases h<;>exact q _ _ _ _ _ o;exact q _ _ _ _ _ h
 |loop c q=>
  intro fr H x f i h;simp only[qA]at h;have u:∀(k:Nat) (fr:gC) (H:Hp),oW.gx (λfr H=>qA P E ee yd ow n w c fr H) k fr H=some (x,f,i)->qF H i:=by
   intro k
   induction k with
   |zero=>intro fr H h;cases h
   |succ k s=>
    intro fr H h;simp only[oW.gx]at h;split at h;rename_i o;exact(q _ _ _ _ _ o).trans (s _ _ h);exact q _ _ _ _ _ h
  exact u n fr H h
 |rangeFunc g J a b _ _ =>
  intro fr H x f i h;simp only[qA]at h;split at h;split at h;split at h;rename_i I;rw[Tb h];exact((qF.new _ _).trans (hF _ _ _ _ _ I)).trans (.drop _ _);cases h;cases h;cases h
 |_ =>intro fr H x f i h;cases h
theorem Pu{l:Nat}{H f:Hp}{x:X}{b:Bool}(h:ML l H x=some (b,f)):qF H f:=by
 obtain⟨o,g,d,a,h⟩:=xX h;cases x with
 |normal=>cases h;exact .cf d a _ ⟨rfl,rfl,rfl,rfl,rfl,rfl⟩|exit id=>cases h;exact .cf d a _ ⟨rfl,rfl,rfl,rfl,rfl,rfl⟩|ret=>cases h;exact .cf d a _ ⟨rfl,rfl,rfl,rfl,rfl,rfl⟩
theorem Pq(hF:ZQ ee)(f:Ky yd):Ky (λl g H=>JA P E ee yd n l g H):=by
 intro l g H b v h;obtain⟨o,s,x,u,h⟩:=xX h;split at h;split at h;rename_i fr1 H1 p;refine(uJ hF f _ _ _ _ _ _ p).trans ?_;obtain⟨w,i,d,a,h⟩:=xX h;split at h;split at h;rename_i j;exact((qF.cf d a {i with st:= .busy} ⟨rfl,rfl,rfl,rfl,rfl,rfl⟩).trans (uJ hF f _ _ _ _ _ _ j)).trans (Pu h);cases h;cases h;cases h;cases h
theorem LI(H:Hp):∀(a:gU),qF H (H.aw a)
 |[]=> .refl _|l::a=>(LI H a).trans (qF.drop _ _)
theorem Mu{t r:T}{H a:Hp}(h:PU ow t H=some (r,a)):qF H a:=by
 unfold PU at h;split at h;cases h;exact .refl _;split at h;split at h;cases h;exact LI _ _;cases h;cases h
theorem aHw(hF:ZQ ee)(b:Ky yd){f:gX}{g:gC}{H d:Hp}{r:T}(h:kg P E ee yd ow n f g H=some (r,d)):qF H d:=by
 unfold kg at h;split at h;split at h;split at h;rename_i a;split at h;exact(uJ hF b _ _ _ _ _ _ a).trans (Mu h);cases h;exact uJ hF b _ _ _ _ _ _ a;cases h;rename_i a;split at h;exact(uJ hF b _ _ _ _ _ _ a).trans (Mu h);cases h;exact uJ hF b _ _ _ _ _ _ a;cases h;cases h;cases h;cases h
theorem Sp{tB:gB}{d:gC}{H a:Hp}{r:T}(h:NM tB d H=some (r,a)):qF H a:=by
 unfold NM at h;split at h;split at h;rename_i o b;split at h;split at h;cases h;exact qF.put (pD b).1 _ (λr e=>by rw[show _ =o.me from rfl,(pD b).2]at e;cases e);cases h;split at h;cases h;exact .refl _;cases h;cases h;cases h;cases h
theorem aDw{tB d:gB}{b:gC}{H a:Hp}{r:T}(h:Ao tB d b H=some (r,a)):qF H a:=by
 unfold Ao at h;split at h;split at h;split at h;split at h;cases h;exact .refl _;split at h;split at h;split at h;cases h;exact .drop _ _;cases h;cases h;cases h;cases h;cases h;cases h;cases h
theorem aAz{tS:gB}{d:gC}{H a:Hp}{r:T}(h:Se tS d H=some (r,a)):qF H a:=by
 unfold Se at h;split at h;split at h;rename_i o b;split at h;split at h;cases h;exact qF.put (pD b).1 _ (λr e=>by rw[show _ =o.me from rfl,(pD b).2]at e;cases e);cases h;cases h;cases h;cases h
theorem aMz:ZQ MR:=λf i H r g h=>by
 unfold MR at h;by_cases d:f=123;rw[aJ d]at h;exact Sp h;rw[aH d]at h;by_cases b:f=79;rw[aJ b]at h;exact aDw h;rw[aH b]at h;by_cases a:f=130;rw[aJ a]at h;exact aAz h;rw[aH a]at h;cases h
theorem sI{own:iA}{ok:hC}:∀d,ZQ (qW P E own ok n d).ee/\Ky (qW P E own ok n d).yd
 |0=>⟨λ_ _ _ _ _ h=>(by cases h),λ_ _ _ _ _ h=>(by cases h)⟩
 |d+1=>by
  obtain⟨b,a⟩:=sI (own:=own) (ok:=ok) d;refine⟨λf i H r g h=> ?_,Pq b a⟩;simp only[qW]at h;split at h;exact aHw b a h;exact aMz _ _ _ _ _ h
end
end
variable[Inhabited gy][jm]
section
variable{V V':gN}{U μ':gE}{X:AX}{gl:gG}{pe:gM}{H:Hp}{S:AS}{P:gD}
variable{call:FuncId->List A->AS->Option (List AR)}{ee:gQ}{F:hJ}{Fe:Nat->Nat->Fc}{fr:gC}
theorem VY(x:Cn X gl pe){s:Af}(a:GS s.S V U fr H)(b:ij P gl pe F s.av fr H){o:Oper}{l:iZ}(h:DU P X call F s o=some l)(u:GP F o=none)(g:II X (AG F o) s.S.fr o=false):
  ∃t,pS P ⟨gl,pe⟩ (AG F o) H fr o=some t/\xU P gl pe F l V U (pW fr o.dst t) H s.fq:=by
 unfold DU at h;rw[u]at h;simp only at h;rw[aH (by rw[g];simp)]at h;split at h;rename_i d1 f;cases h;have q:=aGq b f;exact⟨_,q,_,aR _,V,U,.refl _,.refl _,rfl,⟨a.sy,a.hp,a.fr.put (a.fr.get d1) o.dst⟩,KC a.fr.1 b q⟩;split at h;rename_i v p;cases h;obtain⟨t,q,V',d,j,i⟩:=Fm x a.sy a.hp a.fr p;exact⟨t,q,_,aR _,V',U,d,.refl _,rfl,⟨j,a.hp.ext d,(a.fr.ext d (.refl _)).put i o.dst⟩,KC a.fr.1 b q⟩;cases h
theorem Sq{s:Af}(b:GS s.S V U fr H){o:Oper}{l:iZ}(h:DU P X call F s o=some l){d:Tmp}{t:gB}(i:GP F o=some (d,t)):
  s.fq.isSome=false/\pS P ⟨gl,pe⟩ (AG F o) H fr o=none/\(∃n z,uI P t=some n/\wM P t=some z/\z.cells.length=n)/\xU P gl pe F l V U (fr.set d oS) H (some (d,t)):=by
 unfold DU at h;rw[i]at h;simp only at h;split at h;cases h;rename_i f;split at h;rename_i n z J w;split at h;rename_i a;cases h;simp only[aA]at a;obtain⟨⟨k1,k2⟩,k3⟩:=a;obtain⟨p,u,B⟩:=zH (V:=V) (U:=U) b.sy.zero w;have g:p.cells.length=n:=by rw[<-(qU B k2).2.1];exact oT k1
 refine⟨by simpa using f,?_,⟨n,p,J,u,g⟩,_,aR _,V,U,.refl _,.refl _,rfl,⟨b.sy,b.hp,b.fr.hT tN d⟩,.nil⟩;obtain⟨I,x,q,v,j,guard⟩:=o;cases x<;>simp only[GP]at i<;>first|rfl|cases i
 cases h;cases h
theorem Mh(hc:Cn X gl pe)(R:wN call ee)(hF:Wj F ee Fe){ops:gF}:∀(os:hU) (m:Nat) (s:Af) (V:gN) (U:gE) (fr:gC) (H:Hp) (l:iZ),GS s.S V U fr H->ij P gl pe F s.av fr H->NQ P X call F ops os m s=some l->
  ∃f b p,Ev (λn d=>qI P ⟨gl,pe⟩ (Fe n d) ops os m ⟨fr,H,s.fq⟩=some ⟨f,b,p⟩)/\xU P gl pe F l V U f b p
 |[],m,s,V,U,fr,H,l,hg,W,h=>by
  simp only[NQ]at h;split at h;rename_i hp;cases h;exact⟨fr,H,none,.of λn d=>by simp only[qI,hp],_,aR _,V,U,.refl _,.refl _,hp,hg,W⟩;cases h
 |o::a,m,s,V,U,fr,H,l,hg,W,h=>by
  have ih:=Mh hc R hF (ops:=ops) a;simp only[NQ]at h;have N:∀fr H,KA ops ⟨fr,H,s.fq⟩ o=Pj ops s o:=λfr H=>rfl;have Y:∀{j:AS} {l':iZ},(∀y∈l',y∈l)->GS j V U fr H->rG (tU ops.toList []) m ops.size=true->Aj P X call F ops (o::a) {s with S:=j}=some l'->
    ∃f b p,Ev (λn d=>pU P ⟨gl,pe⟩ (Fe n d) ops (o::a) ⟨fr,H,s.fq⟩=some ⟨f,b,p⟩)/\xU P gl pe F l V U f b p:=by
   intro j l' hl hg' _ hs';obtain⟨f,b,p,e1,O⟩:=Jr hc R hF (o::a) {s with S:=j} V U fr H l' hg' W hs';exact⟨f,b,p,e1,O.lift hl⟩
  split at h;rename_i L;split at h;rename_i i;obtain⟨f,b,p,e1,O⟩:=Y (λy h=>h) hg i h;refine⟨f,b,p,e1.mono λn d e=> ?_,O⟩;simp only[qI,N];rw[aJ L,aJ i];exact e;cases h;rename_i L;split at h;cases h;rename_i J;have J:¬yR ⟨fr,H,s.fq⟩ o=false:=by
   intro q;apply J;unfold yR at q;unfold PP;split at q;rename_i d hd;rw[hd];simp only[decide_eq_false_iff_not]at q;simp only;rw[hg.fr.1];cases hb:Nat.blt d fr.length with
   |false=>rfl|true=>exact absurd (pC hb) q
   cases q
  split at h;rename_i gs hgs;obtain⟨q,m1,m2,m3⟩:=EE hg hgs;obtain⟨r,K,r2⟩:=rD h q m1;split at K;rename_i hq;rw[hq]at m2;have g:∀{j:AS} {u:iZ},GS j V U fr H->GP F o=none->II X (AG F o) j.fr o=false->DU P X call F {s with S:=j} o=some u->∀{v:iZ},AP (NQ P X call F ops a (m+1)) u=some v->(∀y∈v,y∈l)->
    ∃f b p,Ev (λn d=>qI P ⟨gl,pe⟩ (Fe n d) ops (o::a) m ⟨fr,H,s.fq⟩=some ⟨f,b,p⟩)/\xU P gl pe F l V U f b p:=by
   intro j u g' hp M hu v hv hl;obtain⟨t,e1,s1,k1,V1,μ1,x1,x2,x3,g1,av1⟩:=VY (s:={s with S:=j}) hc g' W hu hp M;obtain⟨w,w1,w2⟩:=rD hv s1 k1;obtain⟨f,b,p,O,e3⟩:=ih (m+1) s1 V1 μ1 _ _ w g1 av1 w1;refine⟨f,b,p,O.mono λn d e=> ?_,(e3.lift λy Z=>hl y (w2 y Z)).trans x1 x2⟩;simp only[qI,N];rw[aH L,aH J,aJ m2.symm,BL hF,e1];simp only;rw[x3]at e;exact e
  have B:∀{j:AS} {u:iZ},GS j V U fr H->GP F o=none->II X (AG F o) j.fr o=true->(if(VP (AG F o) o&&rG (tU ops.toList []) m ops.size)=true then Aj P X call F ops (o::a) {s with S:=j}else none)=some u->(∀y∈u,y∈l)->
    ∃f b p,Ev (λn d=>qI P ⟨gl,pe⟩ (Fe n d) ops (o::a) m ⟨fr,H,s.fq⟩=some ⟨f,b,p⟩)/\xU P gl pe F l V U f b p:=by
   intro j u g' hp M hu hl;split at hu;rename_i i;simp only[aA]at i;obtain⟨hbs,i⟩:=i;obtain⟨f,b,p,e1,O⟩:=Y hl g' i hu;refine⟨f,b,p,e1.mono λn d e=> ?_,O⟩;simp only[qI,N];rw[aH L,aH J,aJ m2.symm,BL hF,LY (P:=P) (H:=H) hc g'.sy.zero g'.fr M hbs];simp only[OS hF,hp];rw[aJ i];exact e;cases hu
  split at K;rename_i dt I;split at K;rename_i ss hss;obtain⟨d,t⟩:=dt;obtain⟨k1,k2,⟨n0,z,k3,k4,k5⟩,s1,k6,V1,μ1,x1,x2,x3,g1,av1⟩:=Sq (gl:=gl) (pe:=pe) (s:={s with S:=q.2}) m3 hss I;obtain⟨w,w1,w2⟩:=rD K s1 k6;obtain⟨f,b,p,O,e3⟩:=ih (m+1) s1 V1 μ1 _ _ w g1 av1 w1;refine⟨f,b,p,O.mono λn d' e=> ?_,(e3.lift λy Z=>r2 y (w2 y Z)).trans x1 x2⟩;simp only[qI,N];rw[aH L,aH J,aJ m2.symm,BL hF,k2];simp only[OS hF,I,k3,k4];rw[aH (by simpa using k1),aJ k5];rw[x3]at e;exact e;cases K;rename_i I;split at K;rename_i ss hss;obtain⟨j,p1,p2⟩:=MP m3 hss;obtain⟨u,u1,u2⟩:=rD K j p1;split at u1;rename_i M;exact B p2 I M u1 (λy Z=>r2 y (u2 y Z));rename_i M;split at u1;rename_i w hw;exact g p2 I (by simpa using M) hw u1 (λy Z=>r2 y (u2 y Z));cases u1;split at K;rename_i M;exact B m3 I M K r2;rename_i M;split at K;rename_i w hw;exact g m3 I (by simpa using M) hw K r2;cases K;rename_i hq;obtain⟨f,b,p,O,e3⟩:=ih (m+1) {S:={q.2 with fr:=MJ q.2.fr o.dst (.fm [])},fq:=s.fq,av:=[]} V U (pW fr o.dst oS) H r ⟨m3.sy,m3.hp,m3.fr.put tN o.dst⟩ .nil K;refine⟨f,b,p,O.mono λn d e=> ?_,e3.lift r2⟩;simp only[qI,N];rw[aH L,aH J,aH (by rw[<-m2];exact hq)];exact e;cases h
theorem aQi(s:Cn X gl pe)(f:GS S V U fr H){l J:Nat}(hl:U[l]? =some (some J)){o:Oper}(h:aQh X l S o=true):lS gl J fr o=true:=by
 unfold aQh at h;unfold lS;have ne:∀{q x:Nat},U[q]? =some (some x)->(!(Nat.beq q l)&&((oV S.hp l).isSome&&(oV S.hp q).isSome))=true->x≠J:=by
  intro q x p K e;subst e;simp only[aA,bQ]at K;obtain⟨Z,Y,W⟩:=K;obtain⟨R,q1⟩:=eQ.1 Y;obtain⟨o2,q2⟩:=eQ.1 W;have:=f.hp.inj q l o2 R x q2 q1 p hl;subst this;simp at Z
 split at h;rename_i t a g;rw[g];simp only;split at h;rename_i x I d;obtain⟨u,i,j⟩:=sV s.gl f.sy.zero f.fr d;cases j;rw[i];rename_i q I d;obtain⟨u,i,j⟩:=sV s.gl f.sy.zero f.fr d;cases j with
 |ptr _ _ x p=>rw[i];simpa using ne p h
 rename_i q _ _ _ _ d;obtain⟨u,i,j⟩:=sV s.gl f.sy.zero f.fr d;cases j with
 |iv _ _ _ _ _ x w p _ _ =>rw[i];simpa using ne p h
 cases h
 .rename_i sd dd x g;rw[g];simp only;split at h<;>first|(cases h;done)|(rename_i d;obtain⟨u,i,j⟩:=sV s.gl f.sy.zero f.fr d;cases j;rw[i])
 .rename_i c g;rw[g];simp only;split at h
  .rename_i B;rw[B];simp only;rw[aP]at h⊢;intro x p;have v:=h x p;have no:∀(a:A) (u:T),LK X.gl S.fr x=some a->Gm V U a u->pQ gl fr x=some u->(match a with| .str .. | .gh _ | .sl .. | .ge .. | .fp| .sx .. | .fw=>true|_ =>false)=true->(match pQ gl fr x with|some (.mp _)=>false|_ =>true)=true:=by
    intro a u _ f M d;rw[M];cases u<;>first|rfl|(exfalso;cases a<;>first|(cases d;done)|(cases f<;>simp_all [wP]))
   cases d:LK X.gl S.fr x with
   |none=>rw[d]at v;cases v
   |some a=>
    obtain⟨u,i,j⟩:=sV s.gl f.sy.zero f.fr d;refine no a u d j i ?_;rw[d]at v;cases a<;>first|rfl|(cases v;done)
  rename_i b B z;rw[z];cases b<;>first|rfl|exact absurd rfl B
  cases h
 cases h;rename_i n1 O N L;split;rename_i t a g;exact absurd g (n1 _ _);rename_i g;exact absurd g (O _ _ _);rename_i c g;exact absurd g (N _);rename_i g;exact absurd g (L _ _ _ _);rfl
theorem Ci(hc:Cn X gl pe)(j:wN call ee)(hF:Wj F ee Fe){ops:gF}{A:gU}{p l lc:Nat}:∀(os:hU) (m:Nat) (I:Bool) (s:Af) (V:gN) (U:gE) (fr:gC) (H:Hp) (W:iZ),GS s.S V U fr H->ij P gl pe F s.av fr H->s.fq=none->U[l]? =some (some lc)->LH P X call F ops A p l os m I s=some W->
  ∃f z u,Ev (λn d=>sW P ⟨gl,pe⟩ (Fe n d) ops A p lc os m I ⟨fr,H,none⟩=some ⟨f,z,u⟩)/\xU P gl pe F W V U f z u
 |[],m,I,s,V,U,fr,H,W,a,B,b,Z,h=>by
  simp only[LH]at h;split at h;rename_i ha;cases h;exact⟨fr,H,none,.of λn d=>by simp only[sW,ha,cB],_,aR _,V,U,.refl _,.refl _,b,a,B⟩;cases h
 |o::L,m,I,s,V,U,fr,H,W,a,B,b,Z,h=>by
  have ih:=Ci hc j hF (ops:=ops) (A:=A) (p:=p) (l:=l) (lc:=lc) L;simp only[LH]at h;split at h;rename_i i;obtain⟨f,z,u,Y,N⟩:=Jr hc j hF (o::L) s V U fr H W a B h;rw[b]at Y;refine⟨f,z,u,Y.mono λn d e=> ?_,N⟩;simp only[sW];rw[aJ i];exact e;rename_i i;split at h;cases h;rename_i g;have g:¬yR ⟨fr,H,none⟩ o=false:=by
   intro q;apply g;unfold yR at q;unfold PP;split at q;rename_i d hd;rw[hd];simp only[decide_eq_false_iff_not]at q;simp only;rw[a.fr.1];cases hb:Nat.blt d fr.length with
   |false=>rfl|true=>exact absurd (pC hb) q
   cases q
  split at h
  .rename_i J;split at h
   cases h;rename_i haf;split at h
   .rename_i t x y hop;split at h
    .rename_i l0 off v hx hy;split at h
     .rename_i O;have O:=oT O;subst O;split at h
      .rename_i R hR;obtain⟨q,q1,q2⟩:=sV hc.gl a.sy.zero a.fr hx;obtain⟨w,w1,w2⟩:=sV hc.gl a.sy.zero a.fr hy;have q2':=q2;cases q2 with
       |ptr _ _ x0 hx0=>
       rw[Z]at hx0;cases hx0;obtain⟨H1,s1,V1,μ1,z1,z2,z3,z4,z5⟩:=Es a.sy a.hp q2' w2 hR;obtain⟨f,z,u,Y,N⟩:=ih (m+1) true {S:={s.S with hp:=R.hp,nx:=R.nx,nl:=R.nl,cs:=R.cs},fq:=none,av:=[]} V1 μ1 fr H1 W ⟨z3,z4,a.fr.ext z1 z2⟩ .nil rfl (z2 _ _ Z) h;refine⟨f,z,u,Y.mono λn d e=> ?_,N.trans z1 z2⟩;simp only[sW];rw[aH i,aH g,aJ J,aH haf];simp only[hop,q1,w1,cB,s1];have:I=false:=by simpa using haf
       exact e
      cases h
     cases h
    cases h
   cases h
  rename_i J;split at h;rename_i gs hgs;obtain⟨q,m1,m2,m3⟩:=EE a hgs;obtain⟨r,M,r2⟩:=rD h q m1;split at M;rename_i hq;rw[hq]at m2;by_cases K:(((if I=true then uU A m p else uU A p m)||aQh X l q.2 o)&&((GP F o).isNone&& !(II X (AG F o) q.2.fr o)))=true;rw[aJ K]at M;rw[aA,aA,bQ,Option.isNone_iff_eq_none]at K;obtain⟨c1,c2,c3⟩:=K;split at M;rename_i ss hss;have hh:((if I=true then uU A m p else uU A p m)||lS gl lc fr o)=true:=by
   rcases bO _ _ |>.mp c1 with q|q;rw[q];rfl;rw[aQi hc m3 Z q];simp
  obtain⟨t,Y,s1,k1,V1,μ1,x1,x2,x3,g1,av1⟩:=VY (s:={s with S:=q.2}) hc m3 B hss c2 c3;obtain⟨w,w1,w2⟩:=rD M s1 k1;obtain⟨f,z,u,N,e3⟩:=ih (m+1) I s1 V1 μ1 _ _ w g1 av1 (by rw[x3];exact b) (x2 _ _ Z) w1;refine⟨f,z,u,N.mono λn d e=> ?_,(e3.lift λy hy=>r2 y (w2 y hy)).trans x1 x2⟩;simp only[sW];rw[aH i,aH g,aH J,aJ m2.symm,aJ hh,BL hF,Y];exact e;cases M;rw[aH K]at M;cases M;rename_i hq;obtain⟨f,z,u,N,e3⟩:=ih (m+1) I {S:={q.2 with fr:=MJ q.2.fr o.dst (.fm [])},fq:=s.fq,av:=[]} V U (pW fr o.dst oS) H r ⟨m3.sy,m3.hp,m3.fr.put tN o.dst⟩ .nil b Z M;refine⟨f,z,u,N.mono λn d e=> ?_,e3.lift r2⟩;simp only[sW];rw[aH i,aH g,aH J,aH (by rw[<-m2];exact hq)];exact e;cases h
theorem aIf(v:Cn X gl pe)(g:GS S V U fr H){o:Oper}(h:Ye X S o=true):Nj gl fr o=true:=by
 unfold Ye at h;unfold Nj;split at h;rename_i t a d;rw[d];simp only;split at h;rename_i x I f;obtain⟨u,i,j⟩:=sV v.gl g.sy.zero g.fr f;cases j;rw[i];cases h
 .rename_i N O x d;rw[d];simp only;split at h<;>first|(cases h;done)|(rename_i f;obtain⟨u,i,j⟩:=sV v.gl g.sy.zero g.fr f;cases j;rw[i])
 .rename_i c d;rw[d];simp only;split at h
  .rename_i s;rw[s];simp only;rw[aP]at h⊢;intro x K;have p:=h x K;have M:∀(a:A) (u:T),Gm V U a u->pQ gl fr x=some u->(match a with| .str .. | .gh _ | .sl .. | .ge .. | .fp| .sx .. | .fw| .ie _ | .g7 .. =>true|_ =>false)=true->(match pQ gl fr x with|some (.mp _)=>false|_ =>true)=true:=by
    intro a u g z f;rw[z];cases u<;>first|rfl|(exfalso;cases a<;>first|(cases f;done)|(cases g<;>simp_all [wP]))
   cases f:LK X.gl S.fr x with
   |none=>rw[f]at p;cases p
   |some a=>
    obtain⟨u,i,j⟩:=sV v.gl g.sy.zero g.fr f;refine M a u j i ?_;rw[f]at p;cases a<;>first|rfl|(cases p;done)
  rename_i b s q;rw[q];cases b<;>first|rfl|exact absurd rfl s
  cases h
 cases h;rename_i L J B w;split;rename_i t a d;exact absurd d (L _ _);rename_i d;exact absurd d (J _ _ _);rename_i c d;exact absurd d (B _);rename_i d;exact absurd d (w _ _ _ _);rfl
abbrev jB:=List (AS×List (Nat×Bool)×List (Nat×Bool))
def bLe(l:jB)(V:gN)(U:gE)(f:gC)(H:Hp)(g ds:iV):Prop:=
 ∃q∈l,q.2.1=g/\(∀d∈ds,∃b,(d.1,b)∈q.2.2/\(b=true->d.2=true))/\∃V' μ',rX V V'/\rX U μ'/\GS q.1 V' μ' f H
theorem Lp{m:Nat}{e d:Option Bool}{l:jK}{r:jB}(h:Wx m e d l=some r):∃a,l=some a/\∀q∈a,(q.1,NL m e q.2.1,NL m d q.2.2)∈r:=by
 unfold Wx at h;split at h;rename_i a;cases h;exact⟨a,rfl,λq b=>bS.2 ⟨q,b,rfl⟩⟩;cases h
def Fg(U:gE):Option Nat->Option Nat->Prop
 |none,none=>True|some l,some x=>U[l]? =some (some x)|_,_ =>False
theorem Fg.ext{b a:gW}(h:Fg U b a)(e:rX U μ'):Fg μ' b a:=by
 cases b<;>cases a<;>first|exact h|exact e _ _ h
theorem Fg.some_ {b a:gW}(h:Fg U b a):a.isSome=b.isSome:=by
 cases b<;>cases a<;>first|rfl|exact h.elim
theorem aZd(I:Cn X gl pe)(g:GS S V U fr H){d b:gW}(i:Fg U d b){o:Oper}(h:mS X d S o=true):kf gl b fr o=true:=by
 obtain⟨B,u,J,s,f,guard⟩:=o;cases d with
 |none=>simp[mS]at h
 |some l=>
  cases b with
  |none=>exact i.elim
  |some x=>
   cases u<;>simp only[mS]at h<;>try(cases h;done)
   case load t a=>
    split at h;rename_i L q j;have:=oT h;subst this;obtain⟨K,p,w⟩:=sV I.gl g.sy.zero g.fr j;simp only[kf,p];cases w with
    |ptr _ _ z v=>
     have:some (some z)=some (some x):=v.symm.trans i;cases this;exact fJ _
    cases h
theorem GH.back{v:gP}{nl:Nat}{i:Hp}(a:GH v nl V U i){l x:Nat}{e:gB}{w:List A}{o:Ob}(g:U[l]? =some (some x))(O:i.any x=none)(B:o.me=none)(M:Kv V U (.fix e w) o):GH ((l,.fix e w)::v) nl V U (i.put x o):=by
 have ne:∀{m y:Nat} {q:AO},oV v m=some q->U[m]? =some (some y)->y≠x:=λ{m y q} f d e=>by
  subst e;obtain⟨z,k1,k2⟩:=a.obj m q f;rw[d]at k1;cases k1;obtain⟨b,k3,_⟩:=k2 y rfl;have:i.any y=some b:=by cases q<;>first|exact k3|exact(pD k3).1
  rw[O]at this;cases this
 refine⟨a.len,λm q h=> ?_,λm N q K y f d p j=> ?_,λm y s=>a.lt m y s,λm J R h=> ?_,Gz a.fin (a.lt l x g) _⟩;simp only[oV]at h;split at h;rename_i u;have:=oT u;subst this;cases h;refine⟨some x,g,λy s=> ?_⟩;cases s;exact⟨o,by show(i.put x o).get x=_;rw[gw _ _ _ _ B,aJ rfl],M⟩;obtain⟨y,k1,k2⟩:=a.obj m q h;refine⟨y,k1,λz L=> ?_⟩;subst L;obtain⟨b,k3,I⟩:=k2 z rfl;exact⟨b,by rw[XX (ne h k1)];exact k3,I⟩;simp only[oV]at f d;split at f<;>split at d;rename_i b1 b2;rw[<-oT b1,<-oT b2];rename_i b1 b2;have:=oT b1;subst this;rw[g]at p;cases p;exact absurd rfl (ne d j);rename_i b1 b2;have:=oT b2;subst this;rw[g]at j;cases j;exact absurd rfl (ne f p);exact a.inj m N q K y f d p j;simp only[oV]at h;split at h;rename_i u;exact⟨x,by rw[<-oT u];exact g⟩;exact a.aN m J R h
theorem aOa(K:Cn X gl pe)(a:wN call ee)(hF:Wj F ee Fe)(hK:∀n d,ZQ (ee n d))(g:GS S V U fr H){p b:gW}(I:Fg U p b){o:Oper}{O:jS}(h:aWx P X call F p S o=some O):
  ∃t i,Ev (λn d=>GW P ⟨gl,pe⟩ (Fe n d) b H fr o=some (t,i))/\∃R∈O,ip V U R t i:=by
 unfold aWx at h;by_cases f:BJ o=true;rw[aJ f]at h;cases p with
 |none=>
  cases b with
  |some x=>exact I.elim
  |none=>
   obtain⟨t,i,e,z⟩:=TM (Fe:=Fe) K a hF g h;exact⟨t,i,e.mono λn d q=>by unfold GW;simp only[ite_self];exact q,z⟩
 |some l=>
  cases b with
  |none=>exact I.elim
  |some x=>
   have j:U[l]? =some (some x):=I;simp only at h;split at h;rename_i e xs W;split at h;rename_i rs0 u;cases h;obtain⟨Z,N,o2⟩:=g.hp.at W j;have w:GS {S with hp:=vB S.hp l} V U fr (H.drop x):=⟨g.sy,g.hp.cr W j,g.fr⟩;obtain⟨t,H1,e1,R,r1,V',μ',M,v,x3,x4,x5⟩:=TM (Fe:=Fe) K a hF w u;obtain⟨k,Y⟩:=e1;have B:qF (H.drop x) H1:=NT (by rw[hF.ee];exact hK k k) (Y k k (bB _) (bB _));have s:H1.any x=none:=B.old x (g.hp.lt l x j) (by rw[qY,aJ rfl]);refine⟨t,H1.put x Z,⟨k,λn d s hd=> ?_⟩,_,bS.2 ⟨R,r1,rfl⟩,V',μ',M,v,x3,x4.back (v _ _ j) s (pD N).2 (o2.ext M v),x5⟩;unfold GW;rw[aJ f];simp only[N,Y n d s hd];cases h;cases h
 rw[aH f]at h;obtain⟨t,i,e,z⟩:=TM (Fe:=Fe) K a hF g h;exact⟨t,i,e.mono λn d q=>by unfold GW;rw[aH f];exact q,z⟩
def xw(V:gN)(U:gE)(H:Hp):Option AS->Option (List T)->Prop
 |none,none=>True|some S1,some fr1=>GS S1 V U fr1 H|_,_ =>False
theorem aKf(W:Cn X gl pe)(f:GS S V U fr H){I:Pd}{i:gF}{m:Nat}{o:Oper}{r:Option AS}(h:oH P X I i m S o=some r):∃K,mg P ⟨gl,pe⟩ i I m fr o=some K/\xw V U H r K:=by
 cases I with
 |none=>cases h;exact⟨none,rfl,trivial⟩
 |some q=>
  obtain⟨Y,i1,d,t⟩:=q;simp only[oH]at h;simp only[mg];split at h;rename_i u;rw[aJ u];split at h;rename_i a;rw[aJ a];split at h;rename_i n z J N;split at h;rename_i b;simp only[aA]at b;cases h;obtain⟨L,w,s⟩:=zH (V:=V) (U:=U) f.sy.zero N;have v:L.cells.length=n:=by rw[<-(qU s b.2.1).2.1];exact oT b.1
  have j:o.dst=some d:=by
   unfold aIl at a;split at a;rename_i q _;simp only[aA]at a;rw[q,oT a.1];cases a
  refine⟨some (pW fr o.dst oS),by simp only[J,w];rw[aJ v],f.sy,f.hp,?_⟩;rw[j];exact f.fr.hT tN d;cases h;cases h;cases h;rename_i u;rw[aH u];split at h;rename_i g;rw[aJ g];split at h;rename_i x B;simp only[B];split at h;rename_i y n M J;split at h;rename_i b;simp only[aA]at b;obtain⟨k1,k2,k3⟩:=b;cases h;obtain⟨R,w,s⟩:=sV W.gl f.sy.zero f.fr M;have p:=qU s k1;refine⟨some (fr.set d (.ref R 0)),?_,f.sy,f.hp,f.fr.hT (.ref _ _ _ k1 s) d⟩;simp only[w,J];rw[aJ ⟨by rw[<-p.2.1];exact oT k2,BT p.2 k3⟩];cases h;cases h;cases h;rename_i g;rw[aH g];split at h;cases h;rename_i O;cases h;rw[aH O];exact⟨none,rfl,trivial⟩
theorem Mm(M:Cn X gl pe)(x:wN call ee)(hF:Wj F ee Fe)(hK:∀n d,ZQ (ee n d)){ops:gF}{lq lq':gW}{pd:Pd}:∀(os:hU) (m:Nat) (S:AS) (V:gN) (U:gE) (fr:gC) (H:Hp) (l:jB),GS S V U fr H->Fg U lq lq'->SH P X call F lq pd ops os m S=some l->
  ∃f I J ds,Ev (λn d=>GX P ⟨gl,pe⟩ (Fe n d) ops lq' pd os m fr H=some (f,I,J,ds))/\bLe l V U f I J ds
 |[],m,S,V,U,fr,H,l,W,hq,h=>by
  simp only[SH]at h;cases h;exact⟨fr,H,[],[],.of λn d=>rfl,_,aR _,rfl,λd hd=>by simp at hd,V,U,.refl _,.refl _,W⟩
 |o::rest,m,S,V,U,fr,H,l,W,i,h=>by
  have ih:=Mm M x hF hK (ops:=ops) (lq:=lq) (lq':=lq') (pd:=pd) rest;simp only[SH]at h;split at h;cases h;rename_i j;have j:¬yR ⟨fr,H,none⟩ o=false:=by
   intro q;apply j;unfold yR at q;unfold PP;split at q;rename_i d hd;rw[hd];simp only[decide_eq_false_iff_not]at q;simp only;rw[W.fr.1];cases hb:Nat.blt d fr.length with
   |false=>rfl|true=>exact absurd (pC hb) q
   cases q
  split at h;cases h;rename_i S1 O;obtain⟨r',p1,p⟩:=aKf (H:=H) M W O;obtain⟨fr1,rfl,p⟩:∃fr1,r'=some fr1/\GS S1 V U fr1 H:=by
   cases r' with
   |none=>exact p.elim|some fr1=>exact⟨fr1,rfl,p⟩
  obtain⟨f,I,J,ds,N,z⟩:=ih (m+1) S1 V U fr1 H l p i h;refine⟨f,I,J,ds,N.mono λn d b=> ?_,z⟩;simp only[GX];rw[aH j,p1];exact b;rename_i O;obtain⟨r',p1,p⟩:=aKf (H:=H) M W O;obtain rfl:r'=none:=by
   cases r' with
   |none=>rfl|some fr1=>exact p.elim
  split at h;rename_i gs hgs;obtain⟨q,m1,m2,m3⟩:=EE W hgs;obtain⟨r,r1,r2⟩:=rD h q m1;split at r1;rename_i hq;rw[hq]at m2;have hsp:∃L∈(match GD X q.2 o with|some ss=>ss|none=>[q.2]),GS L V U fr H:=by
   cases hs:GD X q.2 o with
   |none=>exact⟨q.2,aR _,m3⟩|some ss=>exact MP m3 hs
  obtain⟨L,s1,B⟩:=hsp;obtain⟨u,K,u2⟩:=rD r1 L s1;have lift:∀y∈u,y∈l:=λy hy=>r2 y (u2 y hy);split at K;rename_i heff;split at K;rename_i hbs;split at K;rename_i rs hrs;obtain⟨t,H1,e1,R,R1,V1,μ1,Y,x2,x3,x4,x5⟩:=aOa (Fe:=Fe) M x hF hK B i hrs;obtain⟨w,w1,w2⟩:=rD K R R1;obtain⟨l',s,z⟩:=Lp w1;have p:GS (L.dy o.dst R) V1 μ1 (pW fr o.dst t) H1:=⟨x3,x4,(B.fr.ext Y x2).put x5 o.dst⟩;obtain⟨f,I,J,ds,N,Z,k1,k2,k3,V2,μ2,y1,y2,y3⟩:=ih (m+1) _ V1 μ1 _ _ l' p (i.ext x2) s;refine⟨f,I,(m,BJ o&&lq'.isSome)::J,ds,(e1.and N).mono λn d ⟨a,b⟩=> ?_,_,lift _ (w2 _ (z Z k1)),by simp[NL,k2,i.some_],by simpa [NL]using k3,V2,μ2,Y.trans y1,x2.trans y2,y3⟩;simp only[GX];rw[aH j,p1];simp only;rw[aJ m2.symm,BL hF,LY (P:=P) (H:=H) M B.sy.zero B.fr heff hbs];simp only[a,b];cases K;cases K;split at K;rename_i v hv;obtain⟨t,e1,V1,Y,x2,x3⟩:=Fm M B.sy B.hp B.fr hv;obtain⟨l',s,z⟩:=Lp K;have p:GS {L with fr:=MJ L.fr o.dst v.a,nx:=v.nx,cs:=v.cs} V1 U (pW fr o.dst t) H:=⟨x2,B.hp.ext Y,(B.fr.ext Y (.refl _)).put x3 o.dst⟩;obtain⟨f,I,J,ds,N,Z,k1,k2,k3,V2,μ2,y1,y2,y3⟩:=ih (m+1) _ V1 U _ _ l' p i s;refine⟨f,I,J,if Nj gl fr o then ds else(m,kf gl lq' fr o)::ds,N.mono λn d b=> ?_,_,lift _ (z Z k1),by simp[NL,k2],λd hd=> ?_,V2,μ2,Y.trans y1,y2,y3⟩;simp only[GX];rw[aH j,p1];simp only;rw[aJ m2.symm,BL hF,e1];simp only[b];by_cases hh:Ye X L o=true;rw[aJ (aIf M B hh)]at hd;simp only[hh,cB,NL];exact k3 d hd;simp only[hh,NL,cN];have old:d∈ds->∃b,(d.1,b)∈(m,mS X lq L o)::Z.2.2/\(b=true->d.2=true):=λhd=>by
   obtain⟨b,b1,b2⟩:=k3 d hd;exact⟨b,aC _ b1,b2⟩
  split at hd;exact old hd;rcases aY.1 hd with rfl|hd;exact⟨_,aO,λhb=>aZd M B i hb⟩;exact old hd;cases K;rename_i hq;have hw:¬pX ops fr o=true:=λe=>by rw[<-m2]at e;exact hq e
  have p:GS {q.2 with fr:=MJ q.2.fr o.dst (.fm [])} V U (pW fr o.dst oS) H:=⟨m3.sy,m3.hp,m3.fr.put tN o.dst⟩;obtain⟨f,I,J,ds,N,Z,k1,k2,k3,z⟩:=ih (m+1) _ V U _ _ r p i r1;refine⟨f,I,J,ds,N.mono λn d b=> ?_,Z,r2 _ k1,k2,k3,z⟩;simp only[GX];rw[aH j,p1];simp only;rw[aH hw];exact b;cases h
theorem aCl{A:gU}{g ds a:iV}(h:Dm A g ds=true)(o:∀d∈a,∃b,(d.1,b)∈ds/\(b=true->d.2=true)):Dm A g a=true:=by
 simp only[Dm,aA,aP]at h⊢;refine⟨h.1,λd f e i=> ?_⟩;obtain⟨b,b1,b2⟩:=o d f;have:=h.2 _ b1 e i;simp only[bO,aA]at this⊢;rcases this with⟨j,p⟩|q
 exact .inl ⟨b2 j,p⟩;exact .inr q
theorem Ch(O:Cn X gl pe)(a:wN call ee)(hF:Wj F ee Fe)(J:∀n d,ZQ (ee n d)){o:gF}(I:GS S V U fr H){lq lq':gW}(K:Fg U lq lq'){s:iZ}(h:Gs P X call F lq o S=some s):
  ∃b g p,Ev (λn d=>AW P ⟨gl,pe⟩ (Fe n d) o lq' fr H=some ⟨b,g,p⟩)/\xU P gl pe F s V U b g p:=by
 unfold Gs at h;split at h;rename_i l M;split at h;rename_i i;cases h;simp only[aA]at i;obtain⟨f,g,R,ds,w,q,u,L,v,V',μ',x,z,B⟩:=Mm (Fe:=Fe) O a hF J o.toList 0 S V U fr H l I K M;have j:=aP.1 i.2 q u;rw[L]at j;refine⟨f,g,none,w.mono λn d e=> ?_,⟨q.1,none,[]⟩,bS.2 ⟨q,u,rfl⟩,V',μ',x,z,rfl,B,.nil⟩;simp only[AW,hF.own,e];rw[aJ (by rw[i.1,aCl j v];rfl)];cases h;cases h
theorem aBj(L:Cn X gl pe)(g:wN call ee)(hF:Wj F ee Fe)(Z:∀n d,ZQ (ee n d)){o:gF}{Y I:Bool}(w:GS S V U fr H){K:iZ}(h:Ss P X call F Y I o S=some K):
  ∃f i j,Ev (λn d=>AU P ⟨gl,pe⟩ (Fe n d) o Y I fr H=some ⟨f,i,j⟩)/\xU P gl pe F K V U f i j:=by
 unfold Ss at h;split at h;rename_i J;split at h;rename_i l B;have:∃x,oA o fr=some x/\U[l]? =some (some x):=by
  unfold rx at B;unfold oA;split at B;rename_i b O;split at B;rename_i l0 R N;cases B;have a:=w.fr.get b;rw[N]at a;simp only[O];generalize rW fr b=z at a⊢;cases a with|ptr _ _ x W=>exact⟨x,rfl,W⟩
  cases B;cases B
 obtain⟨x,W,hm⟩:=this;obtain⟨f,i,j,u,v⟩:=Ch (Fe:=Fe) (lq:=some l) (lq':=some x) L g hF Z w hm h;exact⟨f,i,j,u.mono λn d e=>by unfold AU;rw[aJ J,W];exact e,v⟩;cases h;rename_i J;split at h;rename_i q;obtain⟨f,i,j,u,v⟩:=Ch (Fe:=Fe) (lq:=none) (lq':=none) L g hF Z w trivial h;exact⟨f,i,j,u.mono λn d e=>by unfold AU;rw[aH J,aJ q];exact e,v⟩;rename_i q;split at h;rename_i s;split at h;rename_i b p O hp;split at h;rename_i l R N;have a:=w.fr.get b;rw[N]at a;generalize hz:rW fr b=z at a;cases a with
 |ptr _ _ lc M=>
  obtain⟨f,i,j,u,v⟩:=Ci L g hF o.toList 0 false ⟨S,none,[]⟩ V U fr H K w .nil rfl M h;refine⟨f,i,j,u.mono λn d e=> ?_,v⟩;unfold AU;rw[aH J,aH q];unfold rR;rw[aJ s,O,hp];simp only[hz];exact e
 cases h;cases h;rename_i s;obtain⟨f,i,j,u,v⟩:=Mh L g hF o.toList 0 ⟨S,none,[]⟩ V U fr H K w .nil h;refine⟨f,i,j,u.mono λn d e=> ?_,v⟩;unfold AU;rw[aH J,aH q];unfold rR;rw[aH s];exact e
end
section
variable{V V' V0 V1:gN}{U μ' μ0 μ1:gE}{H H1:Hp}{S S1:AS}{fr fr1:gC}
theorem tC{Y:Type}{a b:List Y}{n:Nat}(h:rX a b)(f:a.length=n):b.take n=a:=by
 apply fL;intro j;rw[bJ];split;rename_i d;rw[<-f]at d;rw[aB d];exact h j _ (aB d);rename_i d;rw[cA (by omega)]
theorem YD(d:rX V0 V1)(f:rX μ0 μ1){n l:Nat}(i:V0.length=n)(g:μ0.length=l){a:A}{t:T}(b:uR n l qZ a=true)(h:Gm V1 μ1 a t):Gm V0 μ0 a t:=by
 have:=Iw n l qZ a t b h
 rwa [tC d i,tC f g]at this
theorem Pz(s:rX V0 V1)(u:rX μ0 μ1){n l:Nat}(x:V0.length=n)(v:μ0.length=l){w:iR}:∀(d i:List A) (j:Nat) (g:gC),YZ n l w j d i=true->pT V1 μ1 i g->pT V0 μ0 (aTu n l w j d) g
 |[],[],j,g,_,h=>by rw[h.ae];exact .nil
 |a::d,b::i,j,g,o,h=>by
  simp only[YZ,aA]at o;obtain⟨t,r,rfl,z,B⟩:=h.I;simp only[aTu];refine pT.cons ?_ (Pz s u x v d i (j+1) r o.2 B);split;exact .top _;rename_i f;simp only[bO,bQ,not_or,Bool.not_eq_false]at f;have p:=o.1;simp only[bO,bQ]at p;rcases p with(q|q)|q
  exact absurd q f.1;rw[f.2]at q;cases q;have:=JG _ _ _ q;subst this;exact YD s u x v f.2 z
 |[],_ ::_,_,_,h,_ =>by simp[YZ]at h|_ ::_,[],_,_,h,_ =>by simp[YZ]at h
theorem Py(q:rX V0 V1)(u:rX μ0 μ1){n l:Nat}(x:V0.length=n)(w:μ0.length=l){v:gY}{m:Nat}:∀(d i:List A) (j:Nat) (g:gC),YY n l v m j d i=true->pT V1 μ1 i g->pT V0 μ0 (DM v m j d) g
 |[],[],j,g,_,h=>by rw[h.ae];exact .nil
 |a::d,b::i,j,g,o,h=>by
  simp only[YY,aA]at o;obtain⟨t,r,rfl,s,z⟩:=h.I;simp only[DM];refine pT.cons ?_ (Py q u x w d i (j+1) r o.2 z);have f:=o.1;split;rename_i p;rw[aJ p]at f;exact .any _ (RH s f).1;rename_i p;rw[aH p]at f;simp only[aA]at f;have:=JG _ _ _ f.1;subst this;exact YD q u x w f.2 s
 |[],_ ::_,_,_,h,_ =>by simp[YY]at h|_ ::_,[],_,_,h,_ =>by simp[YY]at h
theorem yH{d:gY}:∀(f:gP) (m:Nat) (o:AO),oV (KS d f) m=some o->∃q,oV f m=some q/\o=(match q with| .fix e x=> .fix e (DM d m 0 x)|q=>q)
 |[],m,o,h=>by simp[KS,oV]at h
 |(k,.fix e x)::r,m,o,h=>by
  simp only[KS,oV]at h⊢;split at h;rename_i b;cases h;rw[aJ b];have:=oT b;subst this;exact⟨_,rfl,rfl⟩;rename_i b;rw[aH b];exact yH r m o h
 |(k,.row e i a s c)::r,m,o,h=>by
  simp only[KS,oV]at h⊢;split at h;rename_i b;cases h;rw[aJ b];exact⟨_,rfl,rfl⟩;rename_i b;rw[aH b];exact yH r m o h
 |(k,.ax e i a s c)::r,m,o,h=>by
  simp only[KS,oV]at h⊢;split at h;rename_i b;cases h;rw[aJ b];exact⟨_,rfl,rfl⟩;rename_i b;rw[aH b];exact yH r m o h
 |(k,.map u)::r,m,o,h=>by
  simp only[KS,oV]at h⊢;split at h;rename_i b;cases h;rw[aJ b];exact⟨_,rfl,rfl⟩;rename_i b;rw[aH b];exact yH r m o h
 |(k,.loop st pe fr z g I ow p B)::r,m,o,h=>by
  simp only[KS,oV]at h⊢;split at h;rename_i b;cases h;rw[aJ b];exact⟨_,rfl,rfl⟩;rename_i b;rw[aH b];exact yH r m o h
theorem Ee{a b:LoopState}(h:Jn a b=true):a=b:=by cases a<;>cases b<;>first|rfl|cases h
theorem aDg{a b:jL}(h:Ve a b=true):a=b:=by
 unfold Ve at h;split at h;rfl;rfl;rw[oT h];cases h
def aUp(n l:Nat)(o:gY)(m:Nat):AO->AO->Prop
 | .fix e x,.fix d u=>e=d/\YY n l o m 0 x u=true| .row e h a s c,.row d f b q i=>e=d/\h=f/\a=b/\uR n l qZ a=true/\s=q/\c=i/\s<n| .loop st pe ..,.loop g p .. =>st=g/\pe=p|_,_ =>False
theorem EO{n l:Nat}{p:gY}{i:gP}:∀(q:gP) (m:Nat) (o:AO),LB n l p i q=true->oV q m=some o->m<l/\∃u,oV i m=some u/\aUp n l p m o u
 |(k,.fix e xs)::r,m,o,h,d=>by
  simp only[LB,aA]at h;simp only[oV]at d;split at d;rename_i j;cases d;have:=oT j;subst this;refine⟨pC h.1,?_⟩;have f:=h.2.1;split at f;rename_i w ys g;simp only[aA]at f;exact⟨_,g,oT f.1,f.2⟩;cases f;exact EO r m o h.2.2 d
 |(k,.row e sz a s c)::r,m,o,h,d=>by
  simp only[LB,aA]at h;simp only[oV]at d;split at d;rename_i j;cases d;have:=oT j;subst this;refine⟨pC h.1,?_⟩;have f:=h.2.1;split at f;rename_i w K b W N g;simp only[aA,bN]at f;obtain⟨x,I,J,B,a5,a6,v⟩:=f;exact⟨_,g,oT x,oT I,JG _ _ _ J,B,oT a5,a6,pC v⟩;cases f;exact EO r m o h.2.2 d
 |(k,.loop st pe fr ps z Z ow M ab)::r,m,o,h,d=>by
  simp only[LB,aA]at h;simp only[oV]at d;split at d;rename_i j;cases d;have:=oT j;subst this;refine⟨pC h.1,?_⟩;have f:=h.2.1;split at f;rename_i g;simp only[aA]at f;exact⟨_,g,Ee f.1,aDg f.2⟩;cases f;exact EO r m o h.2.2 d
 |(k,.map O)::r,m,o,h,_ =>by simp[LB]at h|[],m,o,_,d=>by simp[oV]at d
theorem NS{a:gP}{l m:Nat}{o:AO}(h:oV (vB a l) m=some o):oV a m=some o:=by
 rw[zT]at h;split at h;cases h;exact h
theorem AB{f:List A}:∀{s:jA} {b:gP} {m:Nat} {o:AO},oV (BV f s b) m=some o->oV b m=some o
 |[],b,m,o,h=>h
 |(d,.row ..)::r,b,m,o,h=>by
  simp only[BV]at h;split at h;exact NS (AB h);exact AB h
 |(d,.a _)::r,b,m,o,h=>by
  simp only[BV]at h;exact AB h
theorem yQ{d:gP}:∀{f:gY} {b:gP} {m:Nat} {o:AO},oV (zR d f b) m=some o->oV b m=some o
 |[],b,m,o,h=>h
 |(l,j,.row ..)::r,b,m,o,h=>by
  simp only[zR]at h;split at h;exact NS (yQ h);exact yQ h
 |(l,j,.a _)::r,b,m,o,h=>by
  simp only[zR]at h;exact yQ h
theorem vV:∀{r a:gP} {m:Nat} {o:AO},oV (yP r a) m=some o->oV a m=some o
 |[],a,m,o,h=>h
 |(l,.map b)::r,a,m,o,h=>by
  simp only[yP]at h;exact NS (vV h)
 |(l,.fix ..)::r,a,m,o,h=>by
  simp only[yP]at h;exact vV h
 |(l,.row ..)::r,a,m,o,h=>by
  simp only[yP]at h;exact vV h
 |(l,.ax ..)::r,a,m,o,h=>by
  simp only[yP]at h;exact vV h
 |(l,.loop ..)::r,a,m,o,h=>by
  simp only[yP]at h;exact vV h
theorem Sd{s:jA}{a:gY}{m:Nat}{o:AO}(h:oV (HH S s a) m=some o):oV S.hp m=some o:=vV (AB (yQ h))
theorem aOh(hk:qF H H1)(I:GS S V0 μ0 fr H)(u:GS S1 V1 μ1 fr1 H1)(L:rX V0 V1)(i:rX μ0 μ1){w:iR}{sp:jA}{j:gY}{N K:Int}(hg:0<=K)(R:K<=N)
  (hF:YZ S.nx S.nl w 0 S.fr S1.fr=true) (hH:LB S.nx S.nl j S1.hp (HH S sp j)=true):
  GS (Ww S w sp j N) (V0++[K]) μ0 fr1 H1:=by
 have M:=I.sy.len;have J:=I.hp.len;have B:=rX.app V0 [K];refine⟨?_,?_,(Pz L i M J _ _ _ _ hF u.fr).ext B (.refl _)⟩;have:=I.sy.fresh (v:=K) (lo:=0) (hi:=N) hg R;exact this;have f:∀(m:Nat) (o:AO),oV (Ww S w sp j N).hp m=some o->∃q d,oV (HH S sp j) m=some q/\m<S.nl/\oV S1.hp m=some d/\aUp S.nx S.nl j m q d/\o=(match q with| .fix e Y=> .fix e (DM j m 0 Y)|q=>q):=by
  intro m o h;obtain⟨q,h2,h3⟩:=yH _ _ _ h;obtain⟨h4,d,h5,h6⟩:=EO _ _ _ hH h2;exact⟨q,d,h2,h4,h5,h6,h3⟩
 have back:∀{m:Nat} {y:gW},m<S.nl->μ1[m]? =some y->μ0[m]? =some y:=by
  intro m y Z h;have:=qG h Z
  rwa [tC i J]at this
 refine⟨J,λm o h=> ?_,λm m' o o' x h h' g hx'=> ?_,λm x g=>u.hp.lt m x (i _ _ g),λm e Y h=> ?_,u.hp.fin⟩;obtain⟨q,d,k0,k1,k2,k3,rfl⟩:=f m o h;obtain⟨y,p,k5⟩:=u.hp.obj m d k2;refine⟨y,back k1 p,λx g=> ?_⟩;obtain⟨b,k6,k7⟩:=k5 x g;cases q with
 |map es=>cases d<;>exact k3.elim|ax=>cases d<;>exact k3.elim
 |fix e Y=>
  cases d with
  |row=>exact k3.elim|ax=>exact k3.elim|map=>exact k3.elim|loop=>exact k3.elim
  |fix e' ys=>
   obtain⟨rfl,k3⟩:=k3;exact⟨b,k6,k7.1,(Py L i M J _ _ _ _ k3 k7.2).ext B (.refl _)⟩
 |loop st pe fr ps iF bd ow aa ab=>
  cases d with
  |fix=>exact k3.elim|ax=>exact k3.elim|row=>exact k3.elim|map=>exact k3.elim
  |loop st' pe' fr' ps' asg' bd' ow' aa' ab'=>
   obtain⟨rfl,rfl⟩:=k3;obtain⟨r1,O,W,q3,_⟩:=k7;obtain⟨y0,p1,p2⟩:=I.hp.obj m _ (Sd k0);have hy:y0=y:=by have:=back k1 p;rw[p1]at this;exact bV this
   subst hy;obtain⟨b0,p3,r0,w1,w2,w3,w4,w5,w6,w7,w8⟩:=p2 x g;subst g;obtain⟨b2,r2,z1,z2,z⟩:=hk.lp x (I.hp.lt m x p1) b r1 k6 O;have hb2:some b2=some b0:=by rw[<-z1];exact p3
   cases hb2;rw[w1]at z2;cases z2;exact⟨b,k6,r1,O,W,q3,z.ps.trans w4,z.iF.trans w5,z.bd.trans w6,z.ow.trans w7,by rw[z.fr,z.n];exact w8.ext B (.refl _)⟩
 |row e sz a s c=>
  cases d with
  |fix=>exact k3.elim|ax=>exact k3.elim|loop=>exact k3.elim|map=>exact k3.elim
  |row e' sz' b' s' c'=>
   obtain⟨rfl,rfl,rfl,k8,rfl,rfl,k9⟩:=k3;obtain⟨O,W,ts,v,q3,q4,q5,q6⟩:=k7;refine⟨b,k6,O,W,ts,v,B _ _ ?_,q4,q5,λt ht=>⟨(YD L i M J k8 (q6 t ht).1).ext B (.refl _),(q6 t ht).2⟩⟩;have:=qG q3 k9
   rwa [tC L M]at this
 obtain⟨_,d,_,_,k2,_,_⟩:=f m o h;obtain⟨_,o2,_,_,k3,_,_⟩:=f m' o' h';exact u.hp.inj m m' d o2 x k2 k3 (i _ _ g) (i _ _ hx');obtain⟨q,d,_,k1,k2,k3,p⟩:=f m _ h;cases q with
 |row=>cases p|ax=>cases p|loop=>cases p|map=>cases p
 |fix e' ys=>
  cases d with
  |row=>exact k3.elim|ax=>exact k3.elim|map=>exact k3.elim|loop=>exact k3.elim|fix e2 zs=>obtain⟨x,g⟩:=u.hp.aN m _ _ k2;exact⟨x,back k1 g⟩
structure Tr(S1:AS)(base:gP)(nl:Nat)(μ1:gE)(Si:AS)(μi:gE)(used:gU):Prop where
 row:∀(l:Nat) (q:AO) (x:Nat),oV Si.hp l=some q->μi[l]? =some (some x)->∃m o,μ1[m]? =some (some x)/\oV S1.hp m=some o/\(m∈used\/PV base m=true)
 fix:∀(l:Nat) (e:gB) (xs:List A),oV Si.hp l=some (.fix e xs)->l<nl/\∃ys,oV S1.hp l=some (.fix e ys)
theorem OK:∀{l:gU} {d:Nat},sA d l=true↔d∈l
 |[],d=>by simp[sA]
 |x::a,d=>by
  have i:=OK (l:=a) (d:=d);simp only[sA,bO,Nat.beq_eq,aY,i];constructor;rintro(h|h);exact .inl h.symm;exact .inr h;rintro(h|h);exact .inl h.symm;exact .inr h
theorem VH(w:GS S1 V1 μ1 fr1 H1)(he:rX V0 V1)(hm:rX μ0 μ1){n l:Nat}(hn:V0.length=n)(hl:μ0.length=l){p:gP}:
  ∀(sp:jA) (u:gU) (f:AS) (Vi:gN) (μi:gE),Pa n l p S1 sp u=true->GS f Vi μi fr1 H1->rX V0 Vi->rX μ0 μi->Tr S1 p l μ1 f μi u->
   ∃W μ2,rX Vi W/\rX μi μ2/\GS (VG sp f) W μ2 fr1 H1/\Tr S1 p l μ1 (VG sp f) μ2 (BB S1 sp u)
 |[],u,f,Vi,μi,_,I,_,_,L=>⟨Vi,μi,.refl _,.refl _,I,L⟩
 |(d,.a a)::r,u,f,Vi,μi,i,I,e1,e2,L=>by
  simp only[Pa,aA]at i;have hv:=wW w.sy.cs w.sy.zero n l qZ _ _ _ i.1 (w.fr.get d);rw[tC he hn,tC hm hl]at hv;obtain⟨V',x1,x2,x3⟩:=rB I.sy (hv.ext e1 e2);have hg':GS {f with fr:=hT (uO a f.nx f.cs).a f.fr d,nx:=(uO a f.nx f.cs).nx,cs:=(uO a f.nx f.cs).cs} V' μi fr1 H1:=
   ⟨x2,I.hp.ext x1,(I.fr.ext x1 (.refl _)).aS x3⟩
  obtain⟨W,μ2,y1,y2,y3,y4⟩:=VH w he hm hn hl r u _ V' μi i.2 hg' (e1.trans x1) e2 ⟨L.row,L.fix⟩;exact⟨W,μ2,x1.trans y1,y2,y3,y4⟩
 |(d,.row e M a lo hi)::r,u,f,Vi,μi,i,I,e1,e2,L=>by
  simp only[Pa]at i;have B:=w.fr.get d;have O:∀(y:gW) (len:Nat) (g:gU),lo<=len->(len:Int)<=hi->(∀x,y=some x->x<H1.next/\(∀l q,oV f.hp l=some q->μi[l]? ≠some (some x))/\∃(b:Ob) (Z:gC),H1.get x=some b/\b.elem=e/\(b.sz=M/\(e=5->b.cells≠[]))/\b.cells=Z.flatMap T.cells/\Z.length=len/\∀t∈Z,Gm V0 μ0 a t/\t.cells.length=M)->
    rW fr1 d=(match y with|some x=> .ge x M 0 len|none=> .fp)->(y=none->len=0)->(∀x,y=some x->∃m o,μ1[m]? =some (some x)/\oV S1.hp m=some o/\m∈g)->(∀m∈u,m∈g)->Pa n l p S1 r g=true->
    ∃W μ2,rX Vi W/\rX μi μ2/\GS (VG ((d,.row e M a lo hi)::r) f) W μ2 fr1 H1/\Tr S1 p l μ1 (VG ((d,.row e M a lo hi)::r) f) μ2 (BB S1 r g):=by
   intro y len g hlo hhi hy hval hnone hnew hsub hok';have hf:=I.sy.fresh (v:=(len:Int)) hlo hhi;have K:=rX.app Vi [(len:Int)];have Y:=rX.app μi [y];have N:=(I.sy.new (len:Int)).2.1;have hgh:GH ((f.nl,.row e M a f.nx 0)::f.hp) (f.nl+1) (Vi++[(len:Int)]) (μi++[y]) H1:=(I.hp.ext K).alias (λ_ _ h=>by cases h) λx J=>by
    obtain⟨q1,q2,b,Z,q3,q4,q5,q6,q7,q8⟩:=hy x J;exact⟨q1,q2,b,q3,q4,q5,Z,len,N,by omega,q6,λt L=>⟨(q8 t L).1.ext (e1.trans K) (e2.trans Y),(q8 t L).2⟩⟩
   have hval':Gm (Vi++[(len:Int)]) (μi++[y]) (.ge f.nl M 0 0 f.nx 0) (rW fr1 d):=by
    rw[hval];cases y with
    |none=>
     have:=hnone rfl;exact .ar _ _ _ _ _ _ 0 len (sZ I.hp.len _) (K _ _ I.sy.zero) (by omega) N (by omega)
    |some x=>
     have:=Gm.ge (V:=Vi++[(len:Int)]) (U:=μi++[some x]) f.nl M 0 0 f.nx 0 x 0 len (sZ I.hp.len _) (K _ _ I.sy.zero) (by omega) N (by omega);simpa using this
   have hg':GS {fr:=hT (.ge f.nl M 0 0 f.nx 0) f.fr d,hp:=(f.nl,.row e M a f.nx 0)::f.hp,nx:=f.nx+1,nl:=f.nl+1,cs:= .le 0 f.nx (-lo):: .le f.nx 0 hi::f.cs} (Vi++[(len:Int)]) (μi++[y]) fr1 H1:=
    ⟨hf,hgh,(I.fr.ext K Y).aS hval'⟩
   have ht':Tr S1 p l μ1 {fr:=hT (.ge f.nl M 0 0 f.nx 0) f.fr d,hp:=(f.nl,.row e M a f.nx 0)::f.hp,nx:=f.nx+1,nl:=f.nl+1,cs:= .le 0 f.nx (-lo):: .le f.nx 0 hi::f.cs} (μi++[y]) g:=by
    refine⟨λk q x R J=> ?_,λk e' xs R=> ?_⟩;rcases wC I.hp.len J with⟨_,q2⟩|⟨q1,q2⟩
    obtain⟨m,o,r1,r2,r3⟩:=hnew x q2;exact⟨m,o,r1,r2,.inl r3⟩;simp only[oV]at R;rw[aH (by simp;omega)]at R;obtain⟨m,o,r1,r2,r3⟩:=L.row k q x R q2;exact⟨m,o,r1,r2,r3.imp (hsub m) id⟩;simp only[oV]at R;split at R;cases R;exact L.fix k e' xs R
   obtain⟨W,μ2,y1,y2,y3,y4⟩:=VH w he hm hn hl r g _ _ _ hok' hg' (e1.trans K) (e2.trans Y) ht';exact⟨W,μ2,K.trans y1,Y.trans y2,y3,y4⟩
  split at i;rename_i hv;simp only[aA,sQ,aF]at i;rw[hv]at B;have hnl:rW fr1 d= .fp:=by generalize rW fr1 d=z at B;cases B;rfl
  have hu:BB S1 ((d,.row e M a lo hi)::r) u=BB S1 r u:=by simp only[BB,hv]
  rw[hu];exact O none 0 u (by simpa using i.1) (by simpa using i.2.1) (λx J=>by cases J) hnl (λ_ =>rfl) (λx J=>by cases J) (λm h=>h) i.2.2;rename_i m sz' si ci s c hv;split at i;rename_i e' sz2 b s' c' hf;simp only[aA,bN]at i;obtain⟨k1,k2,k3,k4,k5,k6,k7,k8,k9,k10,k11,k12,k13⟩:=i;have k1:=oT k1;have k2:=oT k2;have k3:=oT k3;have k4:=oT k4;have k6:=oT k6;have hu:BB S1 ((d,.row e M a lo hi)::r) u=BB S1 r (m::u):=by simp only[BB,hv]
  rw[hu];subst k1 k2 k3 k4 k5 k6 k7;rw[hv]at B;generalize hz:rW fr1 d=z at B;cases B with
  |ar _ _ _ _ _ _ vi v g1 g2 g3 g4 g5=>
   have b1:=oX w.sy.cs k9 w.sy.zero g4;have b2:=oX w.sy.cs k10 g4 w.sy.zero;exact O none 0 (m::u) (by omega) (by omega) (λx J=>by cases J) hz (λ_ =>rfl) (λx J=>by cases J) (λq h=>aC _ h) k13
  |ge _ _ _ _ _ _ l' vi v g1 g2 g3 g4 g5=>
   have b1:=oX w.sy.cs k9 w.sy.zero g4;have b2:=oX w.sy.cs k10 g4 w.sy.zero;obtain⟨ob,o1,o2,o3,Z,v1,r1,r2,r3,r4⟩:=w.hp.at hf g1;rw[g4]at r1;cases r1;rw[w.sy.zero]at g2;cases g2;refine O (some l') Z.length (m::u) (by omega) (by omega) (λx J=> ?_) ?_ (λh=>by cases h) (λx J=>⟨m,_,by cases J;exact g1,hf,aO⟩) (λq h=>aC _ h) k13;cases J;refine⟨w.hp.lt m l' g1,λk q R hkx=> ?_,ob,Z,o1,o2,o3,r3,rfl,λt L=>⟨?_,(r4 t L).2⟩⟩;obtain⟨m',o',p1,p2,p3⟩:=L.row k q l' R hkx;have:=w.hp.inj m' m o' _ l' p2 hf p1 g1;subst this;rcases p3 with p3|p3;have:=OK.2 p3;rw[this]at k11;simp at k11;rw[p3]at k12;simp at k12;have:=wW w.sy.cs w.sy.zero n l qZ _ _ _ k8 (r4 t L).1
   rwa [tC he hn,tC hm hl]at this
   rw[hz];have:(v+c).toNat=Z.length:=by omega
   simp[this]
  cases i;cases i
end
section
variable{V V' V0 V1:gN}{U μ' μ0 μ1:gE}{H H1:Hp}{S S1:AS}{fr fr1:gC}
theorem uL{l j:Nat}{a:A}:∀(f:gP) (m:Nat),oV (setCell l j a f) m=(oV f m).map λo=>if l=m then(match o with| .fix e x=> .fix e (x.set j a)|o=>o)else o
 |[],m=>rfl
 |(k,.fix e x)::r,m=>by
  have i:=uL (l:=l) (j:=j) (a:=a) r m;by_cases d:k=l;subst d;simp only[setCell,fJ,cB,oV];by_cases h:k=m;subst h;simp;simp only[Nat.beq_eq,h,cN,i];by_cases h:k=m;subst h;have:¬l=k:=λe=>d e.symm;simp[setCell,oV,d,this];simp[setCell,oV,d,h,i]
 |(k,.row e p b s c)::r,m=>by
  have i:=uL (l:=l) (j:=j) (a:=a) r m;simp only[setCell,oV];by_cases h:k=m;subst h;simp;simp only[Nat.beq_eq,h,cN,i]
 |(k,.ax e p b s c)::r,m=>by
  have i:=uL (l:=l) (j:=j) (a:=a) r m;simp only[setCell,oV];by_cases h:k=m;subst h;simp;simp only[Nat.beq_eq,h,cN,i]
 |(k,.map v)::r,m=>by
  have i:=uL (l:=l) (j:=j) (a:=a) r m;simp only[setCell,oV];by_cases h:k=m;subst h;simp;simp only[Nat.beq_eq,h,cN,i]
 |(k,.loop st pe fr B g J ow u I)::r,m=>by
  have i:=uL (l:=l) (j:=j) (a:=a) r m;simp only[setCell,oV];by_cases h:k=m;subst h;simp;simp only[Nat.beq_eq,h,cN,i]
theorem ZB(h1:GS S1 V1 μ1 fr1 H1)(hm:rX μ0 μ1){l:Nat}(hl:μ0.length=l){base:gP}{used:gU}{Si:AS}{N:gP}{nl:Nat}{Z:gN}{μ':gE}(v:GH N nl Z μ' H1)(W:rX μ0 μ')
  {m j:Nat} {e:gB} {xs:List A} (hf:oV S1.hp m=some (.fix e xs)) {x:Nat} (hx:μ1[m]? =some (some x)) {b:Ob} (b1:H1.get x=some b) {c:T} (c1:b.cells[j]? =some c) {a:A} (x3:Gm Z μ' a c)
  (w:∀(k:Nat) (e:gB) (xs:List A),oV N k=some (.fix e xs)->k<l/\∃J,oV S1.hp k=some (.fix e J)):GH (setCell m j a N) nl Z μ' H1:=by
 refine⟨v.len,λk o g=> ?_,λk k' o o' y g B hy Y=> ?_,v.lt,λk e' J g=> ?_,v.fin⟩;rw[uL]at g;obtain⟨q,I,rfl⟩:=aG.1 g;obtain⟨y,q1,q2⟩:=v.obj k q I;refine⟨y,q1,λz hz=> ?_⟩;obtain⟨u,d,p⟩:=q2 z hz;split;rename_i R;subst R;cases q with
 |row=>exact⟨u,d,p⟩|ax=>exact⟨u,d,p⟩|loop=>exact⟨u,d,p⟩|map=>exact⟨u,d,p⟩
 |fix e' J=>
  refine⟨u,d,p.1,?_⟩;obtain⟨K,_⟩:=w m e' J I;subst hz;have O:μ0[m]? =some (some x):=by
   have:=qG hx K
   rwa [tC hm hl]at this
  have:=W _ _ O;rw[q1]at this;cases this;have d:H1.get x=some u:=d;rw[b1]at d;cases d;have f:=p.2.set x3 j;have:b.cells.set j c=b.cells:=by
   apply fL;intro i;rw[dM];split;rename_i L;subst L;split;exact c1.symm;rename_i hlt2;rw[cA (by omega)];rfl
  rw[this]at f;exact f
 exact⟨u,d,p⟩;rw[uL]at g B;obtain⟨q,I,_⟩:=aG.1 g;obtain⟨M,s,_⟩:=aG.1 B;exact v.inj k k' q M y I s hy Y;rw[uL]at g;obtain⟨M,s,h⟩:=aG.1 g;cases M with
 |row=>split at h<;>cases h|ax=>split at h<;>cases h|loop=>split at h<;>cases h|map=>split at h<;>cases h|fix W zs=>exact v.aN k W zs s
theorem Tr.cell{b:gP}{l:Nat}{Si:AS}{μi:gE}{u:gU}{m j:Nat}{a:A}{s:gP}{w:List A}{nx nl:Nat}{K:List pR}
  (f:∀(k:Nat) (q:AO) (x:Nat),oV s k=some q->μi[k]? =some (some x)->∃m o,μ1[m]? =some (some x)/\oV S1.hp m=some o/\(m∈u\/PV b m=true))
  (g:∀(k:Nat) (e:gB) (N:List A),oV s k=some (.fix e N)->k<l/\∃v,oV S1.hp k=some (.fix e v)):
  Tr S1 b l μ1 ⟨w,setCell m j a s,nx,nl,K⟩ μi u:=by
 refine⟨λk q y i z=> ?_,λk O v i=> ?_⟩;rw[uL]at i;obtain⟨p,d,_⟩:=aG.1 i;exact f k p y d z;rw[uL]at i;obtain⟨p,d,h⟩:=aG.1 i;cases p with
 |row=>split at h<;>cases h|ax=>split at h<;>cases h|loop=>split at h<;>cases h|map=>split at h<;>cases h
 |fix M B=>
  obtain⟨J,L,I⟩:=g k M B d;refine⟨J,L,?_⟩;split at h<;>cases h<;>exact I
theorem VD(p:GS S1 V1 μ1 fr1 H1)(he:rX V0 V1)(hm:rX μ0 μ1){n l:Nat}(hn:V0.length=n)(hl:μ0.length=l){i:gP}:
  ∀(oc:gY) (u:gU) (d:AS) (Vi:gN) (μi:gE),Oz n l i S1 oc u=true->GS d Vi μi fr1 H1->rX V0 Vi->rX μ0 μi->Tr S1 i l μ1 d μi u->
   ∃W μ2,rX Vi W/\rX μi μ2/\GS (Kz oc d) W μ2 fr1 H1
 |[],u,d,Vi,μi,_,z,_,_,_ =>⟨Vi,μi,.refl _,.refl _,z⟩
 |(m,j,.a t)::r,u,d,Vi,μi,f,z,e1,e2,I=>by
  simp only[Oz,aA]at f;obtain⟨hc,hr⟩:=f;split at hc;rename_i e xs hf;split at hc;rename_i a ha;obtain⟨x,w⟩:=p.hp.aN m _ _ hf;obtain⟨b,b1,b2⟩:=p.hp.at hf w;obtain⟨c,c1,c2⟩:=b2.2.at ha;have hv:=wW p.sy.cs p.sy.zero n l qZ _ _ _ hc c2;rw[tC he hn,tC hm hl]at hv;obtain⟨V',x1,x2,x3⟩:=rB z.sy (hv.ext e1 e2);have hgh:=ZB (used:=u) (base:=i) (Si:=d) p hm hl (z.hp.ext x1) e2 hf w b1 c1 x3 I.fix;have hg':GS {d with hp:=setCell m j (uO t d.nx d.cs).a d.hp,nx:=(uO t d.nx d.cs).nx,cs:=(uO t d.nx d.cs).cs} V' μi fr1 H1:=⟨x2,hgh,z.fr.ext x1 (.refl _)⟩;obtain⟨W,μ2,y1,y1',y2⟩:=VD p he hm hn hl r u _ V' μi hr hg' (e1.trans x1) e2 (Tr.cell (Si:=d) I.row I.fix);exact⟨W,μ2,x1.trans y1,y1',y2⟩;cases hc;cases hc
 |(m,j,.row e O a lo hi)::r,u,d,Vi,μi,f,z,e1,e2,I=>by
  simp only[Oz]at f;split at f;rename_i e0 xs hf;obtain⟨x0,hx0⟩:=p.hp.aN m _ _ hf;obtain⟨ob0,ob1,ob2⟩:=p.hp.at hf hx0;have N:∀(y:gW) (len:Nat) (g:gU) (c:T),ob0.cells[j]? =some c->lo<=len->(len:Int)<=hi->(∀x,y=some x->x<H1.next/\(∀l q,oV d.hp l=some q->μi[l]? ≠some (some x))/\∃(b:Ob) (Y:gC),H1.get x=some b/\b.elem=e/\(b.sz=O/\(e=5->b.cells≠[]))/\b.cells=Y.flatMap T.cells/\Y.length=len/\∀t∈Y,Gm V0 μ0 a t/\t.cells.length=O)->
    c=(match y with|some x=> .ge x O 0 len|none=> .fp)->(y=none->len=0)->(∀x,y=some x->∃m o,μ1[m]? =some (some x)/\oV S1.hp m=some o/\m∈g)->(∀m∈u,m∈g)->Oz n l i S1 r g=true->
    ∃W μ2,rX Vi W/\rX μi μ2/\GS (Kz ((m,j,.row e O a lo hi)::r) d) W μ2 fr1 H1:=by
   intro y len g c hcj hlo hhi hy hval hnone hnew hsub hok';have hf':=z.sy.fresh (v:=(len:Int)) hlo hhi;have B:=rX.app Vi [(len:Int)];have M:=rX.app μi [y];have L:=(z.sy.new (len:Int)).2.1;have hgh:GH ((d.nl,.row e O a d.nx 0)::d.hp) (d.nl+1) (Vi++[(len:Int)]) (μi++[y]) H1:=(z.hp.ext B).alias (λ_ _ h=>by cases h) λx w=>by
    obtain⟨q1,q2,b,Y,q3,q4,q5,q6,q7,q8⟩:=hy x w;exact⟨q1,q2,b,q3,q4,q5,Y,len,L,by omega,q6,λt I=>⟨(q8 t I).1.ext (e1.trans B) (e2.trans M),(q8 t I).2⟩⟩
   have hval':Gm (Vi++[(len:Int)]) (μi++[y]) (.ge d.nl O 0 0 d.nx 0) c:=by
    rw[hval];cases y with
    |none=>
     have:=hnone rfl;exact .ar _ _ _ _ _ _ 0 len (sZ z.hp.len _) (B _ _ z.sy.zero) (by omega) L (by omega)
    |some x=>
     have:=Gm.ge (V:=Vi++[(len:Int)]) (U:=μi++[some x]) d.nl O 0 0 d.nx 0 x 0 len (sZ z.hp.len _) (B _ _ z.sy.zero) (by omega) L (by omega);simpa using this
   have hrow':∀(k:Nat) (q:AO) (x:Nat),oV ((d.nl,.row e O a d.nx 0)::d.hp) k=some q->(μi++[y])[k]? =some (some x)->∃m o,μ1[m]? =some (some x)/\oV S1.hp m=some o/\(m∈g\/PV i m=true):=by
    intro k q x R w;rcases wC z.hp.len w with⟨_,q2⟩|⟨q1,q2⟩
    obtain⟨m,o,r1,r2,r3⟩:=hnew x q2;exact⟨m,o,r1,r2,.inl r3⟩;simp only[oV]at R;rw[aH (by simp;omega)]at R;obtain⟨m,o,r1,r2,r3⟩:=I.row k q x R q2;exact⟨m,o,r1,r2,r3.imp (hsub m) id⟩
   have J:∀(k:Nat) (e':gB) (xs:List A),oV ((d.nl,.row e O a d.nx 0)::d.hp) k=some (.fix e' xs)->k<l/\∃ys,oV S1.hp k=some (.fix e' ys):=by
    intro k e' xs R;simp only[oV]at R;split at R;cases R;exact I.fix k e' xs R
   have hsc:=ZB (used:=u) (base:=i) (Si:=d) p hm hl hgh (e2.trans M) hf hx0 ob1 hcj hval' J;have hg':GS {d with hp:=setCell m j (.ge d.nl O 0 0 d.nx 0) ((d.nl,.row e O a d.nx 0)::d.hp),nx:=d.nx+1,nl:=d.nl+1,cs:= .le 0 d.nx (-lo):: .le d.nx 0 hi::d.cs} (Vi++[(len:Int)]) (μi++[y]) fr1 H1:=
    ⟨hf',hsc,z.fr.ext B M⟩
   obtain⟨W,μ2,y1,y2,y3⟩:=VD p he hm hn hl r g _ _ _ hok' hg' (e1.trans B) (e2.trans M) (Tr.cell (Si:=d) hrow' J);exact⟨W,μ2,B.trans y1,M.trans y2,y3⟩
  split at f;rename_i hv;simp only[aA,sQ,aF]at f;obtain⟨c,c1,c2⟩:=ob2.2.at hv;cases c2;exact N none 0 u _ c1 (by simpa using f.1) (by simpa using f.2.1) (λx w=>by cases w) rfl (λ_ =>rfl) (λx w=>by cases w) (λm h=>h) f.2.2;rename_i q sz' si ci s c hv;split at f;rename_i e' sz2 b s' c' hfq;simp only[aA,bN]at f;obtain⟨k1,k2,k3,k4,k5,k6,k7,k8,k9,k10,k11,k12,k13⟩:=f;have k1:=oT k1;have k2:=oT k2;have k3:=oT k3;have k4:=oT k4;have k6:=oT k6;subst k1 k2 k3 k4 k5 k6 k7;obtain⟨cc,cc1,cc2⟩:=ob2.2.at hv;cases cc2 with
  |ar _ _ _ _ _ _ vi v g1 g2 g3 g4 g5=>
   have b1:=oX p.sy.cs k9 p.sy.zero g4;have b2:=oX p.sy.cs k10 g4 p.sy.zero;exact N none 0 (q::u) _ cc1 (by omega) (by omega) (λx w=>by cases w) rfl (λ_ =>rfl) (λx w=>by cases w) (λq h=>aC _ h) k13
  |ge _ _ _ _ _ _ l' vi v g1 g2 g3 g4 g5=>
   have b1:=oX p.sy.cs k9 p.sy.zero g4;have b2:=oX p.sy.cs k10 g4 p.sy.zero;obtain⟨ob,o1,o2,o3,Y,v1,r1,r2,r3,r4⟩:=p.hp.at hfq g1;rw[g4]at r1;cases r1;rw[p.sy.zero]at g2;cases g2;refine N (some l') Y.length (q::u) _ cc1 (by omega) (by omega) (λx w=> ?_) ?_ (λh=>by cases h) (λx w=>⟨q,_,by cases w;exact g1,hfq,aO⟩) (λq h=>aC _ h) k13;cases w;refine⟨p.hp.lt q l' g1,λk q' R hkx=> ?_,ob,Y,o1,o2,o3,r3,rfl,λt I=>⟨?_,(r4 t I).2⟩⟩;obtain⟨m',o',p1,p2,p3⟩:=I.row k q' l' R hkx;have:=p.hp.inj m' q o' _ l' p2 hfq p1 g1;subst this;rcases p3 with p3|p3;have:=OK.2 p3;rw[this]at k11;simp at k11;rw[p3]at k12;simp at k12;have:=wW p.sy.cs p.sy.zero n l qZ _ _ _ k8 (r4 t I).1
   rwa [tC he hn,tC hm hl]at this
   have:(v+c).toNat=Y.length:=by omega
   simp[this]
  cases f;cases f;cases f
end
def MD:T->Option Int
 | .int _ n=>some n| .str l=>some l.length| .fp=>some 0| .sl _ x=>some x.length| .ac _ n _ =>some n| .ge _ _ _ len=>some len|_ =>none
noncomputable def aSp:Nat->Hp->List T->Nat->Option Nat
 |0,_,_,_ =>none
 | k+1,H,fr,d=>if Nat.blt d 900 then match rW fr d with
   | .ptr x _ =>some x|_ =>none
  else if Nat.blt d 1000 then match rW fr (d-900)with
   | .ptr x _ =>match H.get x with
    |some o=>match o.cells with
     | .ptr a _ ::_ =>some a|_ =>none
    |none=>none
   |_ =>none
  else match rW fr (Nat.mod d 1000)with
   | .yl x=>match H.any x with
    |some o=>match o.me with
     |some (.loop r)=>aSp k H (r.fr.view r.n) (Nat.div d 1000-1)|_ =>none
    |none=>none
   |_ =>none
noncomputable def YS(a:gN)(f:gC)(H:Hp)(g:Int):ZT->Option Int
 | .slot d=>MD (rW f d)
 | .cell d j=>match aSp 5 H f d with
  |some x=>match H.get x with
   |some o=>match o.cells[j]? with
    |some t=>MD t|none=>none
   |none=>none
  |none=>none
 | .ghost=>some g| .zero=>some 0| .sym s=>a[s]?
section
variable{V V' V0 V1:gN}{U μ' μ0 μ1:gE}{H H1:Hp}{S S1:AS}{fr fr1:gC}
theorem Zg(p:V[0]? =some 0){a:A}{t:T}(u:Gm V U a t){s:Nat}{c:Int}(h:KP a=some (s,c)):∃v,V[s]? =some v/\MD t=some (v+c):=by
 cases u with
 |int _ _ _ v d g=>simp only[KP]at h;cases h;exact⟨v,d,rfl⟩|gh l=>simp only[KP]at h;cases h;exact⟨0,p,by simp[MD]⟩|str _ _ v l d g=>simp only[KP]at h;cases h;exact⟨v,d,by simp[MD,g]⟩|fp=>simp only[KP]at h;cases h;exact⟨0,p,by simp[MD]⟩
 |sl _ _ _ _ x v d g b j=>
  simp only[KP]at h;cases h;refine⟨v,g,?_⟩;rcases d with⟨rfl,rfl⟩|⟨f,rfl⟩|⟨i,m,f,rfl,rfl⟩
  simp only[MD,<-b];rfl;simp only[MD,<-b];simp only[dQ,eV]at b;simp only[MD,<-b]
 |g7 _ _ _ _ _ x v q d g b j=>
  simp only[KP]at h;cases h;refine⟨v,g,?_⟩;rcases d with⟨rfl,rfl⟩|⟨f,rfl⟩|⟨i,m,f,rfl,rfl⟩
  simp only[MD,<-b];rfl;simp only[MD,<-b];simp only[dQ,eV]at b;simp only[MD,<-b]
 |sx _ _ i m f v d g=>simp only[KP]at h;cases h;exact⟨v,d,by simp only[MD,g]⟩
 |ge _ _ _ _ _ _ z w v d g b j o=>
  simp only[KP]at h;cases h;exact⟨v,j,by simp only[MD];rw[Int.toNat_of_nonneg o]⟩
 |ar _ _ _ _ _ _ w v d g b j o=>
  simp only[KP]at h;cases h;exact⟨v,j,by simp only[MD,o]⟩
 |_ =>simp only[KP]at h;cases h
theorem GH.dc{i:gP}{nl:Nat}{H:Hp}(u:GH i nl V U H){l x:Nat}{st:LoopState}{p:jL}{g:List A}{f:Array Tmp}{a j:Code}{o:hJ}{v B:An}(h:oV i l=some (.loop st p g f a j o v B))(z:U[l]? =some (some x)):
  ∃b r,H.any x=some b/\b.me=some (.loop r)/\r.st=st/\r.pe=mT p/\r.ps=f/\r.iF=a/\r.bd=j/\r.ow=o/\pT V U g (r.fr.view r.n):=by
 obtain⟨y,d,s⟩:=u.obj l _ h;rw[z]at d;cases d;obtain⟨b,q,r,w⟩:=s x rfl;exact⟨b,r,q,w⟩
theorem Ox{J:gP}{nl:Nat}(v:GH J nl V U H):∀(k:Nat) (p:List A) (fr:gC) (d l:Nat),pT V U p fr->Dh k J p d=some l->∃x,aSp k H fr d=some x/\U[l]? =some (some x)
 |0,p,fr,d,l,_,h=>by simp[Dh]at h
 |k+1,p,fr,d,l,q,h=>by
  simp only[Dh]at h;simp only[aSp];split at h;rename_i o;rw[aJ o];have a:=q.get d;split at h;rename_i N u i;cases h;rw[i]at a;generalize rW fr d=z at a;cases a with
  |ptr _ _ x j=>exact⟨x,rfl,j⟩
  cases h;rename_i B;rw[aH B];split at h
  .rename_i o;rw[aJ o];have a:=q.get (d-900);split at h
   .rename_i Y u i;rw[i]at a;generalize rW fr (d-900)=z at a;cases a with
    |ptr _ _ x j=>
    split at h;rename_i e Z I r g;cases h;obtain⟨b,b1,b2⟩:=v.at g j;obtain⟨y,W,w,M,h2⟩:=b2.2.I;cases M with
    |ptr _ _ L s=>exact⟨L,by simp only[b1,w],s⟩
    cases h
   cases h
  rename_i o;rw[aH o];have a:=q.get (Nat.mod d 1000);split at h
  .rename_i N i;rw[i]at a;generalize rW fr (Nat.mod d 1000)=z at a;cases a with
   |yl _ x j=>
   split at h;rename_i g;obtain⟨b,r,b1,b2,_,_,_,_,_,_,b3⟩:=v.dc g j;obtain⟨R,K,O⟩:=Ox v k _ _ _ _ b3 h;exact⟨R,by simp only[b1,b2];exact K,O⟩;cases h
  cases h
theorem xM(f:GS S V U fr H){V0:gN}{B:Nat}(u:rX V0 V)(w:B<=V0.length){q:Nat}{z g:Int}(x:∀v,V[q]? =some v->v+z=g)(p:∃v,V[q]? =some v){r:ZT}{s:Nat}{c:Int}(h:HB S q z B r=some (s,c)):
  ∃v,V[s]? =some v/\YS V0 fr H g r=some (v+c):=by
 cases r with
 |slot d=>exact Zg f.sy.zero (f.fr.get d) h
 |cell d j=>
  simp only[HB]at h;split at h;rename_i l i;obtain⟨R,L,o⟩:=Ox f.hp 5 _ _ _ _ f.fr i;split at h;rename_i e W I;obtain⟨b,b1,b2⟩:=f.hp.at I o;split at h;rename_i a J;obtain⟨t,t1,t2⟩:=b2.2.at J;obtain⟨v,M,N⟩:=Zg f.sy.zero t2 h;exact⟨v,M,by simp only[YS,L,b1,t1];exact N⟩;cases h;cases h;cases h
 |ghost=>
  simp only[HB]at h;cases h;obtain⟨v,i⟩:=p;exact⟨v,i,by simp only[YS,x v i]⟩
 |zero=>simp only[HB]at h;cases h;exact⟨0,f.sy.zero,rfl⟩
 |sym k=>
  simp only[HB]at h;split at h;rename_i O;cases h;have K:s<V0.length:=cX (pC O) w;have e:V0[s]? =some V0[s]:=aB K;exact⟨_,u _ _ e,by simp only[YS,e];simp⟩;cases h
theorem Dl(o:GS S1 V1 μ1 fr1 H1){s:gN}{J:Nat}(f:rX s V1)(i:J<=s.length){u:Nat}{I g:Int}(j:∀v,V1[u]? =some v->v+I=g)(d:∃v,V1[u]? =some v):∀(cons:jR),Iu u I J S1 cons=true->
  ∀q∈cons,∃x y,YS s fr1 H1 g q.1=some x/\YS s fr1 H1 g q.2.1=some y/\x<=y+q.2.2
 |(p,q,c)::r,h,z,hz=>by
  simp only[Iu,aA]at h;rcases aY.1 hz with rfl|hz
  have B:=h.1;split at B;rename_i x a y b L R;obtain⟨v,M,O⟩:=xM o f i j d L;obtain⟨w,K,N⟩:=xM o f i j d R;have:=xR o.sy.cs _ _ _ _ B v w M K;exact⟨_,_,O,N,by simp only;omega⟩;cases B;exact Dl o f i j d r h.2 z hz
theorem VC(o:GS S V U fr H){s:gN}(f:rX s V){B:Nat}(i:B<=s.length){g:Int}(d:V[B]? =some g):∀(cons:jR) (j:List pR),(∀q∈cons,∃x y,YS s fr H g q.1=some x/\YS s fr H g q.2.1=some y/\x<=y+q.2.2)->
  MZ B cons S=some j->oZ V j
 |[],j,_,h=>by simp only[MZ]at h;cases h;exact o.sy.cs
 |(p,q,c)::r,j,L,h=>by
  simp only[MZ]at h;split at h;rename_i x a y b R hq;split at h;rename_i J I;cases h;have O:=VC o f i d r J (λz W=>L z (aC _ W)) I;obtain⟨v,Y,v2⟩:=xM o f i (g:=g) (λv h=>by rw[d]at h;cases h;omega) ⟨_,d⟩ R;obtain⟨w,M,Z⟩:=xM o f i (g:=g) (λv h=>by rw[d]at h;cases h;omega) ⟨_,d⟩ hq;obtain⟨x',y',K,u,N⟩:=L _ aO;simp only at K u N;rw[v2]at K;rw[Z]at u;cases K;cases u;exact .cons ⟨v,w,Y,M,by omega⟩ O;cases h;cases h
theorem RG(hk:qF H H1)(u:GS S V0 μ0 fr H)(I:GS S1 V1 μ1 fr1 H1)(j:rX V0 V1)(p:rX μ0 μ1){w:iR}{s:jA}{o:gY}{cons:jR}{m0 g:Int}(hg:0<=g)(M:g<=m0)
  {gs:Nat} {gc:Int} (hgh:∀v,V1[gs]? =some v->v+gc=g) (R:∃v,V1[gs]? =some v) (h:Uj S w s o cons S1 gs gc=true) {Sh:AS} (a:Hr S w s o cons m0=some Sh):
  ∃O μ2,rX V0 O/\rX μ0 μ2/\O[S.nx]? =some g/\GS Sh O μ2 fr1 H1:=by
 simp only[Uj,aA]at h;obtain⟨k1,k2,k3,k4,k5⟩:=h;have J:=u.sy.len;have hl:=u.hp.len;have hb:=aOh (sp:=s) hk u I j p hg M k1 k2;have i:=rX.app V0 [g];have L:=(u.sy.new g).2.1;have Z:Tr S1 (HH S s o) S.nl μ1 (Ww S w s o m0) μ0 []:=by
  refine⟨λl q x K hx=> ?_,λl e xs K=> ?_⟩;obtain⟨q',B,_⟩:=yH _ _ _ K;obtain⟨h4,Y,N,_⟩:=EO _ _ _ k2 B;exact⟨l,Y,p _ _ hx,N,.inr (by unfold PV;rw[B];rfl)⟩;obtain⟨q',B,d⟩:=yH _ _ _ K;obtain⟨h4,Y,N,f⟩:=EO _ _ _ k2 B;refine⟨h4,?_⟩;cases q' with
  |row=>cases d|ax=>cases d|loop=>cases d|map=>cases d
  |fix e' ys=>
   cases d;cases Y with
   |row=>exact f.elim|ax=>exact f.elim|loop=>exact f.elim|map=>exact f.elim|fix e2 zs=>obtain⟨rfl,_⟩:=f;exact⟨zs,N⟩
 obtain⟨Va,μa,z,a2,a3,a4⟩:=VH I j p J hl s [] _ _ _ k3 hb i (.refl _) Z;obtain⟨Vb,μb,b1,b1',b2⟩:=VD I j p J hl o _ _ Va μa k4 a3 (i.trans z) a2 a4;unfold Hr at a;simp only at a;split at a;rename_i cs W;cases a;have b:Vb[S.nx]? =some g:=b1 _ _ (z _ _ L);have hcc:=VC b2 ((i.trans z).trans b1) (Nat.le_of_eq J.symm) b cons cs (Dl I j (Nat.le_of_eq J.symm) hgh R cons k5) W;exact⟨Vb,μb,(i.trans z).trans b1,a2.trans b1',b,⟨b2.sy.len,b2.sy.zero,hcc,b2.sy.one⟩,b2.hp,b2.fr⟩;cases a
end
section
variable{V V' V0 V1:gN}{U μ' μ0 μ1:gE}{X:AX}{gl:gG}{pe:gM}{H H1:Hp}{S S1:AS}{P:gD}
variable{call:FuncId->List A->AS->Option (List AR)}{ee:gQ}{F:hJ}{fr fr1:gC}
abbrev iW:=Nat->Nat->Nat->List T->Hp->Option (Bool×Hp)
variable{yld:Nat->List A->AS->Option (List AR)}{yd:iW}
def Rw(l:List (Go.Ps.X×AS))(V:gN)(U:gE)(x:Go.Ps.X)(f:gC)(H:Hp):Prop:=
 ∃S,(x,S)∈l/\∃V' μ',rX V V'/\rX U μ'/\GS S V' μ' f H
theorem Rw.lift{l a:List (Go.Ps.X×AS)}{x:Go.Ps.X}(h:Rw l V U x fr H)(f:∀y∈l,y∈a):Rw a V U x fr H:=by
 obtain⟨S,d,b⟩:=h;exact⟨S,f _ d,b⟩
theorem Rw.trans{l:List (Go.Ps.X×AS)}{x:Go.Ps.X}(o:rX V V')(i:rX U μ')(h:Rw l V' μ' x fr H):Rw l V U x fr H:=by
 obtain⟨S,g,a,b,f,d,j⟩:=h;exact⟨S,g,a,b,o.trans f,i.trans d,j⟩
theorem XP:∀(l:iZ) (q:List (Go.Ps.X×AS)),Yv l=some q->∀s∈l,s.fq=none/\(.normal,s.S)∈q
 |s::r,q,h,z,hz=>by
  simp only[Yv]at h;split at h;rename_i f;split at h;rename_i d g;cases h;rcases aY.1 hz with rfl|hz
  exact⟨f,aO⟩;obtain⟨b,a⟩:=XP r d g z hz;exact⟨b,aC _ a⟩;cases h;cases h
theorem WK{id:Nat}:∀{l:List (Go.Ps.X×AS)} {x:Go.Ps.X} {S:AS},(x,S)∈l->((match x with| .exit i=>if i=id then .normal else .exit i|x=>x:Go.Ps.X),S)∈WJ id l
 |(y,d)::r,x,S,h=>by
  rcases aY.1 h with h|h;cases h;cases y with
  |normal=>exact aO|ret=>exact aO
  |exit i=>
   simp only[WJ];by_cases a:i=id;rw[aJ a,aJ (by rw[a];simp)];exact aO;rw[aH a,aH (by simpa using a)];exact aO
  have b:=WK (id:=id) h;cases y with
  |normal=>exact aC _ b|ret=>exact aC _ b|exit i=>exact aC _ b
theorem EY:∀{l:List (Go.Ps.X×AS)},DA l=true->∀y∈l,y.1≠ .normal
 |(.ret,_)::r,h,y,hy=>by
  rcases aY.1 hy with rfl|hy;simp;exact EY (l:=r) (by simpa [DA]using h) y hy
 |(.exit _,_)::r,h,y,hy=>by
  rcases aY.1 hy with rfl|hy;simp;exact EY (l:=r) (by simpa [DA]using h) y hy
theorem yI{run:AS->Option (List (Go.Ps.X×AS))}{w:iR}{g:LA}{v:gY}{B:AS}:∀(l q:List (Go.Ps.X×AS)),yX run S w g v B l=some q->∀x f,(x,f)∈l->
  (x= .normal/\Uj S w g.sp v g.cons f S.nx (Int.ofNat g.gk)=true/\CE S B f g.m0 g.ms=true)\/(x≠ .normal/\(x,f)∈q)\/(x= .normal/\∃i,run f=some i/\DA i=true/\∀y∈i,y∈q)
 |(y,M)::r,q,h,x,f,hm=>by
  have step:∀{j:List (Go.Ps.X×AS)} {p:List (Go.Ps.X×AS)},(∀z∈j,z∈p)->((x= .normal/\Uj S w g.sp v g.cons f S.nx (Int.ofNat g.gk)=true/\CE S B f g.m0 g.ms=true)\/(x≠ .normal/\(x,f)∈j)\/(x= .normal/\∃i,run f=some i/\DA i=true/\∀y∈i,y∈j))->
    ((x= .normal/\Uj S w g.sp v g.cons f S.nx (Int.ofNat g.gk)=true/\CE S B f g.m0 g.ms=true)\/(x≠ .normal/\(x,f)∈p)\/(x= .normal/\∃i,run f=some i/\DA i=true/\∀y∈i,y∈p)):=λK o=>by
   rcases o with o|⟨a,b⟩|⟨a,i,b,c,d⟩;exact .inl o;exact .inr (.inl ⟨a,K _ b⟩);exact .inr (.inr ⟨a,i,b,c,λy J=>K _ (d y J)⟩)
  cases y with
  |normal=>
   simp only[yX]at h;split at h;rename_i o;simp only[aA]at o;rcases aY.1 hm with hm|hm
   cases hm;exact .inl ⟨rfl,o⟩;exact yI r q h x f hm;split at h;rename_i i I;split at h;rename_i L;split at h;rename_i j u;cases h;rcases aY.1 hm with hm|hm
   cases hm;exact .inr (.inr ⟨rfl,i,I,L,λy J=>List.mem_append_left _ J⟩);exact step (λz s=>List.mem_append_right _ s) (yI r j u x f hm);cases h;cases h;cases h
  |ret=>
   simp only[yX]at h;split at h;rename_i j u;cases h;rcases aY.1 hm with hm|hm
   cases hm;exact .inr (.inl ⟨by simp,aO⟩);exact step (λz s=>aC _ s) (yI r j u x f hm);cases h
  |exit id=>
   simp only[yX]at h;split at h;rename_i j u;cases h;rcases aY.1 hm with hm|hm
   cases hm;exact .inr (.inl ⟨by simp,aO⟩);exact step (λz s=>aC _ s) (yI r j u x f hm);cases h
noncomputable def GN(f:gC)(H:Hp):aFm->Option Int
 | .down p c=>match YS [] f H 0 p with
  |some x=>some (x+c)|none=>none
 | .up p q c=>match YS [] f H 0 p,YS [] f H 0 q with
  |some x,some y=>some (y+c-x)|_,_ =>none
theorem aJm(d:GS S V U fr H){K B:AS}{z:Int}{g:aFm}(h:CE S K B z g=true):∃M,GN fr H g=some M/\M<=z:=by
 have j:∀v,V[0]? =some v->v+0=0:=λv u=>by rw[d.sy.zero]at u;cases u;rfl
 cases g with
 |down p c=>
  simp only[CE,aA]at h;have f:=h.1;split at f;rename_i x a i;obtain⟨v,o,s⟩:=xM d (V0:=[]) (λ_ _ h=>by simp at h) (bB 0) j ⟨0,d.sy.zero⟩ i;have:=oX d.sy.cs f o d.sy.zero;exact⟨v+a+c,by simp only[GN,s],by omega⟩;cases f
 |up p q c=>
  simp only[CE,aA]at h;have f:=h.1;split at f;rename_i x a y b i L;obtain⟨v,o,s⟩:=xM d (V0:=[]) (λ_ _ h=>by simp at h) (bB 0) j ⟨0,d.sy.zero⟩ i;obtain⟨w,I,J⟩:=xM d (V0:=[]) (λ_ _ h=>by simp at h) (bB 0) j ⟨0,d.sy.zero⟩ L;have:=oX d.sy.cs f I o;exact⟨w+b+c-(v+a),by simp only[GN,s,J],by omega⟩;cases f
theorem Ot{Sh W:AS}(i:GS Sh V U fr H)(d:GS W V' μ' fr1 H1)(u:rX V V'){m0:Int}{s:aFm}(h:CE S Sh W m0 s=true):∃M L,GN fr H s=some M/\GN fr1 H1 s=some L/\L+1<=M/\0<=L:=by
 have B:∀v,V[0]? =some v->v+0=0:=λv j=>by rw[i.sy.zero]at j;cases j;rfl
 have g:∀v,V'[0]? =some v->v+0=0:=λv j=>by rw[d.sy.zero]at j;cases j;rfl
 cases s with
 |down p c=>
  simp only[CE,aA]at h;have f:=h.2;split at f;rename_i x a y b z R;simp only[aA]at f;obtain⟨v,I,O⟩:=xM i (V0:=[]) (λ_ _ h=>by simp at h) (bB 0) B ⟨0,i.sy.zero⟩ z;obtain⟨w,o,K⟩:=xM d (V0:=[]) (λ_ _ h=>by simp at h) (bB 0) g ⟨0,d.sy.zero⟩ R;have q1:=oX d.sy.cs f.1 o (u _ _ I);have q2:=oX d.sy.cs f.2 d.sy.zero o;exact⟨v+a+c,w+b+c,by simp only[GN,O],by simp only[GN,K],by omega,by omega⟩;cases f
 |up p q c=>
  simp only[CE,aA]at h;have f:=h.2;split at f;rename_i x a y b x' a' y' b' z R N J;simp only[aA,bN]at f;obtain⟨k1,k2,k3,k4⟩:=f;have k1:=oT k1;subst k1 k2;obtain⟨v,I,O⟩:=xM i (V0:=[]) (λ_ _ h=>by simp at h) (bB 0) B ⟨0,i.sy.zero⟩ z;obtain⟨w,o,K⟩:=xM i (V0:=[]) (λ_ _ h=>by simp at h) (bB 0) B ⟨0,i.sy.zero⟩ R;obtain⟨v',Y,v4⟩:=xM d (V0:=[]) (λ_ _ h=>by simp at h) (bB 0) g ⟨0,d.sy.zero⟩ N;obtain⟨w',Z,w4⟩:=xM d (V0:=[]) (λ_ _ h=>by simp at h) (bB 0) g ⟨0,d.sy.zero⟩ J;have:=u _ _ o;rw[Z]at this;cases this;have q1:=oX d.sy.cs k3 (u _ _ I) Y;have q2:=oX d.sy.cs k4 Y Z;exact⟨w+b+c-(v+a),w+b+c-(v'+a'),by simp only[GN,O,K],by simp only[GN,v4,w4],by omega,by omega⟩;cases f
theorem aHk{a n:Nat}{g:Int}(h:GS S V U fr H)(b:V[n]? =some (Int.ofNat a*g)):GS (nM a n S) V U fr H:=by
 unfold nM;split;rename_i e;have e:=oT e;subst e;exact⟨⟨h.sy.len,h.sy.zero,.cons ⟨_,0,b,h.sy.zero,by show(2*g-0-0)%2=0;omega⟩ h.sy.cs,h.sy.one⟩,h.hp,h.fr⟩;exact h
theorem aRo{H0:Hp}(hs:GS S V0 μ0 fr H0){run:AS->Option (List (Go.Ps.X×AS))}{w:iR}{j:LA}{oc:gY}{Sh:AS}(hi:Hr S w j.sp oc j.cons (Int.ofNat j.gk*j.m0)=some Sh){l q:List (Go.Ps.X×AS)}(hl:run (nM j.gk S.nx Sh)=some l)(hq:yX run S w j oc Sh l=some q)
  {f:Nat->Nat->List T->Hp->Option (Go.Ps.X×List T×Hp)} (i:∀(S':AS) (I:List (Go.Ps.X×AS)),run S'=some I->∀(V:gN) (U:gE) (fr:gC) (H:Hp),GS S' V U fr H->rX μ0 U->∃x a u,Ev (λn d=>f n d fr H=some (x,a,u))/\qF H u/\Rw I V U x a u):
  ∀(N:Nat) (V:gN) (U:gE) (fr:gC) (H:Hp) (g:Int),GS Sh V U fr H->qF H0 H->rX V0 V->rX μ0 U->V[S.nx]? =some (Int.ofNat j.gk*g)->0<=g->(∀M,GN fr H j.ms=some M->M<=N)->((∃o,CE S Sh o j.m0 j.ms=true)->∃M,GN fr H j.ms=some M/\M+g<=j.m0)->
   ∃x a u,x≠ .normal/\(∃m,∀n d k,m<=n->m<=d->m<=k->oW.gx (f n d) k fr H=some (x,a,u))/\Rw q V0 μ0 x a u:=by
 have out:∀{V:gN} {U:gE} {fr fr1:gC} {H H1:Hp} {x:Go.Ps.X} {o:AS} {m:Nat} {V':gN} {μ':gE},rX V0 V->rX μ0 U->(∀n d,m<=n->m<=d->f n d fr H=some (x,fr1,H1))->rX V V'->rX U μ'->GS o V' μ' fr1 H1->((x≠ .normal/\(x,o)∈q)\/(x= .normal/\∃I,run o=some I/\DA I=true/\∀y∈I,y∈q))->
   ∃x a u,x≠ .normal/\(∃m,∀n d k,m<=n->m<=d->m<=k->oW.gx (f n d) k fr H=some (x,a,u))/\Rw q V0 μ0 x a u:=by
  intro V U fr fr1 H H1 x o m V' μ' R z L p J B hk;rcases hk with⟨k1,k2⟩|⟨rfl,I,k1,k2,k3⟩
  refine⟨x,fr1,H1,k1,⟨m+1,λn d k hn hd hk=> ?_⟩,o,k2,V',μ',R.trans p,z.trans J,B⟩;obtain⟨k,rfl⟩:∃k',k=k'+1:=⟨k-1,by omega⟩;simp only[oW.gx,L n d (by omega) (by omega)];cases x<;>first|rfl|exact absurd rfl k1
  obtain⟨x',fr2,H2,⟨m',hm'⟩,_,S3,Z,V3,μ3,y1,y2,g3⟩:=i o I k1 V' μ' fr1 H1 B (z.trans J);have hx:=EY k2 _ Z;refine⟨x',fr2,H2,hx,⟨max m m'+2,λn d k hn hd hk=> ?_⟩,S3,k3 _ Z,V3,μ3,(R.trans p).trans y1,(z.trans J).trans y2,g3⟩;obtain⟨k,rfl⟩:∃k',k=k'+2:=⟨k-2,by omega⟩;simp only[oW.gx,L n d (by omega) (by omega),hm' n d (by omega) (by omega)];cases x'<;>first|rfl|exact absurd rfl hx
 intro N
 induction N with
 |zero=>
  intro V U fr H g hg W R z s h0 hN hM;obtain⟨x,fr1,H1,⟨m,L⟩,Y,o,Z,V',μ',p,J,B⟩:=i _ l hl V U fr H (aHk hg s) z;rcases yI l q hq x o Z with⟨rfl,k1,k2⟩|hk
  obtain⟨M,M',q1,q2,q3,q4⟩:=Ot hg B p k2;have:=hN M q1;omega;exact out R z L p J B hk
 |succ N ih=>
  intro V U fr H g hg W R z s h0 hN hM;obtain⟨x,fr1,H1,⟨m,L⟩,Y,o,Z,V',μ',p,J,B⟩:=i _ l hl V U fr H (aHk hg s) z;rcases yI l q hq x o Z with⟨rfl,k1,k2⟩|hk
  obtain⟨M,M',q1,q2,q3,q4⟩:=Ot hg B p k2;have hN':=hN M q1;obtain⟨M2,q5,q6⟩:=hM ⟨_,k2⟩;rw[q1]at q5;cases q5;obtain⟨V2,μ2,y1,y2,y3,y4⟩:=RG (W.trans Y) hs B (R.trans p) (z.trans J) (g:=Int.ofNat j.gk*(g+1)) (Int.mul_nonneg (Int.natCast_nonneg _) (by omega)) (Int.mul_le_mul_of_nonneg_left (by omega) (Int.natCast_nonneg _)) (gs:=S.nx) (gc:=Int.ofNat j.gk) (λv hv=>by rw[p _ _ s]at hv;cases hv;rw[Int.mul_add,Int.mul_one]) ⟨_,p _ _ s⟩ k1 hi;obtain⟨x',a,u,z1,⟨m',z2⟩,z3⟩:=ih V2 μ2 fr1 H1 (g+1) y4 (W.trans Y) y1 y2 y3 (by omega) (λM3 h3=>by rw[q2]at h3;cases h3;omega) (λ_ =>⟨M',q2,by omega⟩);refine⟨x',a,u,z1,⟨max m m'+1,λn d k hn hd hk=> ?_⟩,z3⟩;obtain⟨k,rfl⟩:∃k',k=k'+1:=⟨k-1,by omega⟩;simp only[oW.gx,L n d (by omega) (by omega)];exact z2 n d k (by omega) (by omega) (by omega);exact out R z L p J B hk
theorem Bu{w:iR}{a:jA}:∀(l:iZ),Lg S w a l=true->∀s∈l,s.fq=none/\Uj S w a [] [] s.S 0 0=true
 |s::r,h,z,hz=>by
  simp only[Lg,aA]at h;rcases aY.1 hz with rfl|hz
  exact⟨by simpa using h.1,h.2.1⟩;exact Bu r h.2.2 z hz
theorem QR(B:GS S V0 μ0 fr H){w:iR}{l d:iZ}(h:XK S w l=some d){f:gC}{b:Hp}{p:jJ}(L:qF H b)(a:xU P gl pe F l V0 μ0 f b p):xU P gl pe F d V0 μ0 f b p:=by
 have j:∀(s:Af) (r:iZ),(if Lg S w (aDp S.nx S.nl s r w) (s::r)then match Hr S w (aDp S.nx S.nl s r w) [] [] 0 with|some q=>some [⟨q,none,[]⟩]|none=>none else none)=some d->xU P gl pe F (s::r) V0 μ0 f b p->xU P gl pe F d V0 μ0 f b p:=by
  intro s r h ⟨z,z1,V1,μ1,e1,e2,e3,g1,_⟩;split at h;rename_i x;split at h;rename_i q i;cases h;obtain⟨k1,k2⟩:=Bu _ x z z1;obtain⟨I,μ2,J,K,_,u⟩:=RG L B g1 e1 e2 (g:=0) (m0:=0) (by omega) (by omega) (gs:=0) (gc:=0) (λv o=>by rw[g1.sy.zero]at o;cases o;rfl) ⟨0,g1.sy.zero⟩ k2 i;exact⟨_,aR _,I,μ2,J,K,by rw[<-e3,k1],u,.nil⟩;cases h;cases h
 match l,h,a with
 |[],h,a=>simp only[XK]at h;cases h;exact a|[s],h,a=>simp only[XK]at h;cases h;exact a|s::t::r,h,a=>exact j s (t::r) h a
theorem Nt(j:GS S V0 μ0 fr H){w:iR}:∀(n:Nat) (l g:iZ),Da S w n l=some g->∀{fr1:gC} {H1:Hp} {q:jJ},qF H H1->xU P gl pe F l V0 μ0 fr1 H1 q->xU P gl pe F g V0 μ0 fr1 H1 q
 |0,l,g,h,_,_,_,_,p=>by simp only[Da]at h;cases h;exact p|n+1,[],g,h,_,_,_,_,p=>by simp only[Da]at h;cases h;exact p
 |n+1,s::r,g,h,fr1,H1,q,u,⟨z,z1,o⟩=>by
  simp only[Da]at h;split at h;rename_i a v;split at h;rename_i b B;cases h;rcases aY.1 z1 with rfl|z1
  exact(QR j v u ⟨z,aO,o⟩).lift λy d=>List.mem_append_left _ d;by_cases x:aAa s z w=true;exact(QR j v u ⟨z,aC _ (List.mem_filter.2 ⟨z1,x⟩),o⟩).lift λy d=>List.mem_append_left _ d;exact(Nt j n _ b B u ⟨z,List.mem_filter.2 ⟨z1,by simpa using x⟩,o⟩).lift λy d=>List.mem_append_right _ d;cases h;cases h
def Fl(f:Nat->List A->AS->Option (List AR))(j:iW):Prop:=
 ∀l a S i,f l a S=some i->∀(V:gN) (U:gE) (H:Hp) (h:gC) (x:Nat),Sy V S.nx S.cs->GH S.hp S.nl V U H->pT V U a h->U[l]? =some (some x)->
  ∃b g,Ev (λn d=>j n d x h H=some (b,g))/\∃R∈i,ip V U R (.bool b) g
section
variable(P:gD)(E:uW)(e:gK)(y:gR)(ow:hJ)
noncomputable def ZG(a:gF)(s:Fx)(o:Oper):Option Fx:=
 match(if s.fq.isNone&&pX a s.fr o then DH E.gl s.fr o else none)with
 |some (l,d)=>match y l d s.H with
  |some (b,f)=>some ⟨pW s.fr o.dst (.bool b),f,none⟩|none=>none
 |none=>wL P E (LO ow e) a s o
end
theorem RN{E:uW}{e:gK}{y:gR}{b:hJ}{a:gF}{o:Oper}{r:hU}{s f:Fx}(h:ZG P E e y b a s o=some f):
  KQ P E e y b a (o::r) s=KQ P E e y b a r f:=by
 simp only[KQ];unfold ZG at h;split at h;rename_i d;rw[d];simp only;split at h;rename_i g;rw[g];cases h;rfl;cases h;rename_i d;rw[d];simp only;rw[h]
theorem Vq{E:uW}{e:gK}{y:gR}{g:hJ}(hF:ZQ e)(d:Ky y){b:gF}{o:Oper}{s a:Fx}(h:ZG P E e y g b s o=some a):qF s.H a.H:=by
 have f:=RN (r:=[]) h;exact EQ hF d (s:=s) (s':=a) (l:=[o]) (f.trans rfl)
theorem aDr{E:uW}{G:Fc}{a:gF}{s w:Fx}{o:Oper}(h:wL P E G a s o=some w)(v:s.fq=none)(j:pX a s.fr o=true):DH E.gl s.fr o=none:=by
 cases hq:DH E.gl s.fr o with
 |none=>rfl
 |some q=>
  exfalso;unfold DH at hq;unfold wL at h;simp only[v]at h;unfold vP at h;rw[aJ j]at h;split at hq;rename_i c b;split at hq;rename_i f d;split at hq;rename_i l g;have u:pS P E (CH G o) s.H s.fr o=none:=by simp only[pS,b,yT,d,g]
  have p:wA G o=none:=by simp only[wA,b]
  have i:xW P E G s.H s.fr o=none:=by simp only[xW,b,d,g]
  simp only[u,p,i]at h;cases h;cases hq;cases hq;cases hq
theorem bBo(g:Cn X gl pe)(b:GS S V U fr H){o:Oper}{l:Nat}{i:List Operand}(h:nL X.gl S.fr o=some (l,i)){a:List A}(p:EC X.gl S.fr i=some a):∃x d,U[l]? =some (some x)/\DH gl fr o=some (x,d)/\pT V U a d:=by
 unfold nL at h;split at h
 .rename_i c s;split at h
  .rename_i f j;split at h
   .rename_i z v;cases h;obtain⟨t,t1,t2⟩:=sV g.gl b.sy.zero b.fr v;cases t2 with
    |yl _ x q=>
    obtain⟨d,u,w⟩:=yS g.gl b.sy.zero b.fr p;exact⟨x,d,q,by simp only[DH,s,j,t1,u],w⟩
   cases h
  cases h
 cases h
theorem aHo:Wj F ee (λn d=>LO F (ee n d)):=⟨λ_ _ =>rfl,λn d=>FH _ _⟩
theorem Qn(N:Cn X gl pe)(p:wN call ee)(I:Fl yld yd){s:Af}(W:GS s.S V U fr H)(L:ij P gl pe F s.av fr H){j:gF}{o:Oper}{l:iZ}(h:aAh P X call yld F j s o=some l):
  ∃g z B,Ev (λn d=>ZG P ⟨gl,pe⟩ (ee n d) (yd n d) F j ⟨fr,H,s.fq⟩ o=some ⟨g,z,B⟩)/\xU P gl pe F l V U g z B:=by
 unfold aAh at h;split at h;split at h;cases h;rename_i i;have i:s.fq=none:=by simpa using i
 split at h;rename_i gs M;obtain⟨q,q1,Y,v⟩:=EE W M;obtain⟨u,f,O⟩:=rD h q q1;split at f;rename_i w;rw[Y]at w;unfold bGq at f;split at f;rename_i l' xs hy;split at f;rename_i ars Z;split at f;rename_i rs J;cases f;obtain⟨x,ts,v1,v2,v3⟩:=bBo N v hy Z;obtain⟨b,z,K,R,r1,V',μ',k1,k2,k3,k4,k5⟩:=I _ _ _ _ J V U H ts x v.sy v.hp v3 v1;refine⟨pW fr o.dst (.bool b),z,none,K.mono λn d e=> ?_,_,O _ (bS.2 ⟨R,r1,rfl⟩),V',μ',k1,k2,rfl,⟨k3,k4,(v.fr.ext k1 k2).put k5 o.dst⟩,.nil⟩;unfold ZG;simp only[i,Option.isNone_none,cL,w,cB,v2,e];cases f;cases f;cases f;rename_i w;have w:pX j fr o=false:=by rw[<-Y];simpa using w
 cases f;refine⟨pW fr o.dst oS,H,none,.of λn d=> ?_,_,O _ (aR _),V,U,.refl _,.refl _,rfl,⟨v.sy,v.hp,v.fr.put tN o.dst⟩,.nil⟩;unfold ZG;simp only[i,w,Option.isNone_none,Bool.and_false,bI,cN];unfold wL;simp only[vP,w,bI,cN];cases h;obtain⟨g,z,B,K,e2⟩:=Ql (Fe:=λn d=>LO F (ee n d)) N p aHo W L h;refine⟨g,z,B,K.mono λn d e=> ?_,e2⟩;unfold ZG;have:(if(s.fq.isNone&&pX j fr o)=true then DH gl fr o else none)=none:=by
  split;rename_i a;simp only[aA]at a;exact aDr e (by simpa using a.1) a.2;rfl
 simp only[this];exact e
theorem Zz(O:Cn X gl pe)(f:wN call ee)(p:Fl yld yd){v:gF}:∀(L:hU) (s:Af) (V:gN) (U:gE) (fr:gC) (H:Hp) (l:iZ),GS s.S V U fr H->ij P gl pe F s.av fr H->aLg P X call yld F v L s=some l->
  ∃u K M,Ev (λn d=>KQ P ⟨gl,pe⟩ (ee n d) (yd n d) F v L ⟨fr,H,s.fq⟩=some ⟨u,K,M⟩)/\xU P gl pe F l V U u K M
 |[],s,V,U,fr,H,l,x,g,h=>by
  simp only[aLg]at h;cases h;exact⟨fr,H,s.fq,.of λn d=>rfl,_,aR _,V,U,.refl _,.refl _,rfl,x,g⟩
 |o::j,s,V,U,fr,H,l,x,g,h=>by
  simp only[aLg]at h;split at h;rename_i q hq;obtain⟨fr1,H1,pd1,e1,J,m1,V1,μ1,Y,x2,x3,g1,z⟩:=Qn O f p x g hq;obtain⟨r,Z,r2⟩:=rD h J m1;obtain⟨B,R,w,N,k2⟩:=Zz O f p j J V1 μ1 fr1 H1 r g1 z Z;rw[x3]at N;refine⟨B,R,w,(e1.and N).mono λn d ⟨a,b⟩=> ?_,(k2.lift r2).trans Y x2⟩;rw[RN a];exact b;cases h
theorem Ev.ex{p:jW}(h:Ev p):∃n d,p n d:=by obtain⟨m,a⟩:=h;exact⟨m,m,a m m (bB _) (bB _)⟩
theorem Zy(hc:Cn X gl pe)(f:wN call ee)(I:Fl yld yd)(hK:∀n d,ZQ (ee n d))(L:∀n d,Ky (yd n d))(Y:GS S V0 μ0 fr H){K:gF}:∀(os:hU) (w:iR) (l N:iZ) (fr1:gC) (H1:Hp) (M:jJ),aLf P X call yld F S K w os l=some N->qF H H1->xU P gl pe F l V0 μ0 fr1 H1 M->
  ∃i R p,Ev (λn d=>KQ P ⟨gl,pe⟩ (ee n d) (yd n d) F K os ⟨fr1,H1,M⟩=some ⟨i,R,p⟩)/\xU P gl pe F N V0 μ0 i R p
 |[],w,l,N,fr1,H1,M,h,_,ho=>by simp only[aLf]at h;cases h;exact⟨fr1,H1,M,.of λn d=>rfl,ho⟩
 |o::B,w,l,N,fr1,H1,M,h,hk,⟨s,s1,V1,μ1,e1,e2,e3,g1,W⟩=>by
  simp only[aLf]at h;split at h;rename_i q hq;obtain⟨u,u1,u2⟩:=rD hq s s1;obtain⟨x,O,j,k1,k2⟩:=Qn hc f I g1 W u1;have J:qF H O:=by
   obtain⟨n,d,e⟩:=k1.ex;have:=Vq (hK n d) (L n d) e;exact hk.trans this
  have k3:xU P gl pe F q V0 μ0 x O j:=(k2.lift u2).trans e1 e2;split at h;rename_i Z v;have k4:xU P gl pe F Z V0 μ0 x O j:=by
   split at v;exact Nt Y _ _ _ v J k3;cases v;exact k3
  obtain⟨i,R,p,k5,k6⟩:=Zy hc f I hK L Y B _ Z N x O j h J k4;rw[e3]at k1;refine⟨i,R,p,(k1.and k5).mono λn d ⟨a,b⟩=> ?_,k6⟩;rw[RN a];exact b;cases h;cases h
def Kx(U:gE):Option Nat->Option Nat->Prop
 |none,none=>True|some l,some x=>U[l]? =some (some x)|_,_ =>False
theorem Kx.ext{U μ':gE}(h:rX U μ'){a b:gW}(d:Kx U a b):Kx μ' a b:=by
 cases a<;>cases b<;>first|trivial|exact d.elim|exact h _ _ d
theorem Xl{l:Nat}:∀(j:jS) (q:List (Go.Ps.X×AS)),aPr S l j=some q->∀R∈j,∃st p f d a i ow b g,oV R.hp l=some (.loop st p f d a i ow b g)/\st≠ .busy/\(aYt p,{fr:=S.fr,hp:=vB R.hp l,nx:=R.nx,nl:=R.nl,cs:=R.cs})∈q
 |R::j,q,h,x,hm=>by
  simp only[aPr]at h;split at h;rename_i st p f d a i ow b g u;split at h;cases h;rename_i s;split at h;rename_i v B;cases h;rcases aY.1 hm with rfl|hm
  exact⟨st,p,f,d,a,i,ow,b,g,u,λe=>s (by rw[e];rfl),aO⟩;obtain⟨st,p,f,d,a,i,ow,b,g,w,z,I⟩:=Xl j v B x hm;exact⟨st,p,f,d,a,i,ow,b,g,w,z,aC _ I⟩;cases h;cases h
theorem TZ{Y:Type}{H:Hp}{l:Nat}{b:Ob}{r:Lr}(a:H.any l=some b)(h:b.me=some (.loop r))(k:Lr->Option Y):RA H l k=k r:=by
 unfold RA;simp only[a,mf];simp only[h]
theorem aSs(p:GS S V U fr H){d a:gW}(h:oI S d=true)(f:Kx U d a):Pp H a=true:=by
 cases d with
 |none=>cases a with
  |none=>rfl|some x=>exact f.elim
 |some l=>cases a with
  |none=>exact f.elim
  |some x=>
   simp only[oI]at h;split at h;rename_i st s w v i B ow q z g;obtain⟨b,r,o,j,_⟩:=p.hp.dc g f;simp only[Pp,aQr,o,j];cases h
theorem aCt(i:wN call ee)(hc:Cn X gl pe){W j:gW}{g:jH}{u:Array Tmp}{a s:Code}{K:An}(f:GS S V U fr H)(v:Kx U W j){l:List (Go.Ps.X×AS)}{J:jD}(h:vG P X call yld F J W (.rangeFunc g u a s) K S=some l):
  ∃x o Y,Ev (λn d=>qA P ⟨gl,pe⟩ (ee n d) (yd n d) F n j (.rangeFunc g u a s) fr H=some (x,o,Y))/\Rw l V U x o Y:=by
 simp only[vG]at h;split at h
 .rename_i gf cap I;split at h
  .rename_i B;split at h
   .rename_i rs z;obtain⟨t,t1,t2⟩:=sV hc.gl f.sy.zero f.fr I;cases t2 with
    |fn _ _ _ Z q q1 q2 q3 q4=>
    have L:Z=[]:=by cases Z with|nil=>rfl|cons=>simp at q1
    subst L;obtain⟨v1,v2⟩:=Oy (n:=fr.length) (fr:=fr) rfl;have w:Kv V (U++[some H.next]) (.loop .ready none S.fr u a s F K.l K.r) (CN ⟨.ready,none,FT.of fr 0 .nl,fr.length,u,a,s,F⟩):=
     ⟨_,rfl,rfl,rfl,rfl,rfl,rfl,rfl,by rw[v1];exact f.fr.ext (.refl _) (.app _ _)⟩
    have p:=f.hp.newL w rfl;obtain⟨r,H2,e1,R,m1,V',μ',k1,k2,k3,N,k5⟩:=i _ _ _ _ z V (U++[some H.next]) _ (.yl H.next::q) f.sy p (pT.cons (.yl _ _ (sZ f.hp.len _)) (pT.ext (.refl _) (.app _ _) ⟨q3,q4⟩));obtain⟨st,O,fa,ps',M,bd',ow',aa,ab,w1,w2,w3⟩:=Xl rs l h R m1;have hx:μ'[S.nl]? =some (some H.next):=k2 _ _ (sZ f.hp.len _);obtain⟨b,rc,z1,z2,z3,z4,_⟩:=N.dc w1 hx;refine⟨aYt O,fr,H2.drop H.next,e1.mono λn d e=> ?_,_,w3,V',μ',k1,(rX.app _ _).trans k2,k3,N.cr w1 hx,f.fr.ext k1 ((rX.app _ _).trans k2)⟩;simp only[qA,t1];rw[aJ (aSs f B v),e];simp only[WF];rw[TZ z1 z2,z3,z4];cases st<;>first|exact absurd rfl w2|(rcases O with _ |_ |id<;>rfl)
   cases h
  cases h
 cases h
theorem IK{m n0:Nat}:∀(d:List pR),oZ V d->oZ V (CU m n0 d)
 |[],h=>h
 | .le x y c::r,h=>by
  have a:=IK (m:=m) (n0:=n0) r (λq b=>h q (aC _ b));simp only[CU];split;exact .cons (h _ aO) a;exact a
 | .ne x y c::r,h=>by
  have a:=IK (m:=m) (n0:=n0) r (λq b=>h q (aC _ b));simp only[CU];split;exact .cons (h _ aO) a;exact a
 | .sm x y z c::r,h=>by
  have a:=IK (m:=m) (n0:=n0) r (λq b=>h q (aC _ b));simp only[CU];split;exact .cons (h _ aO) a;exact a
 | .ev x y c::r,h=>by
  have a:=IK (m:=m) (n0:=n0) r (λq b=>h q (aC _ b));simp only[CU];split;exact .cons (h _ aO) a;exact a
theorem Tm{a:Nat}(h:GS S V U fr H):GS (mi a S) V U fr H:=⟨⟨h.sy.len,h.sy.zero,IK _ h.sy.cs,h.sy.one⟩,h.hp,h.fr⟩
theorem aMq{w:Nat}{g:An->AS->Option (List (Go.Ps.X×AS))}{ro ro':gW}{f:Nat->Nat->List T->Hp->Option (Go.Ps.X×List T×Hp)}
  (Y:∀(b:An) (S:AS) (V:gN) (U:gE) (fr:gC) (H:Hp) (l:List (Go.Ps.X×AS)),GS S V U fr H->Kx U ro ro'->g b S=some l->∃x a q,Ev (λn d=>f n d fr H=some (x,a,q))/\Rw l V U x a q):
  ∀(k:List An) (S:AS) (V:gN) (U:gE) (fr:gC) (H:Hp) (l:List (Go.Ps.X×AS)),GS S V U fr H->Kx U ro ro'->aMp g w k S=some l->
   ∃x a q,(∃m,∀n d k,m<=n->m<=d->m<=k->oW.gx (f n d) k fr H=some (x,a,q))/\Rw l V U x a q
 |[],_,_,_,_,_,_,_,_,h=>by simp[aMp]at h
 |b0::k,S,V,U,fr,H,l,hg,p,h=>by
  simp only[aMp]at h;split at h;rename_i r hr;obtain⟨x,fr1,H1,⟨m,J⟩,S1,s1,V1,μ1,B,v,M⟩:=Y b0 S V U fr H r hg p hr;obtain⟨u,K,L⟩:=rD h _ s1;cases x with
  |normal=>
   obtain⟨y,O,H2,⟨m',e2⟩,k2⟩:=aMq Y k (mi w S1) V1 μ1 fr1 H1 u (Tm M) (p.ext v) K;refine⟨y,O,H2,⟨max m m'+1,λn d j W Z R=> ?_⟩,(k2.lift L).trans B v⟩;obtain⟨j,rfl⟩:∃s,j=s+1:=⟨j-1,by omega⟩;simp only[oW.gx,J n d (by omega) (by omega)];exact e2 n d j (by omega) (by omega) (by omega)
  |exit id=>
   cases K;refine⟨.exit id,fr1,H1,⟨m+1,λn d j W Z R=> ?_⟩,mi w S1,L _ (aR _),V1,μ1,B,v,Tm M⟩;obtain⟨j,rfl⟩:∃s,j=s+1:=⟨j-1,by omega⟩;simp only[oW.gx,J n d (by omega) (by omega)]
  |ret=>
   cases K;refine⟨.ret,fr1,H1,⟨m+1,λn d j W Z R=> ?_⟩,mi w S1,L _ (aR _),V1,μ1,B,v,Tm M⟩;obtain⟨j,rfl⟩:∃s,j=s+1:=⟨j-1,by omega⟩;simp only[oW.gx,J n d (by omega) (by omega)]
  cases h
theorem OM{a:AS}:∀{l:List (Go.Ps.X×AS)},(Go.Ps.X.normal,a)∈aJy a l
 |[]=>aR _|(.normal,_)::r=>OM (l:=r)|(.exit _,_)::r=>aC _ (OM (l:=r))|(.ret,_)::r=>aC _ (OM (l:=r))
theorem BS{w:iR}{d:LA}{o:gY}{Sh b:AS}{x:Go.Ps.X}:∀{l:List (Go.Ps.X×AS)},Ry S w d o l=true->(x,b)∈l->(x= .normal->Uj S w d.sp o d.cons b 0 0=true)/\(x≠ .normal->(x,b)∈aJy Sh l)
 |[],_,h=>by simp at h
 |(.normal,f)::r,a,h=>by
  simp only[Ry,aA]at a;rcases aY.1 h with e|h
  cases e;exact⟨λ_ =>a.1,λq=>absurd rfl q⟩;exact BS (l:=r) a.2 h
 |(.exit id,f)::r,a,h=>by
  simp only[Ry]at a;rcases aY.1 h with e|h
  cases e;exact⟨λq=>(by cases q),λ_ =>aO⟩;exact⟨(BS (Sh:=Sh) a h).1,λq=>aC _ ((BS a h).2 q)⟩
 |(.ret,f)::r,a,h=>by
  simp only[Ry]at a;rcases aY.1 h with e|h
  cases e;exact⟨λq=>(by cases q),λ_ =>aO⟩;exact⟨(BS (Sh:=Sh) a h).1,λq=>aC _ ((BS a h).2 q)⟩
theorem VW(hc:Cn X gl pe)(L:wN call ee)(hyl:Fl yld yd)(hK:∀n d,ZQ (ee n d))(hKy:∀n d,Ky (yd n d)){J:jD}{ro ro':gW}:∀(c:Code) (Z:An) (S:AS) (V:gN) (U:gE) (fr:gC) (H:Hp) (l:List (Go.Ps.X×AS)),GS S V U fr H->Kx U ro ro'->vG P X call yld F J ro c Z S=some l->
  ∃x i K,Ev (λn d=>qA P ⟨gl,pe⟩ (ee n d) (yd n d) F n ro' c fr H=some (x,i,K))/\Rw l V U x i K:=by
 intro c
 induction c with
 |skip=>intro Z S V U fr H l j o h;simp only[vG]at h;cases h;exact⟨.normal,fr,H,.of λn d=>rfl,S,aR _,V,U,.refl _,.refl _,j⟩|label _ =>intro Z S V U fr H l j o h;simp only[vG]at h;cases h;exact⟨.normal,fr,H,.of λn d=>rfl,S,aR _,V,U,.refl _,.refl _,j⟩|exit id=>intro Z S V U fr H l j o h;simp only[vG]at h;cases h;exact⟨.exit id,fr,H,.of λn d=>rfl,S,aR _,V,U,.refl _,.refl _,j⟩|ret=>intro Z S V U fr H l j o h;simp only[vG]at h;cases h;exact⟨.ret,fr,H,.of λn d=>rfl,S,aR _,V,U,.refl _,.refl _,j⟩
 |region id ops draw=>
  intro Z S V U fr H l j o h;simp only[vG]at h;split at h;rename_i r O;cases draw with
  |true=>
   simp only[cB]at O;obtain⟨i,K,pd,I,s,W,V',μ',x1,Y,x3,R,_⟩:=aBj (Fe:=λn d=>LO F (ee n d)) hc L aHo hK j O;obtain⟨p1,p2⟩:=XP r l h s W;refine⟨.normal,i,K,I.mono λn d e=> ?_,s.S,p2,V',μ',x1,Y,R⟩;simp only[qA,cB];rw[e,<-x3,p1]
  |false=>
   simp only[bI,cN]at O;have hseq:∃i K pd,Ev (λn d=>KQ P ⟨gl,pe⟩ (ee n d) (yd n d) F ops ops.toList ⟨fr,H,none⟩=some ⟨i,K,pd⟩)/\xU P gl pe F r V U i K pd:=by
    split at O;split at O;rename_i l0 hl0;obtain⟨i,K,pd,I,e2⟩:=Zy hc L hyl hK hKy j ops.toList [] [⟨S,none,[]⟩] l0 fr H none hl0 (.refl _) ⟨_,aR _,V,U,.refl _,.refl _,rfl,j,.nil⟩;have hk:qF H K:=by
     obtain⟨n,d,e⟩:=I.ex;exact EQ (hK n d) (hKy n d) e
    exact⟨i,K,pd,I,QR j O hk e2⟩;cases O;exact Zz hc L hyl ops.toList ⟨S,none,[]⟩ V U fr H r j .nil O
   obtain⟨i,K,pd,I,s,W,V',μ',x1,Y,x3,R,_⟩:=hseq;obtain⟨p1,p2⟩:=XP r l h s W;refine⟨.normal,i,K,I.mono λn d e=> ?_,s.S,p2,V',μ',x1,Y,R⟩;simp only[qA,bI,cN];rw[e,<-x3,p1]
  cases h
 |seq a b iha ihb=>
  intro Z S V U fr H l j o h;simp only[vG]at h;split at h;rename_i r O;obtain⟨x,fr1,H1,I,S1,W,V1,μ1,x1,Y,R⟩:=iha _ S V U fr H r j o O;obtain⟨u,u1,u2⟩:=rD h _ W;cases x with
  |normal=>
   obtain⟨y,fr2,H2,e2,k2⟩:=ihb _ S1 V1 μ1 fr1 H1 u R (o.ext Y) u1;refine⟨y,fr2,H2,(I.and e2).mono λn d ⟨p,q⟩=> ?_,(k2.lift u2).trans x1 Y⟩;simp only[qA,p];exact q
  |exit id=>
   cases u1;refine⟨.exit id,fr1,H1,I.mono λn d p=> ?_,S1,u2 _ (aR _),V1,μ1,x1,Y,R⟩;simp only[qA,p]
  |ret=>
   cases u1;refine⟨.ret,fr1,H1,I.mono λn d p=> ?_,S1,u2 _ (aR _),V1,μ1,x1,Y,R⟩;simp only[qA,p]
  cases h
 |cond c a b iha ihb=>
  intro Z S V U fr H l j o h;simp only[vG]at h;split at h;rename_i B hB;obtain⟨t,t1,t2⟩:=sV hc.gl j.sy.zero j.fr hB;split at h;rename_i l0 hl0;have key:∃x i K,Ev (λn d=>qA P ⟨gl,pe⟩ (ee n d) (yd n d) F n ro' (.cond c a b) fr H=some (x,i,K))/\Rw l0 V U x i K:=by
   cases t2 with
   |bool _ b' hb=>
    obtain⟨cs',m1,m2⟩:=yL j.sy.zero j.sy.cs hb;obtain⟨u,u1,u2⟩:=rD hl0 _ m1;have hg':GS {S with cs:=cs'} V U fr H:=⟨⟨j.sy.len,j.sy.zero,m2,j.sy.one⟩,j.hp,j.fr⟩;cases b' with
    |true=>
     simp only[cB]at u1;obtain⟨x,fr1,H1,I,k1⟩:=iha _ _ V U fr H u hg' o u1;refine⟨x,fr1,H1,I.mono λn d p=> ?_,k1.lift u2⟩;simp only[qA,t1,cB];exact p
    |false=>
     simp only[bI,cN]at u1;obtain⟨x,fr1,H1,I,k1⟩:=ihb _ _ V U fr H u hg' o u1;refine⟨x,fr1,H1,I.mono λn d p=> ?_,k1.lift u2⟩;simp only[qA,t1,bI,cN];exact p
  obtain⟨x,fr1,H1,I,S1,W,V1,μ1,x1,Y,R⟩:=key;unfold aMx at h;split at h;split at h;split at h;rename_i Sh hSh;split at h;rename_i hall;cases h;have hk:qF H H1:=by
   obtain⟨n,d,e⟩:=I.ex;exact uJ (hK n d) (hKy n d) _ _ _ _ _ _ e
  obtain⟨w1,w2⟩:=BS hall (Sh:=Sh) W;cases x with
  |normal=>
   obtain⟨V2,μ2,y1,y2,_,y4⟩:=RG hk j R x1 Y (g:=0) (m0:=0) (by omega) (by omega) (gs:=0) (gc:=0) (λv hv=>by rw[R.sy.zero]at hv;cases hv;rfl) ⟨0,R.sy.zero⟩ (w1 rfl) hSh;exact⟨.normal,fr1,H1,I,Sh,OM,V2,μ2,y1,y2,y4⟩
  |exit id=>exact⟨_,fr1,H1,I,S1,w2 (by simp),V1,μ1,x1,Y,R⟩|ret=>exact⟨_,fr1,H1,I,S1,w2 (by simp),V1,μ1,x1,Y,R⟩
  cases h;cases h;cases h;cases h;exact⟨x,fr1,H1,I,S1,W,V1,μ1,x1,Y,R⟩;cases h;cases h
 |block id c ih=>
  intro Z S V U fr H l j o h;simp only[vG]at h;split at h;rename_i r O;cases h;obtain⟨x,fr1,H1,I,S1,W,k1⟩:=ih _ S V U fr H r j o O;have hm:=WK (id:=id) W;cases x with
  |normal=>exact⟨.normal,fr1,H1,I.mono λn d p=>by simp only[qA,p],S1,hm,k1⟩|ret=>exact⟨.ret,fr1,H1,I.mono λn d p=>by simp only[qA,p],S1,hm,k1⟩
  |exit id'=>
   by_cases hi:id'=id;simp only[aJ hi]at hm;exact⟨.normal,fr1,H1,I.mono λn d p=>by simp only[qA,p,aJ hi],S1,hm,k1⟩;simp only[aH hi]at hm;exact⟨.exit id',fr1,H1,I.mono λn d p=>by simp only[qA,p,aH hi],S1,hm,k1⟩
  cases h
 |loop c ih=>
  intro Z S V U fr H l j o h;simp only[vG]at h;split at h;rename_i k;obtain⟨x,i,K,⟨m,I⟩,e2⟩:=aMq (ro:=ro) (ro':=ro') (f:=λn d fr H=>qA P ⟨gl,pe⟩ (ee n d) (yd n d) F n ro' c fr H) (λb S V U fr H l j o h=>ih b S V U fr H l j o h) k S V U fr H l j o h;refine⟨x,i,K,⟨m,λn d hn hd=> ?_⟩,e2⟩;simp only[qA];exact I n d n hn hd hn;rename_i la b;split at h;rename_i oc hoc;split at h;rename_i hcc;simp only[aA,sQ,aF]at hcc;split at h;rename_i Sh hSh;split at h;rename_i r O;have hbody:∀(S':AS) (l':List (Go.Ps.X×AS)),(λS=>vG P X call yld F J ro c b S) S'=some l'->∀(V':gN) (μ':gE) (fr:gC) (H:Hp),GS S' V' μ' fr H->rX U μ'->∃x i K,Ev (λn d=>qA P ⟨gl,pe⟩ (ee n d) (yd n d) F n ro' c fr H=some (x,i,K))/\qF H K/\Rw l' V' μ' x i K:=λS' l' hr' V' μ' fr H j hμ=>by
   obtain⟨x,i,K,I,e2⟩:=ih _ S' V' μ' fr H l' j (o.ext hμ) hr';refine⟨x,i,K,I,?_,e2⟩;obtain⟨n,d,e⟩:=I.ex;exact uJ (hK n d) (hKy n d) _ _ _ _ _ _ e
  obtain⟨V2,μ2,y1,y2,y3,y4⟩:=RG (.refl _) j j (.refl _) (.refl _) (g:=0) (m0:=Int.ofNat la.gk*la.m0) (by omega) (Int.mul_nonneg (Int.natCast_nonneg _) hcc.1.1.1.1) (gs:=0) (gc:=0) (λv hv=>by rw[j.sy.zero]at hv;cases hv;rfl) ⟨0,j.sy.zero⟩ hcc.2 hSh;obtain⟨x,i,K,z1,⟨m,z2⟩,z3⟩:=aRo j hSh O h (f:=λn d fr H=>qA P ⟨gl,pe⟩ (ee n d) (yd n d) F n ro' c fr H) hbody ((GN fr H la.ms).getD 0).toNat V2 μ2 fr H 0 y4 (.refl _) y1 y2 (by rw[Int.mul_zero];exact y3) (by omega)
   (λM h=>by rw[h];simp only[fP];omega) (λ⟨S2,hx⟩=>by obtain⟨M,q1,q2⟩:=aJm j hx;exact⟨M,q1,by omega⟩)
  refine⟨x,i,K,⟨m,λn d hn hd=> ?_⟩,z3⟩;simp only[qA];exact z2 n d n hn hd hn;cases h;cases h;split at h;rename_i r O;split at h;rename_i ha;cases h;obtain⟨x,i,K,⟨m,I⟩,S2,W,k1⟩:=ih _ S V U fr H _ j o O;have hx:=EY ha _ W;refine⟨x,i,K,⟨m+1,λn d hn hd=> ?_⟩,S2,W,k1⟩;simp only[qA];obtain⟨n,rfl⟩:∃k,n=k+1:=⟨n-1,by omega⟩;simp only[oW.gx,I (n+1) d (by omega) (by omega)];cases x<;>first|rfl|exact absurd rfl hx
  cases h;cases h;cases h;cases h
 |rangeFunc g ps iF bd _ _ =>
  intro Z S V U fr H l j o h;exact aCt L hc j o h
 |_ =>intro Z S V U fr H l j o h;simp only[vG]at h;cases h
theorem aAp(i:Sy V S.nx S.cs)(f:GH S.hp S.nl V U H){l x:Nat}(g:U[l]? =some (some x)){st:LoopState}{p:jL}{a:AS}(h:aMr S l st p=some a):
  ∃b r,H.any x=some b/\b.me=some (.loop r)/\Sy V a.nx a.cs/\a.fr=S.fr/\GH a.hp a.nl V U (H.put x (CN {r with st:=st,pe:=mT p})):=by
 unfold aMr at h;split at h;rename_i I s O N q W ow J R d;cases h;obtain⟨b,r,u,v,M,K,o,B,z,w,j⟩:=f.dc d g;exact⟨b,r,u,v,i,rfl,f.cf d g ⟨_,rfl,rfl,rfl,o,B,z,w,j⟩ rfl⟩;cases h
theorem YW{l:Nat}:∀(r:List (Go.Ps.X×AS)) (q:jS),UF l r=some q->∀x S,(x,S)∈r->∃a,aMr S l (if XW x then .ready else .done) (oJ x)=some a/\(⟨.bool (.lit (XW x)),a.hp,a.nx,a.nl,a.cs⟩:AR)∈q
 |(y,o)::r,q,h,x,S,hm=>by
  simp only[UF]at h;split at h;rename_i a b;split at h;rename_i g j;cases h;rcases aY.1 hm with hm|hm
  cases hm;exact⟨a,b,aO⟩;obtain⟨d,i,f⟩:=YW r g j x S hm;exact⟨d,i,aC _ f⟩;cases h;cases h
theorem Ei:∀(i:iR) (b:List A) (g:gC) (d:List A) (fr:gC),pT V U b g->pT V U d fr->pT V U (Vg i b d) (SZ i g fr)
 |[],b,g,d,fr,_,h=>by
  cases b<;>cases g<;>exact h
 |p::i,[],g,d,fr,j,h=>by rw[j.ae];exact h
 |p::i,a::b,g,d,fr,j,h=>by
  obtain⟨t,r,rfl,q,o⟩:=j.I;exact Ei i b r (d.set p a) (fr.set p t) o (h.set q p)
theorem aLc{x y:Go.Ps.X}(h:aWc x y=true):x=y:=by
 cases x<;>cases y<;>first|rfl|(cases h;done)|(rw[oT h])
theorem XT{S':AS}{x:Go.Ps.X}:∀(r:List (Go.Ps.X×AS)),(∃S,(x,S)∈r)->(x,S')∈NH S' r
 |(y,j)::r,⟨S,h⟩=>by
  simp only[NH];rcases aY.1 h with h|h
  cases h;split;rename_i f;have a:∀(l:List (Go.Ps.X×AS)),aRt x l=true->∃S,(x,S)∈l:=by
   intro l
   induction l with
   |nil=>intro h;cases h
   |cons q l i=>
    obtain⟨z,g⟩:=q;intro h;simp only[aRt,bO]at h;rcases h with h|h;exact⟨g,by rw[aLc h];exact aO⟩;obtain⟨b,d⟩:=i h;exact⟨b,aC _ d⟩
  exact XT r (a r f);exact aO;have i:=XT (S':=S') r ⟨S,h⟩;split;exact i;exact aC _ i
theorem YC{o:gY}:∀(r:List (Go.Ps.X×AS)),Iv S o r=true->∀x S1,(x,S1)∈r->Uj {S with fr:=[.top]} [0] [] o [] {S1 with fr:=[.top]} 0 0=true
 |(y,b)::r,h,x,S1,hm=>by
  simp only[Iv,aA]at h;rcases aY.1 hm with hm|hm
  cases hm;exact h.1;exact YC r h.2 x S1 hm
theorem Sk(J:GS S V0 μ0 fr H){Z:An}{r K:List (Go.Ps.X×AS)}(h:Gc S Z r=some K){x:Go.Ps.X}{a:AS}(p:(x,a)∈r){i:gC}{o:Hp}(hk:qF H o)(d:GS a V1 μ1 i o)(B:rX V0 V1)(b:rX μ0 μ1):
  ∃z j μ2 u,(x,z)∈K/\rX V0 j/\rX μ0 μ2/\GS z j μ2 u o:=by
 unfold Gc at h;split at h;split at h;rename_i oc N;split at h;rename_i f;simp only[aA]at f;split at h;rename_i M s;cases h;have Y:GS {S with fr:=[.top]} V0 μ0 [oS] H:=⟨J.sy,J.hp,pT.cons (.top _) .nil⟩;have R:GS {a with fr:=[.top]} V1 μ1 [oS] o:=⟨d.sy,d.hp,pT.cons (.top _) .nil⟩;obtain⟨j,μ2,O,W,_,L⟩:=RG hk Y R B b (g:=0) (m0:=0) (by omega) (by omega) (gs:=0) (gc:=0) (λv I=>by rw[d.sy.zero]at I;cases I;rfl) ⟨0,d.sy.zero⟩ (YC r f.2 x a p) s;exact⟨M,j,μ2,_,XT r ⟨a,p⟩,O,W,L⟩;cases h;cases h;cases h;cases h;exact⟨a,V1,μ1,i,p,B,b,d⟩
theorem Zt(hc:Cn X gl pe)(a:wN call ee)(o:Fl yld yd)(hK:∀n d,ZQ (ee n d))(j:∀n d,Ky (yd n d)):
  Fl (aSr P X call yld) (λn d=>JA P ⟨gl,pe⟩ (ee n d) (yd n d) n):=by
 intro l z S rs h V U H ts x hs hh ha Y;unfold aSr at h;split at h
 .rename_i st pn fa ps O bd ow aa ab hf;obtain⟨b,rc,h1,h2,h3,h4,h5,h6,h7,h8,h9⟩:=hh.dc hf Y;split at h
  .rename_i J;simp only[aA]at J;obtain⟨c1,c2,c3⟩:=J;have c1:=oT c1;split at h
   .rename_i r hr;have R:GS {S with fr:=Vg ps.toList z fa} V U (SZ ps.toList ts (rc.fr.view rc.n)) H:=⟨hs,hh,Ei _ _ _ _ _ ha h9⟩;obtain⟨x1,fr1,H1,e1,S1,s1,V1,μ1,k1,k2,L⟩:=VW (F:=ow) (ro:=some l) (ro':=some x) hc a o hK j O aa _ V U _ H r R Y hr;obtain⟨u,f,u2⟩:=rD h _ s1;unfold aVz at f;split at f
    .rename_i hn;simp only[aA]at hn;have hx1:x1= .normal:=by cases x1<;>first|rfl|cases hn.1
     subst hx1;have g:=hn.2;unfold Yj at g;split at g
     .rename_i N v fa1 ps1 asg1 bd1 ow1 aa1 ab1 s;have B:N= .ready:=Ee g;subst B;have i:=k2 _ _ Y;split at f
      .rename_i S2 K;have hpe:aZw S1 l=v:=by simp only[aZw,s]
       rw[hpe]at K;obtain⟨b1,M,p1,p2,p3,p4,p5,p6,p7,p8,p9⟩:=L.hp.dc s i;obtain⟨b2,r2,q1,q2,q3,q4,q5⟩:=aAp L.sy L.hp i K;rw[p1]at q1;cases q1;rw[p2]at q2;cases q2;have p:GS S2 V1 μ1 fr1 (H1.put x (CN {M with st:= .busy})):=by
        refine⟨q3,?_,by rw[q4];exact L.fr⟩;have:({M with st:= .busy,pe:=mT v}:Lr)={M with st:= .busy}:=by rw[<-p4]
        rw[<-this];exact q5
       split at f
       .rename_i rr0 hrr;obtain⟨q,fr2',H2,e2,S3',s3',V2',μ2',y1',y2',Z⟩:=VW (F:=ow) (ro:=some l) (ro':=some x) hc a o hK j bd ab.body S2 V1 μ1 fr1 _ rr0 p i hrr;split at f
        case h_2=>cases f
        rename_i rr I;have hkk:qF (H1.put x (CN {M with st:= .busy})) H2:=by
         obtain⟨n,d,e⟩:=e2.ex;exact uJ (hK n d) (j n d) _ _ _ _ _ _ e
        obtain⟨S3,V2,μ2,fr2,s3,y1,y2,g3⟩:=Sk p I s3' hkk Z y1' y2';obtain⟨S4,w1,w2⟩:=YW rr u f q S3 s3;have hx2:=y2 _ _ i;obtain⟨b3,r3,v1,v2,v3,v4,v5⟩:=aAp g3.sy g3.hp hx2 w1;refine⟨XW q,H2.put x (CN {r3 with st:=(if XW q then .ready else .done),pe:=mT (oJ q)}),(e1.and e2).mono λn d ⟨a1,a2⟩=> ?_,_,u2 _ w2,V2,μ2,k1.trans y1,k2.trans y2,v3,v5,.bool _ _ rfl⟩;show JA P ⟨gl,pe⟩ (ee n d) (yd n d) n x ts H=_;simp only[JA];rw[TZ h1 h2,aJ ⟨by rw[<-ha.1,c1,h5],by rw[h6];exact c2,by rw[h7];exact c3⟩,h5,h6,h8];rw[a1];simp only[Jf];rw[TZ p1 p2,p3];simp only;rw[h8,h7,a2];simp only[ML];rw[TZ v1 v2];cases q<;>rfl
       cases f
      cases f
     cases g
    cases f
   cases h
  cases h
 cases h
end
section
variable{V V' V0 V1:gN}{U μ' μ0 μ1:gE}{X:AX}{gl:gG}{pe:gM}{H H1:Hp}{S S1:AS}{P:gD}{fr fr1:gC}
theorem YU:∀(j:jP) (S:AS) (V:gN) (f:List A) (l:List A) (b:AS),GS S V U fr H->pT V U f fr->OW P f j S=some (l,b)->
  ∃i V',rJ P fr H j=some i/\rX V V'/\Sy V' b.nx b.cs/\b.hp=S.hp/\b.nl=S.nl/\pT V' U l i
 |[],S,V,f,l,b,d,g,h=>by
  simp only[OW]at h;cases h;exact⟨[],V,rfl,.refl _,d.sy,rfl,rfl,.nil⟩
 |r::j,S,V,f,l,b,d,g,h=>by
  simp only[OW]at h;split at h;rename_i v o;have one:∃t,Pn P fr H r=some t/\im V U v t:=by
   cases r with
   |tmp t=>simp only[bHp]at o;cases o;exact⟨_,rfl,.here d.sy (g.get t)⟩|cell a t=>exact Oi d.sy d.hp (g.get a) o
  obtain⟨t,t1,V1,p,B,K⟩:=one;split at h;rename_i M O I;cases h;obtain⟨i,z,N,s,w,u,L,J⟩:=YU j {S with nx:=v.nx,cs:=v.cs} V1 f M _ (d.sym p B) (g.ext p (.refl _)) I;exact⟨t::i,z,by simp only[rJ,t1,N],p.trans s,w,u,L,pT.cons (K.ext s (.refl _)) J⟩;cases h;cases h
def aTx:List T->T
 |[t]=>t|ts=> .fm ts
theorem aTv{d:List A}{g:gC}(h:pT V U d g):Gm V U (bJb d) (aTx g):=by
 cases d with
 |nil=>rw[h.ae];exact tN
 |cons a d=>
  obtain⟨t,r,rfl,i,f⟩:=h.I;cases d with
  |nil=>rw[f.ae];exact i
  |cons b q=>
   obtain⟨u,j,rfl,o,p⟩:=f.I;exact .fm _ _ h.1 h.2
theorem Mn(g:jP):∀(l:List (Go.Ps.X×AS)) (q:jS),Xm P g l=some q->∀(x:Go.Ps.X) (S:AS),(x,S)∈l->∀(V:gN) (U:gE) (fr:gC) (H:Hp),GS S V U fr H->
  (x= .normal\/x= .ret)/\∃a,rJ P fr H g=some a/\∃R∈q,ip V U R (aTx a) H
 |(y,L)::r,q,h,x,S,hm,V,U,fr,H,d=>by
  simp only[Xm]at h;split at h;cases h;rename_i i;split at h;rename_i I o b;split at h;rename_i v z;cases h;rcases aY.1 hm with hm|hm
  cases hm;obtain⟨a,V',J,j,s,p,B,w⟩:=YU g _ V _ I o d d.fr b;refine⟨?_,a,J,_,aO,V',U,j,.refl _,s,?_,aTv w⟩;cases y with
  |normal=>exact .inl rfl|ret=>exact .inr rfl|exit id=>exact absurd rfl (i id)
  rw[p,B];exact d.hp.ext j;obtain⟨k1,a,k2,R,k3,u⟩:=Mn g r v z x S hm V U fr H d;exact⟨k1,a,k2,R,aC _ k3,u⟩;cases h;cases h
theorem Dv{o:gY}{b:A}:∀(l:jS),Zk S o b l=true->∀r∈l,Uj {S with fr:=[.top]} [0] [(0,.a b)] o [] {fr:=[r.a],hp:=r.hp,nx:=r.nx,nl:=r.nl,cs:=r.cs} 0 0=true
 |r::d,h,z,hz=>by
  simp only[Zk,aA]at h;rcases aY.1 hz with rfl|hz
  exact h.1;exact Dv d h.2 z hz
theorem Bz(hk:qF H H1)(w:Sy V S.nx S.cs)(B:GH S.hp S.nl V U H){b:List A}{p:Kw}{l o:jS}(h:Sj S b p l=some o){R:AR}(Z:R∈l){t:T}(J:ip V U R t H1):∃K∈o,ip V U K t H1:=by
 unfold Sj at h;split at h;rename_i oc L;split at h;rename_i d;simp only[aA]at d;split at h;rename_i S' i;cases h;obtain⟨V1,μ1,z,Y,s,O,I⟩:=J;have u:GS {S with fr:=[.top]} V U [t] H:=⟨w,B,pT.cons (.top _) .nil⟩;have M:GS {fr:=[R.a],hp:=R.hp,nx:=R.nx,nl:=R.nl,cs:=R.cs} V1 μ1 [t] H1:=⟨s,O,pT.cons I .nil⟩;obtain⟨x,μ2,N,W,_,f⟩:=RG hk u M z Y (g:=0) (m0:=0) (by omega) (by omega) (gs:=0) (gc:=0) (λv j=>by rw[s.zero]at j;cases j;rfl) ⟨0,s.zero⟩ (Dv l d.2 R Z) i;exact⟨_,aR _,x,μ2,N,W,f.sy,f.hp,f.fr.get 0⟩;cases h;cases h;cases h
theorem CG{d:gP}:∀{b:gU} {l:Nat} {o:AO},oV (OO d b) l=some o->oV d l=some o/\l∈b/\QQ o=true
 |[],l,o,h=>by simp[OO,oV]at h
 |k::b,l,o,h=>by
  have a:oV (OO d b) l=some o->oV d l=some o/\l∈k::b/\QQ o=true:=λh=>by
   obtain⟨i,g,f⟩:=CG h;exact⟨i,aC _ g,f⟩
  simp only[OO]at h;split at h;rename_i q j;split at h;rename_i p;simp only[oV]at h;split at h;rename_i e;have e:=oT e;subst e;cases h;exact⟨j,by simp,p⟩;exact a h;exact a h;exact a h
theorem AD{b:gP}:∀{a:gU} {l:Nat} {o:AO},oV (WB b a) l=some o->oV b l=some o/\l∉a
 |[],l,o,h=>⟨h,by simp⟩
 |k::a,l,o,h=>by
  rw[show WB b (k::a)=vB (WB b a) k from rfl,zT]at h;split at h;cases h;rename_i d;obtain⟨g,f⟩:=AD h;exact⟨g,λq=>by rcases aY.1 q with q|q;exact d q.symm;exact f q⟩
theorem YX{o:AO}(h:QQ o=true):o.plain=true:=by cases o<;>first|rfl|cases h
theorem Jg{t a:T}{k:Nat}(h:pM k ⟨0,.nl⟩ t=some a):Uz t=none:=by
 cases k with
 |zero=>simp[pM]at h
 |succ k=>
  cases t<;>first|rfl|skip
  simp only[pM,ii]at h;cases h
theorem aKy{t f:T}{k:Nat}(h:pM k ⟨0,.nl⟩ t=some f):vD t=[]:=by
 have o:=Jg h;cases k with
 |zero=>simp[pM]at h
 |succ k=>
  cases t with
  |agg g=>
   simp only[pM]at h;split at h;rename_i ds a;obtain⟨_,i⟩:=FY a;show g.filterMap Uz=[];rw[List.filterMap_eq_nil_iff];intro c q;obtain⟨j,d,rfl⟩:=bX q;have s:=(FY a).1;obtain⟨t,b,p⟩:=i j _ (aB (by omega));rw[aB d]at b;cases b;exact Jg p;cases h
  |_ =>simp only[vD,o];rfl
theorem aKz{a:A}{t:T}(h:aJu a=true)(f:Gm V U a t):(∀x∈vD t,∃l∈KZ a,U[l]? =some (some x))/\∀l∈KZ a,∀x,U[l]? =some (some x)->x∈vD t:=by
 have pure:∀{a:A} {t:T},qT 20 a=true->Gm V U a t->pM 25 ⟨0,.nl⟩ t=some t:=λh f=>FK 20 _ _ h f 25 (by omega);have one:∀{a:A} {t:T},(LZ a||qT 20 a)=true->Gm V U a t->(∀x,Uz t=some x->∃l,aDb a=some l/\U[l]? =some (some x))/\∀l,aDb a=some l->∀x,U[l]? =some (some x)->Uz t=some x:=λ{a t} h f=>by
  by_cases q:LZ a=true
  .cases a<;>simp only[LZ]at q<;>try(cases q;done)
   cases f with
   |ge _ _ _ _ _ _ l' vi v p g2 O g4 Z=>exact⟨λx b=>(by cases b;exact⟨_,rfl,p⟩),λl d x b=>(by cases d;rw[p]at b;cases b;rfl)⟩|ar _ _ _ _ _ _ vi v p g2 O g4 Z=>exact⟨λx b=>(by cases b),λl d x b=>(by cases d;rw[p]at b;cases b)⟩
  .have R:qT 20 a=true:=by simpa [q]using h
   have g:=Jg (pure R f);refine⟨λx b=>(by rw[g]at b;cases b),λl d x b=> ?_⟩;cases a<;>simp only[aDb]at d<;>try(cases d;done)
   simp[LZ]at q
 cases a with
 |agg K=>
  cases f with
  |agg _ W M o=>
  simp only[aJu,aP]at h;constructor;intro x b;obtain⟨c,u,g⟩:=fE.1 b;obtain⟨j,w,rfl⟩:=bX u;have z:=aB (l:=K) (i:=j) (by omega);obtain⟨l,J,I⟩:=(one (h _ (bK z)) (o j _ _ z (aB w))).1 x g;exact⟨l,fE.2 ⟨_,bK z,J⟩,I⟩;intro l d x b;obtain⟨c,u,g⟩:=fE.1 d;obtain⟨j,w,rfl⟩:=bX u;have L:=aB (l:=W) (i:=j) (by omega);have:=(one (h _ u) (o j _ _ (aB w) L)).2 l g x b;exact fE.2 ⟨_,bK L,this⟩
 |ge l sz N Y s c=>
  obtain⟨J,I⟩:=one (a:= .ge l sz N Y s c) (by simp[LZ]) f;have B:vD t=(Uz t).toList:=by cases f<;>rfl
  rw[B]
  exact⟨λx b=>by
   obtain⟨l,M,o⟩:=J x (by simpa using b);exact⟨l,by simpa [KZ]using M,o⟩,λl d x b=>by
   have:=I l (by simpa [KZ]using d) x b
   simpa using this⟩
 |_ =>
  have g:=aKy (pure (by exact h) f);refine⟨λx b=>(by rw[g]at b;simp at b),λl d=>(by simp[KZ,aDb]at d)⟩
theorem aQa{R v:AR}(h:aPz R=some v){t:T}(B:Sy V R.nx R.cs)(f:GH R.hp R.nl V U H)(hg:Gm V U R.a t):
  ∃r,(∀ow:Tmp->Bool,ow 6000000=false->PU ow t H=some (r,H.aw (vD t)))/\Sy V v.nx v.cs/\GH v.hp v.nl V U (H.aw (vD t))/\Gm V U v.a r:=by
 unfold aPz at h;split at h;rename_i hc;simp only[aA,aP]at hc;obtain⟨c1,c2⟩:=hc;obtain⟨Z,r2⟩:=aKz c1 hg;have c2:∀l∈KZ R.a,∃o,oV R.hp l=some o/\QQ o=true:=λl j=>by
  have:=c2 l j;split at this;exact⟨_,‹_›,this⟩;cases this
 split at h;rename_i b hb;cases h;have z:∀x∈vD t,∃q,H.get x=some q:=λx d=>by
  obtain⟨l,g,i⟩:=Z x d;obtain⟨o,L,s⟩:=c2 l g;obtain⟨q,w,_⟩:=f.at L i (YX s);exact⟨q,w⟩
 have hL:GH (OO R.hp (KZ R.a)) R.nl V U (H.only (vD t)):=by
  refine⟨f.len,λl o j=> ?_,λl O o N x g i=>f.inj l O o N x (CG g).1 (CG i).1,λl x d=>by rw[EK];exact f.lt l x d,λl e Y j=>f.aN l e Y (CG j).1,λm o u=>by rw[EK];exact f.fin m o (pD (EJ H _ m o u).1).1⟩;obtain⟨g,i,L⟩:=CG j;obtain⟨y,s,w⟩:=f.obj l o g;refine⟨y,s,λx d=> ?_⟩;obtain⟨q,J,W⟩:=w x d;subst d;refine⟨q,?_,W⟩;rw[zW (YX L)]at J⊢;rw[YF H _ x (r2 l i x s)];exact J
 obtain⟨r,q1,q2⟩:=WV B.zero hL 22 R.a b t hb hg 25 (by omega);refine⟨jf r,λow M=> ?_,B,?_,aHq B.cs B.zero q2⟩;unfold PU;rw[aH (by rw[M];simp),aJ (aP.2 λx d=>by obtain⟨q,hq⟩:=z x d;rw[hq];rfl),q1];have p:∀x,x∉vD t->(H.aw (vD t)).any x=H.any x:=λx d=>by rw[DV,aH d]
 refine⟨f.len,λl o j=> ?_,λl O o N x g i=>f.inj l O o N x (AD g).1 (AD i).1,λl x d=>by rw[FF];exact f.lt l x d,λl e Y j=>f.aN l e Y (AD j).1,λm o u=> ?_⟩;obtain⟨g,i⟩:=AD j;obtain⟨y,s,w⟩:=f.obj l o g;refine⟨y,s,λx d=> ?_⟩;obtain⟨q,J,W⟩:=w x d;subst d;have d:x∉vD t:=λd=>by
  obtain⟨l2,k1,k2⟩:=Z x d;obtain⟨o2,k3,_⟩:=c2 l2 k1;have:=f.inj l l2 o o2 x g k3 s k2;subst this;exact i k1
 refine⟨q,?_,W⟩;rw[<-J];cases o<;>first|exact p x d|exact FP (p x d)
 rw[FF];rw[DV]at u;split at u;cases u;exact f.fin m o u;cases h;cases h
theorem WN:∀{b q:jS},Gy b=some q->∀R∈b,∃a∈q,aPz R=some a
 |[],q,h,R,hR=>by simp at hR
 |R0::b,q,h,R,hR=>by
  simp only[Gy]at h;split at h;rename_i g f;split at h;rename_i l i;cases h;rcases aY.1 hR with rfl|hR
  exact⟨g,by simp,f⟩;obtain⟨a,d,j⟩:=WN i R hR;exact⟨a,aC _ d,j⟩;cases h;cases h
theorem YV{P:gD}{f:gC}{H:Hp}:∀{a:jP} {u:gC},rJ P f H a=some u->u.length=a.length
 |[],u,h=>by cases h;rfl
 |r::a,u,h=>by
  simp only[rJ]at h;split at h;split at h;rename_i b d;cases h;simp[YV d];cases h;cases h
theorem JK(hc:Cn X gl pe){q:FuncId->List A->AS->Option (List AR)}{ee:gQ}{B:Nat->List A->AS->Option (List AR)}{yd:iW}
  (s:wN q ee) (O:Fl B yd) (hK:∀n d,ZQ (ee n d)) (I:∀n d,Ky (yd n d)) {f:gX} {i:List A} {N:jS} (h:Mz P X q B f i S=some N) (Y:Sy V S.nx S.cs) (hh:GH S.hp S.nl V U H) {ts:gC} (ha:pT V U i ts):
  X.top f=true/\∃r p,Ev (λn d=>kg P ⟨gl,pe⟩ (ee n d) (yd n d) (X.own f) n f ts H=some (r,p))/\∃R∈N,ip V U R r p:=by
 unfold Mz at h;split at h;cases h;rename_i z;refine⟨by simpa using z,?_⟩;split at h;rename_i fn K;split at h;rename_i c j;split at h;rename_i l hl;have hg:GS {S with fr:=i++List.replicate (fn.ntmps-i.length) (.fm [])} V U (ts++List.replicate (fn.ntmps-ts.length) oS) H:=
  ⟨Y,hh,by rw[<-ha.1];exact ha.app (pT.replicate tN _)⟩
 obtain⟨x,W,p,e1,S',s1,V1,μ1,x1,x2,g1⟩:=VW (F:=X.own f) (ro:=none) (ro':=none) hc s O hK I c _ _ V U _ H l hg trivial hl;have hk:qF H p:=by
  obtain⟨n,d,e⟩:=e1.ex;exact uJ (hK n d) (I n d) _ _ _ _ _ _ e
 split at h;rename_i Z hrs;obtain⟨k1,us,k2,R,k3,k4⟩:=Mn _ l Z hrs x S' s1 V1 μ1 W p g1;have v:ip V U R (aTx us) p:=by
  obtain⟨a,b,M,L,h3⟩:=k4;exact⟨a,b,x1.trans M,x2.trans L,h3⟩
 split at h;rename_i rs2 g;unfold bEl at g;split at g;rename_i w;cases g;have fin:∃J∈N,ip V U J (aTx us) p:=by
  split at h;exact Bz hk Y hh h k3 v;cases h;exact⟨R,k3,v⟩
 refine⟨_,p,e1.mono λn d e=> ?_,fin⟩;simp only[kg,K,j];rw[e];rcases k1 with rfl|rfl<;>simp only[k2]<;>(rcases us with _ |⟨t,_ |⟨u,r⟩⟩<;>first|rfl|(simp only[PU,w,cB];rfl))
 rename_i w;split at g;rename_i o;have o:=oT o;have hul:=YV k2;obtain⟨t,rfl⟩:=eY.1 (hul.trans o);obtain⟨a,b,M,L,h3,h4,h5⟩:=v;obtain⟨J,m1,m2⟩:=WN g R k3;obtain⟨r,f1,f2,f3,f4⟩:=aQa m2 h3 h4 h5;have hf:=f1 (X.own f) (by simpa using w);have hk2:qF H (p.aw (vD t)):=hk.trans (LI _ _);have fin:∃J∈N,ip V U J r (p.aw (vD t)):=by
  split at h;exact Bz hk2 Y hh h m1 ⟨a,b,M,L,f2,f3,f4⟩;cases h;exact⟨J,m1,a,b,M,L,f2,f3,f4⟩
 refine⟨_,_,e1.mono λn d e=> ?_,fin⟩;simp only[kg,K,j];rw[e];rcases k1 with rfl|rfl<;>(simp only[k2];exact hf)
 cases g;cases h;cases h;cases h;cases h;cases h
end
end Go.Ps
namespace Go.Ps
variable[Inhabited gy]
section
variable{P:gD}{gl:gG}
noncomputable def ir(P:gD)(gl:gG)(p:gI)(own:iA)(ok:hC)(k n d:Nat)(f:gX)(b:gC):Option T:=
 match(qW P ⟨gl,sR k p⟩ own ok n d).ee f b ⟨0,.nl⟩with
 |some (q,a)=>pM k a q|none=>none
theorem Pl(N:P.follows .mixedOrders=true)(hz:wO gl)(hx:sD P gl MR){x:gI}(Z:iq P gl x){own:iA}{ok:hC}(u:∀f,ok f=true->uQ P f=true/\zN P f=true)
  {k n d:Nat} {f:gX} {z:gC} {r:T} (h:ir P gl x own ok k n d f z=some r):
  uQ P f=true/\∀(g:G) (s:gV),sJ g->(∀l,¬g.al l)->gn gl g->fv g s z->
   Calls P f s.toArray g.w λe L=>∃v p,e= .returned v/\p.w=L/\fx g p/\sJ p/\Rd p v r:=by
 unfold ir at h;split at h;rename_i q K M;obtain⟨h1,h2⟩:=(OX N (E:=⟨gl,sR k x⟩) (CW (k:=k) hz Z) hx u (own:=own) (n:=n) d).1 f z _ q K M;refine⟨h1,λg s hg B I R=> ?_⟩;have W:St g ⟨0,.nl⟩:=St.nl _ _ (λl _ =>B l);refine(h2 g s hg W I R).mono λe L ⟨v,p,Y,e2,j,O,J,e6⟩=> ?_;refine⟨v,p.aM K g,Y,e2,?_,?_,LR J k q r v h e6⟩;refine⟨j.os,j.tape,j.output,j.size,λb a=>j.block b a (λl o i=>(by rw[vX]at i;cases i)),λb a=> .inl (j.sub b a),λb a=> ?_,rfl,rfl,rfl⟩;rcases a with a|⟨l,o,i,rfl⟩
 rcases j.fresh b a with q|q|⟨l,o,i,_⟩;exact .inl q;exact .inr q;rw[vX]at i;cases i;rcases j.live l o (pD i).1 with⟨l0,o0,q,_⟩|q
 rw[vX]at q;cases q;exact .inr q;intro b a;rcases a with a|⟨l,o,i,rfl⟩
 exact O b a;exact J.lt (pD i).1;cases h
def lj(P:gD)(gl:gG)(p:gI)(own:iA)(ok:hC)(k:Nat)(f:gX)(a:gC)(r:T):Prop:=
 ∃m,∀n d,m<=n->m<=d->ir P gl p own ok k n d f a=some r
theorem lj.unique{p:gI}{own:iA}{ok:hC}{k:Nat}{f:gX}{g:gC}{r d:T}(h:lj P gl p own ok k f g r)(j:lj P gl p own ok k f g d):r=d:=by
 obtain⟨m,i⟩:=h;obtain⟨a,b⟩:=j;have:=i (max m a) (max m a) (by omega) (by omega);rw[b (max m a) (max m a) (by omega) (by omega)]at this;exact(bV this).symm
open Classical in
noncomputable def LN(P:gD)(gl:gG)(p:gI)(own:iA)(ok:hC)(k:Nat)(gz:hC):FuncId->List T->Option T:=λf a=>
 if gz f=true then(if h:∃r,lj P gl p own ok k f a r then some (Classical.choose h)else none)else p f a
theorem aPw(i:P.follows .mixedOrders=true)(o:wO gl)(q:sD P gl MR){p:gI}(g:iq P gl p){own:iA}{ok:hC}(a:∀f,ok f=true->uQ P f=true/\zN P f=true){k:Nat}{gz:hC}:
  iq P gl (LN P gl p own ok k gz):=by
 intro f j r h;unfold LN at h;split at h;split at h;rename_i d;cases h;obtain⟨m,b⟩:=cO d;exact Pl i o q g a (b m m (bB _) (bB _));cases h;exact g f j r h
theorem Mt{p:gI}{own:iA}{ok:hC}{k:Nat}{gz:hC}{f:gX}{a:gC}{r:T}(b:gz f=true)(h:lj P gl p own ok k f a r):LN P gl p own ok k gz f a=some r:=by
 unfold LN;rw[aJ b,dif_pos ⟨r,h⟩];exact bG some ((cO ⟨r,h⟩:lj P gl p own ok k f a _).unique h)
structure tW where
 f:FuncId
 pre:List A
 res:A
theorem TE{Y:Type}(l:List Y):l.take 0=[]:=rfl
def pY(l:List tW)(p:FuncId->List A->Nat->List pR->Option AV):FuncId->List A->Nat->List pR->Option AV:=λf a n b=>
 if l.any λc=>Nat.beq c.f f then match l.find? (λc=>Nat.beq c.f f&&yW (GM b 0 0 qZ) a c.pre)with
  |some c=>some (uO c.res n b)|none=>none
 else p f a n b
end
end Go.Ps
namespace Go.Proofs.Tryz
namespace hZ
def i6(y:Int):Int:=365*(y-1)+(y-1).tdiv 4-(y-1).tdiv 100+(y-1).tdiv 400
def leap(y:Int):Bool:=decide (y.tmod 4=0)&&(decide (y.tmod 100≠0)||decide (y.tmod 400=0))
theorem l3:i6 1=0:=by decide
theorem hV{a b:Int}(h:0<=a):a.tdiv b=a/b:=Int.tdiv_eq_ediv_of_nonneg h
theorem aTt{a b:Int}(h:0<=a):a.tmod b=a%b:=Int.tmod_eq_emod_of_nonneg h
theorem mV{y:Int}(h:1<=y)(a:y<=10000):0<=i6 y/\i6 y<=4000000:=by
 unfold i6;rw[hV (by omega),hV (by omega),hV (by omega)];omega
theorem ll{y:Int}(h:1<=y):i6 (y+1)=i6 y+(if leap y then 366 else 365):=by
 unfold i6 leap;simp only[hV (show(0:Int)<=y+1-1 by omega),hV (show(0:Int)<=y-1 by omega),aTt (show(0:Int)<=y by omega)];have g:(y+1-1)/4=(y-1)/4+(if y%4=0 then 1 else 0):=by split<;>omega
 have a:(y+1-1)/100=(y-1)/100+(if y%100=0 then 1 else 0):=by split<;>omega
 have b:(y+1-1)/400=(y-1)/400+(if y%400=0 then 1 else 0):=by split<;>omega
 rw[g,a,b];by_cases i:y%4=0<;>by_cases d:y%100=0<;>by_cases f:y%400=0<;>simp only[i,d,f,decide_true,decide_false,cB,cN,bM,cL,Bool.and_false,Bool.false_and,Bool.or_true,Bool.or_false,ne_eq,not_true,not_false_eq_true,bI]<;>omega
theorem kl{n:Int}(h:0<=n)(a:n<=3652058):n<i6 (min (n/365+1) 9999+1):=by
 unfold i6;rw[hV (by omega),hV (by omega),hV (by omega)];omega
def i8(l:Bool)(k:Int):Int:=
 if k<=1 then(if l then 366 else 365)else if k<=2 then(if l then 335 else 334)else if k<=3 then 306 else if k<=4 then 275 else if k<=5 then 245 else if k<=6 then 214 else if k<=7 then 184
 else if k<=8 then 153 else if k<=9 then 122 else if k<=10 then 92 else if k<=11 then 61 else if k<=12 then 31 else 0
def iD(l:Bool)(k:Int):Int:=if k=2 then(if l then 29 else 28)else if k=4\/k=6\/k=9\/k=11 then 30 else 31
theorem km{l:Bool}{k:Int}(h:1<=k)(a:k<=12):i8 l k=iD l k+i8 l (k+1):=by
 have:k=1\/k=2\/k=3\/k=4\/k=5\/k=6\/k=7\/k=8\/k=9\/k=10\/k=11\/k=12:=by omega
 rcases this with rfl|rfl|rfl|rfl|rfl|rfl|rfl|rfl|rfl|rfl|rfl|rfl<;>cases l<;>decide
theorem lm(l:Bool):i8 l 1=if l then 366 else 365:=by simp[i8]
theorem ln(l:Bool){k:Int}(h:13<=k):i8 l k=0:=by
 unfold i8;simp only[aH (show¬k<=1 by omega),aH (show¬k<=2 by omega),aH (show¬k<=3 by omega),aH (show¬k<=4 by omega),aH (show¬k<=5 by omega),aH (show¬k<=6 by omega),aH (show¬k<=7 by omega),aH (show¬k<=8 by omega),aH (show¬k<=9 by omega),aH (show¬k<=10 by omega),aH (show¬k<=11 by omega),aH (show¬k<=12 by omega)]
end hZ
end Go.Proofs.Tryz
namespace Go.Ps
open Classical in
noncomputable def Zi(f:gX)(a:gC)(r:T):FuncId->List T->Option T:=λg u=>if g=f/\u=a then some r else none
section
variable{P:gD}{gl:gG}
theorem aKm(u:P.follows .mixedOrders=true)(s:wO gl)(J:sD P gl MR){q:gI}(w:iq P gl q){own:iA}{n d k:Nat}{f:gX}{a:gC}{r:T}
  (h:ir P gl q own (λf=>uQ P f&&zN P f) k n d f a=some r) (i:qJ (pM k ⟨0,.nl⟩) a=some a):fj P gl f a r:=by
 letI:Inhabited gy:=⟨gy.of (λ_ _ =>False) (λ_ _ h=>h.elim)⟩
 have p:=Pl u s J w (λf i=>by simpa using i) h;have I:iq P gl (Zi f a r):=λg L O b=>by
  unfold Zi at b;split at b;rename_i e;cases b;rw[e.1,e.2];exact p;cases b
 have j:∀H:Hp,sR k (Zi f a r) H f a=some r:=λH=>by unfold sR Zi;rw[i];simp
 refine⟨p.1,λg B z ⟨N,K⟩ o v=> ?_⟩;obtain⟨M,x⟩:=CW (k:=k) s I ⟨N,.nl⟩ f a r (j ⟨N,.nl⟩);exact x g B z (St.nl _ _ K) o v
end
end Go.Ps
namespace Go.Proofs.Tryz
open Go.Ps
noncomputable section
def pb(p:Prop):Bool:= @decide p (Classical.propDecidable p)
theorem pN{p:Prop}:pb p=true↔p:=by unfold pb;simp
def F0:Fc:=⟨λ_ =>false,λ_ _ _ =>none⟩
variable(m:Int)(C:gB)
def DZ:Ed:=⟨fo m C,λ_ _ _ =>none⟩
theorem oK:Cx prog (DZ m C) F0:=⟨follows,rM,vW⟩
theorem rK{f:gX}{a:gC}{r:T}(h:Ps.ir prog (fo m C) lV (λ_ _ =>true) (λf=>uQ prog f&&zN prog f) 40 100 30 f a=some r)(b:qJ (pM 40 ⟨0,.nl⟩) a=some a):fj prog (fo m C) f a r:=
 aKm follows (qN m C) (RU _) (iq.of λf a r h=>jg (Iz h)) h b
abbrev mm:Int:=999999999999999
def wQ(n:Int):Int:=if n<IntKind.i64.wrap (0-n)then IntKind.i64.wrap (0-n)else n
def KO(n s:Int):Int:=if wQ n>mm\/n< -mm\/s<0\/s>12 then 2 else 0
def aDe:List T->Option (T×List Bool)
 |[.int .i64 n]=>some (.int .i64 (wQ n),[])|_ =>none
def aSw:List T->Option (T×List Bool)
 |[.agg [.int .i64 n,.int .i64 s]]=>some (.int .i64 (KO n s),[])|_ =>none
def ZS(n a b:Int):Bool:=decide (a<=n)&&decide (n<=b)
def aDf:List T->Option (T×List Bool)
 |[.int .i64 n,.int .i64 a,.int .i64 b]=>some (.bool (ZS n a b),[])|_ =>none
def UA(y:Int):Bool:=ZS y 1 9999&&hZ.leap y
def bIa:List T->Option (T×List Bool)
 |[.int .i64 y]=>some (.bool (UA y),[])|_ =>none
def bHx:List T->Option (T×List Bool)
 |[.int .i64 y]=>some (.int .i64 (hZ.i6 y),[decide (1<=y),decide (y<=10000)])|_ =>none
def bHy:List T->Option (T×List Bool)
 |[.int .i64 y,.int .i64 k]=>some (.int .i64 (hZ.iD (UA y) k),[decide (1<=k),decide (k<=12)])|_ =>none
def rP:List T->Option (T×List Bool)
 |[.int .i64 n]=>some (.str (qL n),[decide (-9223372036854775808<=n),decide (n<=9223372036854775807)])|_ =>none
def bHw:List T->Option (T×List Bool)
 |[.str s,.int .i64 n]=>some (.str (Lib.repeatL s n.toNat),[decide (0<=n),decide (n<=100),decide (s.length<=1)])|_ =>none
def DP:Ed:=⟨fo m C,qC 329 aDf (qC 295 aDe (λ_ _ _ =>none))⟩
def DQ:Ed:=⟨fo m C,qC 345 bIa (qC 301 aSw (qC 329 aDf (qC 295 aDe (λ_ _ _ =>none))))⟩
def DR:Ed:=⟨fo m C,qC 330 bHx (qC 331 bHy (qC 312 bHw (qC 40 rP (qC 301 aSw (qC 329 aDf (qC 295 aDe (λ_ _ _ =>none)))))))⟩
end
end Go.Proofs.Tryz
namespace Go.Ps
def gj(P:gD)(E:uW)(p:gW)(n:Nat)(c:Code)(o:gC)(H:Hp)(Q:gT):Prop:=
 ∀(h g:G) (j:Hp) (a:Act) (ds:iU),qK E h j g a o H->∀(R:gJ),(∀a w,¬R .outgrown a w)->(∀x f d b i,Q x f d->qK E h j i b f d->R x.au (DS ds b) i.w)->c.wpIn (Fw p) n P R (DS ds a) g.w
section
variable{P:gD}{E:uW}{F:Fc}{ro:gW}{n:Nat}{c c1 c2:Code}{fr:gC}{H:Hp}{Q:gT}
theorem oY(p:P.follows .mixedOrders=true)(o:rV P E.gl E.pe)(hF:sD P E.gl F.ee){m:Nat}(h:codeOk c=true)(b:uZ c=true){x:X}{fr':gC}{H':Hp}(i:oW P E F m c fr H=some (x,fr',H'))(q:Q x fr' H'):gj P E ro n c fr H Q:=
 λu g w a ds z R d s=>aPc p o hF m c _ _ _ _ _ h b i u g w a z R d λj v f=>s x fr' H' j v q f
theorem pB(h:gj P E ro n c1 fr H (rE (λf o=>gj P E ro n c2 f o Q) Q)):gj P E ro n (.seq c1 c2) fr H Q:=by
 intro p g q a ds v R d j;refine wpIn_seq (h p g q a ds v _ (xN d) λx f o s u i b=> ?_);cases x with
 |normal=>exact i p u q s ds b R d j|exit id=>exact j _ _ _ _ _ i b|ret=>exact j _ _ _ _ _ i b
theorem sP{id:Nat}(h:gj P E ro n c fr H (xJ id Q)):gj P E ro n (.block id c) fr H Q:=by
 intro p g s a ds u R i f;refine wpIn_block (h p g s a ds u _ (λa w q=>i a w q) λx j v z B d b=> ?_);cases x with
 |normal=>exact f _ _ _ _ _ d b
 |exit o=>
  simp only[xJ]at d;simp only[X.au,Exit.inBlock];split at d;rename_i e;rw[aJ e];exact f _ _ _ _ _ d b;rename_i e;rw[aH e];exact f _ _ _ _ _ d b
 |ret=>exact f _ _ _ _ _ d b
theorem XB(I:Nat->List T->Hp->Prop)(K:∀fr H,I 0 fr H->gj P E ro n c fr H (rE (λ_ _ =>False) Q))(J:∀k fr H,I (k+1) fr H->gj P E ro n c fr H (rE (I k) Q))(k:Nat)(hI:I k fr H):gj P E ro n (.loop c) fr H Q:=by
 intro s g u a ds j R i o;refine wpIn_loop_rounds (k+1) ?_;have q:∀k fr H a g,I k fr H->qK E s u g a fr H->Code.roundsIn (Fw ro) n P c R (k+1) (DS ds a) g.w:=by
  intro k
  induction k with
  |zero=>
   intro fr H a g p j;rw[roundsIn_succ];refine K fr H p s g u a ds j _ (xN i) λx d v z B b h=> ?_;cases x with
   |normal=>exact b.elim|exit id=>exact o _ _ _ _ _ b h|ret=>exact o _ _ _ _ _ b h
  |succ k L=>
   intro fr H a g p j;rw[roundsIn_succ];refine J k fr H p s g u a ds j _ (xN i) λx d v z B b h=> ?_;cases x with
   |normal=>exact L d v z B b h|exit id=>exact o _ _ _ _ _ b h|ret=>exact o _ _ _ _ _ b h
 exact q k fr H a g hI j
def UX(P:gD)(E:uW)(o:Oper)(f:gC)(H:Hp)(d:jV):Prop:=
 ∀(g:G) (a:Act),sJ g->St g H->gn E.gl g->fv g a.tmps.toList f->∃t b,(t,b)∈d/\mN P o a g H t b
theorem CJ{o:Oper}{j:gB}{x:jH}(p:o.op= .range j x){v t:T}{b:Hp}(N:pQ E.gl fr x=some v)(h:CI P H j v=some (t,b)):UX P E o fr H [(t,b)]:=by
 intro g a L B f i;obtain⟨R,W,z,K,d,guard⟩:=o;simp only at p;subst p;have w:=(EX.of i none).eval f (λ_ _ =>by simp) N;obtain⟨u,q,J,O,M,s,I⟩:=aKr (P:=P) B L h w;refine⟨t,b,bR.2 rfl,yB (g':=q) (v:=u) ?_ O s M I⟩;simp only[execOp,aW,J,aL];simp
theorem RP{o:Oper}{s:Bool}{x:jH}(p:o.op= .next x s){v:T}{j:jV}(O:pQ E.gl fr x=some v)(h:OL H s v=some j):UX P E o fr H j:=by
 intro g a M I f i;obtain⟨Y,Z,b,L,d,guard⟩:=o;simp only at p;subst p;have B:=(EX.of i none).eval f (λ_ _ =>by simp) O;obtain⟨t,H1,u,q,w,K,W,N,z,J⟩:=aSa (P:=P) I M h B b;refine⟨t,H1,w,yB (g':=q) (v:=u) ?_ W z N J⟩;simp only[execOp,aW,K,aL];simp
theorem ZD{o:Oper}{x:jH}(j:o.op= .entry x){v:T}{i:jV}(N:pQ E.gl fr x=some v)(h:stepT H v=some i):UX P E o fr H i:=by
 intro g a L B d f;obtain⟨W,Y,z,K,b,guard⟩:=o;simp only at j;subst j;have w:=(EX.of f none).eval d (λ_ _ =>by simp) N;obtain⟨t,H1,u,p,q,J,R,M,s,I⟩:=aTe (P:=P) B L h w;refine⟨t,H1,q,yB (g':=p) (v:=u) ?_ R s M I⟩;simp only[execOp,aW,J,aL];simp
theorem Jt{g0:G}{H0:Hp}(v:rV P E.gl E.pe)(hF:sD P E.gl F.ee){b:gF}{K:gJ}(r:gU):∀(l:hU) (k:Nat) (s f:Fx) (a:Act) (g:G),(∀j o,l[j]? =some o->b[k+j]? =some o)->Inv P E g0 H0 g a s->pU P E F b l s=some f->
  (∀i p,Inv P E g0 H0 p i f->wpOps P b K r i p.w)->wpOps P b K (List.range' k l.length++r) a g.w
 |[],k,s,f,a,g,_,h,d,q=>by
  simp only[pU,aI]at d;subst d;exact q a g h
 |o::l,k,s,f,a,g,x,h,d,q=>by
  simp only[pU]at d;split at d;rename_i I u;have B:b[k]? =some o:=by simpa using x 0 o rfl
  rw[aZ,fC,dR,wpOps_cons];refine ZJ v hF h u B (λi p L=> ?_);exact Jt v hF r l (k+1) I f i p (λj J z=>by have:=x (j+1) J (by simpa using z);simpa [dT,Nat.add_comm 1 j]using this) L d q;cases d
theorem wT(hE:rV P E.gl E.pe)(hF:sD P E.gl F.ee){b:gF}{id:Nat}{pre post:hU}{o:Oper}(hp:tP b=true)(B:b.toList=pre++o::post)(hg:o.guard=none){fr1:gC}{H1:Hp}(h1:pU P E F b pre ⟨fr,H,none⟩=some ⟨fr1,H1,none⟩)
  {cs:jV} (hs:UX P E o fr1 H1 cs) (h2:∀t s,(t,s)∈cs->∃f L,pU P E F b post ⟨pW fr1 o.dst t,s,none⟩=some ⟨f,L,none⟩/\Q .normal f L):gj P E ro n (.region id b false) fr H Q:=by
 intro N g O a ds hc R Z hR;refine wpIn_region (ZO hp Z _ _ _ ?_);have I:b.size=pre.length+(post.length+1):=by rw[<-cW,B];simp
 have i:∀(j:Nat) (q:Oper),(pre++o::post)[j]? =some q->b[j]? =some q:=λj q h=>by rw[<-B]at h;simpa using h
 have hr:List.range b.size=List.range' 0 pre.length++(pre.length::List.range' (pre.length+1) post.length):=by
  rw[List.range_eq_range',I,<-List.range'_append_1,cG,fC]
 rw[hr];refine Jt (g0:=g) (H0:=H) hE hF _ pre 0 _ _ a g (λj q J=>i _ q (by rw[cG,dI (aQ.1 J).1];exact J)) hc.toInv h1 (λM g1 hi=> ?_);rw[wpOps_cons];have d:qK E N O g1 M fr1 H1:=hi.cj hc.step rfl;obtain⟨t,s,u,z⟩:=hs g1 M d.ok d.st d.gl d.fr;obtain⟨f,L,he,hq⟩:=h2 t s u;have h0:b[pre.length]? =some o:=i _ o (by rw[cU (bB _),Nat.sub_self];rfl);have hwd:Region.wanted o (yielded b M.tmps)=true:=by unfold Region.wanted;rw[hg]
 unfold wpOp;rw[h0];simp only[hwd,cB];refine .inl (z _ _ λv g2 p W hst Y=> ?_);have x:qK E N O g2 (M.put o.dst v) (pW fr1 o.dst t) s:=⟨W,hst,d.gl.af d.st p,by rw[sY];exact d.df,((EX.of (d.fr.af d.st p) none).put Y).all,d.step.trans p⟩;have:=Jt (g0:=g2) (H0:=s) (K:=λe a w=>R e (DS ds a) w) hE hF [] post (pre.length+1) _ _ _ g2 (λj q J=>i _ q (by rw[cU (by omega),show pre.length+1+j-pre.length=j+1 by omega];exact J)) x.toInv he (λa3 g3 h3=>hR .normal f L a3 g3 hq (h3.cj x.step rfl))
 rwa [List.append_nil]at this
end
section
variable{P:gD}{E:uW}{ro:gW}{n:Nat}{c:Code}{fr:gC}{H:Hp}{Q:gT}
theorem KY{R:gJ}:∀(k:Nat) (a:Act) (w:iG),Code.roundsIn (Fw ro) n P c R k a w->Code.roundsIn (Fw ro) n P c R (k+1) a w
 |0,_,_,h=>h.elim
 |k+1,a,w,h=>by
  rw[roundsIn_succ]at h⊢;refine wpIn_mono h λe b d q=> ?_;cases e with
  |normal=>exact KY k b d q|_ =>exact q
theorem Pw{R:gJ}{k m:Nat}(b:k<=m){a:Act}{w:iG}(h:Code.roundsIn (Fw ro) n P c R k a w):Code.roundsIn (Fw ro) n P c R m a w:=by
 induction m with
 |zero=>
  have:k=0:=by omega
  subst this;exact h
 |succ m i=>
  rcases dS b with e|hlt;exact e▸h;exact KY m a w (i (by omega))
theorem SL(I:Nat->List T->Hp->Prop)(B:∀k fr H,I k fr H->gj P E ro n c fr H (rE (λb j=>∃m,m<k/\I m b j) Q))(k:Nat)(hI:I k fr H):gj P E ro n (.loop c) fr H Q:=by
 intro u g v a ds q R i s;refine wpIn_loop_rounds (k+1) ?_;have o:∀k fr H a g,I k fr H->qK E u v g a fr H->Code.roundsIn (Fw ro) n P c R (k+1) (DS ds a) g.w:=by
  intro k
  induction k using Nat.strongRecOn with
  |_ k J=>
   intro fr H a g K q;rw[roundsIn_succ];refine B k fr H K u g v a ds q _ (xN i) λx b j L M d h=> ?_;cases x with
   |normal=>
    obtain⟨m,z,p⟩:=d;exact Pw (k:=m+1) (by omega) (J m z b j L M p h)
   |exit id=>exact s _ _ _ _ _ d h|ret=>exact s _ _ _ _ _ d h
 exact o k fr H a g hI q
end
section
variable{P:gD}{E:uW}
def YE:List T->T
 |[t]=>t|ts=> .fm ts
def aAt(P:gD)(d:Func)(k:Nat)(r:T)(x:X)(f:gC)(H:Hp):Prop:=
 (x= .normal\/x= .ret)/\∃b a,rJ P f H d.results.toList=some b/\pM k H (YE b)=some a/\∀g v,Rd g v a->Rd g v r
def KR(P:gD)(b:Func)(k:Nat)(r:T)(x:X)(f:gC)(H:Hp):Prop:=
 (x= .normal\/x= .ret)/\∃t a,rJ P f H b.results.toList=some [t]/\pM k H t=some a/\∀g v,Rd g v a->Rd g v r
theorem YQ(hz:wO E.gl){f:gX}{p:Func}{c:Code}(h1:uQ P f=true)(hfn:P.funcs[f]? =some p)(hc:p.body=some c){k:Nat}{z:gC}(hts:qJ (pM k ⟨0,.nl⟩) z=some z){r:T}
  (hcode:∀(g0 g:G) (a:Act),qK E g0 ⟨0,.nl⟩ g a (z++List.replicate (p.ntmps-z.length) oS) ⟨0,.nl⟩->∀(R:gJ),(∀a w,¬R .outgrown a w)->
   (∀x K H' s j M,aAt P p k r x K H'->qK E g0 ⟨0,.nl⟩ j s K H'->Mk g0 j H' M->R x.au (DS M s) j.w)->Mk g0 g ⟨0,.nl⟩ []->c.wpIn (Fw none) 0 P R (DS [] a) g.w):fj P E.gl f z r:=by
 refine⟨h1,λg Z hg ⟨N,hN⟩ hgl hv=> ?_⟩;have hsN:St g ⟨N,.nl⟩:=St.nl _ _ hN;have hv':fv g.bare Z z:=by
  have:=TW (g0:=g.bare) hsN (De hts) hv;rw[JL]at this;exact this
 have hgl':gn E.gl g.bare:=by
  have:=gn.aM (g0:=g.bare) hz hsN hgl;rw[JL]at this;exact this
 have L:fv g.bare (Z.toArray++Array.replicate (p.ntmps-Z.toArray.size) undef).toList (z++List.replicate (p.ntmps-z.length) oS):=by
  have:(Z.toArray++Array.replicate (p.ntmps-Z.toArray.size) undef).toList=Z++List.replicate (p.ntmps-z.length) undef:=by simp[hv'.1]
  rw[this];exact hv'.append (fv.replicate _ Rd.undef)
 have hs0:St g.bare ⟨0,.nl⟩:=St.nl _ _ (λl _ q=>q);have hinv:qK E g.bare ⟨0,.nl⟩ g.bare {tmps:=Z.toArray++Array.replicate (p.ntmps-Z.toArray.size) undef,defers:=[]} (z++List.replicate (p.ntmps-z.length) oS) ⟨0,.nl⟩:=⟨hg,hs0,hgl',rfl,L,pP.refl _ _⟩
 let Kw:Ending->World->Prop:=λe w'=>∃v j,e= .returned v/\j.w=w'/\fx g j/\sJ j/\Rd j v r
 have fin:∀(x:X) (fr:gC) (H1:Hp),aAt P p k r x fr H1->∀(s:Act) (j:G),qK E g.bare ⟨0,.nl⟩ j s fr H1->LeavesIn (Fw none) 0 P p s.tmps Kw [] .returning j.w:=by
  intro x fr H1 ⟨_,z,r',ht,hfz,hrd⟩ s j i;show∃v,_;have er:p.results=p.results.toList.toArray:=by simp
  obtain⟨us,q1,q2⟩:=yK (P:=P) i.st i.fr ht;obtain⟨u,hu,hv⟩:∃u,(us=[u]\/us.length≠1/\u= .tuple us.toArray)/\Rd j u (YE z):=by
   have I:=q2.1
   match us,z,I,q2 with
   |[u],[t],_,q2=>exact⟨u,.inl rfl,q2.I.1⟩|[],[],_,q2=>exact⟨_,.inr ⟨by simp,rfl⟩,Rd.ak q2⟩|_ ::_ ::_,_ ::_ ::_,_,q2=>exact⟨_,.inr ⟨by simp,rfl⟩,Rd.ak q2⟩|[],_ ::_,I,_ =>simp at I|_ ::_,[],I,_ =>simp at I|[_],_ ::_ ::_,I,_ =>simp at I|_ ::_ ::_,[_],I,_ =>simp at I
  refine⟨u,?_,u,j.aM H1 g,rfl,rfl,?_,?_,hrd _ _ (LR i.st k _ r' u hfz hv)⟩;rw[yC,er,eH];simp only[aW,fV];rw[q1];rcases hu with rfl|⟨I,rfl⟩
  simp;simp[I];have Y:=i.step;refine⟨Y.os,Y.tape,Y.output,Y.size,λb B=>Y.block b B (λl o O=>(by rw[vX]at O;cases O)),λb B=> .inl (Y.sub b B),λb B=> ?_,rfl,rfl,rfl⟩;rcases B with B|⟨l,o,O,rfl⟩
  rcases Y.fresh b B with q|q|⟨l,o,O,_⟩;exact .inl q;exact .inr q;rw[vX]at O;cases O;rcases Y.live l o (pD O).1 with⟨l0,o0,q,_⟩|q
  rw[vX]at q;cases q;exact .inr q;intro b B;rcases B with B|⟨l,o,O,rfl⟩
  exact i.ok b B;exact i.st.lt (pD O).1
 have fin2:∀(x:X) (fr:gC) (H1:Hp),aAt P p k r x fr H1->∀(s:Act) (j:G) (ds:iU),qK E g.bare ⟨0,.nl⟩ j s fr H1->Mk g.bare j H1 ds->LeavesInM (Fw none) 0 P p (DS ds s).tmps Kw (DS ds s).defers .returning j.w:=by
  intro x fr H1 hr s j ds i hd;have e:(DS ds s).defers=ds:=by simp[DS,i.df]
  rw[e];exact FW (λg2 h2=>fin x fr H1 hr s g2 h2) ds j i hd
 refine FA.1 (callsIn_of_wp_marks (F:=Fw none) (n:=0) hfn hc trivial ?_ rfl);have hmk:Mk g.bare g.bare ⟨0,.nl⟩ []:=⟨λd hd=>by simp at hd,List.nodup_nil⟩
 have:=hcode g.bare g.bare _ hinv (λe a w=>e≠ .outgrown/\bodyPostM (Fw none) 0 P p Kw e a w) (λa w h=>h.1 rfl) (λx K H' s j M hq i hd=>by
  refine⟨?_,?_⟩;rcases hq.1 with rfl|rfl<;>simp[X.au];have:=fin2 x K H' hq s j M i hd
  rcases hq.1 with rfl|rfl<;>exact this) hmk
 rw[Sx]at this;exact wpIn_mono this (λe a w h=>h.2)
theorem Dx(L:wO E.gl){f:gX}{s:Func}{c:Code}(B:uQ P f=true)(K:P.funcs[f]? =some s)(Y:s.body=some c){k:Nat}{p:gC}(v:qJ (pM k ⟨0,.nl⟩) p=some p){r:T}
  (i:∀(j g:G) (a:Act),qK E j ⟨0,.nl⟩ g a (p++List.replicate (s.ntmps-p.length) oS) ⟨0,.nl⟩->∀(R:gJ),(∀a w,¬R .outgrown a w)->
   (∀x b o u q d,KR P s k r x b o->qK E j ⟨0,.nl⟩ q u b o->Mk j q o d->R x.au (DS d u) q.w)->Mk j g ⟨0,.nl⟩ []->c.wpIn (Fw none) 0 P R (DS [] a) g.w):fj P E.gl f p r:=
 YQ L B K Y v λj g a I R z W J=>i j g a I R z (λx b o u q d h=>W x b o u q d (by obtain⟨B,t,O,N,M⟩:=h;exact⟨B,[t],O,N,M⟩)) J
end
def r7(s:Nat)(d:T):List (Nat×T)->T
 |[]=>d|(k,v)::r=>cond (Nat.beq k s) v (r7 s d r)
def qD(a:iE)(n:Nat)(g:iK):List T:=(List.range n).map λs=>r7 s (g s) a
theorem aIx{seen:gU}{d:gS}{e:jN}(h:e∈wG seen d):(wG (seen++[e.1]) d).length<(wG seen d).length:=by
 have g:wG (seen++[e.1]) d=(wG seen d).filter λx=> !(x.1==e.1):=by
  unfold wG;rw[List.filter_filter];refine bG (λp=>d.filter p) (funext λx=> ?_);rw[eB];simp;constructor;rintro⟨a,b⟩;exact⟨b,a⟩;rintro⟨a,b⟩;exact⟨b,a⟩
 rw[g];have f:∀l:List (Nat×T×T),e∈l->(l.filter λx=> !(x.1==e.1)).length<l.length:=by
  intro l
  induction l with
  |nil=>intro h;simp at h
  |cons a l i=>
   intro h;rw[List.filter_cons];rcases aY.1 h with rfl|h
   rw[aH (by simp)];exact Nat.lt_succ_of_le (List.length_filter_le _ _);split;exact Nat.succ_lt_succ (i h);exact Nat.lt_succ_of_lt (i h)
 exact f _ h
theorem Dg:∀{d:gS} {x e:jN},(d.map (·.1)).Nodup->x∈d->e∈d->x.1=e.1->x=e
 |[],_,_,_,h,_,_ =>by simp at h
 |a::l,x,e,b,g,f,q=>by
  rw[dN,dU]at b;rcases aY.1 g with rfl|hx'<;>rcases aY.1 f with rfl|he'
  rfl;exact(b.1 (bS.2 ⟨e,he',q.symm⟩)).elim;exact(b.1 (bS.2 ⟨x,hx',q⟩)).elim;exact Dg b.2 hx' he' q
structure mn(es:gS)(c ml N:Nat)(seen:gU)(H:Hp):Prop where
 m:∃o:Ob,H.any ml=some o/\o.me=some (.map c es)
 it:H.any N=some (xK (.aT ml c seen c))
 ne:ml≠N
 lt:ml<H.next/\N<H.next
theorem Ov{a:gS}{c d N:Nat}{seen:gU}{H:Hp}(i:(a.all λe=>Nat.ble (Nat.succ e.1) c)=true)(h:mn a c d N seen H):OL H false (.ptr N 0)=(match wG seen a with
  |[]=>some [(.fm [.bool false],H.drop N)]|left=>some (left.map λe=>(.fm [.bool true,e.2.1,e.2.2],H.put N (xK (.aT d c (seen++[e.1]) c))))):=by
 obtain⟨o,g,f⟩:=h.m;have b:Nat.ble c c=true:=Nat.ble_eq_true_of_le (bB _);unfold OL;simp only[h.it,g,f,xK,bI,cN,i,b,Bool.and_self,cB];cases wG seen a<;>rfl
theorem aLx{b:gS}{c j N:Nat}{seen:gU}{H:Hp}{e:jN}(d:(b.map (·.1)).Nodup)(he:e∈b)(h:mn b c j N (seen++[e.1]) H):Go.Ps.stepT H (.ptr N 0)=some [(.fm [e.2.1,e.2.2],H)]:=by
 obtain⟨o,g,f⟩:=h.m;have i:(b.find? λx=>Nat.beq x.1 e.1)=some e:=by
  clear h g f
  induction b with
  |nil=>simp at he
  |cons a l s=>
   rw[dN,dU]at d;rw[List.find?_cons];rcases aY.1 he with rfl|he
   rw[show Nat.beq e.1 e.1=true from fJ _];have:Nat.beq a.1 e.1=false:=by
    cases q:Nat.beq a.1 e.1 with
    |false=>rfl|true=>exact absurd (bS.2 ⟨e,he,(aD q).symm⟩) d.1
   rw[this];exact s d.2 he
 have p:Nat.beq c c=true:=fJ _;unfold Go.Ps.stepT;simp only[h.it,g,f,xK,List.getLast?_concat,p,cB,i]
def Kp(p:jD)(H a:Hp):Prop:=H.next<=a.next/\∀l,l<H.next->p l=false->a.any l=H.any l
theorem Kp.refl(p:jD)(H:Hp):Kp p H H:=⟨bB _,λ_ _ _ =>rfl⟩
theorem Kp.trans{p:jD}{H b a:Hp}(h:Kp p H b)(k:Kp p b a):Kp p H a:=⟨dK h.1 k.1,λl d f=>(k.2 l (cX d h.1) f).trans (h.2 l d f)⟩
theorem Kp.mono{p q:jD}{H a:Hp}(h:Kp p H a)(k:∀l,q l=false->p l=false):Kp q H a:=⟨h.1,λl b d=>h.2 l b (k l d)⟩
theorem Kp.put{p:jD}{H:Hp}{N:Nat}(h:p N=true)(o:Ob):Kp p H (H.put N o):=⟨bB _,λl _ a=>by rw[qP,aH (λe=>by rw[e,h]at a;cases a)]⟩
theorem Kp.drop{p:jD}{H:Hp}{N:Nat}(h:p N=true):Kp p H (H.drop N):=⟨bB _,λl _ a=>by rw[qY,aH (λe=>by rw[e,h]at a;cases a)]⟩
abbrev oL:Nat->Bool:=λ_ =>false
section
variable{P:gD}{E:uW}{F:Fc}{ro:gW}{n:Nat}
theorem FQ(hm:P.follows .mixedOrders=true)(Z:rV P E.gl E.pe)(hF:sD P E.gl F.ee){w it dn de kb lp b i1 i2 m ml N c:Nat}{z:iE}{s i:gF}{oN oE:Oper}{B I:hU}{cc d:Code}{es:gS}{ze:Nat×T×T->List (Nat×T)}{hit:Nat×T×T->Bool}{Q:gT}{H0:Hp}
  (hp1:tP s=true) (hs1:s.toList=oN::B) (hN:oN.op= .next (.tmp it) false/\oN.dst=some dn/\oN.guard=none)
  (hp2:tP i=true) (hs2:i.toList=oE::I) (hO:oE.op= .entry (.tmp it)/\oE.dst=some de/\oE.guard=none)
  (M:codeOk cc=true/\uZ cc=true/\codeOk d=true/\uZ d=true)
  (hz:∀g,pQ E.gl (qD z w g) (.tmp it)=some (.ptr N 0)/\pQ E.gl (qD ((kb,.bool true)::z) w g) (.tmp it)=some (.ptr N 0))
  (h1:∀g H v r,∃u,pU P E F s B ⟨pW (qD z w g) (some dn) (.fm (.bool v::r)),H,none⟩=some ⟨qD ((kb,.bool v)::z) w u,H,none⟩)
  (hc:∀g H,oW P E F m cc (qD ((kb,.bool true)::z) w g) H=some (.normal,qD ((kb,.bool true)::z) w g,H)/\oW P E F m cc (qD ((kb,.bool false)::z) w g) H=some (.exit lp,qD ((kb,.bool false)::z) w g,H))
  (h2:∀e∈es,∀g H,∃u H',pU P E F i I ⟨pW (qD ((kb,.bool true)::z) w g) (some de) (.fm [e.2.1,e.2.2]),H,none⟩=some ⟨qD (ze e) w u,H',none⟩/\Kp oL H H'/\
   (hit e=false->∃g'' K,oW P E F m d (qD (ze e) w u) H'=some (.normal,qD z w g'',K)/\Kp oL H' K)/\
   (hit e=true->∃fr K,oW P E F m d (qD (ze e) w u) H'=some (.ret,fr,K)/\Q .ret fr K))
  (hev:(es.all λe=>Nat.ble (Nat.succ e.1) c)=true) (hnd:(es.map (·.1)).Nodup) (hb:b≠lp) {seen:gU}
  (hex:∀g H,(∀e∈es,hit e=false)->Kp (λl=>Nat.beq l N) H0 H->Q (.exit lp) (qD ((kb,.bool false)::z) w g) H)
  {g:iK} {H:Hp} (hI:mn es c ml N [] H) (hN0:Kp (λl=>Nat.beq l N) H0 H):gj P E ro n (.loop (.seq (.region i1 s false) (.seq cc (.block b (.seq (.region i2 i false) d))))) (qD z w g) H Q:=by
 refine SL (λk fr H=>∃seen g,fr=qD z w g/\mn es c ml N seen H/\(∀e∈es,e.1∈seen->hit e=false)/\Kp (λl=>Nat.beq l N) H0 H/\(wG seen es).length=k) ?_ (wG [] es).length ⟨[],g,rfl,hI,λe _ h=>by simp at h,hN0,rfl⟩;rintro k fr H ⟨seen,g,rfl,Y,J,hkp,hlen⟩;obtain⟨o1,o2,o3⟩:=hN;obtain⟨q1,q2,q3⟩:=hO;refine pB ?_;obtain⟨cs,f⟩:∃cs,OL H false (.ptr N 0)=some cs:=by
  rw[Ov hev Y];cases wG seen es<;>exact⟨_,rfl⟩
 refine wT (pre:=[]) Z hF hp1 (by rw[hs1];rfl) o3 (fr1:=qD z w g) (H1:=H) rfl (RP o1 (hz g).1 f) λt H2 j=> ?_;rw[Ov hev Y]at f;rw[o2];cases hl:wG seen es with
 |nil=>
  rw[hl]at f;cases f;rcases bR.1 j with e;cases e;obtain⟨u,e1⟩:=h1 g (H.drop N) false [];refine⟨_,_,e1,?_⟩;refine pB (oY hm Z hF (m:=m) M.1 M.2.1 (hc u _).2 ?_);refine hex _ _ (λe W=>J e W ?_) (hkp.trans (Kp.drop (p:=λl=>Nat.beq l N) (fJ N)));have:e∉wG seen es:=by rw[hl];simp
  unfold wG at this;rw[List.mem_filter]at this;cases q:seen.contains e.1 with
  |true=>exact List.contains_iff_mem.1 q|false=>exact absurd ⟨W,by rw[q];rfl⟩ this
 |cons e0 more=>
  rw[hl]at f;have f:(e0::more).map (λe=>((T.fm [.bool true,e.2.1,e.2.2]:T),H.put N (xK (.aT ml c (seen++[e.1]) c))))=cs:=bV f;subst f;obtain⟨e,W,e1⟩:=bS.1 j;cases e1;rw[<-hl]at W;have hlt:=aIx W;have O:e∈es:=(List.mem_filter.1 W).1;have a:mn es c ml N (seen++[e.1]) (H.put N (xK (.aT ml c (seen++[e.1]) c))):=by
   obtain⟨o,k1,k2⟩:=Y.m;exact⟨⟨o,by rw[qP,aH Y.ne];exact k1,k2⟩,by rw[qP,aJ rfl],Y.ne,Y.lt⟩
  have hk1:Kp (λl=>Nat.beq l N) H0 (H.put N (xK (.aT ml c (seen++[e.1]) c))):=hkp.trans (Kp.put (p:=λl=>Nat.beq l N) (fJ N) _);generalize H.put N (xK (.aT ml c (seen++[e.1]) c))=H1 at a hk1⊢;obtain⟨u,e1⟩:=h1 g H1 true [e.2.1,e.2.2];refine⟨_,_,e1,?_⟩;refine pB (oY hm Z hF (m:=m) M.1 M.2.1 (hc u _).1 ?_);refine sP (pB ?_);refine wT (pre:=[]) Z hF hp2 (by rw[hs2];rfl) q3 (fr1:=qD ((kb,.bool true)::z) w u) (H1:=H1) rfl (ZD q1 (hz u).2 (aLx hnd O a)) λt H2 j=> ?_;rcases bR.1 j with e';cases e';rw[q2];obtain⟨g2,H2,f1,f2,f3,f4⟩:=h2 e O u H1;refine⟨_,_,f1,?_⟩;have grow:∀{H':Hp},Kp oL H1 H'->mn es c ml N (seen++[e.1]) H':=λ{H'} L=>by
   obtain⟨o,k1,k2⟩:=a.m;exact⟨⟨o,by rw[L.2 ml a.lt.1 rfl];exact k1,k2⟩,by rw[L.2 N a.lt.2 rfl];exact a.it,a.ne,cX a.lt.1 L.1,cX a.lt.2 L.1⟩
  cases hh:hit e with
  |false=>
   obtain⟨g3,H3,r1,r2⟩:=f3 hh;refine oY hm Z hF (m:=m) M.2.2.1 M.2.2.2 r1 ?_;refine⟨(wG (seen++[e.1]) es).length,by rw[<-hlen,hl]at*;exact hlt,seen++[e.1],g3,rfl,grow (f2.trans r2),λx hx hxs=> ?_,hk1.trans ((f2.trans r2).mono λ_ _ =>rfl),rfl⟩;rcases bZ.1 hxs with q|q;exact J x hx q;have hx1:x.1=e.1:=bR.1 q;have:x=e:=Dg hnd hx O hx1;rw[this];exact hh
  |true=>
   obtain⟨fr,H3,r1,r2⟩:=f4 hh;exact oY hm Z hF (m:=m) M.2.2.1 M.2.2.2 r1 r2
theorem TH(J:P.follows .mixedOrders=true)(B:rV P E.gl E.pe)(hF:sD P E.gl F.ee){w it dn kb lp i1 m N:Nat}{z:iE}{o:gF}{f:Oper}{p:hU}{d b:Code}{Q:gT}
  (u:tP o=true) (q:o.toList=f::p) (Y:f.op= .next (.tmp it) false/\f.dst=some dn/\f.guard=none)
  (I:codeOk d=true/\uZ d=true) (O:∀g,pQ E.gl (qD z w g) (.tmp it)=some (.ptr N 0))
  (R:∀g H v r,∃i,pU P E F o p ⟨pW (qD z w g) (some dn) (.fm (.bool v::r)),H,none⟩=some ⟨qD ((kb,.bool v)::z) w i,H,none⟩)
  (Z:∀g H,oW P E F m d (qD ((kb,.bool false)::z) w g) H=some (.exit lp,qD ((kb,.bool false)::z) w g,H))
  {g:iK} {H:Hp} (hI:H.any N=some (xK .cd)) (j:∀g,Q (.exit lp) (qD ((kb,.bool false)::z) w g) (H.drop N)):gj P E ro n (.loop (.seq (.region i1 o false) (.seq d b))) (qD z w g) H Q:=by
 refine SL (λk fr a=>∃g,fr=qD z w g/\a=H) ?_ 0 ⟨g,rfl,rfl⟩;rintro k fr a ⟨g,rfl,rfl⟩;obtain⟨M,W,L⟩:=Y;refine pB ?_;have s:OL a false (.ptr N 0)=some [(.fm [.bool false],a.drop N)]:=by
  unfold OL;simp only[hI,xK,bI,cN]
 refine wT (pre:=[]) B hF u (by rw[q];rfl) L (fr1:=qD z w g) (H1:=a) rfl (RP M (O g) s) λt H2 h=> ?_;rcases bR.1 h with e;cases e;rw[W];obtain⟨i,K⟩:=R g (a.drop N) false [];exact⟨_,_,K,pB (oY J B hF (m:=m) I.1 I.2 (Z i _) (j i))⟩
end
noncomputable section
def aVr(k:Nat)(s:iX)(H:Hp)(b:gC):Option (T×List Bool):=
 match qJ (pM k ⟨0,.nl⟩) b with
 |some a=>s a
 |none=>match qJ (pM k H) b with
  |some a=>match s a with
   |some (r,d)=>if Ai r then some (r,d)else none
   |none=>none
  |none=>none
def Iy(k:Nat)(f:gX)(s:iX)(p:iQ):Hp->FuncId->List T->Option (T×List Bool):=λH g a=>if g=f then aVr k s H a else p H g a
theorem Dq{P:gD}{gl:gG}{k:Nat}{f:gX}{s:iX}{w:iQ}(B:wO gl)(h:rV P gl (Ed.env ⟨gl,w⟩).pe)
  (z:∀b r d,s b=some (r,d)->oU d=true->fj P gl f b r):rV P gl (Ed.env ⟨gl,Iy k f s w⟩).pe:=by
 have p:iq P gl (λg b=>if g=f then(match s b with|some (r,d)=>if oU d then some r else none|none=>none)else none):=by
  intro g b r a;simp only at a;split at a;rename_i e;subst e;split at a;rename_i x d K;split at a;rename_i v;cases a;have j:=z b r d K v;exact⟨j.1,λg J I o=>j.2 g J I ⟨0,λl _ =>o l⟩⟩;cases a;cases a;cases a
 intro H g b r a;simp only[Ed.env,Iy]at a;by_cases e:g=f;subst e;simp only[cB]at a;refine CW (k:=k) B p H g b r ?_;unfold sR;unfold aVr at a;cases h0:qJ (pM k ⟨0,.nl⟩) b with
 |some i=>
  rw[h0]at a;simp only[cB]at a⊢;exact a
 |none=>
  rw[h0]at a;simp only at a⊢;cases h1:qJ (pM k H) b with
  |none=>rw[h1]at a;simp at a
  |some i=>
   rw[h1]at a;simp only[cB]at a⊢;cases h2:s i with
   |none=>rw[h2]at a;simp at a
   |some q=>
    obtain⟨x,d⟩:=q;rw[h2]at a;simp only at a⊢;by_cases u:Ai x=true;rw[aJ u]at a;simp only at a;split at a;rename_i v;cases a;rw[aJ v];simp only[u,cB];cases a;rw[aH u]at a;simp at a
 rw[aH e]at a;exact h H g b r a
def Oj(f:List T->Hp->List Bool->List Bool->RD (X×List T×Hp)):Nat->List T->Hp->List Bool->List Bool->RD (X×List T×Hp)
 |0,_,_,_,_ => .fail 50
 |k+1,fr,H,ds,d=>match f fr H ds d with
  | .ok (.normal,b,i) g a=>Oj f k b i g a|r=>r
def qH(P:gD)(E:Ed)(F:Fc)(n:Nat):Code->List T->Hp->List Bool->List Bool->RD (X×List T×Hp)
 | .seq a b,fr,H,ds,f=>match qH P E F n a fr H ds f with
  | .ok (.normal,j,p) h i=>qH P E F n b j p h i|r=>r
 | .cond c a b,fr,H,ds,f=>match pQ E.gl fr c with
  |some (.bool t)=>match ds with
   |[]=> .need t f|d::h=>if d then qH P E F n a fr H h (t::f)else qH P E F n b fr H h ((!t)::f)
  |_ => .fail 21
 | .block id c,fr,H,ds,f=>match qH P E F n c fr H ds f with
  | .ok (.exit o,j,p) h i=>if o=id then .ok (.normal,j,p) h i else .ok (.exit o,j,p) h i
  |r=>r
 | .scope c,fr,H,ds,f=>qH P E F n c fr H ds f| .loop c,fr,H,ds,f=>Oj (λfr H ds f=>qH P E F n c fr H ds f) n fr H ds f|c,fr,H,ds,f=>qQ P E F c fr H ds f
section
variable{P:gD}{D:Ed}{F:Fc}
theorem aJf{n:Nat}{c:Code}(v:∀{fr g:gC} {H o:Hp} {x:X} {ds f j d:gL},qH P D F n c fr H ds f= .ok (x,g,o) j d->oU d=true->oW P D.env F n c fr H=some (x,g,o)/\oU f=true):
  ∀(k:Nat) {fr g:gC} {H o:Hp} {x:X} {ds f j d:gL},Oj (λfr H ds f=>qH P D F n c fr H ds f) k fr H ds f= .ok (x,g,o) j d->oU d=true->
   oW.gx (λfr H=>oW P D.env F n c fr H) k fr H=some (x,g,o)/\oU f=true:=by
 intro k
 induction k with
 |zero=>intro fr g H o x ds f j d h;simp[Oj]at h
 |succ k p=>
  intro fr g H o x ds f j d h w;simp only[Oj]at h;simp only[oW.gx];split at h;rename_i f1 B z u s;obtain⟨a,b⟩:=p h w;obtain⟨q,b1⟩:=v s b;rw[q];exact⟨a,b1⟩;rename_i s;obtain⟨q,b1⟩:=v h w;rw[q];cases x with
  |normal=>exact absurd h (s _ _ _ _)|exit id=>exact⟨rfl,b1⟩|ret=>exact⟨rfl,b1⟩
theorem wR(n:Nat):∀{c:Code} {fr f:gC} {H p:Hp} {x:X} {ds log ds' log':gL},qH P D F n c fr H ds log= .ok (x,f,p) ds' log'->oU log'=true->oW P D.env F n c fr H=some (x,f,p)/\oU log=true:=by
 intro c
 induction c with
 |seq c1 c2 i u=>
  intro fr f H p x ds log ds' log' h g;simp only[qH]at h;simp only[oW];split at h;rename_i f1 L w v q;obtain⟨a,b⟩:=u h g;obtain⟨z,b1⟩:=i q b;rw[z];exact⟨a,b1⟩;rename_i q;obtain⟨z,b1⟩:=i h g;rw[z];cases x with
  |normal=>exact absurd h (q _ _ _ _)|exit id=>exact⟨rfl,b1⟩|ret=>exact⟨rfl,b1⟩
 |cond o c1 c2 i u=>
  intro fr f H p x ds log ds' log' h g;simp only[qH]at h;simp only[oW,Ed.env];split at h;rename_i t K;rw[K];simp only;split at h;cases h;rename_i d w;split at h;obtain⟨a,b⟩:=i h g;simp only[oU,aA]at b;rw[aJ b.1];exact⟨a,b.2⟩;obtain⟨a,b⟩:=u h g;simp only[oU,aA,bQ]at b;rw[aH (by simp[b.1])];exact⟨a,b.2⟩;cases h
 |block id c s=>
  intro fr f H p x ds log ds' log' h g;simp only[qH]at h;simp only[oW];split at h;rename_i B f1 L w v q;split at h;rename_i e;cases h;obtain⟨a,b⟩:=s q g;rw[a];simp only;rw[aJ e];exact⟨rfl,b⟩;rename_i e;cases h;obtain⟨a,b⟩:=s q g;rw[a];simp only;rw[aH e];exact⟨rfl,b⟩;rename_i q;obtain⟨a,b⟩:=s h g;rw[a];cases x with
  |normal=>exact⟨rfl,b⟩|exit B=>exact absurd h (q _ _ _ _ _)|ret=>exact⟨rfl,b⟩
 |scope c s=>
  intro fr f H p x ds log ds' log' h g;simp only[qH]at h;simp only[oW];exact s h g
 |loop c s=>
  intro fr f H p x ds log ds' log' h g;simp only[qH]at h;simp only[oW];exact aJf s n h g
 |_ =>intro fr f H p x ds log ds' log' h g;simp only[qH]at h;exact VX n h g
def aZu(P:gD)(b:Func):RD (X×List T×Hp)->Option (T×Hp×List Bool)
 | .ok (.normal,fr,H) _ a=>(BM P b fr H).map λr=>(r,H,a)| .ok (.ret,fr,H) _ a=>(BM P b fr H).map λr=>(r,H,a)|_ =>none
theorem bEe(x:Cx P D F){f:gX}{i:Func}{c:Code}(O:uQ P f=true)(N:aYh P f=true)(u:P.funcs[f]? =some i)(K:i.body=some c){j:gC}{L:Nat}(M:i.ntmps-j.length=L){n:Nat}{H o:Hp}{ds d:gL}{r:T}
  (h:aZu P i (qH P D F n c (j++List.replicate L oS) H ds [])=some (r,o,d)) (z:oU d=true):Rq P D.gl f j H r o:=by
 subst M;have B:Gw P D.env F n f j H=some (r,o):=by
  unfold Gw;rw[u];simp only;rw[K];simp only;unfold aZu at h;split at h;rename_i fr1 H1 s a p;simp only[aG]at h;obtain⟨q,b,e⟩:=h;cases e;rw[(wR n p z).1];simp only;unfold BM at b;split at b<;>simp_all;rename_i fr1 H1 s a p;simp only[aG]at h;obtain⟨q,b,e⟩:=h;cases e;rw[(wR n p z).1];simp only;unfold BM at b;split at b<;>simp_all;cases h
 exact⟨O,λg W R J v I=>bEn x.hm x.hE x.hF N B g W R J v I⟩
def aGx(f:gX)(s:List T->Hp->Option (T×Hp×List Bool))(b:FuncId->List T->Hp->Option (T×Hp×List Bool)):FuncId->List T->Hp->Option (T×Hp×List Bool):=λg a H=>if g=f then s a H else b g a H
theorem aGy{gl:gG}{own:hJ}{f:gX}{s:List T->Hp->Option (T×Hp×List Bool)}{j:FuncId->List T->Hp->Option (T×Hp×List Bool)}(h:sD P gl (Fc.ee ⟨own,j⟩))
  (q:∀d H r b i,s d H=some (r,b,i)->oU i=true->Rq P gl f d H r b) (o:hJ):sD P gl (Fc.ee ⟨o,aGx f s j⟩):=by
 intro g d H r b a;unfold Fc.ee aGx at a;simp only at a;by_cases e:g=f;subst e;simp only[cB]at a;split at a;rename_i v H1 i p;split at a;rename_i u;cases a;exact q d H r b i p u;cases a;cases a;rw[aH e]at a;exact h g d H r b a
end
end
variable[Inhabited gy]
section
variable{P:gD}{gl:gG}
structure iu(P:gD)(gl:gG)(k:Nat)(ga:Nat->Option A)(pa:FuncId->List A->Nat->List pR->Option AV)(pe:gI)(dom:hC):Prop where
 gA:lZ gl ga
 pA:mU (sR k pe) pa
 pc:iq P gl pe
 dm:∀f ts,dom f=false->pe f ts=none
 hx:sD P gl MR
variable{k:Nat}{ga:Nat->Option A}{pa:FuncId->List A->Nat->List pR->Option AV}{pe:gI}{dom:hC}
theorem IQ{p:hC}:∀{l:gU},l.all p=true->∀f,sA f l=true->p f=true
 |x::a,h,f,hf=>by
  simp only[List.all_cons,aA]at h;simp only[sA,bO]at hf;rcases hf with hf|hf
  rw[<-oT hf];exact h.1;exact IQ h.2 f hf
theorem Yy{f g:jQ}(h:∀t r,f t=some r->g t=some r):∀{a d:gC},qJ f a=some d->qJ g a=some d
 |[],_,e=>e
 |t::a,d,e=>by
  simp only[qJ]at e⊢;split at e;rename_i u i;split at e;rename_i j b;rw[h _ _ i];simp only[Yy h b];exact e;cases e;cases e
theorem aRj{k:Nat}{p:gI}{H:Hp}{g:gX}{i b:gC}{r:T}(f:qJ (pM k H) i=some b)(j:qJ (pM k ⟨0,.nl⟩) b=some b)(a:sR k p H g b=some r)(o:Ai r=true):sR k p H g i=some r:=by
 unfold sR at a⊢;rw[j]at a;simp only at a;split;rename_i u d;have:=Yy (λt r h=>HT k 0 H t r h) d;rw[f]at this;cases this;exact a;simp only[f,a,o,cB]
theorem iu.cn(h:iu P gl k ga pa pe dom){X:AX}(p:X.gl=ga)(j:X.pe=pa){l:gU}(i:X.inl=λf=>sA f l)(s:l.all (λf=> !dom f)=true)(x:qZ<=k:=by first|assumption|decide):Cn X gl (sR k pe):=by
 refine⟨by rw[p];exact h.gA,by rw[j];exact h.pA,λg H a b=> ?_,k,x,λH g a z r w v u q=>aRj w v u q⟩;rw[i]at b;have o:=IQ s g b;have d:∀a,pe g a=none:=λa=>h.dm g a (by simpa using o);unfold sR;split;exact d _;split;simp only[d];rfl
theorem bIz{l:gU}(h:l.all (λf=>uQ P f&&zN P f)=true):∀f,sA f l=true->uQ P f=true/\zN P f=true:=λf a=>by
 have:=IQ h f a;simpa using this
theorem iu.pure(h:iu P gl k ga pa pe dom)(i:wO gl){f:gX}{a:gC}{r:T}(j:pe f a=some r)(d:qJ (pM k ⟨0,.nl⟩) a=some a):fj P gl f a r:=by
 have s:=CW (k:=k) i h.pc ⟨0,.nl⟩ f a r (by unfold sR;rw[d];exact j);refine⟨s.1,λg v q ⟨N,o⟩ b u=> ?_⟩;obtain⟨w,p⟩:=CW (k:=k) i h.pc ⟨N,.nl⟩ f a r (by unfold sR;rw[d];exact j);exact p g v q (St.nl _ _ (o)) b u
end
end Go.Ps
namespace Go.Ps
section
variable{P:gD}{E:uW}{F:Fc}{ro:gW}{n:Nat}{fr:gC}{H:Hp}{Q:gT}
theorem LT{o:jH}{d f:Code}{t:Bool}(u:pQ E.gl fr o=some (.bool t))(s:t=true->gj P E ro n d fr H Q)(q:t=false->gj P E ro n f fr H Q):gj P E ro n (.cond o d f) fr H Q:=by
 intro j g p a ds b R h i;have v:=(EX.of b.fr none).eval b.gl (λ_ _ =>by simp) u;refine wpIn_cond v.a8 ?_;cases t with
 |true=>exact s rfl j g p a ds b R h i|false=>exact q rfl j g p a ds b R h i
theorem LU(L:wO E.gl){f:gX}{i:Func}{c:Code}(w:uQ P f=true)(s:P.funcs[f]? =some i)(N:i.body=some c){k:Nat}{b:gC}(j:qJ (pM k ⟨0,.nl⟩) b=some b){r:T}
  (h:gj P E none 0 c (b++List.replicate (i.ntmps-b.length) oS) ⟨0,.nl⟩ (KR P i k r)):fj P E.gl f b r:=
 Dx L w s N j λJ g a p R q I _ =>h J g ⟨0,.nl⟩ a [] p R q λx o B v K z u=>I x o B v K [] z u ⟨λd M=>by simp at M,List.nodup_nil⟩
theorem SM(L:wO E.gl){f:gX}{i:Func}{c:Code}(w:uQ P f=true)(s:P.funcs[f]? =some i)(N:i.body=some c){k:Nat}{b:gC}(j:qJ (pM k ⟨0,.nl⟩) b=some b){r:T}
  (h:gj P E none 0 c (b++List.replicate (i.ntmps-b.length) oS) ⟨0,.nl⟩ (aAt P i k r)):fj P E.gl f b r:=
 YQ L w s N j λJ g a p R q I _ =>h J g ⟨0,.nl⟩ a [] p R q λx o B v K z u=>I x o B v K [] z u ⟨λd M=>by simp at M,List.nodup_nil⟩
end
def IZ:Code->Nat->Option (Array Oper)
 | .region i o _,k=>if i=k then some o else none
 | .seq a b,k=>(IZ a k).orElse λ_ =>IZ b k| .cond _ a b,k=>(IZ a k).orElse λ_ =>IZ b k| .loop a,k=>IZ a k| .block _ a,k=>IZ a k| .scope a,k=>IZ a k|_,_ =>none
def BN(f:Func)(k:Nat):Array Oper:=(IZ (pO f) k).getD #[]
def GZ(f:Func)(k i:Nat):Oper:=(BN f k).toList.getD i ⟨none,.move (.tmp 0),0, "", #[],none⟩
def rg(f:Func)(k:Nat):Code:= .region k (BN f k) false
end Go.Ps
namespace Go.Proofs.Tryz
open Go.Ps
noncomputable section
section
variable(m:Int)(C:gB)
def EM(p:gM):uW:=⟨fo m C,p⟩
def r8:FuncId->List T->Hp->Option (T×Hp):=(qW prog (EM m C λ_ _ _ =>none) (λ_ _ =>true) (λf=>sA f [180,122]) 50 3).ee
theorem xx:∀f,sA f [180,122]=true->uQ prog f=true/\zN prog f=true:=λf a=>by
 have h:f=180\/f=122:=by simp[sA]at a;omega
 rcases h with rfl|rfl<;>exact⟨by kernel_rfl,by kernel_rfl⟩
theorem aXv:sD prog (fo m C) (r8 m C):=
 (OX (E:=EM m C λ_ _ _ =>none) follows (λH f a r h=>by cases h) (RU _) xx 3).1
def FM:Fc:=LO (λ_ =>false) (r8 m C)
def j6:List (Nat×T×T):=[(0,.str [111,114],.int .i64 5)]
def kx:List (Nat×T×T):=[(0,.str [97,110,100],.int .i64 4)]
def Rn:List (Nat×T×T):=[(0,.str [61],.int .i64 6),(1,.str [33,61],.int .i64 7),(2,.str [60],.int .i64 8),(3,.str [60,61],.int .i64 9),(4,.str [62],.int .i64 10),(5,.str [62,61],.int .i64 11)]
def kE:List (Nat×T×T):=[(0,.str [101,108,115,101],.int .i64 23)]
def jz:List (Nat×T×T):=[(0,.str [43],.int .i64 12),(1,.str [45],.int .i64 13),(2,.str [38],.int .i64 17)]
def kF:List (Nat×T×T):=[(0,.str [42],.int .i64 14)]
def mq:T:= .agg [.fw,.mp 1,.mp 2,.fw,.mp 3,.mp 4,.mp 5,.mp 6,.fw,.fw]
def mr(c:Nat)(a:gS):Option Ob:=some {elem:=247,sz:=0,cells:=[],me:=some (.map c a)}
def H7:Hp:=⟨7,.nd (some {elem:=248,sz:=0,cells:=[.fw,.mp 1,.mp 2,.fw,.mp 3,.mp 4,.mp 5,.mp 6,.fw,.fw]})
 (.nd (mr 1 j6) (.nd (mr 6 Rn) .nl .nl) (.nd (mr 3 jz) .nl .nl)) (.nd (mr 1 kx) (.nd (mr 1 kE) .nl .nl) (.nd (mr 1 kF) .nl .nl))⟩
end
def OB(o:Int)(e:jN):Bool:=match e.2.2 with
 | .int _ c=>decide (c=o)|_ =>false
section
variable{m:Int}{C:gB}
theorem aBe:pO f120= .seq (rg f120 0) (.seq (.seq (rg f120 1) (.block 0 (.loop (.seq (.region 2 (BN f120 2) false) (.seq (.cond (.tmp 12) .skip (.exit 0)) (.block 1 (.seq (.region 3 (BN f120 3) false) (.seq (rg f120 4) (.cond (.tmp 18) (.seq (rg f120 5) .ret) .skip))))))))) (.seq (rg f120 6) .ret)):=by kernel_rfl
abbrev EZ(m:Int)(C:gB):uW:=EM m C λ_ _ _ =>none
theorem qX:rV prog (EZ m C).gl (EZ m C).pe:=λH f a r h=>by cases h
theorem qV:sD prog (EZ m C).gl (FM m C).ee:=by unfold FM;rw[FH];exact aXv m C
def bBp(o:Int):List (Nat×T):=[(0,.int .i64 o),(10,.ptr 7 0)]
def aVb(o j:Int)(a:Nat):List T:=[.int .i64 o,.int .i64 j,oS,oS,.str [],oS,oS,mq,.int .i64 j,.mp a]++List.replicate 10 oS
theorem Cb(a j:Int)(b c:Nat)(p:gS)(d:gH)
  (h0:pU prog (EZ m C) (FM m C) (BN f120 1) ((BN f120 1).toList.take 3) ⟨[.int .i64 a,.int .i64 j,oS,oS,.str []]++List.replicate 15 oS,⟨0,.nl⟩,none⟩=some ⟨aVb a j b,H7,none⟩)
  (B:∃o,H7.any b=some o/\o.me=some (.map c p)) (hlt:b<7) (hev:(p.all λe=>Nat.ble (Nat.succ e.1) c)=true) (hnd:(p.map (·.1)).Nodup)
  (K:∀e∈p,∃i s k,e=(i,T.str s,T.int .i64 k)/\(k=a->d=s)) (W:(∀e∈p,OB a e=false)->d=[]):fj prog (fo m C) 120 [.int .i64 a,.int .i64 j] (.str d):=by
 have L:=follows;refine LU (E:=EZ m C) (qN m C) (f:=120) (by kernel_rfl) func120 (c:=pO f120) (by kernel_rfl) (k:=40) (by kernel_rfl) ?_;rw[aBe];refine pB (oY L qX qV (m:=1) (by kernel_rfl) (by kernel_rfl) (x:= .normal) (fr':=[.int .i64 a,.int .i64 j,oS,oS,.str []]++List.replicate 15 oS) (H':=⟨0,.nl⟩) (by kernel_rfl) ?_);refine pB (pB ?_);have hrg:CI prog H7 247 (.mp b)=some (.ptr 7 0,H7.new (xK (.aT b c [] c))):=by
  obtain⟨o,Z,h2⟩:=B;unfold CI;simp only[underlying247,Z,h2];rfl
 have hO:∃o:Oper,(BN f120 1).toList=(BN f120 1).toList.take 3++o::[]/\o.op= .range 247 (.tmp 9)/\o.dst=some 10/\o.guard=none:=⟨GZ f120 1 3,by kernel_rfl,by kernel_rfl,by kernel_rfl,by kernel_rfl⟩;obtain⟨o,ho1,R,O,ho4⟩:=hO;refine wT qX qV (by kernel_rfl) ho1 ho4 h0 (CJ R (v:= .mp b) (by kernel_rfl) hrg) λt H2 hm=> ?_;obtain⟨rfl,rfl⟩:t= .ptr 7 0/\H2=H7.new (xK (.aT b c [] c)):=by simpa using hm
 refine⟨qD (bBp a) 20 λs=>(pW (aVb a j b) (some 10) (.ptr 7 0)).getD s oS,H7.new (xK (.aT b c [] c)),by rw[O];kernel_rfl,?_⟩;have hN:∃o:Oper,(BN f120 2).toList=o::(BN f120 2).toList.tail/\(o.op= .next (.tmp 10) false/\o.dst=some 11/\o.guard=none):=⟨GZ f120 2 0,by kernel_rfl,by kernel_rfl,by kernel_rfl,by kernel_rfl⟩;have hE:∃o:Oper,(BN f120 3).toList=o::(BN f120 3).toList.tail/\(o.op= .entry (.tmp 10)/\o.dst=some 13/\o.guard=none):=⟨GZ f120 3 0,by kernel_rfl,by kernel_rfl,by kernel_rfl,by kernel_rfl⟩;obtain⟨oN,hN1,I⟩:=hN;obtain⟨oE,hE1,hE2⟩:=hE
 refine sP (FQ L qX qV (w:=20) (it:=10) (dn:=11) (de:=13) (kb:=12) (lp:=0) (m:=3) (N:=7) (seen:=[]) (z:=bBp a) (es:=p) (ml:=b) (c:=c) (ze:=λe=>[(12,.bool true),(0,.int .i64 a),(10,.ptr 7 0),(5,e.2.1),(6,e.2.2)]) (hit:=OB a) (H0:=H7.new (xK (.aT b c [] c)))
  (by kernel_rfl) hN1 I (by kernel_rfl) hE1 hE2 ⟨by kernel_rfl,by kernel_rfl,by kernel_rfl,by kernel_rfl⟩ (λg=>⟨rfl,rfl⟩) (λg H v r=> ?_) (λg H=>⟨by kernel_rfl,by kernel_rfl⟩) (λe he g H=> ?_) hev hnd (by decide) (λg H hn u=> ?_) ?_ (Kp.refl _ _))
 exact⟨λs=>([T.int .i64 a,g 1,g 2,g 3,g 4,g 5,g 6,g 7,g 8,g 9,.ptr 7 0,.fm (.bool v::r),.bool v,g 13,g 14,g 15,g 16,g 17,g 18,g 19]).getD s oS,by kernel_rfl⟩;obtain⟨i,s,k,rfl,M⟩:=K e he;refine⟨λq=>([T.int .i64 a,g 1,g 2,g 3,g 4,.str s,.int .i64 k,g 7,g 8,g 9,.ptr 7 0,g 11,.bool true,.fm [.str s,.int .i64 k],.str s,.int .i64 k,g 16,g 17,g 18,g 19]).getD q oS,H,by kernel_rfl,Kp.refl _ _,λY=> ?_,λY=> ?_⟩;have u:decide (k=a)=false:=Y;refine⟨λq=>([T.int .i64 a,g 1,g 2,g 3,g 4,.str s,.int .i64 k,g 7,g 8,g 9,.ptr 7 0,g 11,.bool true,.fm [.str s,.int .i64 k],.str s,.int .i64 k,.int .i64 k,.int .i64 a,.bool false,g 19]).getD q oS,H,?_,Kp.refl _ _⟩;rw[<-u];exact(wR 3 (D:=⟨fo m C,λ_ _ _ =>none⟩) (ds:=[false]) (log:=[]) (ds':=[]) (log':=[!decide (k=a)]) (by kernel_rfl) (by rw[u];rfl)).1;have u:decide (k=a)=true:=Y;have M:=M (cH u);subst M;refine⟨[T.int .i64 a,g 1,g 2,g 3,.str d,.str d,.int .i64 k,g 7,g 8,g 9,.ptr 7 0,g 11,.bool true,.fm [.str d,.int .i64 k],.str d,.int .i64 k,.int .i64 k,.int .i64 a,.bool (decide (k=a)),.str d],H,?_,?_⟩;exact(wR 3 (D:=⟨fo m C,λ_ _ _ =>none⟩) (ds:=[true]) (log:=[]) (ds':=[]) (log':=[decide (k=a)]) (by kernel_rfl) (by rw[u];rfl)).1;exact⟨.inr rfl,.str d,.str d,by kernel_rfl,rfl,λg v h=>h⟩;have J:=W hn;subst J;refine oY L qX qV (m:=1) (by kernel_rfl) (by kernel_rfl) (x:= .ret) (fr':=pW (qD ((12,.bool false)::bBp a) 20 g) (some 4) (.str [])) (H':=H) (by kernel_rfl) ?_;exact⟨.inr rfl,.str [],.str [],by kernel_rfl,rfl,λg v h=>h⟩;obtain⟨o,Z,h2⟩:=B;refine⟨⟨o,by rw[rN,aH (by show¬(7=b);omega)];exact Z,h2⟩,by rw[rN,aJ (show H7.next=7 from rfl)],by omega,by show b<7+1;omega,by show 7<7+1;omega⟩
def Ap(a:gS)(o:Int):List UInt8:=match a.find? (OB o)with
 |some (_,.str s,_)=>s|_ =>[]
theorem KH{a:gS}{o:Int}(h:∀e∈a,OB o e=false):Ap a o=[]:=by
 unfold Ap;rw[List.find?_eq_none.2 (λe b=>by rw[h e b];decide)]
def r9(e:jN):Bool:=match e with
 |(_,.str s,_)=>Nat.ble s.length 4|_ =>false
theorem ES{a:gS}(o:Int)(h:a.all r9=true):(Ap a o).length<=4:=by
 unfold Ap;cases hf:a.find? (OB o)with
 |none=>decide
 |some e=>
  have:=aP.1 h e (eO hf);unfold r9 at this;split at this;exact dX this;cases this
theorem aUu(o j:Int)(b:j=1\/j=2\/j=4\/j=5\/j=6\/j=7):∃s:List UInt8,s.length<=4/\fj prog (fo m C) 120 [.int .i64 o,.int .i64 j] (.str s):=by
 rcases b with rfl|rfl|rfl|rfl|rfl|rfl;exact⟨Ap j6 o,ES o rfl,Cb o 1 1 1 j6 _ (by kernel_rfl) ⟨_,rfl,rfl⟩ (by decide) (by kernel_rfl) (by decide) (by intro e a;simp[j6]at a;subst a;exact⟨_,_,_,rfl,λh=>by subst h;rfl⟩) KH⟩;exact⟨Ap kx o,ES o rfl,Cb o 2 2 1 kx _ (by kernel_rfl) ⟨_,rfl,rfl⟩ (by decide) (by kernel_rfl) (by decide) (by intro e a;simp[kx]at a;subst a;exact⟨_,_,_,rfl,λh=>by subst h;rfl⟩) KH⟩;exact⟨Ap Rn o,ES o rfl,Cb o 4 3 6 Rn _ (by kernel_rfl) ⟨_,rfl,rfl⟩ (by decide) (by kernel_rfl) (by decide) (by intro e a;simp[Rn]at a;rcases a with rfl|rfl|rfl|rfl|rfl|rfl<;>exact⟨_,_,_,rfl,λh=>by subst h;rfl⟩) KH⟩;exact⟨Ap kE o,ES o rfl,Cb o 5 4 1 kE _ (by kernel_rfl) ⟨_,rfl,rfl⟩ (by decide) (by kernel_rfl) (by decide) (by intro e a;simp[kE]at a;subst a;exact⟨_,_,_,rfl,λh=>by subst h;rfl⟩) KH⟩;exact⟨Ap jz o,ES o rfl,Cb o 6 5 3 jz _ (by kernel_rfl) ⟨_,rfl,rfl⟩ (by decide) (by kernel_rfl) (by decide) (by intro e a;simp[jz]at a;rcases a with rfl|rfl|rfl<;>exact⟨_,_,_,rfl,λh=>by subst h;rfl⟩) KH⟩;exact⟨Ap kF o,ES o rfl,Cb o 7 6 1 kF _ (by kernel_rfl) ⟨_,rfl,rfl⟩ (by decide) (by kernel_rfl) (by decide) (by intro e a;simp[kF]at a;subst a;exact⟨_,_,_,rfl,λh=>by subst h;rfl⟩) KH⟩
end
end
end Go.Proofs.Tryz
