/- Lemmas for the card; no conditions. -/
import Derived.ChangeArms
import Derived.Carry
import Derived.Test.YthfdachbgpjafaaGreatDoorXd6
import Derived.Lib.AtoiAllCases
set_option linter.all false
set_option maxRecDepth 100000
namespace Go.Ps
def xG(g:G)(d:gV)(b:gC):Prop:=d.length=b.length/\∀(j:Nat) (v:gZ) (c:T),d[j]? =some v->b[j]? =some c->DJ g v c
section
variable{g:G}
theorem xG.nil:xG g [] []:=⟨rfl,λj v c h=>by simp at h⟩
theorem xG.one{v:gZ}{t:T}(h:DJ g v t):xG g [v] [t]:=by
 refine⟨rfl,λj u c b d=> ?_⟩;cases j with
 |zero=>simp at b d;subst b;subst d;exact h|succ j=>simp at b
theorem xG.append{v f:gV}{o i:gC}(h:xG g v o)(k:xG g f i):xG g (v++f) (o++i):=by
 refine⟨by simp[h.1,k.1],λj u c b d=> ?_⟩;rw[dP]at b d;by_cases e:j<v.length;rw[aJ e]at b;rw[aJ (h.1▸e)]at d;exact h.2 j u c b d;rw[aH e]at b;rw[aH (h.1▸e),<-h.1]at d;exact k.2 _ u c b d
end
def fieldAt(P:gD)(t:gB)(i:Nat):Option (TypeId×Nat×Nat):=
 match P.underlying t with
 |some (.struct b)=>(b[i]?).map λf=>(f.type,f.offset,P.cellsOf f.type)|_ =>none
section
variable{H:Type}(enc:TypeId×Value->H)(P:gD)(W:iG)
def tL(t:gB){A:Type}(mk:A->List T)(ok:A->Prop):Prop:=
 ∀(n:Nat) (b:gV) (y:DataW H×List MemPlace),DataW.trod enc P W 0 (λ_ =>true) true n t b=some y->∃a:A,xG (G.start W) b (mk a)/\ok a
variable{enc P W}
theorem tL.int{t:gB}{k:iC}(d:P.underlying t=some (.int k)):tL enc P W t (λn:Int=>[.int k n]) (λn=>k.has n):=by
 intro n e y h;obtain⟨m,rfl,_,b⟩:=DataW.trod_int d h;refine⟨m,xG.one (.int k m),?_⟩;simp[Lit.wf]at b;exact b
theorem tL.bool{t:gB}(d:P.underlying t=some .bool):tL enc P W t (λb:Bool=>[.bool b]) (λ_ =>True):=by
 intro n e y h;obtain⟨b,rfl,_⟩:=DataW.trod_bool d h;exact⟨b,xG.one (.bool b),trivial⟩
theorem tL.str{t:gB}(b:P.underlying t=some .string):tL enc P W t (λs:List UInt8=>[.str s]) (λs=>s.length<=maxLen):=by
 intro n e y h;obtain⟨s,rfl,_,d⟩:=DataW.trod_string b h;exact⟨s.data.toList,xG.one (.str s),by simpa using d⟩
theorem zP{w:iG}{a:Addr}{n:Nat}{b:gV}(h:w.cells? 0 a n=some b):b.length=n/\∀(j:Nat) (v:gZ),b[j]? =some v->w.cell? (a.add j)=some v:=by
 obtain⟨_,d,i⟩:=World.cells?_some h;refine⟨d,λj v e=> ?_⟩;have f:j<n:=by rw[<-d];exact(aQ.1 e).1
 rw[i j f];exact e
theorem PF{w:iG}{a:Addr}{v:gZ}(h:w.cell? a=some v):a.spot=none:=by
 unfold World.cell? at h;split at h;split at h;cases h;rename_i b;simpa using b;cases h
theorem tL.bv{N:Nat}{t e:gB}{d:Nat}{A:Type}[Inhabited A]{mk:A->List T}{ok:A->Prop}(R:A->T)(ht:P.underlying t=some (.slice e))(hsz:P.cellsOf e=d)(J:0<d)(hmk:∀a,(mk a).length=d)
  (I:∀a,(R a).cells=mk a) (he:∀(n:Nat),n<N->∀(cs:gV) (y:DataW H×List MemPlace),DataW.trod enc P W 0 (λ_ =>true) true n e cs=some y->∃a:A,xG (G.start W) cs (mk a)/\ok a)
  (n:Nat) (hn:n<=N) (cs:gV) (y:DataW H×List MemPlace) (h:DataW.trod enc P W 0 (λ_ =>true) true n t cs=some y):
  ∃x:Nat×(Nat->A),xG (G.start W) cs [.ac false x.1 (λi=>R (x.2 i))]/\x.1<=maxLen/\∀i,i<x.1->ok (x.2 i):=by
 rcases DataW.trod_slice ht h with⟨rfl,_⟩|⟨a,len,Y,B,K,n',hfu,rfl,_,_,hl,hm,hlen,hel,hsp,_⟩
 exact⟨(0,default),xG.one (.ai false _ none),by simp,λi p=>by simp at p⟩;rw[hsz]at hel hsp;have one:∀i,i<len->∃c x,W.cells? 0 (a.add (i*d)) d=some c/\xG (G.start W) c (mk x)/\ok x:=by
  intro i p;have E:=hel i p;have h2:B[i]? =some (B[i]'(by omega)):=aB (by omega);rw[h2,Option.bind_eq_some_iff]at E;obtain⟨c,S,hy⟩:=E;obtain⟨x,hx,hk⟩:=he _ (by omega) _ _ hy;exact⟨c,x,S,hx,hk⟩
 have O:0<Y->a.spot=none:=by
  intro S;by_cases hl0:0<len;obtain⟨c,x,E,_,_⟩:=one 0 hl0;obtain⟨h2,h3⟩:=zP E;have h4:c[0]? =some (c[0]'(by omega)):=aB (by omega);have:=PF (h3 0 _ h4);simpa [Addr.add]using this;obtain⟨E,h2⟩:=hsp rfl;have h3:=h2 0 (by omega);have h4:K[0]? =some (K[0]'(by omega)):=aB (by omega);rw[h4,Option.bind_eq_some_iff]at h3;obtain⟨c,S,_⟩:=h3;have l0:len=0:=by omega
  subst l0;obtain⟨h5,h6⟩:=zP S;have h7:c[0]? =some (c[0]'(by omega)):=aB (by omega);have:=PF (h6 0 _ h7);simpa [Addr.add]using this
 classical
 let f:Nat->List Value:=λi=>if p:i<len then Classical.choose (one i p)else []
 let xs:Nat->A:=λi=>if p:i<len then Classical.choose (cO (one i p))else default
 have z:∀i,i<len->W.cells? 0 (a.add (i*d)) d=some (f i)/\xG (G.start W) (f i) (mk (xs i))/\ok (xs i):=by
  intro i p;simp only[f,xs,dif_pos p];exact cO (cO (one i p))
 refine⟨(len,xs),xG.one ?_,by show len<=maxLen;omega,λi p=>(z i p).2.2⟩;by_cases hcap:Y=0;have l0:len=0:=by omega
 subst l0;subst hcap;exact .ai false _ (some a);obtain⟨b,o,sp⟩:=a;have hs:=O (by omega);simp only at hs;subst hs;have hlenAll:∀x∈(List.range len).map f,x.length=d:=λx hx=>by
  obtain⟨i,p,rfl⟩:=bS.1 hx;exact(zP (z i (by simpa using p)).1).1
 have u:∀(m:Nat),m<=len->(((List.range m).map f).flatten).length=m*d:=by
  intro m
  induction m with
  |zero=>intro _;simp
  |succ m ih=>
   intro hm;rw[fU,eX,List.flatten_append,aU,ih (by omega),dA];simp[(zP (z m (by omega)).1).1]
 have hat:∀(m:Nat),m<=len->∀i j,i<m->j<d->(((List.range m).map f).flatten)[i*d+j]? =(f i)[j]? :=by
  intro m
  induction m with
  |zero=>intro _ i j p;omega
  |succ m ih=>
   intro hm i j p hj;rw[fU,eX,List.flatten_append,dP,u m (by omega)];by_cases him:i<m;have:i*d+j<m*d:=by
    have:(i+1)*d<=m*d:=cZ _ him;rw[dA]at this;omega
   rw[aJ this];exact ih (by omega) i j him hj;have:i=m:=by omega
   subst this;rw[aH (by omega)];simp
 refine .ac false len (λi=>R (xs i)) d b o Y (((List.range len).map f).flatten) (λhn=> ?_) (λi p=>by rw[I,hmk]) hl hm (λq=>by cases q) (u len (bB _)) (λj v Z=> ?_) (λi j v c p hj Z S=> ?_);obtain⟨E,_,_⟩:=z 0 (by omega);obtain⟨h2,h3⟩:=zP E;have h4:(f 0)[0]? =some ((f 0)[0]'(by omega)):=aB (by omega);have:=FX (h3 0 _ h4);show b<W.heap.size;simpa [Addr.add]using this;have hj:j<len*d:=by
  rw[<-u len (bB _)];exact(aQ.1 Z).1
 have hd:j=j/d*d+j%d:=by rw[Nat.mul_comm];exact(Nat.div_add_mod j d).symm
 have hq:j/d<len:=by rw[Nat.div_lt_iff_lt_mul J];exact hj
 have hr:j%d<d:=Nat.mod_lt _ J;rw[hd,hat len (bB _) _ _ hq hr]at Z;have E:=(zP (z _ hq).1).2 _ v Z;show W.cell? ⟨b,o+j,none⟩=some v;have e:(Addr.add (Addr.add ⟨b,o,none⟩ (j/d*d)) (j%d))=⟨b,o+j,none⟩:=by
  rw[Addr.add_lit,Addr.add_lit];congr 1;omega
 rw[<-e];exact E;rw[hat len (bB _) i j p hj]at Z;rw[I]at S;exact(z i p).2.1.2 j v c Z S
theorem tL.slice{t e:gB}{sz:Nat}{A:Type}[Inhabited A]{mk:A->List T}{ok:A->Prop}(b:A->T)(u:P.underlying t=some (.slice e))(j:P.cellsOf e=sz)(f:0<sz)(o:∀a,(mk a).length=sz)
  (d:∀a,(b a).cells=mk a) (v:tL enc P W e mk ok):tL enc P W t (λx:Nat×(Nat->A)=>[.ac false x.1 (λi=>b (x.2 i))]) (λx=>x.1<=maxLen/\∀i,i<x.1->ok (x.2 i)):=
 λn q y h=>tL.bv b u j f o d (λp _ =>v p) n (bB n) q y h
theorem Qj{t:gB}{d:Nat}{j:gV}{x:DataW H×List MemPlace}(h:DataW.trod enc P W 0 (λ_ =>true) true d t j=some x){i:Nat}{u:gB}{o s:Nat}(b:fieldAt P t i=some (u,o,s)):
  j.length=P.cellsOf t/\∃n y,DataW.trod enc P W 0 (λ_ =>true) true n u ((j.drop o).take s)=some y:=by
 unfold fieldAt at b;split at b;rename_i I q;simp only[aG]at b;obtain⟨f,b,v⟩:=b;cases v;obtain⟨p,n,_,_,B,e,z⟩:=DataW.trod_struct q h;refine⟨B,n,?_⟩;have E:i<p.length:=by rw[e];exact(aX.1 b).1
 exact⟨p[i],by rw[z i f b,aB E]⟩;cases b
theorem ER{t:gB}{d:Nat}{j:gV}{x:DataW H×List MemPlace}(h:DataW.trod enc P W 0 (λ_ =>true) true d t j=some x){i:Nat}{u:gB}{o s:Nat}(b:fieldAt P t i=some (u,o,s)):
  j.length=P.cellsOf t/\∃n y,n<d/\DataW.trod enc P W 0 (λ_ =>true) true n u ((j.drop o).take s)=some y:=by
 unfold fieldAt at b;split at b;rename_i I q;simp only[aG]at b;obtain⟨f,b,v⟩:=b;cases v;obtain⟨p,n,J,_,B,e,z⟩:=DataW.trod_struct q h;have E:i<p.length:=by rw[e];exact(aX.1 b).1
 exact⟨B,n,p[i],by omega,by rw[z i f b,aB E]⟩;cases b
theorem tL.field{t u:gB}{A:Type}{mk:A->List T}{ok:A->Prop}(j:tL enc P W u mk ok){f:Nat}{b:gV}{x:DataW H×List MemPlace}(h:DataW.trod enc P W 0 (λ_ =>true) true f t b=some x){i o s:Nat}(d:fieldAt P t i=some (u,o,s)):
  ∃a:A,xG (G.start W) ((b.drop o).take s) (mk a)/\ok a:=by
 obtain⟨_,n,y,e⟩:=Qj h d;exact j _ _ _ e
theorem xG.cut{g:G}{b:gV}{o s:Nat}{d u:gC}(h:xG g ((b.drop o).take s) d)(k:xG g (b.drop (o+s)) u):xG g (b.drop o) (d++u):=by
 have:=h.append k
 rwa [<-List.drop_drop,fH]at this
theorem xG.end_ {g:G}{b:gV}{o:Nat}(h:b.length=o):xG g (b.drop o) []:=by
 rw[List.drop_eq_nil_of_le (by omega)];exact xG.nil
theorem aCv{t:gB}{v:gZ}{r:Reach}{b:Nat}{f:Array Field}(e:P.underlying t=some (.struct f))(h:Value.okWide P W r b t v):∃d:Array Value,v= .agg d/\v.cells.toList=d.toList:=by
 unfold Value.okWide at h;rw[e]at h;obtain⟨d,rfl,_⟩:=h;exact⟨d,rfl,rfl⟩
theorem bAc{g:G}{d:hP}{b:gC}(h:xG g d.toList b):Rd g (.agg d) (.agg b):=by
 have:=(DJ.agg (g:=g) b d.toList h.1 h.2).rd;simpa using this
end
variable[Inhabited gy]
def CC(x y:T):Prop:=x.cells.length=y.cells.length/\∀(g:G) (j:Nat) (a:gZ) (d b:T),x.cells[j]? =some d->y.cells[j]? =some b->Rd g a d->DJ g a b
omit [Inhabited gy]in
theorem Jw{Y:Type}[Inhabited Y](mk:Y->T)(R:T->Y->Prop){xs:gC}{c:T}(h1:wP c xs)(conv:∀x∈xs,∃a,R x a/\CC x (mk a)):
  ∃u:Nat->Y,(∀j (d:j<xs.length),R xs[j] (u j))/\∀g v,Rd g v c->DJ g v (.ac false xs.length λj=>mk (u j)):=by
 have K:∃u:Nat->Y,∀j (d:j<xs.length),R xs[j] (u j)/\CC xs[j] (mk (u j)):=by
  refine⟨λj=>if d:j<xs.length then Classical.choose (conv xs[j] (cC d))else default,λj d=> ?_⟩;simp only[dif_pos d];exact cO (conv xs[j] (cC d))
 obtain⟨u,I⟩:=K;refine⟨u,λj d=>(I j d).1,λg v O=> ?_⟩;rcases h1 with⟨rfl,rfl⟩|⟨f,rfl⟩|⟨full,m,f,rfl,rfl⟩
 cases O;exact .ai false _ none;cases O with
 |sl _ _ Z b o z S k1 k2 k3 J k5 k6 k7 k8=>
  refine .ac false xs.length _ Z b o z S (λq=>k1 (λe=>q (by simp[e]))) (λi h=> ?_) k3 J (λe=>by cases e) k6 k7 (λi j w c h d N hc=> ?_);rw[<-(I i h).2.1];exact k2 _ (cC h);have hl:=k2 _ (cC h);have B:(xs[i]).cells[j]? =some (xs[i].cells[j]'(by omega)):=aB _;exact(I i h).2.2 g j w _ c B hc (k8 _ w _ N (KD k2 (aB h) j _ B))
 have E:((List.range m).map f).length=m:=by simp
 cases O with
 |ai _ _ p=>exact .ai false _ p
 |ac _ _ _ Z b o z S k1 k2 k3 J k5 k6 k7 k8=>
  have hg:∀i (h:i<m),((List.range m).map f)[i]'(by simpa using h)=f i:=λi h=>by simp
  have key:DJ g (.slice (some ⟨b,o,none⟩) m z) (.ac false m λj=>mk (u j)):=by
   refine .ac false m _ Z b o z S k1 (λi h=> ?_) k3 J (λe=>by cases e) k6 k7 (λi j w c h d N hc=> ?_);have:=(I i (by simpa using h)).2.1;rw[hg i h]at this;rw[<-this];exact k2 i h;have hq:=(I i (by simpa using h)).2;rw[hg i h]at hq;have hl:=k2 i h;have B:(f i).cells[j]? =some ((f i).cells[j]'(by omega)):=aB _;exact hq.2 g j w _ c B hc (k8 i j w _ h d N B).rd
  rw[E];exact key
theorem PC{Y:Type}[Inhabited Y]{V:gN}{U:gE}(mk:Y->T)(Q:Y->Prop){e:A}(z:∀a,Q a->Gm V U e (mk a))(conv:∀x,Gm V U e x->∃a,Q a/\CC x (mk a)){i b:Int}{c:T}(h:Gm V U (.gp e i b) c):
  ∃(n:Nat) (u:Nat->Y),((n:Int)<=b/\∀j,j<n->Q (u j))/\Gm V U (.gp e i b) (.ac false n λj=>mk (u j))/\∀g v,Rd g v c->DJ g v (.ac false n λj=>mk (u j)):=by
 cases h with
 |gp _ _ _ _ o B E f q=>
  obtain⟨u,k1,k2⟩:=Jw mk (λ_ a=>Q a) B λx d=>conv x (q x d)
  refine⟨o.length,u,⟨f,k1⟩,.gp _ _ _ _ ((List.range o.length).map λj=>mk (u j)) (.inr (.inr ⟨_,_,_,rfl,rfl⟩)) (by simpa using E) (by simpa using f) (λx d=> ?_),k2⟩;obtain⟨j,p,rfl⟩:=bS.1 d;exact z _ (k1 j (eT.1 p))
end Go.Ps
namespace Go.Proofs.Tryz
open Go.Ps
noncomputable section
instance:Inhabited T:=⟨oS⟩
instance:Inhabited Vl:=⟨⟨0,0,0,[],0,λ_ =>oS,0,λ_ =>oS⟩⟩
instance:Inhabited Kd:=⟨⟨0,0,[],0,λ_ =>default,0,λ_ =>oS⟩⟩
theorem IY{g:G}{v:gZ}{n:Int}(h:Rd g v (.int .i64 n)):DJ g v (.int .i64 n):=by cases h;exact .int _ _
theorem Uv{g:G}{v:gZ}{s:gH}(h:Rd g v (.str s)):DJ g v (.str s):=by cases h;exact .str _
section
variable[Inhabited gy]{V:gN}{U:gE}
theorem Hu{t:Int}{x:T}(h:Gm V U (txt t) x):∃s,x= .str s:=by
 cases h with
 |fy _ _ s _ _ =>exact⟨s,rfl⟩
def mC:Nat->A->Bool
 |0,_ =>false
 |d+1,e=>match e with
  | .ft _ _ _ =>true| .fy _ _ =>true| .gp (.agg b) _ _ =>b.all (mC d)| .ig _ h=>decide (h<=0)|_ =>false
def Tl(V:gN)(U:gE)(e:A):Prop:=∀x,Gm V U e x->∃y,Gm V U e y/\∀g v,Rd g v x->DJ g v y
theorem Ew:∀{i:List A} {o:gC},(∀e∈i,Tl V U e)->pT V U i o->∃u,pT V U i u/\∀(j:Nat) (x y:T),o[j]? =some x->u[j]? =some y->∀g v,Rd g v x->DJ g v y
 |[],o,_,g=>⟨[],wF,λj x y f d=>by simp at d⟩
 |e::i,o,h,g=>by
  obtain⟨x,r,rfl,B,k⟩:=g.I;obtain⟨y,z,q⟩:=h e (by simp) x B;obtain⟨u,k1,k2⟩:=Ew (λe p=>h e (by simp[p])) k;refine⟨y::u,pV z k1,λj a b f d=> ?_⟩
  match j,f,d with
  |0,f,d=>cases f;cases d;exact q|j+1,f,d=>exact k2 j a b f d
theorem Vu{b:List A}(h:∀e∈b,Tl V U e)(x:T)(o:Gm V U (.agg b) x):∃y,Gm V U (.agg b) y/\CC x y:=by
 cases o with
 |agg _ E d i=>
  obtain⟨u,g,k⟩:=Ew h ⟨d,i⟩;exact⟨.agg u,PL g,d.symm.trans g.1,λz j a f p v q B=>k j f p v q z a B⟩
theorem aMh:∀(d:Nat) (e:A),mC d e=true->Tl V U e
 |0,_,h=>by simp[mC]at h
 |d+1,e,h=>by
  intro x f;unfold mC at h;split at h;cases f with
  |ft _ _ _ n z B N=>exact⟨_,.ft _ _ _ n z B N,λg v q=>by cases q;exact .int _ _⟩
  cases f with
  |fy _ _ s z B=>exact⟨_,.fy _ _ s z B,λg v q=>by cases q;exact .str _⟩
  obtain⟨n,u,_,O,R⟩:=PC id (Gm V U _) (λ_ h=>h) (λx f=>by
   obtain⟨y,z,B⟩:=Vu (λe J=>aMh d e (aP.1 h e J)) x f
   exact⟨y,z,B⟩) f
  exact⟨_,O,R⟩;cases f with
  |ig _ _ fu n f1 q1 Y=>
   have h:=cH h;obtain rfl:n=0:=by omega
   refine⟨_,.ig _ _ false 0 f1 q1 Y,λg v q=> ?_⟩;cases q with
   |ai _ _ p=>exact .ai false _ p|ac _ _ _ Z b o I S k1 k2 k3 K k5 k6 k7 k8=>exact .ac false 0 _ Z b o I S k1 (λi E=>absurd E (by omega)) k3 K (λe=>by cases e) k6 k7 (λi j w c E=>absurd E (by omega))
  cases h
theorem bBe(x:T)(h:Gm V U (.agg (vA 40 6 1)) x):∃v:Vl,Gm V U (.agg (vA 40 6 1)) (AK v)/\CC x (AK v):=by
 cases h with
 |agg _ K d i=>
 obtain⟨Y,r,rfl,J,k⟩:=(show pT V U [fk,fk,fk,txt 40,.gp (.agg (vA 40 6 0)) 0 6,.gp (.agg (txt 40::vA 40 6 0)) 0 6] K from⟨d,i⟩).I;obtain⟨x1,r,rfl,E,k⟩:=k.I;obtain⟨x2,r,rfl,I,k⟩:=k.I;obtain⟨x3,r,rfl,B,k⟩:=k.I;obtain⟨x4,r,rfl,R,k⟩:=k.I;obtain⟨x5,r,rfl,N,k⟩:=k.I;have e:=k.ae;subst e;obtain⟨a,rfl,_,_⟩:=gm J;obtain⟨b,rfl,_,_⟩:=gm E;obtain⟨c,rfl,_,_⟩:=gm I;obtain⟨s,rfl⟩:=Hu B;obtain⟨n,u,_,q,O⟩:=PC id (Gm V U _) (λ_ h=>h) (Vu λe p=>aMh 12 e (aP.1 (show(vA 40 6 0).all (mC 12)=true by kernel_rfl) e p)) R;obtain⟨k,f,_,z,r5⟩:=PC id (Gm V U _) (λ_ h=>h) (Vu λe p=>aMh 12 e (aP.1 (show(txt 40::vA 40 6 0).all (mC 12)=true by kernel_rfl) e p)) N;refine⟨⟨a,b,c,s,n,u,k,f⟩,PL (pV J (pV E (pV I (pV B (pV q (pV z wF)))))),rfl,λg' j w S cy d i o=> ?_⟩
 match j,d,i with
 |0,d,i=>cases d;cases i;exact IY o|1,d,i=>cases d;cases i;exact IY o|2,d,i=>cases d;cases i;exact IY o|3,d,i=>cases d;cases i;exact Uv o|4,d,i=>cases d;cases i;exact O _ _ o|5,d,i=>cases d;cases i;exact r5 _ _ o|j+6,d,i=>simp[T.cells]at d
def kJ:Nat->Kd->Prop
 |0,q=>q.m=0/\∃c:Nat->Kd,q.a=λi=>pJ (c i)|d+1,q=>∃c:Nat->Kd,q.a=(λi=>pJ (c i))/\∀i,i<q.m->kJ d (c i)
theorem aUx{x e:T}{q:Kd}(f:∀g v,Rd g v x->DJ g v (.ac false q.n λj=>AK (q.w j)))(i:∀g v,Rd g v e->DJ g v (.ac false q.m q.a)):CC (.agg [.int .i64 q.k,.int .i64 q.y,.str q.s,x,e]) (pJ q):=by
 refine⟨rfl,λu j w p o h b d=> ?_⟩
 match j,h,b with
 |0,h,b=>cases h;cases b;exact IY d|1,h,b=>cases h;cases b;exact IY d|2,h,b=>cases h;cases b;exact Uv d|3,h,b=>cases h;cases b;exact f _ _ d|4,h,b=>cases h;cases b;exact i _ _ d|j+5,h,b=>simp[T.cells]at h
theorem aAr(d:Nat)(J:∀e,d=e+1->∀x,Gm V U (.agg (eA e)) x->∃q:Kd,(Gm V U (.agg (eA e)) (pJ q)/\kJ e q)/\CC x (pJ q))(x:T)(h:Gm V U (.agg (eA d)) x):∃q:Kd,(Gm V U (.agg (eA d)) (pJ q)/\kJ d q)/\CC x (pJ q):=by
 rw[Cm]at h;obtain⟨x0,x1,x2,x3,x4,rfl,E,z,B,I,g4⟩:=aVg h;obtain⟨k,rfl,_,_⟩:=gm E;obtain⟨y,rfl,_,_⟩:=gm z;obtain⟨s,rfl⟩:=Hu B;obtain⟨n,w,_,K,Y⟩:=PC AK (λv=>Gm V U (.agg (vA 40 6 1)) (AK v)) (λ_ h=>h) bBe (show Gm V U (.gp (.agg (vA 40 6 1)) 0 2) x3 from I);obtain⟨b,N,p,a3,S⟩:=Yg g4
 obtain⟨c,u,R⟩:=Jw pJ (λ_ q=>∀e,d=e+1->Gm V U (.agg (eA e)) (pJ q)/\kJ e q) N (λx f=>by
  cases d with
  |zero=>have:=p rfl;subst this;simp at f
  |succ e=>
   obtain⟨q,q1,Z⟩:=J e rfl x (S x f e rfl)
   exact⟨q,λe' j=>by cases j;exact q1,Z⟩)
 refine⟨⟨k,y,s,n,w,b.length,λi=>pJ (c i)⟩,⟨?_,?_⟩,aUx (q:=⟨k,y,s,n,w,b.length,λi=>pJ (c i)⟩) Y R⟩;rw[Cm];exact Ih E z B K (aJn (xs:=(List.range b.length).map λi=>pJ (c i)) (.inr (.inr ⟨_,_,_,rfl,rfl⟩)) (λe=>by have:=p e;subst this;rfl) (λx f e j=>by obtain⟨i,o,rfl⟩:=bS.1 f;exact(u i (eT.1 o) e j).1) (by simp) (by simpa using a3));cases d with
 |zero=>exact⟨by show b.length=0;have:=p rfl;subst this;rfl,c,rfl⟩|succ d=>exact⟨c,rfl,λi o=>(u i o d rfl).2⟩
theorem bBm:∀(d:Nat) (x:T),Gm V U (.agg (eA d)) x->∃q:Kd,(Gm V U (.agg (eA d)) (pJ q)/\kJ d q)/\CC x (pJ q):=by
 intro d
 induction d with
 |zero=>exactλx h=>aAr 0 (λe b=>by cases b) x h|succ d i=>exactλx h=>aAr (d+1) (λe b=>by cases b;exact i) x h
theorem aLm{e:A}{d b:Int}{n:Nat}{u:iK}(h:Gm V U (.gp e d b) (.ac false n u)):(∀i,i<n->Gm V U e (u i))/\(n:Int)<=b:=by
 cases h with
 |gp _ _ _ _ x k1 k2 k3 f=>
  rcases k1 with⟨k,_⟩|⟨_,k⟩|⟨_,_,_,k,rfl⟩
  cases k;cases k;cases k;exact⟨λi b=>f _ (eM (eT.2 b)),by simpa using k3⟩
theorem Hy{d:Nat}{q:Kd}(h:Gm V U (.agg (eA d)) (pJ q)):(∀i,i<q.n->Gm V U (.agg (vA 40 6 1)) (AK (q.w i)))/\q.n<=2:=by
 rw[Cm]at h;cases h with
 |agg _ _ e b=>
  obtain⟨k1,k2⟩:=aLm (show Gm V U (.gp (.agg (vA 40 6 1)) 0 2) (.ac false q.n λj=>AK (q.w j))from b 3 _ _ rfl rfl);exact⟨k1,by omega⟩
theorem Ym{d:Nat}{q:Kd}(h:Gm V U (.agg (eA (d+1))) (pJ q)):q.m<=4/\∀i,i<q.m->Gm V U (.agg (eA d)) (q.a i):=by
 rw[Cm]at h;cases h with
 |agg _ _ e b=>
  obtain⟨k1,k2⟩:=aLm (show Gm V U (.gp (.agg (eA d)) 0 4) (.ac false q.m q.a)from b 4 _ _ rfl rfl);exact⟨by omega,k1⟩
theorem aVc(f:Nat):Gm V U (.fn f [] []) (.fn (.func f) [] []):= .fn f [] [] [] [] rfl (λj a t h=>by simp at h) rfl (λj a t h=>by simp at h)
structure Fq where
 nd:List UInt8
 rs:List UInt8
 fr:Int
 till:Int
 k:Nat
 u:Nat->Kd
def BI(a:Fq):T:= .agg [.str a.nd,.str a.rs,.int .i64 a.fr,.int .i64 a.till,.ac false a.k λi=>pJ (a.u i)]
abbrev fA:A:= .agg [txt 100,txt 100,fk,fk,.gp (.agg (eA 3)) 0 8]
theorem Xt{g:G}{v:gZ}{a:Fq}{w:T}(f:∀g v,Rd g v w->DJ g v (.ac false a.k λi=>pJ (a.u i)))(h:Rd g v (.agg [.str a.nd,.str a.rs,.int .i64 a.fr,.int .i64 a.till,w])):Rd g v (BI a):=by
 cases h with
 |agg _ e k1 k2=>
  refine .agg _ e k1 λj c t d b=> ?_
  match j,b with
  |0,b=>cases b;exact k2 0 c _ d rfl|1,b=>cases b;exact k2 1 c _ d rfl|2,b=>cases b;exact k2 2 c _ d rfl|3,b=>cases b;exact k2 3 c _ d rfl|4,b=>cases b;exact(f g c (k2 4 c _ d rfl)).rd|j+5,b=>simp at b
theorem aYe{x:T}(h:Gm V U fA x):∃a:Fq,Gm V U fA (BI a)/\(∀i,i<a.k->Gm V U (.agg (eA 3)) (pJ (a.u i))/\kJ 3 (a.u i))/\(a.nd.length<=100/\a.rs.length<=100)/\∀g v,Rd g v x->Rd g v (BI a):=by
 cases h with
 |agg _ E N K=>
 obtain⟨x0,r,rfl,S,k⟩:=(show pT V U [txt 100,txt 100,fk,fk,.gp (.agg (eA 3)) 0 8] E from⟨N,K⟩).I;obtain⟨x1,r,rfl,R,k⟩:=k.I;obtain⟨x2,r,rfl,o,k⟩:=k.I;obtain⟨x3,r,rfl,j,k⟩:=k.I;obtain⟨x4,r,rfl,Y,k⟩:=k.I;have e:=k.ae;subst e;obtain⟨c,rfl,_,_⟩:=gm o;obtain⟨d,rfl,_,_⟩:=gm j;cases S with
 |fy _ _ a z B=>
 cases R with
 |fy _ _ b J p=>
 obtain⟨n,u,⟨_,Z⟩,O,f⟩:=PC pJ (λq=>Gm V U (.agg (eA 3)) (pJ q)/\kJ 3 q) (λ_ h=>h.1) (bBm 3) Y;exact⟨⟨a,b,c,d,n,u⟩,PL (pV (.fy _ _ a z B) (pV (.fy _ _ b J p) (pV o (pV j (pV O wF))))),Z,⟨show a.length<=100 by omega,show b.length<=100 by omega⟩,λg v I=>Xt f I⟩
inductive Bx:Kd->Prop
 |mk (q:Kd) (c:iB):q.a=(λi=>pJ (c i))->(∀i,i<q.n->∃a b c s,q.w i=⟨a,b,c,s,0,λ_ =>oS,0,λ_ =>oS⟩)->(∀i,i<q.m->Bx (c i))->Bx q
theorem Uh{f:iK}(g:G)(v:gZ)(h:Rd g v .fp):DJ g v (.ac false 0 f):=by cases h;exact .ai false _ none
theorem aUc{t:T}(h:lY t):∃(n:Nat) (w:iM),(∀i,i<n->∃a b c s,w i=⟨a,b,c,s,0,λ_ =>oS,0,λ_ =>oS⟩)/\∀g v,Rd g v t->DJ g v (.ac false n λi=>AK (w i)):=by
 obtain⟨q,d,_,o⟩:=PA h;obtain⟨w,k1,k2⟩:=Jw AK (λ_ v=>∃a b c s,v=⟨a,b,c,s,0,λ_ =>oS,0,λ_ =>oS⟩) d λx p=>by
  obtain⟨a,b,c,s,rfl,_⟩:=o x p;refine⟨_,⟨a,b,c,s,rfl⟩,rfl,λB j w u z d e f=> ?_⟩
  match j,d,e with
  |0,d,e=>cases d;cases e;exact IY f|1,d,e=>cases d;cases e;exact IY f|2,d,e=>cases d;cases e;exact IY f|3,d,e=>cases d;cases e;exact Uv f|4,d,e=>cases d;cases e;exact Uh _ _ f|5,d,e=>cases d;cases e;exact Uh _ _ f|j+6,d,e=>simp[T.cells]at d
 exact⟨q.length,w,k1,k2⟩
theorem aUj{t:T}(h:Wi t):∃(n:Nat) (c:iB),(∀i,i<n->Bx (c i))/\∀g v,Rd g v t->DJ g v (.ac false n λi=>pJ (c i)):=by
 induction h with
 |fp=>exact⟨0,λ_ =>default,λi d=>absurd d (by omega),λg v z=>Uh g v z⟩
 |ac e n f a b s v x O I E N u=>
  obtain⟨c,k1,k2⟩:=Jw (xs:=(List.range n).map f) pJ (λ_ q=>Bx q) (.inr (.inr ⟨e,n,f,rfl,rfl⟩)) λy p=>by
   obtain⟨i,d,rfl⟩:=bS.1 p;have d:=eT.1 d;obtain⟨m,c,K,J⟩:=u i d;obtain⟨j,w,o,B⟩:=aUc (E i d).2.2.2;rw[I i d];exact⟨⟨a i,b i,s i,j,w,m,λi=>pJ (c i)⟩,.mk _ c rfl o K,aUx (q:=⟨a i,b i,s i,j,w,m,λi=>pJ (c i)⟩) B J⟩
  exact⟨n,c,λi d=>k1 i (by simpa using d),by simpa using k2⟩
end
end
variable[Inhabited gy]
omit [Inhabited gy]in
theorem VZ:∀(k u:Nat) (b:gH),(FD k u b).length<=k+b.length
 |0,_,b=>by simp[FD]
 |k+1,u,b=>by
  unfold FD;split;simp;omega;have:=VZ k (u/10) (UInt8.ofNat (48+u%10)::b);simp only[aZ]at this;omega
omit [Inhabited gy]in
theorem tZ(n:Int):(qL n).length<=21:=by
 unfold qL;split;have:=VZ 20 n.natAbs [];simp at this⊢;omega;have:=VZ 20 n.toNat [];simp at this;omega
theorem SP(c:gH):∀l:List UInt8,Lib.indexAny l c+1<=l.length
 |[]=>by simp[Lib.indexAny]
 |b::l=>by
  have i:=SP c l;simp only[Lib.indexAny,aZ];split;omega;split<;>omega
theorem aPh(s b:gH):(Lib.cut s b).1.length<=s.length/\(Lib.cut s b).2.1.length<=s.length:=by
 unfold Lib.cut;split;exact⟨by simp only[cY];omega,by simp only[cP];omega⟩;exact⟨bB _,by simp⟩
theorem bCx(s:gH):CL .i64 (aV s):=by
 unfold aV;split;rename_i v h;have:=Lib.atoiAll_bounds h;exact vC (by omega);unfold Lib.atoiSat;split<;>exact vC (by omega);exact vC (by omega)
theorem EF{k:Nat}{p:gI}{H:Hp}{f:gX}{b:gC}(h:qJ (pM k ⟨0,.nl⟩) b=some b){r:T}(d:p f b=some r):sR k p H f b=some r:=by
 unfold sR;rw[h];exact d
theorem aZx:mU (sR 40 j7) mZ:=by
 intro f xs n cs v h V U H ts d S;unfold mZ at h;split at h;rename_i i;have i:=oT i;subst i;split at h;rename_i s b;split at h;rename_i E;have E:=Fz E;subst E;split at h;rename_i x c O;split at h;rename_i e;cases h;obtain⟨t,r,rfl,I,J⟩:=S.I;obtain⟨u,r',rfl,g3,g4⟩:=J.I;rw[g4.ae];cases g3;obtain⟨l,w,rfl,q,e2⟩:=wH d.zero I O;have e:=oX d.cs e q d.zero;have hi:=SP ZW l;have hj:=Lib.indexAny_ge ZW l;refine⟨.int .i64 (Lib.indexAny l ZW),EF (by rfl) ?_,DE d (vC (by omega)) ?_⟩;unfold j7;rw[aJ rfl];exact aJ ⟨by omega,rfl⟩;obtain⟨z,B,n3,R⟩:=d.new (Lib.indexAny l ZW);exact .cons ⟨0,_,R,B,by omega⟩ (.cons ⟨_,w,B,z _ _ q,by omega⟩ (.cons ⟨_,0,B,R,by omega⟩ (d.cs.ext z)));cases h;cases h;cases h;cases h;split at h;rename_i i;have i:=oT i;subst i;split at h;rename_i s t;split at h;rename_i x c y O hl2;split at h;rename_i e;cases h;obtain⟨t1,r,rfl,I,J⟩:=S.I;obtain⟨u,r',rfl,g3,g4⟩:=J.I;rw[g4.ae];obtain⟨l,w,rfl,q,e2⟩:=wH d.zero I O;obtain⟨N,w2,rfl,e3,e4⟩:=wH d.zero g3 (s:=y.1) (c:=y.2) (by simpa using hl2);have e:=oX d.cs e q d.zero;obtain⟨c1,c2⟩:=aPh l N;refine⟨.fm [.str (Lib.cut l N).1,.str (Lib.cut l N).2.1,.bool (Lib.cut l N).2.2],EF (by rfl) ?_,?_⟩;unfold j7;rw[aH (by decide),aJ rfl];exact aJ (by omega);obtain⟨z,B,n3,R⟩:=d.new ((Lib.cut l N).1.length:Int);have hs1:Sy (V++[((Lib.cut l N).1.length:Int)]) (n+1) (.le 0 n 0:: .le n x c::cs):=
  ⟨n3,R,.cons ⟨0,_,R,B,by omega⟩ (.cons ⟨_,w,B,z _ _ q,by omega⟩ (d.cs.ext z)),d.fst z⟩
 obtain⟨K,Z,m3,Y⟩:=hs1.new ((Lib.cut l N).2.1.length:Int);refine⟨_,z.trans K,⟨m3,Y,?_,d.fst (z.trans K)⟩,.fm _ _ rfl ?_⟩;refine .cons ?_ (.cons ?_ (.cons ?_ (.cons ?_ (d.cs.ext (z.trans K)))));exact⟨0,_,Y,K _ _ B,by omega⟩;exact⟨_,w,K _ _ B,K _ _ (z _ _ q),by omega⟩;exact⟨0,_,Y,Z,by omega⟩;exact⟨_,w,Z,K _ _ (z _ _ q),by omega⟩;intro j a t o p
 match j,o,p with
 |0,o,p=>cases o;cases p;exact .str _ _ _ _ (K _ _ B) (by omega)|1,o,p=>cases o;cases p;exact .str _ _ _ _ Z (by omega)|2,o,p=>cases o;cases p;exact .bool _ _ (sL _)|j+3,o,p=>simp at o
 cases h;cases h;cases h;split at h;rename_i i;have i:=oT i;subst i;split at h;rename_i s;split at h;rename_i x c O;split at h;rename_i e;cases h;obtain⟨t1,r,rfl,I,J⟩:=S.I;rw[J.ae];obtain⟨l,w,rfl,q,e2⟩:=wH d.zero I O;have e:=oX d.cs e q d.zero;refine⟨.fm [.int .i64 (aV l),aE l],EF (by rfl) ?_,rB d (.fm _ _ rfl ?_)⟩;unfold j7;rw[aH (by decide),aH (by decide),aJ rfl];exact aJ (by omega);intro j a t o p
 match j,o,p with
 |0,o,p=>
  cases o;cases p;have E:=bCx l;exact .ft _ _ _ _ E.1 E.2 E
 |1,o,p=>
  cases o;cases p;unfold aE;split;exact .or _ .gb _ (by simp) .gb;exact .or _ .i7 _ (by simp) (.i7 _ _)
 |j+2,o,p=>simp at o
 cases h;cases h;cases h;split at h;rename_i i;have i:=oT i;subst i;split at h;rename_i s;split at h;rename_i x c O;split at h;rename_i e;cases h;obtain⟨t1,r,rfl,I,J⟩:=S.I;rw[J.ae];obtain⟨l,w,rfl,q,e2⟩:=wH d.zero I O;have e:=oX d.cs e q d.zero;refine⟨.bool (Lib.validD l),EF (by rfl) ?_,.here d (.bool _ _ (sL _))⟩;unfold j7;rw[aH (by decide),aH (by decide),aH (by decide),aJ rfl];exact aJ (by omega);cases h;cases h;cases h;split at h
 .rename_i i;have i:=oT i;subst i;split at h
  .rename_i s c;cases h;obtain⟨t1,r,rfl,I,J⟩:=S.I;rw[J.ae];cases I with
   |int _ _ _ w q hk=>
   have E:-9223372036854775808<=w+c/\w+c<=9223372036854775807:=hk;refine⟨.str (qL (w+c)),EF (by rfl) ?_,rB d (.fy _ _ _ (by omega) ?_)⟩;unfold j7;rw[aH (by decide),aH (by decide),aH (by decide),aH (by decide),aJ rfl];exact aJ E;have:=tZ (w+c);omega
  cases h
 cases h
end Go.Proofs.Tryz
namespace Go.Ps
noncomputable section
def Jb(P:gD)(D:Ed)(F:Fc)(n:Nat):Nat->Code->List T->Hp->List Bool->List Bool->RD (Code×List T×Hp)
 |0,c,f,H,ds,d=> .ok (c,f,H) ds d
 |k+1,.seq a b,f,H,ds,d=>if codeOk a&&uZ a then(match qH P D F n a f H ds d with
  | .ok (.normal,h,j) i e=>Jb P D F n k b h j i e| .need c d=> .need c d| .fail w=> .fail w|_ => .fail 90)else .fail 91
 |_,_,_,_,_,_ => .fail 92
def aKi:RD (Code×List T×Hp)->Option (Code×Hp×Bool)
 | .ok (c,_,H) _ b=>some (c,H,oU b)|_ =>none
def Pk:RD (Code×List T×Hp)->List T
 | .ok (_,f,_) _ _ =>f|_ =>[]
theorem aSn{R:RD (Code×List T×Hp)}{c:Code}{H:Hp}{b:Bool}(h:aKi R=some (c,H,b))(e:b=true):∃ds d,R= .ok (c,Pk R,H) ds d/\oU d=true:=by
 unfold aKi at h;split at h;cases h;exact⟨_,_,rfl,e⟩;cases h
section
variable{P:gD}{D:Ed}{F:Fc}{ro:gW}{n:Nat}{Q:gT}
theorem aSo(x:P.follows .mixedOrders=true)(I:rV P D.env.gl D.env.pe)(hF:sD P D.env.gl F.ee){m:Nat}:∀(k:Nat) {c p:Code} {j f:gC} {H o:Hp} {ds e i d:gL},Jb P D F m k c j H ds e= .ok (p,f,o) i d->oU d=true->
  (gj P D.env ro n p f o Q->gj P D.env ro n c j H Q)/\oU e=true:=by
 intro k
 induction k with
 |zero=>intro c p j f H o ds e i d h q;simp only[Jb]at h;cases h;exact⟨id,q⟩
 |succ k B=>
  intro c p j f H o ds e i d h q;cases c with
  |seq a b=>
   simp only[Jb]at h;split at h
   .rename_i u;simp only[aA]at u;split at h
    rename_i f1 S K v E;obtain⟨R,O⟩:=B h q;obtain⟨z,N⟩:=wR m E O;exact⟨λJ=>pB (oY x I hF u.1 u.2 z (R J)),N⟩
    all_goals cases h
   cases h
  |_ =>simp only[Jb]at h;cases h
theorem aKj(q:P.follows .mixedOrders=true)(p:rV P D.env.gl D.env.pe)(hF:sD P D.env.gl F.ee){m k:Nat}{c e:Code}{f:gC}{H d:Hp}{ds:gL}{b:Bool}(h:aKi (Jb P D F m k c f H ds [])=some (e,d,b))(x:b=true)
  (u:gj P D.env ro n e (Pk (Jb P D F m k c f H ds [])) d Q):gj P D.env ro n c f H Q:=by
 obtain⟨v,i,o,j⟩:=aSn h x;exact(aSo q p hF k o j).1 u
end
end
end Go.Ps
namespace Go.Proofs.Tryz
open Go.Ps
noncomputable section
section
variable{m:Int}{C:gB}
noncomputable def aSz:Code:= .seq (.seq (rg f76 28) (.block 1 (.loop (.seq (.region 29 (BN f76 29) false) (.seq (.cond (.tmp 181) .skip (.exit 1)) (.block 2 (.seq (.region 30 (BN f76 30) false) (.seq (rg f76 31) (.cond (.tmp 189) (.seq (rg f76 32) .ret) .skip))))))))) (.seq (rg f76 33) .ret)
def kQ:List (Nat×T×T):=[(0,.str [108,101,110,103,116,104],.agg [.int .i64 18,.int .i64 1]),(1,.str [108,111,119,101,114],.agg [.int .i64 19,.int .i64 1]),(2,.str [117,112,112,101,114],.agg [.int .i64 20,.int .i64 1]),(3,.str [116,101,120,116],.agg [.int .i64 27,.int .i64 1]),(4,.str [110,117,109,98,101,114],.agg [.int .i64 28,.int .i64 1]),(5,.str [115,108,105,99,101],.agg [.int .i64 21,.int .i64 3]),(6,.str [105,102],.agg [.int .i64 24,.int .i64 3]),(7,.str [100,105,118,105,100,101],.agg [.int .i64 15,.int .i64 2]),(8,.str [104,97,115],.agg [.int .i64 22,.int .i64 0]),(9,.str [115,117,109],.agg [.int .i64 26,.int .i64 0])]
def HC:Hp:=⟨1,.nd (some {elem:=194,sz:=0,cells:=[],me:=some (.map 10 kQ)}) .nl .nl⟩
def Hi(o:Int)(e:jN):Bool:=match e.2.2 with
 | .agg (.int _ c::_)=>decide (c=o)|_ =>false
def mD(o:Int):List UInt8:=match kQ.find? (Hi o)with
 |some (_,.str s,_)=>s|_ =>[]
section
variable(m C)(L:Nat)(k y:Int)(s:gH)(n:Nat)(w:iM)(na:Nat)(c:iB)(need:Int)(A:Bool)(M:Nat)
abbrev mE:T:=xT k y s n w na λi=>pJ (c i)
abbrev aAd:List UInt8:=sU m C (5*L) 119 [.ac false na λi=>pJ (c i)]
abbrev aLs:List UInt8:=sU m C 21 40 [.int .i64 y]
def m9:List UInt8:=if A then aAd m C L na c else s
def nb:List UInt8:=if M<2 then m9 m C L s na c A++([44,32]++aLs m C y)else m9 m C L s na c A
def bMr:Nat->List Bool
 |0=>List.replicate 7 true|1=>[false,false,false,false,true,true,true,false,true,false,true]|2=>[false,false,false,false,true,true,true,false,true,false,false]|_ =>List.replicate 11 false
def mF:List Bool:=[decide ((m9 m C L s na c A).length+(([44,32]:List UInt8)++aLs m C y).length<=pK),decide (([44,32]:List UInt8).length+(aLs m C y).length<=pK),pb (fj prog (fo m C) 40 [.int .i64 y] (.str (aLs m C y)))]
def tu:Nat->List Bool
 |0=>mF m C L y s na c A++true::List.replicate 6 (k==15)|1=>mF m C L y s na c A++[y !=0,!(k==15),k==26,!(k==15),k==26,k==26,k==26]++List.replicate 4 (!(k==15))|2=>[!(y !=0),!(k==15),k==26,!(k==15),k==26,k==26,k==26]++List.replicate 4 (!(k==15))|_ =>[true,!(k==15),!(k==26),!(k==15),!(k==26),!(k==26),!(k==26)]++List.replicate 4 (!(k==15))
def n7:List Bool:=(if A then [pb (fj prog (fo m C) 119 [.ac false na λi=>pJ (c i)] (.str (aAd m C L na c))),decide ((na:Int)>0)]else [!decide ((na:Int)>0)])++[!(k==2),!(k==1),!decide (rL k<9),!(rL k==4),!(k==25),!(k==16),!(k==3),!decide (rL k<need),pb (fj prog (fo m C) 118 [mE k y s n w na c] (.int .i64 (rL k)))]
def n8:RD (Code×List T×Hp):=Jb prog (DT m C L) (FM m C) 40 7 (pO f76) ([mE k y s n w na c,.int .i64 need]++List.replicate 193 oS) ⟨0,.nl⟩ (List.replicate 8 false++A::bMr M) []
def yx:List (Nat×T):=[(2,.ref (mE k y s n w na c) 0),(10,.str (nb m C L y s na c A M))]
theorem yz(h:M<4):aKi (n8 m C L k y s n w na c need A M)=some (aSz,⟨0,.nl⟩,oU (tu m C L k y s na c A M++n7 m C L k y s n w na c need A)):=by
 cases A<;>rcases M with _ |_ |_ |_ |M<;>first|omega|kernel_rfl
theorem y6(h:M<4):Pk (n8 m C L k y s n w na c need A M)=qD (yx m C L k y s n w na c A M) 195 λq=>rW (Pk (n8 m C L k y s n w na c need A M)) q:=by
 cases A<;>rcases M with _ |_ |_ |_ |M<;>first|omega|kernel_rfl
end
theorem aFk(L:Nat):sD prog (DT m C L).env.gl (FM m C).ee:=qV (m:=m) (C:=C)
theorem aHj(e:jN)(b:e∈kQ):∃i s k a,e=(i,T.str s,T.agg [.int .i64 k,.int .i64 a])/\s.length<=6/\∀op,k=op->mD op=s/\(kQ.all λe=> !Hi op e)=false:=by
 simp only[kQ,aY,dF,fQ]at b;rcases b with rfl|rfl|rfl|rfl|rfl|rfl|rfl|rfl|rfl|rfl<;>exact⟨_,_,_,_,rfl,by decide,λop h=>by subst h;exact⟨rfl,rfl⟩⟩
noncomputable abbrev tv:Code:= .seq (rg f76 31) (.cond (.tmp 189) (.seq (rg f76 32) .ret) .skip)
abbrev qo(d x e b:T)(o:Int)(i s:gH)(k a:Int):List (Nat×T):=[(181,.bool true),(2,.ref (.agg [.int .i64 o,d,x,e,b]) 0),(10,.str i),(179,.ptr 1 0),(11,.str s),(12,.ref (.agg [.int .i64 k,.int .i64 a]) 0)]
section
variable(L:Nat)(x1 x2 x3 x4:T)(op:Int)(inn:gH)(g:iK)(s:gH)(k a:Int)(H:Hp)
def qp(b:Bool):List T:=pW (pW (pW (pW (pW (qD (qo x1 x2 x3 x4 op inn s k a) 195 g) (some 185) (.ref (.agg [.int .i64 k,.int .i64 a]) 0)) (some 186) (.int .i64 k)) (some 187) (.ref (.agg [.int .i64 op,x1,x2,x3,x4]) 0)) (some 188) (.int .i64 op)) (some 189) (.bool b)
theorem bOq:qH prog (DT m C L) (FM m C) 3 tv (qD (qo x1 x2 x3 x4 op inn s k a) 195 g) H [false] []= .ok (.normal,qD [(2,.ref (.agg [.int .i64 op,x1,x2,x3,x4]) 0),(10,.str inn),(179,.ptr 1 0)] 195 (λq=>(qp x1 x2 x3 x4 op inn g s k a (k==op)).getD q oS),H) [] [!(k==op)]:=by kernel_rfl
def tw:List T:=pW (pW (pW (pW (pW (pW (qp x1 x2 x3 x4 op inn g s k a (k==op)) (some 190) (.str s)) (some 191) (.str (s++[40]))) (some 192) (.str inn)) (some 193) (.str ((s++[40])++inn))) (some 194) (.str (((s++[40])++inn)++[41]))) (some 4) (.str (((s++[40])++inn)++[41]))
theorem bJl:qH prog (DT m C L) (FM m C) 3 tv (qD (qo x1 x2 x3 x4 op inn s k a) 195 g) H [true] []= .ok (.ret,tw x1 x2 x3 x4 op inn g s k a,H) [] [decide (((s++[40])++inn).length+([41]:List UInt8).length<=pK),decide ((s++[40]).length+inn.length<=pK),decide (s.length+([40]:List UInt8).length<=pK),k==op]:=by kernel_rfl
end
theorem bEk(L:Nat)(f j p u:T)(d:Int)(b:gH)(g:iK)(hin:b.length<=1000000000):
  gj prog (DT m C L).env none 0 aSz (qD [(2,.ref (.agg [.int .i64 d,f,j,p,u]) 0),(10,.str b)] 195 g) ⟨0,.nl⟩ (KR prog f76 40 (.str (if kQ.all (λe=> !Hi d e)then []else((mD d++[40])++b)++[41]))):=by
 have hM:=follows;have S:=zK m C L;have hF:=aFk (m:=m) (C:=C) L;have mx:(4000000000:Nat)<=pK:=by decide
 unfold aSz;refine pB (pB ?_);have hO:∃o:Oper,(BN f76 28).toList=(BN f76 28).toList.take 1++o::[]/\o.op= .range 194 (.tmp 178)/\o.dst=some 179/\o.guard=none:=⟨GZ f76 28 1,by kernel_rfl,by kernel_rfl,by kernel_rfl,by kernel_rfl⟩;obtain⟨o,Z,O,K,ho4⟩:=hO;have hrg:CI prog HC 194 (.mp 0)=some (.ptr 1 0,HC.new (xK (.aT 0 10 [] 10))):=by kernel_rfl
 have h0:pU prog (DT m C L).env (FM m C) (BN f76 28) ((BN f76 28).toList.take 1) ⟨qD [(2,.ref (.agg [.int .i64 d,f,j,p,u]) 0),(10,.str b)] 195 g,⟨0,.nl⟩,none⟩=some ⟨pW (qD [(2,.ref (.agg [.int .i64 d,f,j,p,u]) 0),(10,.str b)] 195 g) (some 178) (.mp 0),HC,none⟩:=by kernel_rfl
 refine wT S hF (by kernel_rfl) Z ho4 h0 (CJ O (v:= .mp 0) (by kernel_rfl) hrg) λt H2 hm=> ?_;obtain⟨rfl,rfl⟩:t= .ptr 1 0/\H2=HC.new (xK (.aT 0 10 [] 10)):=by simpa using hm
 refine⟨qD [(2,.ref (.agg [.int .i64 d,f,j,p,u]) 0),(10,.str b),(179,.ptr 1 0)] 195 λq=>(pW (pW (qD [(2,.ref (.agg [.int .i64 d,f,j,p,u]) 0),(10,.str b)] 195 g) (some 178) (.mp 0)) (some 179) (.ptr 1 0)).getD q oS,HC.new (xK (.aT 0 10 [] 10)),by rw[K];kernel_rfl,?_⟩;have hN:∃o:Oper,(BN f76 29).toList=o::(BN f76 29).toList.tail/\(o.op= .next (.tmp 179) false/\o.dst=some 180/\o.guard=none):=⟨GZ f76 29 0,by kernel_rfl,by kernel_rfl,by kernel_rfl,by kernel_rfl⟩;have hEn:∃o:Oper,(BN f76 30).toList=o::(BN f76 30).toList.tail/\(o.op= .entry (.tmp 179)/\o.dst=some 182/\o.guard=none):=⟨GZ f76 30 0,by kernel_rfl,by kernel_rfl,by kernel_rfl,by kernel_rfl⟩;obtain⟨oN,hN1,E⟩:=hN;obtain⟨oE,hE1,Y⟩:=hEn
 refine sP (FQ hM S hF (w:=195) (it:=179) (dn:=180) (de:=182) (kb:=181) (lp:=1) (m:=3) (N:=1) (seen:=[]) (z:=[(2,.ref (.agg [.int .i64 d,f,j,p,u]) 0),(10,.str b),(179,.ptr 1 0)]) (es:=kQ) (ml:=0) (c:=10) (ze:=λe=>[(181,.bool true),(2,.ref (.agg [.int .i64 d,f,j,p,u]) 0),(10,.str b),(179,.ptr 1 0),(11,e.2.1),(12,.ref e.2.2 0)]) (hit:=Hi d) (H0:=HC.new (xK (.aT 0 10 [] 10)))
  (by kernel_rfl) hN1 E (by kernel_rfl) hE1 Y ⟨by kernel_rfl,by kernel_rfl,by kernel_rfl,by kernel_rfl⟩ (λg=>⟨rfl,rfl⟩) (λg H v r=> ?_) (λg H=>⟨by kernel_rfl,by kernel_rfl⟩) (λe I g H=> ?_) (by decide) (by decide) (by decide) (λg H hn B=> ?_) ⟨⟨_,rfl,rfl⟩,rfl,by decide,by decide,by decide⟩ (Kp.refl _ _))
 exact⟨λq=>(pW (pW (qD [(2,.ref (.agg [.int .i64 d,f,j,p,u]) 0),(10,.str b),(179,.ptr 1 0)] 195 g) (some 180) (.fm (.bool v::r))) (some 181) (.bool v)).getD q oS,by kernel_rfl⟩;obtain⟨i,s,k,a,rfl,hs,hu⟩:=aHj e I;obtain⟨G,hG⟩:∃G:Nat->T,G=λq=>(pW (pW (pW (qD ((181,.bool true)::[(2,.ref (.agg [.int .i64 d,f,j,p,u]) 0),(10,.str b),(179,.ptr 1 0)]) 195 g) (some 182) (.fm [.str s,.agg [.int .i64 k,.int .i64 a]])) (some 183) (.str s)) (some 184) (.agg [.int .i64 k,.int .i64 a])).getD q oS:=⟨_,rfl⟩;refine⟨G,H,by subst hG;kernel_rfl,Kp.refl _ _,λR=> ?_,λR=> ?_⟩;have B:(k==d)=false:=by simpa [Hi]using R
 exact⟨λq=>(qp f j p u d b G s k a (k==d)).getD q oS,H,(wR 3 (D:=DT m C L) (ds:=[false]) (log:=[]) (ds':=[]) (log':=[!(k==d)]) (bOq L f j p u d b G s k a H) (by rw[B];rfl)).1,Kp.refl _ _⟩;have B:(k==d)=true:=by simpa [Hi]using R
 have J:k=d:=by simpa using B
 obtain⟨u1,u2⟩:=hu d J;rw[u2,aH (by decide),u1];refine⟨tw f j p u d b G s k a,H,(wR 3 (D:=DT m C L) (ds:=[true]) (log:=[]) (ds':=[]) (bJl L f j p u d b G s k a H) ?_).1,.inr rfl,.str (((s++[40])++b)++[41]),.str (((s++[40])++b)++[41]),by kernel_rfl,rfl,λg v h=>h⟩;simp only[oU,B,bM,aA,aF,aU,aZ,bL];omega;rw[aJ (by rw[aP];intro e I;rw[hn e I];rfl)];exact oY hM S hF (m:=1) (by kernel_rfl) (by kernel_rfl) (x:= .ret) (fr':=pW (qD ((181,.bool false)::[(2,.ref (.agg [.int .i64 d,f,j,p,u]) 0),(10,.str b),(179,.ptr 1 0)]) 195 g) (some 4) (.str [])) (H':=H) (by kernel_rfl) ⟨.inr rfl,.str [],.str [],by kernel_rfl,rfl,λg v h=>h⟩
theorem qq(m:Int)(C:gB)(y:Int)(h:-9223372036854775808<=y/\y<=9223372036854775807):fj prog (fo m C) 40 [.int .i64 y] (.str (qL y)):=
 jg (Iz (f:=40) (by unfold lV Np;rw[aJ rfl];exact aJ h))
theorem aMc{L:Nat}(hL:L<=100000000)(k y:Int)(s:gH)(n:Nat)(w:iM)(p:Nat)(c:iB)(o:Int)(hb:¬rL k<o)(h9:rL k=9)(h1:k≠1)(h2:k≠2)(h3:k≠3)(Z:k≠16)(O:k≠25)(hs:s.length<=60)(K:-9223372036854775808<=y/\y<=9223372036854775807)
  (Y:0<p->∃v:List UInt8,fj prog (fo m C) 119 [.ac false p λi=>pJ (c i)] (.str v)/\v.length<=5*L):∃v:List UInt8,fj prog (fo m C) 76 [mE k y s n w p c,.int .i64 o] (.str v)/\v.length<=5*L+100:=by
 have x:pb (fj prog (fo m C) 118 [mE k y s n w p c] (.int .i64 (rL k)))=true:=pN.2 (GL _ _ _ _ _ (by kernel_rfl));have J:∃v:List UInt8,fj prog (fo m C) 40 [.int .i64 y] (.str v)/\v.length<=21:=⟨_,qq m C y K,tZ y⟩;have R:=pN.2 (LD J);have l40:(aLs m C y).length<=21:=uD (m:=m) (C:=C) 21 40 [.int .i64 y];have l119:(aAd m C L p c).length<=5*L:=uD (m:=m) (C:=C) (5*L) 119 [.ac false p λi=>pJ (c i)];have mx:(4000000000:Nat)<=pK:=by decide
 obtain⟨A,hA⟩:∃A:Bool,A=decide (0<p):=⟨_,rfl⟩;obtain⟨M,z,hM⟩:∃M:Nat,M<4/\(M=0/\k=15\/M=1/\k=26/\y≠0\/M=2/\k=26/\y=0\/M=3/\k≠15/\k≠26):=by
  by_cases a:k=15;exact⟨0,by omega,.inl ⟨rfl,a⟩⟩;by_cases b:k=26;by_cases d:y=0;exact⟨2,by omega,.inr (.inr (.inl ⟨rfl,b,d⟩))⟩;exact⟨1,by omega,.inr (.inl ⟨rfl,b,d⟩)⟩;exact⟨3,by omega,.inr (.inr (.inr ⟨rfl,a,b⟩))⟩
 have l0:(m9 m C L s p c A).length<=5*L+60:=by unfold m9;split<;>omega
 have lC:(nb m C L y s p c A M).length<=5*L+83:=by
  unfold nb;split;simp only[aU,aZ,bL];omega;omega
 have u:oU (n7 m C L k y s n w p c o A)=true:=by
  unfold n7;have r:oU [!(k==2),!(k==1),!decide (rL k<9),!(rL k==4),!(k==25),!(k==16),!(k==3),!decide (rL k<o),pb (fj prog (fo m C) 118 [mE k y s n w p c] (.int .i64 (rL k)))]=true:=by
   have f:∀j:Int,k≠j->(k==j)=false:=λj h=>beq_eq_false_iff_ne.2 h;rw[h9]at hb x⊢;simp only[oU,x,h9,f 1 h1,f 2 h2,f 3 h3,f 16 Z,f 25 O,cT hb];decide
  split;rename_i e;rw[hA]at e;have e:=cH e;have I:pb (fj prog (fo m C) 119 [.ac false p λi=>pJ (c i)] (.str (aAd m C L p c)))=true:=pN.2 (LD (Y e));simp only[dR,eW,oU,I,cL]at r⊢;rw[show decide ((p:Int)>0)=true from bU (by omega),cL];exact r;rename_i e;rw[hA]at e;simp only[dR,eW,oU]at r⊢;rw[show decide ((p:Int)>0)=false from cT (by simp at e;omega)];exact r
 have B:∀l,oU l=true->oU (mF m C L y s p c A++l)=true:=λl Y=>by
  unfold mF;simp only[dR,eW,oU,R,cL,aA,aF,aU,aZ,bL];exact⟨by omega,by omega,Y⟩
 have N:oU (tu m C L k y s p c A M++n7 m C L k y s n w p c o A)=true:=by
  rcases hM with⟨rfl,rfl⟩|⟨rfl,rfl,K⟩|⟨rfl,rfl,rfl⟩|⟨rfl,a,b⟩
  show oU ((mF m C L y s p c A++_)++_)=true;rw[eJ];exact B _ u;show oU (((mF m C L y s p c A++[y !=0,_,_,_,_,_,_])++_)++_)=true;rw[eJ,eJ];refine B _ ?_;rw[show(y !=0)=true by simpa using K];exact u;exact u;show oU ([true,!(k==15),!(k==26),!(k==15),!(k==26),!(k==26),!(k==26)]++List.replicate 4 (!(k==15))++_)=true;rw[show(k==15)=false by simpa using a,show(k==26)=false by simpa using b];exact u
 refine⟨if kQ.all (λe=> !Hi k e)then []else((mD k++[40])++nb m C L y s p c A M)++[41],LU (E:=(DT m C L).env) (qN m C) (f:=76) (by kernel_rfl) func76 (c:=pO f76) (by kernel_rfl) (k:=40) (by kernel_rfl)
  (aKj follows (zK m C L) (aFk L) (yz m C L k y s n w p c o A M z) N ?_),?_⟩
 have S:gj prog (DT m C L).env none 0 aSz (Pk (n8 m C L k y s n w p c o A M)) ⟨0,.nl⟩ (KR prog f76 40 (.str (if kQ.all (λe=> !Hi k e)then []else((mD k++[40])++nb m C L y s p c A M)++[41]))):=by
  rw[y6 m C L k y s n w p c o A M z];exact bEk L _ _ _ _ k _ _ (by omega)
 exact S;split;simp;have:(mD k).length<=8:=by
  unfold mD;cases hf:kQ.find? (Hi k)with
  |none=>simp|some e=>obtain⟨i,s,k',a,rfl,q,_⟩:=aHj e (eO hf);simp only;omega
 simp only[aU,aZ,bL];omega
end
end
end Go.Proofs.Tryz
