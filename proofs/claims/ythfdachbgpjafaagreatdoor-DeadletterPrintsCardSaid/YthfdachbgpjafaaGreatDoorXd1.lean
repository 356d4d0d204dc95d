/- Lemmas for the card; no conditions. -/
import Derived.Test.YthfdachbgpjafaaGreatDoorXd0
import Derived.LoopN
import Derived.Scope
import Derived.OrdersIn
import Derived.LoopNIn
import Derived.TacticsIn
import Derived.IntWalk
import Derived.Laws.IdiomRangeMap
import Derived.Laws.RangeString
import Derived.RangeFuncNested
import Derived.RangeFuncLeaves
import Derived.RangeFuncCalls
set_option linter.all false
namespace Go.Ps
abbrev iP:=Array Bool
def Ld(a:iP)(i:Nat):Prop:=a.getD i false=true
theorem IP{a:iP}{i j:Nat}(b:i<a.size):Ld (a.setIfInBounds i true) j↔Ld a j\/j=i:=by
 unfold Ld;by_cases h:i=j;subst h;simp[b];rw[getD_set_ne false h];simp[Ne.symm h]
theorem zV{a:iP}{i:Nat}:a.getD i true=false↔i<a.size/\¬Ld a i:=by
 unfold Ld;by_cases h:i<a.size;simp[h];simp[h]
theorem SE(acc:gU)(j:Nat):∀(l:List Edge) (s:Nat),(l.foldl (λs e=>if Region.binds .any e then s|||(2^e.on|||acc.getD e.on 0)else s) s).testBit j=true->
  s.testBit j=true\/∃e∈l,Region.binds .any e=true/\(j=e.on\/(acc.getD e.on 0).testBit j=true)
 |[],s,h=> .inl h
 |e::l,s,h=>by
  rw[List.foldl_cons]at h;rcases SE acc j l _ h with h|⟨f,a,d⟩
  split at h;rename_i b;rw[Nat.testBit_or,Nat.testBit_or,bO,bO]at h;rcases h with h|h|h
  exact .inl h;refine .inr ⟨e,by simp,b,.inl ?_⟩;rw[Nat.testBit_two_pow]at h;exact(cH h).symm;exact .inr ⟨e,by simp,b,.inr h⟩;exact .inl h;exact .inr ⟨f,by simp[a],d⟩
theorem PM:∀(l:hU) (a:gU),(tU l a).take a.length=a/\(tU l a).length=a.length+l.length
 |[],a=>by simp[tU]
 |o::l,a=>by
  have i:=PM l (a++[xZ a o]);simp only[tU];refine⟨?_,by rw[i.2];simp;omega⟩;have h:=i.1;have:((tU l (a++[xZ a o])).take (a++[xZ a o]).length).take a.length=a:=by rw[h];simp
  rw[List.take_take]at this
  rwa [show min a.length (a++[xZ a o]).length=a.length by simp]at this
theorem Wv:∀(l:hU) (a:gU) (i:Nat) (o:Oper),l[i]? =some o->(tU l a)[a.length+i]? =some (xZ ((tU l a).take (a.length+i)) o)
 |[],a,i,o,h=>by simp at h
 |x::l,a,0,o,h=>by
  simp at h;subst h;have d:=PM l (a++[xZ a x]);have b:=PM (x::l) a;simp only[tU]at b⊢;simp only[fW];rw[b.1];have:((tU l (a++[xZ a x])).take (a++[xZ a x]).length)[a.length]? =some (xZ a x):=by rw[d.1];simp
  rw[bJ]at this;split at this;exact this;cases this
 |x::l,a,i+1,o,h=>by
  simp at h;have:=Wv l (a++[xZ a x]) i o h;simp only[tU];simp only[aU,aZ,bL,cG]at this;rw[show a.length+(i+1)=a.length+1+i by omega];exact this
theorem aCo{a:gF}{i j:Nat}{o:Oper}(s:a[i]? =some o)(h:uU (tU a.toList []) i j=true):
  ∃e∈o.after,Region.binds .any e=true/\(j=e.on\/(e.on<i/\uU (tU a.toList []) e.on j=true)):=by
 have d:=Wv a.toList [] i o (by simpa using s);simp only[bL,cG]at d;unfold uU at h;rw[bC,d]at h;simp only[fP]at h;unfold xZ at h;rcases SE _ j _ 0 h with h|⟨e,q,f,h⟩
 simp at h;refine⟨e,by simpa using q,f,h.imp id λh=> ?_⟩;rw[bC,bJ]at h;split at h;rename_i b;exact⟨b,by unfold uU;rw[bC];exact h⟩;simp at h
def Ku(b:gF)(a:iP):Prop:=∀i o,b[i]? =some o->Ld a i->∀e∈o.after,Region.binds .any e=true->Ld a e.on
theorem uX{b:gF}{a:iP}(C:Ku b a)(v:a.size=b.size):∀(i:Nat) (o:Oper),b[i]? =some o->(∀e∈o.after,Region.binds .any e=true->Ld a e.on)->∀j,uU (tU b.toList []) i j=true->Ld a j:=by
 intro i
 induction i using Nat.strongRecOn with
 |_ i z=>
  intro o x f j B;obtain⟨e,w,y,h⟩:=aCo x B;have s:=f e w y;rcases h with rfl|⟨u,h⟩
  exact s;have d:e.on<b.size:=by
   have:e.on<a.size:=by
    unfold Ld at s;by_cases q:e.on<a.size;exact q;simp[q]at s
   omega
  exact z e.on u (b[e.on]) (by simp[d]) (C e.on _ (by simp[d]) s) j h
theorem BX{a:gF}(h:DW a=true){i:Nat}{o:Oper}(j:a[i]? =some o):∀e∈o.after,Region.binds .any e=true->e.on<i:=by
 intro e d b;unfold DW at h;rw[aP]at h;have f:(o,i)∈a.toList.zipIdx:=by
  rw[List.mem_iff_getElem?];exact⟨i,by simp[j]⟩
 have:=h _ f;rw[aP]at this;have:=this e (by simpa using d);simp[b]at this;exact this
theorem xC{a:gF}{A:gU}(h:Vv a A=true){i j:Nat}{f s:Oper}(x:a[i]? =some f)(u:a[j]? =some s)(e:i≠j){d:Tmp}(v:s.dst=some d)(y:d∈yZ a f):
  (j<i->uU A i j=true)/\(i<j->uU A j i=true):=by
 unfold Vv at h;rw[aP]at h;have q:∀{k:Nat} {o:Oper},a[k]? =some o->(o,k)∈a.toList.zipIdx:=λ{k o} w=>by
  rw[List.mem_iff_getElem?];exact⟨k,by simp[w]⟩
 have:=h _ (q x);rw[aP]at this;have:=this _ (q u);simp only[v,bO,bN,bQ]at this;rcases this with h|h|h
 exact absurd h e;exact absurd (List.contains_iff_mem.2 y) (by rw[h];simp);constructor;intro b;rw[aJ b]at h;exact h;intro b;rw[aH (by omega)]at h;exact h
theorem FC{A:gU}{m n:Nat}(h:rG A m n=true){i j:Nat}(b:m<=i)(d:i<n)(a:j<i):uU A i j=true:=by
 unfold rG at h;rw[aP]at h;have:=h i (by rw[List.mem_range'_1];omega);rw[aP]at this;exact this j (by simpa using a)
def VV(a:iP):Nat:=a.toList.count false
theorem NI{a:iP}{i:Nat}(h:a.getD i true=false):VV (a.setIfInBounds i true)+1=VV a:=by
 obtain⟨e,j⟩:=zV.1 h;have b:i<a.toList.length:=by simpa using e
 have d:a.toList[i]=false:=by simpa [e]using h
 unfold VV;rw[Array.toList_setIfInBounds,List.count_set b];have f:0<a.toList.count false:=List.count_pos_iff.2 (by rw[<-d];exact cC b);rw[d];simp only[beq_self_eq_true,cB];have:(true==false)=false:=rfl;rw[this];simp only[bI,cN];omega
theorem LC{a:iP}(h:VV a=0){i:Nat}(b:i<a.size):Ld a i:=by
 unfold VV at h;rw[List.count_eq_zero]at h;unfold Ld;have:a.toList[i]'(by simpa using b)≠false:=λq=>h (by rw[<-q];exact cC _);simpa [b]using this
theorem LF{a:iP}(h:∀i,i<a.size->Ld a i):VV a=0:=by
 unfold VV;rw[List.count_eq_zero];intro e;obtain⟨i,f,d⟩:=bX e;have b:i<a.size:=by simpa using f
 have:=h i b;unfold Ld at this;simp[b]at this d;rw[this]at d;cases d
theorem bGg(p:Nat->Prop):∀n,(∃i,i<n/\p i)->∃i,i<n/\p i/\∀j,j<i->¬p j:=by
 intro n
 induction n with
 |zero=>rintro⟨i,s,_⟩;omega
 |succ n d=>
  rintro⟨i,s,b⟩;rcases Classical.em (∃i,i<n/\p i)with h|h
  obtain⟨i,u,o,e⟩:=d h;exact⟨i,by omega,o,e⟩;have:i=n:=by
   rcases eG i n with q|q;exact absurd ⟨i,q,b⟩ h;omega
  subst this;exact⟨i,by omega,b,λj f a=>h ⟨j,f,a⟩⟩
theorem MN{b:gF}{a:iP}(s:DW b=true)(w:a.size=b.size)(h:0<VV a):Region.ready .any b a≠[]:=by
 have d:∃i,i<b.size/\¬Ld a i:=by
  rcases Classical.em (∃i,i<b.size/\¬Ld a i)with q|q;exact q;have:VV a=0:=LF λi z=>dJ λy=>q ⟨i,by omega,y⟩;omega
 obtain⟨i,j,x,v⟩:=bGg (λi=>¬Ld a i) b.size d;have:i∈Region.ready .any b a:=by
  refine mem_ready.2 ⟨zV.2 ⟨by omega,x⟩,b[i],by simp[j],λe u f=> ?_⟩;have:=BX s (i:=i) (o:=b[i]) (by simp[j]) e u f;exact dJ λq=>v e.on this q
 intro e;rw[e]at this;cases this
section
variable{P:gD}{ops:gF}{Q:gJ}
theorem Qr(O:DW ops=true){m:Nat}(M:rG (tU ops.toList []) m ops.size=true):∀(r i:Nat) (b:iP) (a:Act) (w:iG),i+r=ops.size->m<=i->b.size=ops.size->
  (∀j,Ld b j↔j<i)->wpOps P ops Q (List.range' i r) a w->wpAny P .any ops Q r b a w:=by
 intro r
 induction r with
 |zero=>
  intro i b a w J _ f d h;refine⟨?_,h⟩;rcases B:Region.ready .any ops b with _ |⟨x,xs⟩
  rfl;have hx:x∈Region.ready .any ops b:=by rw[B];simp
  obtain⟨C,o,y,_⟩:=mem_ready.1 hx;have v:x<ops.size:=(aX.1 y).1;exact absurd ((d x).2 (by omega)) (zV.1 C).2
 |succ r U=>
  intro i b a w J V f d h;have s:Ku ops b:=λk o ho L e z u=>(d e.on).2 (by have:=BX O ho e z u;have:=(d k).1 L;omega);refine⟨λB=> ?_,λk L=> ?_⟩;have R:i∈Region.ready .any ops b:=by
   refine mem_ready.2 ⟨zV.2 ⟨by omega,λq=>by have:=(d i).1 q;omega⟩,ops[i]'(by omega),by simp,λe z u=> ?_⟩;exact(d e.on).2 (BX O (i:=i) (o:=ops[i]'(by omega)) (by simp) e z u)
  rw[B]at R;cases R;obtain⟨C,o,y,h3⟩:=mem_ready.1 L;have v:k<ops.size:=(aX.1 y).1;have I:i<=k:=by
   rcases eG k i with q|q;exact absurd ((d k).2 q) (zV.1 C).2;exact q
  have:k=i:=by
   rcases dS I with q|q;exact q.symm;have W:=FC M (i:=k) (j:=i) (by omega) v q;have:=uX s f k o y h3 i W;have:=(d i).1 this;omega
  subst this;rw[fC,wpOps_cons]at h;refine wpOp_mono (λa w hh=>U (k+1) (b.setIfInBounds k true) a w (by omega) (by omega) (by simpa using f) (λj=> ?_) hh) h;rw[IP (by omega),d j];omega
end
section
variable(P:gD)(E:uW)(F:Fc)(ops:gF)
def yN(s:Fx)(o:Oper)(a:Fx):Prop:=
 (∀d t,s.fq=some (d,t)->rQ ops o d=false)/\(∀d,o.dst=some d->d<s.fr.length)/\
 ((pX ops s.fr o=true/\∃v,pS P E (CH F o) s.H s.fr o=some v/\a={s with fr:=pW s.fr o.dst v})\/
  (pX ops s.fr o=true/\∃t d n z,o.op= .alloc t/\o.dst=some d/\s.fq=none/\uI P t=some n/\wM P t=some z/\z.cells.length=n/\a={s with fr:=s.fr.set d oS,fq:=some (d,t)})\/
  (pX ops s.fr o=false/\a={s with fr:=pW s.fr o.dst oS}))
def RZ(m:Nat)(S:Nat->Fx):Prop:=∀i,i<m->∃o,ops[i]? =some o/\yN P E F ops (S i) o (S (i+1))
end
section
variable{P:gD}{E:uW}{F:Fc}{ops:gF}
theorem Qu:∀(l:hU) (m:Nat) (s b:Fx),(∀j,l[j]? =ops[m+j]?)->qI P E F ops l m s=some b->
  ∃(k:Nat) (S:Nat->Fx),k<=l.length/\S 0=s/\(∀i,i<k->∃o,l[i]? =some o/\yN P E F ops (S i) o (S (i+1)))/\
   ((k=l.length/\(S k).fq=none/\b=S k)\/(k<l.length/\rG (tU ops.toList []) (m+k) ops.size=true/\pU P E F ops (l.drop k) (S k)=some b))
 |[],m,s,b,_,h=>by
  simp only[qI]at h;split at h;rename_i M;cases h;exact⟨0,λ_ =>s,by simp,rfl,λi hi=>by omega,.inl ⟨rfl,M,rfl⟩⟩;cases h
 |o::l,m,s,b,hl,h=>by
  have h0:ops[m]? =some o:=by simpa using(hl 0).symm
  have C:∀j,l[j]? =ops[m+1+j]? :=λj=>by have:=hl (j+1);simpa [dT,Nat.add_comm 1 j]using this
  have stop:rG (tU ops.toList []) m ops.size=true->pU P E F ops (o::l) s=some b->_ :=λh1 R=>
   (⟨0,λ_ =>s,by simp,rfl,λi hi=>by omega,.inr ⟨by simp,h1,R⟩⟩:∃(k:Nat) (S:Nat->Fx),k<=(o::l).length/\S 0=s/\(∀i,i<k->∃f,(o::l)[i]? =some f/\yN P E F ops (S i) f (S (i+1)))/\
   ((k=(o::l).length/\(S k).fq=none/\b=S k)\/(k<(o::l).length/\rG (tU ops.toList []) (m+k) ops.size=true/\pU P E F ops ((o::l).drop k) (S k)=some b)))
  have go:∀B,yN P E F ops s o B->qI P E F ops l (m+1) B=some b->∃(k:Nat) (S:Nat->Fx),k<=(o::l).length/\S 0=s/\(∀i,i<k->∃f,(o::l)[i]? =some f/\yN P E F ops (S i) f (S (i+1)))/\
   ((k=(o::l).length/\(S k).fq=none/\b=S k)\/(k<(o::l).length/\rG (tU ops.toList []) (m+k) ops.size=true/\pU P E F ops ((o::l).drop k) (S k)=some b)):=by
   intro B x W;obtain⟨k,S,h1,R,h3,h4⟩:=Qu l (m+1) B b C W;refine⟨k+1,λi=>match i with|0=>s|i+1=>S i,by simp;omega,rfl,λi hi=> ?_,?_⟩;cases i with
   |zero=>exact⟨o,rfl,by simpa [R]using x⟩|succ i=>obtain⟨f,ho',V⟩:=h3 i (by omega);exact⟨f,by simpa using ho',V⟩
   rcases h4 with⟨e1,e2,U⟩|⟨e1,e2,U⟩
   exact .inl ⟨by simp;omega,e2,U⟩;exact .inr ⟨by simp;omega,by rw[show m+(k+1)=m+1+k by omega];exact e2,by simpa using U⟩
  simp only[qI]at h;split at h
  .split at h
   .rename_i L;exact stop L h
   cases h
  rename_i a;have q:∀d t,s.fq=some (d,t)->rQ ops o d=false:=λd t M=>by
   simp only[KA,M,Bool.not_eq_true]at a;exact a
  split at h;cases h;rename_i u;have e:∀d,o.dst=some d->d<s.fr.length:=λd hd=>by simpa [yR,hd]using u
  split at h;rename_i y;split at h;rename_i v hv;exact go _ ⟨q,e,.inl ⟨y,v,hv,rfl⟩⟩ h;split at h;rename_i d t O;obtain⟨hop,hd⟩:=NB O;split at h;cases h;rename_i I;have w:s.fq=none:=by simpa using I
  split at h;rename_i n z hn hz;split at h;rename_i J;exact go _ ⟨q,e,.inr (.inl ⟨y,t,d,n,z,hop,hd,w,hn,hz,J,rfl⟩)⟩ h;cases h;cases h
  .split at h
   .rename_i L;exact stop L h
   cases h
  rename_i y;exact go _ ⟨q,e,.inr (.inr ⟨by simpa using y,rfl⟩)⟩ h
theorem yN.len{s a:Fx}{o:Oper}(h:yN P E F ops s o a):a.fr.length=s.fr.length/\a.H=s.H:=by
 rcases h.2.2 with⟨_,v,_,rfl⟩|⟨_,t,d,n,z,_,_,_,_,_,_,rfl⟩|⟨_,rfl⟩
 exact⟨by cases o.dst<;>simp[pW],rfl⟩;exact⟨by simp,rfl⟩;exact⟨by cases o.dst<;>simp[pW],rfl⟩
theorem yN.other{s f:Fx}{o:Oper}(h:yN P E F ops s o f){t:Tmp}(b:o.dst≠some t):f.fr[t]? =s.fr[t]? :=by
 rcases h.2.2 with⟨_,v,_,rfl⟩|⟨_,i,d,n,z,_,a,_,_,_,_,rfl⟩|⟨_,rfl⟩
 cases a:o.dst with
 |none=>rfl|some d=>have:d≠t:=λe=>b (by rw[a,e]);simp[pW,dE this]
 have:d≠t:=λe=>b (by rw[a,e]);simp[dE this];cases a:o.dst with
 |none=>rfl|some d=>have:d≠t:=λe=>b (by rw[a,e]);simp[pW,dE this]
theorem yN.fq{s b:Fx}{o:Oper}(h:yN P E F ops s o b):b.fq=s.fq\/(s.fq=none/\∃d t,b.fq=some (d,t)/\o.dst=some d/\o.op= .alloc t):=by
 rcases h.2.2 with⟨_,v,_,rfl⟩|⟨_,f,d,n,z,a,e,i,_,_,_,rfl⟩|⟨_,rfl⟩
 exact .inl rfl;exact .inr ⟨i,d,f,rfl,e,a⟩;exact .inl rfl
variable{m:Nat}{S:Nat->Fx}
theorem RZ.same(h:RZ P E F ops m S){t:Tmp}:∀(k p:Nat),p+k<=m->(∀j o,p<=j->j<p+k->ops[j]? =some o->o.dst≠some t)->(S (p+k)).fr[t]? =(S p).fr[t]? :=by
 intro k
 induction k with
 |zero=>intro p _ _;rfl
 |succ k i=>
  intro p s a;obtain⟨o,f,b⟩:=h (p+k) (by omega);rw[show p+(k+1)=p+k+1 by omega,b.other (a (p+k) o (by omega) (by omega) f)];exact i p (by omega) (λj e d q=>a j e d (by omega))
theorem RZ.len(h:RZ P E F ops m S):∀i,i<=m->(S i).fr.length=(S 0).fr.length/\(S i).H=(S 0).H:=by
 intro i
 induction i with
 |zero=>intro _;exact⟨rfl,rfl⟩
 |succ i a=>
  intro d;obtain⟨o,_,b⟩:=h i (by omega);have:=b.len;have:=a (by omega);exact⟨by omega,by simp_all⟩
theorem RZ.fq(h:RZ P E F ops m S){d:Tmp}{t:gB}:∀(k i:Nat),i+k<=m->(S i).fq=some (d,t)->(S (i+k)).fq=some (d,t):=by
 intro k
 induction k with
 |zero=>intro i _ a;exact a
 |succ k j=>
  intro i q a;obtain⟨o,_,f⟩:=h (i+k) (by omega);have b:=j i (by omega) a;rcases f.fq with e|⟨e,_⟩
  rw[show i+(k+1)=i+k+1 by omega,e];exact b;rw[b]at e;cases e
structure kY(P:gD)(E:uW)(ops:gF)(m:Nat)(S:Nat->Fx)(g0:G)(H0:Hp)(listed:iP)(g:G)(a:Act):Prop where
 sz:listed.size=ops.size
 down:Ku ops listed
 lt:∀i,Ld listed i->i<m
 ok:sJ g
 st:St g (S 0).H
 gl:gn E.gl g
 df:a.defers=[]
 len:a.tmps.size=(S 0).fr.length
 sl:∀(t:Tmp) (i:Nat) (v:gZ) (c:T),i<=m->(∀j o,j<i->ops[j]? =some o->o.dst=some t->Ld listed j)->(∀j o,i<=j->j<m->ops[j]? =some o->o.dst=some t->¬Ld listed j)->
  (S i).fq.map (·.1)≠some t->a.tmps[t]? =some v->(S i).fr[t]? =some c->Rd g v c
 pd:∀(p:Nat) (d:Tmp) (t:gB),p<m->(S p).fq=none->(S (p+1)).fq=some (d,t)->Ld listed p->HF P g0 g (S 0).H a d t
 step:pP H0 g0 (S 0).H g
theorem aGv(hE:rV P E.gl E.pe)(hdr:zQ ops=true){g0:G}{H0:Hp}(htr:RZ P E F ops m S)(hp0:(S 0).fq=none)(hm:m<=ops.size)(hch:m<ops.size->rG (tU ops.toList []) m ops.size=true){Q:gJ}
  (hfin:∀a' g',Inv P E g0 H0 g' a' (S m)->wpOps P ops Q (List.range' m (ops.size-m)) a' g'.w):
  ∀(V:Nat) (s:iP) (a:Act) (g:G),kY P E ops m S g0 H0 s g a->VV s=V->wpAny P .any ops Q V s a g.w:=by
 simp only[zQ,aA]at hdr;obtain⟨⟨hb,_⟩,htm⟩:=hdr;have full:∀(s:iP) (a:Act) (g:G),kY P E ops m S g0 H0 s g a->(∀i,i<m->Ld s i)->Inv P E g0 H0 g a (S m):=by
  intro s a g h hall;have hlen:=htr.len m (bB _);refine⟨h.ok,by rw[hlen.2];exact h.st,h.gl,h.df,⟨by rw[hlen.1];exact h.len,λj v c hj hv hc=> ?_⟩,λd t hpd=> ?_,by rw[hlen.2];exact h.step⟩;exact h.sl j m v c (bB _) (λk o hk _ _ =>hall k hk) (λk o h1 h2=>by omega) hj hv hc
  .
   have:∃p,p<m/\(S p).fq=none/\(S (p+1)).fq=some (d,t):=by
    have key:∀i,i<=m->(S i).fq=some (d,t)->∃p,p<i/\(S p).fq=none/\(S (p+1)).fq=some (d,t):=by
     intro i
     induction i with
     |zero=>intro _ q;rw[hp0]at q;cases q
     |succ i ih=>
      intro hi q;obtain⟨o,_,hs⟩:=htr i (by omega);rcases hs.fq with e|⟨e,_⟩
      obtain⟨p,h1,h2,h3⟩:=ih (by omega) (by rw[<-e];exact q);exact⟨p,by omega,h2,h3⟩;exact⟨i,by omega,e,q⟩
    exact key m (bB _) hpd
   obtain⟨p,h1,h2,h3⟩:=this;have:=h.pd p d t h1 h2 h3 (hall p h1);rw[hlen.2];exact this
 intro V
 induction V with
 |zero=>
  intro s a g h hc;have hall:∀i,i<ops.size->Ld s i:=λi hi=>LC hc (by rw[h.sz];exact hi);have hme:m=ops.size:=by
   rcases eG m ops.size with q|q;have:=h.lt m (hall m q);omega;omega
  have hi:=full s a g h (λi hi=>hall i (by omega));have hq:=hfin a g hi;rw[hme,Nat.sub_self]at hq;refine⟨?_,hq⟩;rcases hr:Region.ready .any ops s with _ |⟨x,xs⟩
  rfl;have hx:x∈Region.ready .any ops s:=by rw[hr];simp
  obtain⟨h1,o,h2,_⟩:=mem_ready.1 hx;exact absurd (hall x (aX.1 h2).1) (zV.1 h1).2
 |succ V ih=>
  intro s a g h hc;refine⟨λhr=>absurd hr (MN hb h.sz (by omega)),λi hi=> ?_⟩;obtain⟨h1,o,h2,h3⟩:=mem_ready.1 hi;have hni:=(zV.1 h1).2;have hio:i<ops.size:=(aX.1 h2).1;have hcl:∀j,uU (tU ops.toList []) i j=true->Ld s j:=uX h.down h.sz i o h2 h3;by_cases him:i<m
  .
   obtain⟨o',ho',hps⟩:=htr i him;rw[h2]at ho';cases ho';have before:∀t,t∈yZ ops o->∀j C,j<i->ops[j]? =some C->C.dst=some t->Ld s j:=λt ht j C hj y B=>
    hcl j ((xC htm h2 y (by omega) B ht).1 hj)
   have behind:∀t,t∈yZ ops o->∀j C,i<j->ops[j]? =some C->C.dst=some t->¬Ld s j:=λt ht j C hj y B W=>
    hni (uX h.down h.sz j C y (h.down j C y W) i ((xC htm h2 y (by omega) B ht).2 hj))
   have notself:∀t,t∈yZ ops o->∀j C,i<=j->ops[j]? =some C->C.dst=some t->¬Ld s j:=λt ht j C hj y B=>by
    rcases dS hj with rfl|hj;exact hni;exact behind t ht j C hj y B
   have M:=htr.len i (by omega);have slot:∀t,t∈o.looksAt ops->(S i).fq.map (·.1)≠some t->∀v c,a.tmps[t]? =some v->(S i).fr[t]? =some c->Rd g v c:=λt ht hpn v c hv hcc=>by
    have hn:t∈yZ ops o:=bZ.2 (.inr ht);exact h.sl t i v c (by omega) (λj C hj y B=>before t hn j C hj y B) (λj C hj _ y B=>notself t hn j C hj y B) hpn hv hcc
   have hnp:∀t,t∈o.looksAt ops->(S i).fq.map (·.1)≠some t:=λt ht q=>by
    cases hp:(S i).fq with
    |none=>rw[hp]at q;cases q
    |some dt=>
     obtain⟨d,ty⟩:=dt;rw[hp]at q;cases q;exact(yF (hps.1 d ty hp)).1 ht
   have getfr:∀t,t∈o.looksAt ops->Rd g (a.tmps.getD t undef) (rW (S i).fr t):=λt ht=>by
    rw[uG];by_cases U:t<(S i).fr.length;have R:t<a.tmps.size:=by rw[h.len,<-M.1];exact U
    have:=slot t ht (hnp t ht) a.tmps[t] (S i).fr[t] (by simp[R]) (by simp[U]);simpa [U,R]using this;have R:¬t<a.tmps.size:=by rw[h.len,<-M.1];exact U
    have e1:a.tmps.getD t undef=undef:=by simp[dD (cQ R)]
    have e2:(S i).fr.getD t oS=oS:=by simp[cA (cQ U)]
    rw[e1,e2];exact Rd.undef
   have hop:∀x∈o.op.operands,∀r,pQ E.gl (S i).fr x=some r->Rd g (a.eval x) r:=λx hx r hr=>by
    cases x with
    |tmp t=>simp only[pQ,aI]at hr;subst hr;exact getfr t (wX hx)|const v=>exact EN g hr|global k=>exact(h.gl k r hr).1|func f=>simp only[pQ,aI]at hr;subst hr;exact Rd.bx fv.nil fv.nil
   have hwant:Region.wanted o (yielded ops a.tmps)=pX ops (S i).fr o:=by
    unfold Region.wanted pX;cases hg:o.guard with
    |none=>rfl
    |some p=>
     obtain⟨j,w⟩:=p;simp only;congr 1;unfold yielded AJ;cases B:(ops[j]?).bind (·.dst)with
     |none=>rfl
     |some d=>
      simp only[eD];have W:=wJ hg B;by_cases U:d<(S i).fr.length;have R:d<a.tmps.size:=by rw[h.len,<-M.1];exact U
      have hv:a.tmps[d]? =some a.tmps[d]:=by simp[R]
      have hcc:(S i).fr[d]? =some (S i).fr[d]:=by simp[U]
      have:=slot d W (hnp d W) _ _ hv hcc;rw[hv,hcc];generalize a.tmps[d]=u at this;generalize (S i).fr[d]=c at this;cases this<;>rfl;have R:¬d<a.tmps.size:=by rw[h.len,<-M.1];exact U
      rw[dD (cQ R),cA (cQ U)]
   have hcnt:VV (s.setIfInBounds i true)=V:=by have:=NI h1;omega
   have J:∀j,Ld (s.setIfInBounds i true) j↔Ld s j\/j=i:=λj=>IP (by rw[h.sz];exact hio)
   have hdown':Ku ops (s.setIfInBounds i true):=λk ok hk W e he hbd=>(J e.on).2 (.inl (by
    rcases(J k).1 W with q|rfl;exact h.down k ok hk q e he hbd
    rw[h2]at hk;cases hk;exact h3 e he hbd))
   have pendkeep:∀(p:Nat) (d:Tmp) (t:gB),p<m->(S p).fq=none->(S (p+1)).fq=some (d,t)->Ld s p->o.dst≠some d:=λp d t hp hn I hlp B=>by
    obtain⟨op,hop',hpp⟩:=htr p hp;have hdst:op.dst=some d:=by
     rcases hpp.fq with e|⟨_,d',t',e1,e2,_⟩;rw[e,hn]at I;cases I;rw[I]at e1;cases e1;exact e2
    have hip:i≠p:=λq=>hni (q▸hlp);rcases eG i p with q|q
    .
     have:=xC htm h2 hop' hip hdst (bZ.2 (.inl (by rw[B];simp)));exact hni (uX h.down h.sz p op hop' (h.down p op hop' hlp) i (this.2 q))
    have hpi:(S i).fq=some (d,t):=by
     have:=htr.fq (i-(p+1)) (p+1) (by omega) I
     rwa [show p+1+(i-(p+1))=i by omega]at this
    exact(yF (hps.1 d t hpi)).2 B
   have next:∀(g':G) (v:gZ) (c:T),fx g g'->sJ g'->Rd g' v c->(∀d,o.dst=some d->(S (i+1)).fr[d]? =some c/\(S (i+1)).fq=(S i).fq)->(o.dst=none->(S (i+1)).fq=(S i).fq)->
     kY P E ops m S g0 H0 (s.setIfInBounds i true) g' (a.put o.dst v):=by
    intro g' v c O hok hv hset hset';have hpe:(S (i+1)).fq=(S i).fq:=by
     cases B:o.dst with
     |none=>exact hset' B|some d=>exact(hset d B).2
    refine⟨by simpa using h.sz,hdown',λj hj=>((J j).1 hj).elim (h.lt j) (λe=>e▸him),hok,h.st.ad O,h.gl.ad O,by rw[sY];exact h.df,?_,?_,?_,h.step.trans O.bi⟩;cases o.dst<;>simp[Act.put,h.len];intro t k u cc hk hw1 hw2 hpn hu hcc;by_cases htd:o.dst=some t
    .
     have hik:i<k:=by
      rcases eG i k with q|q;exact q;exact absurd ((J i).2 (.inr rfl)) (hw2 i o q him h2 htd)
     have hnow:∀j C,i+1<=j->j<k->ops[j]? =some C->C.dst≠some t:=λj C hj1 hj2 y B=>by
      have W:=hw1 j C hj2 y B;rcases(J j).1 W with q|q
      exact behind t (bZ.2 (.inl (by rw[htd];simp))) j C (by omega) y B q;omega
     have hsame:=htr.same (t:=t) (k-(i+1)) (i+1) (by omega) (λj C q1 q2=>hnow j C q1 (by omega));rw[show i+1+(k-(i+1))=k by omega]at hsame;rw[hsame,(hset t htd).1]at hcc;cases hcc;rw[htd]at hu;simp only[Act.put,dH]at hu;split at hu;cases hu;exact hv;cases hu
    have hu':a.tmps[t]? =some u:=by
     cases B:o.dst with
     |none=>rw[B]at hu;exact hu
     |some d=>
      rw[B]at hu;have:d≠t:=λe=>htd (by rw[B,e]);simpa [Act.put,bT this]using hu
    refine(h.sl t k u cc hk (λj C hj y B=> ?_) (λj C hj1 hj2 y B W=>hw2 j C hj1 hj2 y B ((J j).2 (.inl W))) hpn hu' hcc).ad O;rcases(J j).1 (hw1 j C hj y B)with q|rfl
    exact q;rw[h2]at y;cases y;exact absurd B htd;intro p d t hp hn I W;rcases(J p).1 W with q|rfl
    exact((h.pd p d t hp hn I q).ad O).put (pendkeep p d t hp hn I q) v;rw[hpe,hn]at I;cases I
   unfold wpOp;rw[h2];simp only;rw[hwant];rcases hps.2.2 with⟨hw,v,hv,hS⟩|⟨hw,t,d,n,z,hopa,B,hpn,hn,hz,hzl,hS⟩|⟨hw,hS⟩
   rw[aJ hw];left;have hst':St g (S i).H:=by rw[M.2];exact h.st
   refine HP hE h.gl hst' h.ok hv hop _ _ (λu g' O hok hr=>ih _ _ g' (next g' u v O hok hr (λd B=> ?_) (λ_ =>by rw[hS])) hcnt);refine⟨?_,by rw[hS]⟩;rw[hS,B];simp[pW,hps.2.1 d B];rw[aJ hw];left;obtain⟨zv,hzv,hzr⟩:=GG (g:=g) hz
   let g':G:={g with w:={g.w with heap:=g.w.heap.push (.cells zv.cells t)}}
   have O:fx g g':=⟨rfl,rfl,rfl,by simp[g'],λb hb=>by simp only[g'];rw[fN,aH (by omega)],λ_ q=>q,λ_ q=> .inl q,rfl,rfl,rfl⟩;have hok:sJ g':=λb hb=>by have:=h.ok b hb;simp only[g',Array.size_push];omega
   have hrun:(execOp a.eval o).run P g.w= .ok (.value (.pointer (some ⟨g.w.heap.size,0,none⟩))) g'.w:=by
    simp only[execOp,hopa,Instr.alloc,aW,hzv,aL,newVar,newRow,run_newObj,bH];rfl
   unfold Oper.wp;rw[hrun];refine ih _ _ g' ?_ hcnt;have hdl:=hps.2.1 d B;have hdl':d<a.tmps.size:=by rw[h.len,<-M.1];exact hdl
   refine⟨by simpa using h.sz,hdown',λj hj=>((J j).1 hj).elim (h.lt j) (λe=>e▸him),hok,h.st.ad O,h.gl.ad O,by rw[sY];exact h.df,by simp[B,Act.put,h.len],?_,?_,h.step.trans O.bi⟩;intro t' k u cc hk hw1 hw2 hpn' hu hcc;by_cases htd:d=t';subst htd;have hik:i<k:=by
    rcases eG i k with q|q;exact q;exact absurd ((J i).2 (.inr rfl)) (hw2 i o q him h2 B)
   have hpk:(S k).fq=some (d,t):=by
    have h0:(S (i+1)).fq=some (d,t):=by rw[hS]
    have:=htr.fq (k-(i+1)) (i+1) (by omega) h0
    rwa [show i+1+(k-(i+1))=k by omega]at this
   rw[hpk]at hpn';exact absurd rfl hpn';have hu':a.tmps[t']? =some u:=by
    rw[B]at hu;simpa [Act.put,bT htd]using hu
   refine(h.sl t' k u cc hk (λj C hj y hdj=> ?_) (λj C hj1 hj2 y hdj W=>hw2 j C hj1 hj2 y hdj ((J j).2 (.inl W))) hpn' hu' hcc).ad O;rcases(J j).1 (hw1 j C hj y hdj)with q|rfl
   exact q;rw[h2]at y;cases y;rw[B]at hdj;exact absurd (by injection hdj) htd;intro p d' t' hp hnn I W;rcases(J p).1 W with q|rfl
   exact((h.pd p d' t' hp hnn I q).ad O).put (pendkeep p d' t' hp hnn I q) _;rw[hS]at I;simp only[aI,bF]at I;obtain⟨rfl,rfl⟩:=I;have hcz:=hzr.cells;refine⟨g.w.heap.size,zv.cells,?_,h.step.size,λq=> ?_,λl ob W=> ?_,?_,?_⟩;simp only[B,Act.put];rw[dH,aJ hdl'];exact absurd (h.ok _ q) (by omega);have:=h.st.lt W;show g.loc l≠_;omega;simp only[g'];exact Array.getElem?_push_size;rw[hn,<-hzl,<-hcz.1];simp;rw[hw];simp only[bI,cN];refine ih _ _ g (next g undef oS (fx.refl g) h.ok Rd.undef (λd B=> ?_) (λ_ =>by rw[hS])) hcnt;refine⟨?_,by rw[hS]⟩;rw[hS,B];simp[pW,hps.2.1 d B]
  .
   have U:m<ops.size:=by omega
   have hchn:=hch U;have hallj:∀j,j<i->Ld s j:=λj hj=>hcl j (FC hchn (by omega) hio hj);have hie:i=m:=by
    rcases dS (cQ him)with q|q;exact q.symm;have:=h.lt m (hallj m q);omega
   subst hie;have hinv:=full s a g h hallj;have hq:=hfin a g hinv;have hexact:∀j,Ld s j↔j<i:=λj=>⟨h.lt j,hallj j⟩;have hc':VV s=ops.size-i:=by
    have key:∀(r k:Nat) (L:iP),L.size=ops.size->(∀j,Ld L j↔j<k)->k+r=ops.size->VV L=r:=by
     intro r
     induction r with
     |zero=>intro k L hs W hk;exact LF λj hj=>(W j).2 (by omega)
     |succ r ihr=>
      intro k L hs W hk;have hun:L.getD k true=false:=zV.2 ⟨by omega,λq=>by have:=(W k).1 q;omega⟩;have:=ihr (k+1) (L.setIfInBounds k true) (by simpa using hs) (λj=>by rw[IP (by omega),W j];omega) (by omega);have:=NI hun;omega
    exact key (ops.size-i) i s h.sz hexact (by omega)
   rw[show ops.size-i=(ops.size-(i+1))+1 by omega,fC,wpOps_cons]at hq;have hf:V=ops.size-(i+1):=by omega
   rw[hf];refine wpOp_mono (λa w hh=>Qr hb hchn (ops.size-(i+1)) (i+1) (s.setIfInBounds i true) a w (by omega) (by omega) (by simpa using h.sz) (λj=> ?_) hh) hq;rw[IP (by rw[h.sz];exact hio),hexact j];omega
end
section
variable{P:gD}{E:uW}{F:Fc}{ops:gF}
theorem aIg{l:Nat}{u:gC}{o:Oper}{H B:Hp}{own:Bool}(h:lS E.gl l u o=true)(I:∀f,f≠l->B.get f=H.get f):pS P E own H u o=pS P E own B u o:=by
 obtain⟨M,J,R,C,z,guard⟩:=o;cases J<;>simp only[lS]at h<;>try first|rfl|(cases h;done)
 case load t a=>
  simp only[pS];split at h;rename_i x y j;rw[j];rfl;rename_i f y j;rw[j];have:f≠l:=by simpa using h
  simp only[wI,vM,I f this];cases h
 case convert s d x=>
  simp only[pS];split at h;cases h;rename_i O;cases he:pQ E.gl u x with
  |none=>rfl
  |some a=>
   simp only;exact Lz λl W i n e=>O _ _ _ _ (e▸he)
 case call c=>
  simp only[pS,yT];split at h;rename_i w;rw[w];simp only;rw[aP]at h;split;rename_i x t U L V;have q:=h x (by rw[L];simp);split;rename_i a j;rw[j]at q;cases a<;>first|rfl|(simp at q)
  rfl;rfl;rename_i b w v;rw[v];cases b<;>first|rfl|exact absurd rfl w
  cases h
structure Rv(P:gD)(E:uW)(F:Fc)(ops:gF)(H H':Hp)(a b:Prop)(fr:gC)(o:Oper)(fr':gC):Prop where
 dl:∀d,o.dst=some d->d<fr.length
 cs:(pX ops fr o=true/\∃v,(a\/pS P E (CH F o) H fr o=some v)/\(b\/pS P E (CH F o) H' fr o=some v)/\fr'=pW fr o.dst v)\/(pX ops fr o=false/\fr'=pW fr o.dst oS)
structure aWr(P:gD)(E:uW)(H H':Hp)(fr:gC)(o:Oper)(fr':gC):Prop where
 gd:o.guard=none
 ds:o.dst=none
 sf:fr'=fr
 st:∃t x y q v,o.op= .store t x y/\pQ E.gl fr x=some q/\pQ E.gl fr y=some v/\vZ P H t q v=some H'
theorem BW{s:Fx}{o:Oper}(h:¬yR s o=false):∀d,o.dst=some d->d<s.fr.length:=λd a=>by simpa [yR,a]using h
theorem Hv{o:Oper}(h:OD o=true):o.dst=none/\o.guard=none:=by
 unfold OD at h;split at h;exact⟨‹_›,‹_›⟩;cases h
abbrev jF:=Nat->List T
theorem Qi{A:gU}{p l:Nat}{H b:Hp}(C:∀w,w≠l->b.get w=H.get w):∀(a:hU) (m:Nat) (f:gC) (s:Fx),sW P E F ops A p l a m true ⟨f,b,none⟩=some s->
  ∃(n:Nat) (S:jF),n<=a.length/\S 0=f/\(∀i,i<n->∃o,a[i]? =some o/\Rv P E F ops H b (uU A (m+i) p=true) False (S i) o (S (i+1)))/\
   ((n=a.length/\s=⟨S n,b,none⟩)\/(n<a.length/\rG A (m+n) ops.size=true/\pU P E F ops (a.drop n) ⟨S n,b,none⟩=some s))
 |[],m,f,s,h=>by
  simp only[sW,cB]at h;cases h;exact⟨0,λ_ =>f,by simp,rfl,λi B=>by omega,.inl ⟨rfl,rfl⟩⟩
 |o::a,m,f,s,h=>by
  have go:∀d,Rv P E F ops H b (uU A m p=true) False f o d->sW P E F ops A p l a (m+1) true ⟨d,b,none⟩=some s->∃(n:Nat) (S:jF),n<=(o::a).length/\S 0=f/\(∀i,i<n->∃j,(o::a)[i]? =some j/\Rv P E F ops H b (uU A (m+i) p=true) False (S i) j (S (i+1)))/\
   ((n=(o::a).length/\s=⟨S n,b,none⟩)\/(n<(o::a).length/\rG A (m+n) ops.size=true/\pU P E F ops ((o::a).drop n) ⟨S n,b,none⟩=some s)):=by
   intro d M I;obtain⟨n,S,W,R,O,J⟩:=Qi C a (m+1) d s I;refine⟨n+1,λi=>match i with|0=>f|i+1=>S i,by simp;omega,rfl,λi B=> ?_,?_⟩;cases i with
   |zero=>exact⟨o,rfl,by simpa [R]using M⟩|succ i=>obtain⟨j,x,u⟩:=O i (by omega);exact⟨j,by simpa using x,by rw[show m+(i+1)=m+1+i by omega];exact u⟩
   rcases J with⟨L,y⟩|⟨L,y,U⟩
   exact .inl ⟨by simp;omega,y⟩;exact .inr ⟨by simp;omega,by rw[show m+(n+1)=m+1+n by omega];exact y,by simpa using U⟩
  simp only[sW,cL,cB]at h;split at h;rename_i V;exact⟨0,λ_ =>f,by simp,rfl,λi B=>by omega,.inr ⟨by simp,V,h⟩⟩;split at h;cases h;rename_i z;split at h;simp at h;split at h;rename_i e;split at h;rename_i ho;split at h;rename_i v q;rcases bO _ _ |>.mp ho with ho|ho
  exact go _ ⟨BW z,.inl ⟨e,v,.inl ho,.inr q,rfl⟩⟩ h;exact go _ ⟨BW z,.inl ⟨e,v,.inr ((aIg ho C).trans q),.inr q,rfl⟩⟩ h;cases h;cases h;rename_i e;exact go _ ⟨BW z,.inr ⟨by simpa using e,rfl⟩⟩ h
theorem Qo{t:gB}{l b:Nat}{v:T}{H d:Hp}(h:vZ P H t (.ptr l b) v=some d):∀a,a≠l->d.get a=H.get a:=by
 simp only[vZ]at h;split at h;rename_i o n i f;split at h;cases h;intro a e;rw[uN,qP,aH e,<-uN];cases h;cases h
theorem Eo{A:gU}{p l:Nat}{H:Hp}:∀(b:hU) (m:Nat) (j:gC) (s:Fx),uM b m=some p->sW P E F ops A p l b m false ⟨j,H,none⟩=some s->
  ∃(n:Nat) (S:jF) (a:Hp),p<m+n/\m<=p/\n<=b.length/\S 0=j/\(∀d,d≠l->a.get d=H.get d)/\
   (∀i,i<n->∃o,b[i]? =some o/\((m+i=p/\aWr P E H a (S i) o (S (i+1)))\/(m+i≠p/\Rv P E F ops H a (p<m+i/\uU A (m+i) p=true) (m+i<p/\uU A p (m+i)=true) (S i) o (S (i+1)))))/\
   ((n=b.length/\s=⟨S n,a,none⟩)\/(n<b.length/\rG A (m+n) ops.size=true/\pU P E F ops (b.drop n) ⟨S n,a,none⟩=some s))
 |[],m,j,s,R,h=>by simp[sW]at h
 |o::b,m,j,s,R,h=>by
  have go:∀C,uM b (m+1)=some p->(∀a,(∀d,d≠l->a.get d=H.get d)->Rv P E F ops H a False (uU A p m=true) j o C)->sW P E F ops A p l b (m+1) false ⟨C,H,none⟩=some s->
    ∃(n:Nat) (S:jF) (a:Hp),p<m+n/\m<=p/\n<=(o::b).length/\S 0=j/\(∀d,d≠l->a.get d=H.get d)/\
   (∀i,i<n->∃I,(o::b)[i]? =some I/\((m+i=p/\aWr P E H a (S i) I (S (i+1)))\/(m+i≠p/\Rv P E F ops H a (p<m+i/\uU A (m+i) p=true) (m+i<p/\uU A p (m+i)=true) (S i) I (S (i+1)))))/\
   ((n=(o::b).length/\s=⟨S n,a,none⟩)\/(n<(o::b).length/\rG A (m+n) ops.size=true/\pU P E F ops ((o::b).drop n) ⟨S n,a,none⟩=some s)):=by
   intro C f hp he;obtain⟨n,S,a,h0,h0',h1,h2,u,h3,V⟩:=Eo b (m+1) C s f he;refine⟨n+1,λi=>match i with|0=>j|i+1=>S i,a,by omega,by omega,by simp;omega,rfl,u,λi hi=> ?_,?_⟩;cases i with
   |zero=>
    have hq:=hp a u;refine⟨o,rfl,.inr ⟨by omega,hq.dl,?_⟩⟩;simp only[h2];rcases hq.cs with⟨w,v,v1,v2,v3⟩|q
    exact .inl ⟨w,v,v1.imp False.elim id,v2.imp (λz=>⟨by omega,by simpa using z⟩) id,v3⟩;exact .inr q
   |succ i=>
    obtain⟨I,J,B⟩:=h3 i (by omega);refine⟨I,by simpa using J,?_⟩;rcases B with⟨e,q⟩|⟨e,q⟩
    exact .inl ⟨by omega,q⟩;refine .inr ⟨by omega,?_⟩;rw[show m+(i+1)=m+1+i by omega];exact q
   rcases V with⟨e1,L⟩|⟨e1,L,e3⟩
   exact .inl ⟨by simp;omega,L⟩;exact .inr ⟨by simp;omega,by rw[show m+(n+1)=m+1+n by omega];exact L,by simpa using e3⟩
  simp only[sW,Bool.false_and,bI,cN]at h;split at h;cases h;rename_i hd;split at h;rename_i M;have hpm:m=p:=by simpa [uM,M]using R
  obtain⟨s1,s2⟩:=Hv M;split at h;rename_i t x y hop;split at h;rename_i d off v hx hy;split at h;rename_i hl;split at h;rename_i a hs;subst hl;have u:=Qo hs;obtain⟨n,S,h1,h2,h3,V⟩:=Qi (A:=A) (p:=p) (l:=d) u b (m+1) j s h;refine⟨n+1,λi=>match i with|0=>j|i+1=>S i,a,by omega,by omega,by simp;omega,rfl,u,λi hi=> ?_,?_⟩;cases i with
  |zero=>exact⟨o,rfl,.inl ⟨by omega,⟨s2,s1,h2,t,x,y,_,v,hop,hx,hy,hs⟩⟩⟩
  |succ i=>
   obtain⟨I,J,B⟩:=h3 i (by omega);refine⟨I,by simpa using J,.inr ⟨by omega,B.dl,?_⟩⟩;rcases B.cs with⟨w,v,v1,v2,v3⟩|q
   exact .inl ⟨w,v,v1.imp (λz=>⟨by omega,by rw[show m+(i+1)=m+1+i by omega];exact z⟩) id,v2.imp False.elim id,v3⟩;exact .inr q
  rcases V with⟨e1,L⟩|⟨e1,L,e3⟩
  exact .inl ⟨by simp;omega,L⟩;exact .inr ⟨by simp;omega,by rw[show m+(n+1)=m+1+n by omega];exact L,by simpa using e3⟩;cases h;cases h;cases h;cases h;rename_i U;have f:uM b (m+1)=some p:=by simpa [uM,U]using R
  split at h;rename_i O;split at h;rename_i ho;split at h;rename_i v W;rcases bO _ _ |>.mp ho with ho|ho
  exact go _ f (λa u=>⟨BW hd,.inl ⟨O,v,.inr W,.inl ho,rfl⟩⟩) h;exact go _ f (λa u=>⟨BW hd,.inl ⟨O,v,.inr W,.inr ((aIg ho u).symm.trans W),rfl⟩⟩) h;cases h;cases h;rename_i O;exact go _ f (λa u=>⟨BW hd,.inr ⟨by simpa using O,rfl⟩⟩) h
structure ku(P:gD)(E:uW)(F:Fc)(ops:gF)(m p:Nat)(S:jF)(H H':Hp):Prop where
 lt:p<m
 at_ :∀i,i<m->∃o,ops[i]? =some o/\((i=p/\aWr P E H H' (S i) o (S (i+1)))\/(i≠p/\Rv P E F ops H H' (p<i/\uU (tU ops.toList []) i p=true) (i<p/\uU (tU ops.toList []) p i=true) (S i) o (S (i+1))))
variable{m p:Nat}{S:jF}{H H':Hp}
theorem ku.dk(h:ku P E F ops m p S H H'){i:Nat}(a:i<m):(S (i+1)).length=(S i).length:=by
 obtain⟨o,_,h1|h1⟩:=h.at_ i a;rw[h1.2.sf];rcases h1.2.cs with⟨_,v,_,_,e⟩|⟨_,e⟩<;>rw[e]<;>cases o.dst<;>simp[pW]
theorem ku.other(h:ku P E F ops m p S H H'){i:Nat}(f:i<m){t:Tmp}(b:∀o,ops[i]? =some o->o.dst≠some t):(S (i+1))[t]? =(S i)[t]? :=by
 obtain⟨o,j,h1|h1⟩:=h.at_ i f;rw[h1.2.sf]
 .have:=b o j;rcases h1.2.cs with⟨_,v,_,_,e⟩|⟨_,e⟩<;>rw[e]
  all_goals
   cases hd:o.dst with
   |none=>rfl
   | some d => have a:d≠t:=λe=>this (by rw[hd,e])
               simp[pW,dE a]
theorem ku.same(h:ku P E F ops m p S H H'){t:Tmp}:∀(k q:Nat),q+k<=m->(∀j o,q<=j->j<q+k->ops[j]? =some o->o.dst≠some t)->(S (q+k))[t]? =(S q)[t]? :=by
 intro k
 induction k with
 |zero=>intro q _ _;rfl
 |succ k i=>
  intro q s a;rw[show q+(k+1)=q+k+1 by omega,h.other (by omega) (λo e=>a (q+k) o (by omega) (by omega) e)];exact i q (by omega) (λj d b f=>a j d b (by omega))
theorem ku.len(h:ku P E F ops m p S H H'):∀i,i<=m->(S i).length=(S 0).length:=by
 intro i
 induction i with
 |zero=>intro _;rfl|succ i a=>intro b;rw[h.dk (by omega)];exact a (by omega)
structure aNs(P:gD)(E:uW)(ops:gF)(m p:Nat)(S:jF)(H H':Hp)(g0:G)(H0:Hp)(listed:iP)(g:G)(a:Act):Prop where
 sz:listed.size=ops.size
 down:Ku ops listed
 lt:∀i,Ld listed i->i<m
 ok:sJ g
 eb:¬Ld listed p->St g H/\pP H0 g0 H g
 ec:Ld listed p->St g H'/\pP H0 g0 H' g
 gl:gn E.gl g
 df:a.defers=[]
 len:a.tmps.size=(S 0).length
 sl:∀(t:Tmp) (i:Nat) (v:gZ) (c:T),i<=m->(∀j o,j<i->ops[j]? =some o->o.dst=some t->Ld listed j)->(∀j o,i<=j->j<m->ops[j]? =some o->o.dst=some t->¬Ld listed j)->
  a.tmps[t]? =some v->(S i)[t]? =some c->Rd g v c
theorem Sw(hE:rV P E.gl E.pe)(hF:sD P E.gl F.ee)(hdr:zQ ops=true){g0:G}{H0:Hp}(htr:ku P E F ops m p S H H')(hm:m<=ops.size)(hch:m<ops.size->rG (tU ops.toList []) m ops.size=true){Q:gJ}
  (hfin:∀a' O,Inv P E g0 H0 O a' ⟨S m,H',none⟩->wpOps P ops Q (List.range' m (ops.size-m)) a' O.w):
  ∀(C:Nat) (b:iP) (a:Act) (g:G),aNs P E ops m p S H H' g0 H0 b g a->VV b=C->wpAny P .any ops Q C b a g.w:=by
 simp only[zQ,aA]at hdr;obtain⟨⟨hb,_⟩,htm⟩:=hdr;have full:∀(b:iP) (a:Act) (g:G),aNs P E ops m p S H H' g0 H0 b g a->(∀i,i<m->Ld b i)->Inv P E g0 H0 g a ⟨S m,H',none⟩:=by
  intro b a g h U;have hlen:=htr.len m (bB _);have hp:=h.ec (U p htr.lt);refine⟨h.ok,hp.1,h.gl,h.df,⟨by show a.tmps.size=(S m).length;rw[hlen];exact h.len,λj v c _ hv hc=> ?_⟩,λd t q=>(by cases q),hp.2⟩;exact h.sl j m v c (bB _) (λk o hk _ _ =>U k hk) (λk o h1 h2=>by omega) hv hc
 intro C
 induction C with
 |zero=>
  intro b a g h hc;have U:∀i,i<ops.size->Ld b i:=λi hi=>LC hc (by rw[h.sz];exact hi);have hme:m=ops.size:=by
   rcases eG m ops.size with q|q;have:=h.lt m (U m q);omega;omega
  have hi:=full b a g h (λi hi=>U i (by omega));have hq:=hfin a g hi;rw[hme,Nat.sub_self]at hq;refine⟨?_,hq⟩;rcases hr:Region.ready .any ops b with _ |⟨x,xs⟩
  rfl;have hx:x∈Region.ready .any ops b:=by rw[hr];simp
  obtain⟨h1,o,h2,_⟩:=mem_ready.1 hx;exact absurd (U x (aX.1 h2).1) (zV.1 h1).2
 |succ C ih=>
  intro b a g h hc;refine⟨λhr=>absurd hr (MN hb h.sz (by omega)),λi hi=> ?_⟩;obtain⟨h1,o,h2,h3⟩:=mem_ready.1 hi;have hni:=(zV.1 h1).2;have hio:i<ops.size:=(aX.1 h2).1;have hcl:∀j,uU (tU ops.toList []) i j=true->Ld b j:=uX h.down h.sz i o h2 h3;by_cases him:i<m;obtain⟨o',ho',hps⟩:=htr.at_ i him;rw[h2]at ho';cases ho';have before:∀t,t∈yZ ops o->∀j B,j<i->ops[j]? =some B->B.dst=some t->Ld b j:=λt ht j B hj s z=>
   hcl j ((xC htm h2 s (by omega) z ht).1 hj)
  have behind:∀t,t∈yZ ops o->∀j B,i<j->ops[j]? =some B->B.dst=some t->¬Ld b j:=λt ht j B hj s z hl=>
   hni (uX h.down h.sz j B s (h.down j B s hl) i ((xC htm h2 s (by omega) z ht).2 hj))
  have notself:∀t,t∈yZ ops o->∀j B,i<=j->ops[j]? =some B->B.dst=some t->¬Ld b j:=λt ht j B hj s z=>by
   rcases dS hj with rfl|hj;exact hni;exact behind t ht j B hj s z
  have V:=htr.len i (by omega);have slot:∀t,t∈o.looksAt ops->∀v c,a.tmps[t]? =some v->(S i)[t]? =some c->Rd g v c:=λt ht v c hv W=>by
   have hn:t∈yZ ops o:=bZ.2 (.inr ht);exact h.sl t i v c (by omega) (λj B hj s z=>before t hn j B hj s z) (λj B hj _ s z=>notself t hn j B hj s z) hv W
  have getfr:∀t,t∈o.looksAt ops->Rd g (a.tmps.getD t undef) (rW (S i) t):=λt ht=>by
   rw[uG];by_cases J:t<(S i).length;have I:t<a.tmps.size:=by rw[h.len,<-V];exact J
   have:=slot t ht a.tmps[t] (S i)[t] (by simp[I]) (by simp[J]);simpa [J,I]using this;have I:¬t<a.tmps.size:=by rw[h.len,<-V];exact J
   have e1:a.tmps.getD t undef=undef:=by simp[dD (cQ I)]
   have e2:(S i).getD t oS=oS:=by simp[cA (cQ J)]
   rw[e1,e2];exact Rd.undef
  have hop:∀x∈o.op.operands,∀r,pQ E.gl (S i) x=some r->Rd g (a.eval x) r:=λx hx r hr=>by
   cases x with
   |tmp t=>simp only[pQ,aI]at hr;subst hr;exact getfr t (wX hx)|const v=>exact EN g hr|global k=>exact(h.gl k r hr).1|func f=>simp only[pQ,aI]at hr;subst hr;exact Rd.bx fv.nil fv.nil
  have hwant:Region.wanted o (yielded ops a.tmps)=pX ops (S i) o:=by
   unfold Region.wanted pX;cases hg:o.guard with
   |none=>rfl
   |some p=>
    obtain⟨j,w⟩:=p;simp only;congr 1;unfold yielded AJ;cases z:(ops[j]?).bind (·.dst)with
    |none=>rfl
    |some d=>
     simp only[eD];have hl:=wJ hg z;by_cases J:d<(S i).length;have I:d<a.tmps.size:=by rw[h.len,<-V];exact J
     have hv:a.tmps[d]? =some a.tmps[d]:=by simp[I]
     have W:(S i)[d]? =some (S i)[d]:=by simp[J]
     have:=slot d hl _ _ hv W;rw[hv,W];generalize a.tmps[d]=u at this;generalize (S i)[d]=c at this;cases this<;>rfl;have I:¬d<a.tmps.size:=by rw[h.len,<-V];exact J
     rw[dD (cQ I),cA (cQ J)]
  have hcnt:VV (b.setIfInBounds i true)=C:=by have:=NI h1;omega
  have R:∀j,Ld (b.setIfInBounds i true) j↔Ld b j\/j=i:=λj=>IP (by rw[h.sz];exact hio)
  have hdown':Ku ops (b.setIfInBounds i true):=λk ok hk hl e he hbd=>(R e.on).2 (.inl (by
   rcases(R k).1 hl with q|rfl;exact h.down k ok hk q e he hbd
   rw[h2]at hk;cases hk;exact h3 e he hbd))
  have slots:∀(O:G) (v:gZ) (c:T),(∀u t,Rd g u t->Rd O u t)->Rd O v c->(∀d,o.dst=some d->(S (i+1))[d]? =some c)->
    ∀(t:Tmp) (k:Nat) (u:gZ) (cc:T),k<=m->(∀j o',j<k->ops[j]? =some o'->o'.dst=some t->Ld (b.setIfInBounds i true) j)->(∀j o',k<=j->j<m->ops[j]? =some o'->o'.dst=some t->¬Ld (b.setIfInBounds i true) j)->
     (a.put o.dst v).tmps[t]? =some u->(S k)[t]? =some cc->Rd O u cc:=by
   intro O v c hkeep hv hset t k u cc hk hw1 hw2 hu W;by_cases htd:o.dst=some t;have hik:i<k:=by
    rcases eG i k with q|q;exact q;exact absurd ((R i).2 (.inr rfl)) (hw2 i o q him h2 htd)
   have hnow:∀j B,i+1<=j->j<k->ops[j]? =some B->B.dst≠some t:=λj B hj1 hj2 s z=>by
    have hl:=hw1 j B hj2 s z;rcases(R j).1 hl with q|q
    exact behind t (bZ.2 (.inl (by rw[htd];simp))) j B (by omega) s z q;omega
   have hsame:=htr.same (t:=t) (k-(i+1)) (i+1) (by omega) (λj B q1 q2=>hnow j B q1 (by omega));rw[show i+1+(k-(i+1))=k by omega]at hsame;rw[hsame,hset t htd]at W;cases W;rw[htd]at hu;simp only[Act.put,dH]at hu;split at hu;cases hu;exact hv;cases hu;have hu':a.tmps[t]? =some u:=by
    cases z:o.dst with
    |none=>rw[z]at hu;exact hu
    |some d=>
     rw[z]at hu;have:d≠t:=λe=>htd (by rw[z,e]);simpa [Act.put,bT this]using hu
   refine hkeep _ _ (h.sl t k u cc hk (λj B hj s z=> ?_) (λj B hj1 hj2 s z hl=>hw2 j B hj1 hj2 s z ((R j).2 (.inl hl))) hu' W);rcases(R j).1 (hw1 j B hj s z)with q|rfl
   exact q;rw[h2]at s;cases s;exact absurd z htd
  have lens:∀v,(a.put o.dst v).tmps.size=(S 0).length:=λv=>by cases o.dst<;>simp[Act.put,h.len]
  have lts:∀j,Ld (b.setIfInBounds i true) j->j<m:=λj hj=>((R j).1 hj).elim (h.lt j) (λe=>e▸him);unfold wpOp;rw[h2];simp only;rw[hwant];rcases hps with⟨hip,hB⟩|⟨hip,hA⟩
  .
   subst hip;obtain⟨M,hss⟩:=h.eb hni;obtain⟨t,x,y,q,v,ho,hx,hy,hs⟩:=hB.st;have hw:pX ops (S i) o=true:=by unfold pX;rw[hB.gd]
   rw[aJ hw];left;have he:xW P E F H (S i) o=some (oS,H'):=by simp only[xW,ho,hx,hy,hs]
   refine TR hF h.gl M h.ok he hop _ _ (λu O hsst hok hst' hr=>ih _ _ O ?_ hcnt);refine⟨by simpa using h.sz,hdown',lts,hok,λq=>absurd ((R i).2 (.inr rfl)) q,λ_ =>⟨hst',hss.trans hsst⟩,h.gl.af M hsst,by rw[sY];exact h.df,lens u,?_⟩;exact slots O u oS (λ_ _ q=>q.af M hsst) hr (λd z=>by rw[hB.ds]at z;cases z)
  .
   have iz:∀(O:G) (v:gZ) (c:T),fx g O->sJ O->Rd O v c->(∀d,o.dst=some d->(S (i+1))[d]? =some c)->aNs P E ops m p S H H' g0 H0 (b.setIfInBounds i true) O (a.put o.dst v):=by
    intro O v c M hok hv hset;have hpi:Ld (b.setIfInBounds i true) p↔Ld b p:=⟨λq=>((R p).1 q).elim id λe=>absurd e.symm hip,λq=>(R p).2 (.inl q)⟩
    exact⟨by simpa using h.sz,hdown',lts,hok,λq=>by have:=h.eb (λr=>q (hpi.2 r));exact⟨this.1.ad M,this.2.trans M.bi⟩,
     λq=>by have:=h.ec (hpi.1 q);exact⟨this.1.ad M,this.2.trans M.bi⟩,h.gl.ad M,by rw[sY];exact h.df,lens v,slots O v c (λ_ _ q=>q.ad M) hv hset⟩
   rcases hA.cs with⟨hw,v,hv,hv',hS⟩|⟨hw,hS⟩
   rw[aJ hw];left;have fin:∀u O,fx g O->sJ O->Rd O u v->wpAny P .any ops Q C (b.setIfInBounds i true) (a.put o.dst u) O.w:=λu O M hok hr=>
    ih _ _ O (iz O u v M hok hr (λd z=>by rw[hS,z];simp[pW,hA.dl d z])) hcnt
   by_cases hlp:Ld b p;rcases hv' with⟨_,hpr⟩|hv'
   obtain⟨op,hop',_⟩:=htr.at_ p htr.lt;exact absurd (uX h.down h.sz p op hop' (h.down p op hop' hlp) i hpr) hni;exact HP hE h.gl (h.ec hlp).1 h.ok hv' hop _ _ fin;rcases hv with⟨_,hpr⟩|hv
   exact absurd (hcl p hpr) hlp;exact HP hE h.gl (h.eb hlp).1 h.ok hv hop _ _ fin;rw[hw];simp only[bI,cN];exact ih _ _ g (iz g undef oS (fx.refl g) h.ok Rd.undef (λd z=>by rw[hS,z];simp[pW,hA.dl d z])) hcnt
  have J:m<ops.size:=by omega
  have hchn:=hch J;have hallj:∀j,j<i->Ld b j:=λj hj=>hcl j (FC hchn (by omega) hio hj);have hie:i=m:=by
   rcases dS (cQ him)with q|q;exact q.symm;have:=h.lt m (hallj m q);omega
  subst hie;have hinv:=full b a g h hallj;have hq:=hfin a g hinv;have hexact:∀j,Ld b j↔j<i:=λj=>⟨h.lt j,hallj j⟩;have hc':VV b=ops.size-i:=by
   have key:∀(r k:Nat) (L:iP),L.size=ops.size->(∀j,Ld L j↔j<k)->k+r=ops.size->VV L=r:=by
    intro r
    induction r with
    |zero=>intro k L hs hl hk;exact LF λj hj=>(hl j).2 (by omega)
    |succ r ihr=>
     intro k L hs hl hk;have hun:L.getD k true=false:=zV.2 ⟨by omega,λq=>by have:=(hl k).1 q;omega⟩;have:=ihr (k+1) (L.setIfInBounds k true) (by simpa using hs) (λj=>by rw[IP (by omega),hl j];omega) (by omega);have:=NI hun;omega
   exact key (ops.size-i) i b h.sz hexact (by omega)
  rw[show ops.size-i=(ops.size-(i+1))+1 by omega,fC,wpOps_cons]at hq;have hf:C=ops.size-(i+1):=by omega
  rw[hf];refine wpOp_mono (λa w hh=>Qr hb hchn (ops.size-(i+1)) (i+1) (b.setIfInBounds i true) a w (by omega) (by omega) (by simpa using h.sz) (λj=> ?_) hh) hq;rw[IP (by rw[h.sz];exact hio),hexact j];omega
end
noncomputable section
structure qK(E:uW)(g0:G)(H0:Hp)(g:G)(a:Act)(fr:gC)(H:Hp):Prop where
 ok:sJ g
 st:St g H
 gl:gn E.gl g
 df:a.defers=[]
 fr:fv g a.tmps.toList fr
 step:pP H0 g0 H g
def X.au :X->Exit
 | .normal=> .normal| .exit id=> .exit id| .ret=> .ret
section
variable{P:gD}{E:uW}{F:Fc}
theorem qK.toInv{b g:G}{e H:Hp}{a:Act}{f:gC}(h:qK E b e g a f H):Inv P E g H g a ⟨f,H,none⟩:=
 ⟨h.ok,h.st,h.gl,h.df,EX.of h.fr none,λd t q=>(by cases q),pP.refl H g⟩
theorem Inv.cj{d e g:G}{f b:Hp}{a:Act}{s:Fx}(j:pP f d b e)(h:Inv P E e b g a s)(i:s.fq=none):qK E d f g a s.fr s.H:=
 ⟨h.ok,h.st,h.gl,h.df,EX.all (by have:=h.fr;rw[i]at this;exact this),j.trans h.step⟩
theorem SW(hE:rV P E.gl E.pe)(hF:sD P E.gl F.ee){f:gF}{C:Bool}(hok:C=true->zQ f=true){fr fr':gC}{H H':Hp}
  (U:(if C then rR P E F f fr H else pU P E F f f.toList ⟨fr,H,none⟩)=some ⟨fr',H',none⟩) {g0 g:G} {H0:Hp} {a:Act} (hc:qK E g0 H0 g a fr H)
  {Q:gJ} (hQ:∀L O,qK E g0 H0 O L fr' H'->Q .normal L O.w):
  (if C then wpAny P .any f Q f.size (Array.replicate f.size false) a {g.w with drawn:=g.w.drawn+1}else wpOps P f Q (List.range f.size) a g.w):=by
 cases C with
 |false=>
  simp only[bI,cN]at U⊢;have:=Js (P:=P) (E:=E) (F:=F) (g0:=g) (H0:=H) hE hF f.toList 0 _ _ a g (λj=>by simp) hc.toInv U (λL O I=>hQ L O (I.cj hc.step rfl))
  rwa [cW,<-List.range_eq_range']at this
 |true=>
  simp only[cB]at U⊢
  let M:G:={g with w:={g.w with drawn:=g.w.drawn+1}}
  have hp:fx g M:=⟨rfl,rfl,rfl,bB _,λ_ _ =>rfl,λ_ h=>h,λ_ h=> .inl h,rfl,rfl,rfl⟩;have hd:=hok rfl;have s:qK E g0 H0 M a fr H:=⟨hc.ok,hc.st.ad hp,hc.gl.ad hp,hc.df,hc.fr.ad hp,hc.step.trans hp.bi⟩;have hcnt:VV (Array.replicate f.size false)=f.size:=by simp[VV]
  have B:∀i,¬Ld (Array.replicate f.size false) i:=λi y=>by
   unfold Ld at y;by_cases q:i<f.size<;>simp[q]at y
  unfold rR at U;split at U
  .
   split at U;rename_i b p hb hfs;split at U;rename_i l hgt;obtain⟨m,S,H1,hpm,_,hml,z,hh,htr,x⟩:=Eo (P:=P) (E:=E) (F:=F) (ops:=f) f.toList 0 fr _ hfs U;simp only[cG]at hpm htr x;have V:m<=f.size:=by simpa using hml
   have u:ku P E F f m p S H H1:=⟨hpm,λi I=>by
    obtain⟨o,J,hps⟩:=htr i I
    exact⟨o,by simpa using J,hps⟩⟩
   have R:aNs P E f m p S H H1 M H (Array.replicate f.size false) M a:=by
    refine⟨by simp,λi o J y=>absurd y (B i),λi y=>absurd y (B i),s.ok,λ_ =>⟨s.st,pP.refl H M⟩,λy=>absurd y (B p),s.gl,s.df,by rw[z];have:=s.fr.1;simpa using this,?_⟩;intro t i v c I h1 h2 hv W;have hno:∀j o,j<i->f[j]? =some o->o.dst≠some t:=λj o hj J hdd=>absurd (h1 j o hj J hdd) (B j);have:=u.same (t:=t) i 0 (by omega) (λj o _ hj J=>hno j o (by omega) J);rw[cG]at this;rw[this,z]at W;exact s.fr.2 t v c (by simpa using hv) W
   refine Sw hE hF hd u V (λhlt=> ?_) (λL O I=> ?_) f.size _ a M R hcnt;rcases x with⟨e,_⟩|⟨_,e,_⟩
   simp at e;omega;simpa using e;rcases x with⟨e1,e3⟩|⟨e1,_,e3⟩
   have:m=f.size:=by simpa using e1
   rw[this,Nat.sub_self];show Q .normal L O.w;cases e3;exact hQ L O (I.cj (P:=P) s.step rfl);have:=Js (P:=P) (E:=E) (F:=F) (g0:=M) (H0:=H) hE hF (f.toList.drop m) m _ _ L O (λj=>by simp) I e3 (λa'' g'' hi'=>hQ a'' g'' (hi'.cj s.step rfl))
   rwa [cP,cW]at this
   cases U;cases U
  obtain⟨m,S,hml,z,htr,x⟩:=Qu (P:=P) (E:=E) (F:=F) (ops:=f) f.toList 0 _ _ (λj=>by simp) U;have V:m<=f.size:=by simpa using hml
  have u:RZ P E F f m S:=λi I=>by
   obtain⟨o,J,hps⟩:=htr i I;exact⟨o,by simpa using J,hps⟩
  have R:kY P E f m S M H (Array.replicate f.size false) M a:=by
   refine⟨by simp,λi o J y=> ?_,λi y=> ?_,s.ok,by rw[z];exact s.st,s.gl,s.df,by rw[z];have:=s.fr.1;simpa using this,?_,?_,by rw[z];exact pP.refl H M⟩;unfold Ld at y;by_cases q:i<f.size<;>simp[q]at y;unfold Ld at y;by_cases q:i<f.size<;>simp[q]at y;intro t i v c I h1 h2 hpn hv W;have hno:∀j o,j<i->f[j]? =some o->o.dst≠some t:=λj o hj J hdd=>by
    have:=h1 j o hj J hdd;unfold Ld at this;by_cases q:j<f.size<;>simp[q]at this
   have:=u.same (t:=t) i 0 (by omega) (λj o _ hj J=>hno j o (by omega) J);rw[cG]at this;rw[this,z]at W;exact s.fr.2 t v c (by simpa using hv) W;intro p d t _ _ _ y;unfold Ld at y;by_cases q:p<f.size<;>simp[q]at y
  refine aGv hE hd u (by rw[z]) V (λhlt=> ?_) (λL O I=> ?_) f.size _ a M R hcnt;rcases x with⟨e,_⟩|⟨_,e,_⟩
  simp at e;omega;simpa using e;rcases x with⟨e1,e2,e3⟩|⟨e1,_,e3⟩
  have:m=f.size:=by simpa using e1
  rw[this,Nat.sub_self];show Q .normal L O.w;have:=I.cj (P:=P) s.step e2;rw[<-e3]at this;exact hQ L O this;have:=Js (P:=P) (E:=E) (F:=F) (g0:=M) (H0:=H) hE hF (f.toList.drop m) m _ _ L O (λj=>by simp) I e3 (λa'' g'' hi'=>hQ a'' g'' (hi'.cj s.step rfl))
  rwa [cP,cW]at this
theorem aCw(x:P.follows .mixedOrders=true)(v:rV P E.gl E.pe)(hF:sD P E.gl F.ee){id:Nat}{o:gF}{d:Bool}(h:d=true->zQ o=true){b f:gC}{H j:Hp}
  (u:(if d then rR P E F o b H else pU P E F o o.toList ⟨b,H,none⟩)=some ⟨f,j,none⟩) {q g:G} {i:Hp} {a:Act} (z:qK E q i g a b H)
  {Q:gJ} (y:∀e s,qK E q i s e f j->Q .normal e s.w):(Code.region id o d).wp P Q a g.w:=by
 have:=SW v hF h u z y;cases d with
 |false=>exact wp_region this|true=>exact wp_region_any x this
theorem Gk(hm:P.follows .mixedOrders=true)(hE:rV P E.gl E.pe)(hF:sD P E.gl F.ee)(n:Nat):∀(c:Code) (C:gC) (H:Hp) (x:X) (j:gC) (J:Hp),codeOk c=true->oW P E F n c C H=some (x,j,J)->
  ∀(v g:G) (y:Hp) (a:Act),qK E v y g a C H->∀(Q:gJ),(∀z B,qK E v y B z j J->Q x.au z B.w)->c.wp P Q a g.w:=by
 intro c
 induction c with
 |skip=>
  intro C H x j J _ d v g y a u Q s;simp only[oW,aI,bF]at d;obtain⟨rfl,rfl,rfl⟩:=d;exact wp_skip (s a g u)
 |label l=>
  intro C H x j J _ d v g y a u Q s;simp only[oW,aI,bF]at d;obtain⟨rfl,rfl,rfl⟩:=d;exact wp_label (s a g u)
 |region id ops draw=>
  intro C H x j J f d v g y a u Q s;simp only[oW]at d;split at d;rename_i f1 U I;cases d;exact aCw hm hE hF (λq=>by subst q;simpa [codeOk]using f) I u s;cases d
 |seq c1 c2 L O=>
  intro C H x j J f d v g y a u Q s;simp only[codeOk,aA]at f;simp only[oW]at d;refine wp_seq ?_;split at d;rename_i f1 U I;exact L _ _ _ _ _ f.1 I v g y a u _ (λz B i=>O _ _ _ _ _ f.2 d v B y z i Q s);rename_i I;refine L _ _ _ _ _ f.1 d v g y a u _ (λz B i=> ?_);cases x with
  |normal=>exact absurd d (I _ _)|exit id=>exact s z B i|ret=>exact s z B i
 |cond o c1 c2 L O=>
  intro C H x j J f d v g y a u Q s;simp only[codeOk,aA]at f;simp only[oW]at d;split at d;rename_i b hb;have I:=(EX.of u.fr none).eval u.gl (λ_ _ =>by simp) hb;refine wp_cond I.a8 ?_;cases b with
  |true=>exact L _ _ _ _ _ f.1 (by simpa using d) v g y a u Q s|false=>exact O _ _ _ _ _ f.2 (by simpa using d) v g y a u Q s
  cases d
 |block id c M=>
  intro C H x j J f d v g y a u Q s;simp only[codeOk]at f;simp only[oW]at d;refine wp_block ?_;split at d;rename_i W f1 U I;refine M _ _ _ _ _ f I v g y a u _ (λz B i=> ?_);simp only[X.au,Exit.inBlock];split at d;rename_i e;cases d;rw[aJ e];exact s z B i;rename_i e;cases d;rw[aH e];exact s z B i;rename_i I;refine M _ _ _ _ _ f d v g y a u _ (λz B i=> ?_);cases x with
  |normal=>exact s z B i|exit W=>exact absurd d (I _ _ _)|ret=>exact s z B i
 |loop c M=>
  intro C H x j J f d v g y a u Q s;simp only[codeOk]at f;simp only[oW]at d;refine wp_loop_rounds n ?_;have key:∀(k:Nat) (C:gC) (H:Hp) (a:Act) (g:G),oW.gx (λC H=>oW P E F n c C H) k C H=some (x,j,J)->qK E v y g a C H->Code.rounds P c Q k a g.w:=by
   intro k
   induction k with
   |zero=>intro C H a g h;simp[oW.gx]at h
   |succ k V=>
    intro C H a g h R;simp only[oW.gx]at h;rw[rounds_succ];split at h;rename_i f1 U I;exact M _ _ _ _ _ f I v g y a R _ (λz B i=>V f1 U z B h i);rename_i I;refine M _ _ _ _ _ f h v g y a R _ (λz B i=> ?_);cases x with
    |normal=>exact absurd h (I _ _)|exit id=>exact s z B i|ret=>exact s z B i
  exact key n C H a g d u
 |scope c M=>
  intro C H x j J f d v g y a u Q s;simp only[codeOk]at f;simp only[oW]at d;refine wp_scope_straight (M _ _ _ _ _ f d v g y a u _ (λz B i=> ?_));cases x with
  |normal=>exact s z B i|exit id=>exact s z B i|ret=>exact s z B i
 |exit id=>
  intro C H x j J _ d v g y a u Q s;simp only[oW,aI,bF]at d;obtain⟨rfl,rfl,rfl⟩:=d;exact wp_exit (s a g u)
 |ret=>
  intro C H x j J _ d v g y a u Q s;simp only[oW,aI,bF]at d;obtain⟨rfl,rfl,rfl⟩:=d;exact wp_ret (s a g u)
 |_ =>
  intro C H x j J _ d;simp[oW]at d
def aKu(a:hP):ResultVar->Sem Value
 | .tmp t=>pure (a.getD t undef)| .cell x t=>do loadVar t (<-asAddr (a.getD x undef))
theorem yC(f:Func)(a:hP):results f a=(do
  let vs<-f.results.mapM (aKu a)
  pure (if h:vs.size=1 then vs[0]else .tuple vs)):=by
 unfold results;congr 1
abbrev jP:=List ResultVar
theorem yK{g:G}{H:Hp}{a:Act}{x:gC}(q:St g H)(y:fv g a.tmps.toList x):∀{s:jP} {f:gC},rJ P x H s=some f->
  ∃v,(s.mapM (aKu a.tmps)).run P g.w= .ok v g.w/\fv g v f
 |[],f,h=>by simp[rJ]at h;subst h;exact⟨[],by simp,fv.nil⟩
 |r::s,f,h=>by
  simp only[rJ]at h;split at h;rename_i t d;split at h;rename_i R j;cases h;obtain⟨v,C,B⟩:=yK q y j;have I:=EX.of y none;cases r with
  |tmp k=>
   simp only[Pn,aI]at d;subst d;exact⟨_ ::v,by rw[List.mapM_cons];simp only[aKu,aW,bH,aL,C],fv.cons (I.get (by simp)) B⟩
  |cell k M=>
   simp only[Pn]at d;have J:=I.get (t:=k) (by simp);obtain⟨u,i,L⟩:=Yx (P:=P) q d J;refine⟨u::v,?_,fv.cons L B⟩;unfold Instr.loadAt at i;have:∃A,a.tmps.getD k undef= .pointer (some A):=by
    unfold wI at d;split at d;rename_i W U V;obtain⟨b,o,_,e,_⟩:=VU q V J;exact⟨_,e⟩;cases d
   obtain⟨A,z⟩:=this;rw[z]at i;simp only[Instr.sureAddr,aW,bH,aL]at i;have O:(aKu a.tmps (.cell k M)).run P g.w= .ok u g.w:=by
    simp only[aKu,z,asAddr,aW,bH,aL,i]
   rw[List.mapM_cons];simp only[aW,O,bH,aL,C]
  cases h;cases h
theorem bEn(hm:P.follows .mixedOrders=true)(hE:rV P E.gl E.pe)(hF:sD P E.gl F.ee){n:Nat}{f:gX}(b:aYh P f=true){y:gC}{H L:Hp}{r:T}(s:Gw P E F n f y H=some (r,L))
  (g:G) (z:gV) (hg:sJ g) (hs:St g H) (hgl:gn E.gl g) (hv:fv g z y):
  Calls P f z.toArray g.w λe w'=>∃v a,e= .returned v/\a.w=w'/\pP H g L a/\sJ a/\St a L/\Rd a v r:=by
 unfold Gw at s;unfold aYh at b;split at s;rename_i d O;rw[O]at b;simp only at b;split at s;rename_i c hc;rw[hc]at b;simp only at b;have x:fv g (z.toArray++Array.replicate (d.ntmps-z.toArray.size) undef).toList (y++List.replicate (d.ntmps-y.length) oS):=by
  have:(z.toArray++Array.replicate (d.ntmps-z.toArray.size) undef).toList=z++List.replicate (d.ntmps-y.length) undef:=by simp[hv.1]
  rw[this];exact hv.append (fv.replicate _ Rd.undef)
 have B:qK E g H g {tmps:=z.toArray++Array.replicate (d.ntmps-z.toArray.size) undef,defers:=[]} (y++List.replicate (d.ntmps-y.length) oS) H:=⟨hg,hs,hgl,rfl,x,pP.refl H g⟩
 have fin:∀(J:gC) (o:Hp),(match rJ P J o d.results.toList with
   |some [t]=>some (t,o)|some y=>some (.fm y,o)|none=>none)=some (r,L)->∀(I:Act) (a:G),qK E g H a I J o->I.defers=[]/\∃v,(results d I.tmps).run P a.w= .ok v a.w/\∃v' i,Ending.returned v= .returned v'/\i.w=a.w/\pP H g L i/\sJ i/\St i L/\Rd i v' r:=by
  intro J o C I a h;refine⟨h.df,?_⟩;have hH:o=L:=by
   split at C;cases C;rfl;cases C;rfl;cases C
  subst hH;split at C;rename_i t V;cases C;obtain⟨R,W,j⟩:=yK (P:=P) h.st h.fr V
  match R,j with
  |[u],j=>
   refine⟨u,?_,u,a,rfl,rfl,h.step,h.ok,h.st,(j.I).1⟩;have:d.results=d.results.toList.toArray:=by simp
   rw[yC,this,eH];simp only[aW,fV];rw[W];simp
  |[],j=>simp[fv]at j|_ ::_ ::_,j=>simp[fv]at j
  rename_i ts' U V;cases C;obtain⟨R,W,j⟩:=yK (P:=P) h.st h.fr V;refine⟨.tuple R.toArray,?_,_,a,rfl,rfl,h.step,h.ok,h.st,Rd.ak j⟩;have:d.results=d.results.toList.toArray:=by simp
  rw[yC,this,eH];simp only[aW,fV];rw[W];have hl:R.length≠1:=λq=>by
   rw[j.1]at q;obtain⟨t,rfl⟩:=eY.1 q;exact U t rfl
  simp[hl];cases C
 refine calls_of_wp O hc ?_;split at s;rename_i J o M;exact Gk hm hE hF n c _ _ _ _ _ b M g g H _ B _ (λI a h=>fin J o s I a h);rename_i J o M;exact Gk hm hE hF n c _ _ _ _ _ b M g g H _ B _ (λI a h=>fin J o s I a h);cases s;cases s;cases s
end
abbrev jQ:=T->Option T
def qJ(f:jQ):List T->Option (List T)
 |[]=>some []
 |t::a=>match f t with
  |some r=>match qJ f a with
   |some b=>some (r::b)|none=>none
  |none=>none
def BC(s:Nat):Nat->List T->List T
 |0,_ =>[]|n+1,a=> .agg (a.take s)::BC s n (a.drop s)
def pM:Nat->Hp->T->Option T
 |0,_,_ =>none
 |n+1,H,t=>match t with
  | .int k i=>some (.int k i)| .bool b=>some (.bool b)| .str s=>some (.str s)| .fS=>some .fS| .fp=>some .fp| .gg=>some .gg| .gb=>some .gb| .fw=>some .fw| .mp _ =>none| .yl _ =>none
  | .ptr l e=>match H.get l with
   |some o=>match qJ (pM n H) o.cells with
    |some d=>some (.ref (.agg d) e)|none=>none
   |none=>none
  | .ref x e=>match pM n H x with
   |some y=>if y.cells.length=x.cells.length/\y.isAgg=x.isAgg then some (.ref y e)else none
   |none=>none
  | .sl f q=>match qJ (pM n H) q with
   |some u=>if(q.map λx=>(x.isAgg,x.cells.length))=(u.map λx=>(x.isAgg,x.cells.length))then some (.sl f u)else none
   |none=>none
  | .ac f n h=>some (.ac f n h)
  | .ge l j i len=>match H.get l with
   | some o=>if j≠0/\o.sz=j/\(i+len)*j<=o.cells.length then
     match qJ (pM n H) ((o.cells.drop (i*j)).take (len*j))with
     |some d=>if j=1 then(if(d.all λc=> !c.isAgg)then some (.sl false d)else none)else some (.sl false (BC j len d))
     |none=>none
    else none
   |none=>none
  | .fn f a c=>match qJ (pM n H) a,qJ (pM n H) c with
   |some w,some v=>some (.fn f w v)|_,_ =>none
  | .iface t x=>match pM n H x with
   |some y=>some (.iface t y)|none=>none
  | .agg d=>match qJ (pM n H) d with
   |some ds=>some (.agg ds)|none=>none
  | .fm d=>match qJ (pM n H) d with
   |some ds=>some (.fm ds)|none=>none
theorem FY{f:jQ}:∀{i d:gC},qJ f i=some d->d.length=i.length/\∀(j:Nat) (r:T),d[j]? =some r->∃t,i[j]? =some t/\f t=some r
 |[],d,h=>by simp[qJ]at h;subst h;simp
 |t::i,d,h=>by
  simp only[qJ]at h;split at h;rename_i r x;split at h;rename_i v o;cases h;obtain⟨s,u⟩:=FY o;refine⟨by simp[s],λj q e=> ?_⟩;cases j with
  |zero=>simp at e;subst e;exact⟨t,rfl,x⟩|succ j=>simp at e;obtain⟨w,a,b⟩:=u j q e;exact⟨w,by simpa using a,b⟩
  cases h;cases h
def G.aM(g:G)(H:Hp)(g0:G):G:={w:=g.w,S:=λb=>g.S b\/∃l o,H.get l=some o/\g.loc l=b,al:=g0.al,loc:=g0.loc,cp:=g0.cp}
theorem LE(s:Nat):∀(n:Nat) (a:gC),a.length=n*s->(BC s n a).flatMap T.cells=a/\(∀x∈BC s n a,x.cells.length=s)/\(BC s n a).length=n
 |0,a,h=>by simp at h;subst h;simp[BC]
 |n+1,a,h=>by
  have f:s<=a.length:=by rw[h,dA];omega
  obtain⟨e,d,b⟩:=LE s n (a.drop s) (by rw[cP,h,dA];omega);refine⟨?_,?_,by simp[BC,b]⟩;simp only[BC,bP,T.cells,e,fH];intro x hx;simp only[BC,aY]at hx;rcases hx with rfl|hx
  simp[T.cells];omega;exact d x hx
theorem AQ{t:T}(h:t.isAgg=false):t.cells=[t]:=by cases t<;>simp_all [T.isAgg,T.cells]
theorem SJ:∀(a:gC),(a.all λc=> !c.isAgg)=true->a.flatMap T.cells=a/\∀x∈a,x.cells.length=1
 |[],_ =>by simp
 |c::a,h=>by
  simp only[List.all_cons,aA,bQ]at h;have b:=AQ h.1;obtain⟨e,d⟩:=SJ a h.2;refine⟨by simp[bP,b,e],λx hx=> ?_⟩;rcases aY.1 hx with rfl|hx
  simp[b];exact d x hx
theorem aBr{n:Nat}{H:Hp}{x y:T}(h:pM (n+1) H x=some y)(s:y.cells.length=x.cells.length)(e:y.isAgg=x.isAgg):∀(j:Nat) (c:T),y.cells[j]? =some c->∃b,x.cells[j]? =some b/\(pM n H b=some c\/pM (n+1) H b=some c):=by
 intro j c a;cases hx:x.isAgg with
 |false=>
  rw[hx]at e;rw[AQ e]at a;rw[AQ hx];cases j with
  |zero=>simp at a;subst a;exact⟨x,rfl,.inr h⟩|succ j=>simp at a
 |true=>
  cases x<;>simp[T.isAgg]at hx;rename_i q;simp only[pM]at h;split at h;rename_i ds d;cases h;obtain⟨_,i⟩:=FY d;obtain⟨b,o,f⟩:=i j c (by simpa [T.cells]using a);exact⟨b,by simpa [T.cells]using o,.inl f⟩;cases h
theorem WS:∀{b a:gC} {s:Nat},(b.map λx=>(x.isAgg,x.cells.length))=(a.map λx=>(x.isAgg,x.cells.length))->(∀x∈b,x.cells.length=s)->(∀y∈a,y.cells.length=s)/\
  ∀(j:Nat) (c:T),(a.flatMap T.cells)[j]? =some c->∃(i k:Nat) (x y:T),b[i]? =some x/\a[i]? =some y/\x.isAgg=y.isAgg/\x.cells.length=y.cells.length/\y.cells[k]? =some c/\j=i*s+k
 |[],[],s,_,_ =>by simp|[],y::a,s,h,_ =>by simp at h|x::b,[],s,h,_ =>by simp at h
 |x::b,y::a,s,h,e=>by
  simp only[dN,fT,bF]at h;obtain⟨⟨f,M⟩,v⟩:=h;have R:=e x (by simp);obtain⟨w,B⟩:=WS v (λz hz=>e z (by simp[hz]));refine⟨λz hz=> ?_,λj c d=> ?_⟩;rcases aY.1 hz with rfl|hz;omega;exact w z hz;rw[bP,dP]at d;split at d;exact⟨0,j,x,y,rfl,rfl,f,M,d,by simp⟩;rename_i O;obtain⟨i,k,L,J,u,I,C,o,q,U⟩:=B _ c d;refine⟨i+1,k,L,J,by simpa using u,by simpa using I,C,o,q,?_⟩;rw[dA];omega
theorem LR{g g0:G}{H:Hp}(hs:St g H):∀(n:Nat) (t r:T) (v:gZ),pM n H t=some r->Rd g v t->Rd (g.aM H g0) v r:=by
 intro n
 induction n using Nat.strongRecOn with
 |_ n ih=>
 cases n with
 |zero=>intro t r v h;simp[pM]at h
 |succ n=>
  have ih1:∀(t r:T) (v:gZ),pM n H t=some r->Rd g v t->Rd (g.aM H g0) v r:=ih n (by omega);have B:∀{ts rs:gC} {L:gV},qJ (pM n H) ts=some rs->fv g L ts->fv (g.aM H g0) L rs:=by
   intro ts rs L hm hv;obtain⟨R,C⟩:=FY hm;refine⟨by rw[hv.1,R],λj v c hvj hc=> ?_⟩;obtain⟨t,ht,hf⟩:=C j c hc;exact ih1 t c v hf (hv.2 j v t hvj ht)
  have cel:∀{x y:T},pM n H x=some y->y.cells.length=x.cells.length->y.isAgg=x.isAgg->∀(j:Nat) (c:T),y.cells[j]? =some c->∃b,x.cells[j]? =some b/\∀u,Rd g u b->Rd (g.aM H g0) u c:=by
   intro x y hy hl ha j c hc;cases n with
   |zero=>simp[pM]at hy
   |succ n=>
    obtain⟨b',W,hf⟩:=aBr hy hl ha j c hc;refine⟨b',W,λu d=> ?_⟩;rcases hf with hf|hf;exact ih n (by omega) b' c u hf d;exact ih1 b' c u hf d
  intro t r v h hr;cases hr with
  |int k i=>simp only[pM]at h;cases h;exact .int k i|bool b=>simp only[pM]at h;cases h;exact .bool b|str s=>simp only[pM]at h;cases h;exact .str s|fS=>simp only[pM]at h;cases h;exact .fS|fp=>simp only[pM]at h;cases h;exact .fp|gg=>simp only[pM]at h;cases h;exact .gg|gb=>simp only[pM]at h;cases h;exact .gb|fw=>simp only[pM]at h;cases h;exact .fw|mp l hl=>simp only[pM]at h;cases h|yl l hl=>simp only[pM]at h;cases h
  |ptr l O hl=>
   simp only[pM]at h;split at h;rename_i o ho;split at h;rename_i cs hcs;cases h;obtain⟨_,_,c0,hb,q1,_,_,q4⟩:=hs.own l o ho;have V:=B hcs q4;have e0:(⟨g.loc l,O,none⟩:Addr)=⟨g.loc l,0+O,none⟩:=by simp
   rw[e0];refine .ref (.agg cs) O (g.loc l) 0 (c0.toList.take o.cells.length) (.inr ⟨l,o,ho,rfl⟩) V.1 (λj u d=> ?_) V.2;rw[bJ]at d;split at d;show g.w.cell? _ =_;simp[World.cell?,hb]at d⊢;exact d;cases d;cases h;cases h
  |ref x O b o L hS hlen hc hx=>
   simp only[pM]at h;split at h;rename_i y hy;split at h;rename_i J;cases h;refine .ref y O b o L (.inl hS) (by rw[J.1];exact hlen) hc (λj u c d hcc=> ?_);obtain⟨b',W,hf⟩:=cel hy J.1 J.2 j c hcc;exact hf u (hx j u b' d W);cases h;cases h
  |sl I M z b o U L R C h3 h4 h5 h6 h7 h8=>
   simp only[pM]at h;split at h;rename_i ys hys;split at h;rename_i J;cases h;obtain⟨hl,hat⟩:=FY hys;obtain⟨s1,s2⟩:=WS J C;rw[<-hl];refine .sl I ys z b o U L (λhy=> .inl (R (λe=>hy (by subst e;simpa using hl)))) s1 (by omega) h4 (λq=>by rw[h5 q,hl]) (by rw[hl];exact h6) h7 (λj u c d hc=> ?_);obtain⟨i,k,x,y,e1,e2,e3,e4,e5,e6⟩:=s2 j c hc;obtain⟨x',hx',hf⟩:=hat i y e2;rw[e1]at hx';cases hx';obtain⟨b',W,hff⟩:=cel hf e4.symm e3.symm k c e5;exact hff u (h8 j u b' d (by rw[e6];exact KD C e1 k b' W));cases h;cases h
  |ai I f p=>
   simp only[pM]at h;cases h;exact .ai _ _ p
  |ac I m f z b o U L R C h3 h4 h5 h6 h7 h8=>
   simp only[pM]at h;cases h;exact Rd.ay (g:=g) (g':=g.aM H g0) (λ_ q=>Or.inl q) (λ_ _ _ _ q=>q) R C h3 h4 h5 h6 h7 h8
  |ge l z i len b o U p1 p2 p3 p4 p5=>
   simp only[pM]at h;split at h;rename_i ob ho;split at h;rename_i hc;obtain⟨c1,c2,c3⟩:=hc;split at h;rename_i cs hcs;obtain⟨_,_,c0,hb,q1,_,q3,q4⟩:=hs.own l ob ho;have q3':=q3 (by omega);have V:fv (g.aM H g0) (((c0.toList.take ob.cells.length).drop (i*z)).take (len*z)) cs:=B hcs ((q4.drop _).take _);have hmul:(i+len)*z=i*z+len*z:=fR _ _ _;have hvl:(((c0.toList.take ob.cells.length).drop (i*z)).take (len*z)).length=len*z:=by
    simp only[cY,cP,cW];omega
   have hcl:cs.length=len*z:=by rw[<-V.1];exact hvl
   have fin:∀(M:gC),M.length=len->M.flatMap T.cells=cs->(∀x∈M,x.cells.length=z)->Rd (g.aM H g0) (.slice (some ⟨b,o,none⟩) len U) (.sl false M):=by
    intro M e1 e2 e3;subst e1;refine .sl false M z b o U _ (λhx=> ?_) e3 p2 (by omega) (λq=>by cases q) hvl (λj u d=> ?_) (λj u c d hcc=>V.2 j u c d (by rw[<-e2];exact hcc));obtain⟨rfl,_⟩:=p4 (.inl (by cases M with|nil=>exact absurd rfl hx|cons y ys=>simp));exact .inr ⟨l,ob,ho,rfl⟩;have hpos:0<M.length:=by
     rcases Nat.eq_zero_or_pos M.length with q|q;have hz:(((c0.toList.take ob.cells.length).drop (i*z)).take (M.length*z)).length=0:=by rw[hvl,q,fX]
     rw[cM hz]at d;simp at d;exact q
    obtain⟨rfl,rfl⟩:=p4 (.inl hpos);rw[bJ]at d;split at d;rw[cD,bJ]at d;split at d;show g.w.cell? _ =_;simp[World.cell?,hb]at d⊢;exact d;cases d;cases d
   split at h;rename_i hs1;split at h;rename_i hag;cases h;subst hs1;obtain⟨f1,f2⟩:=SJ cs hag;exact fin cs (by simpa using hcl) f1 f2;cases h;cases h;obtain⟨f1,f2,f3⟩:=LE z len cs hcl;exact fin _ f3 f1 f2;cases h;cases h;cases h
  |fn f a c L us R C h3 h4=>
   simp only[pM]at h;split at h;rename_i a' c' ha hc;cases h;exact Rd.bx (B ha ⟨R,C⟩) (B hc ⟨h3,h4⟩);cases h
  |iface t v x hx=>
   simp only[pM]at h;split at h;rename_i y hy;cases h;exact .iface t v y (ih1 x y v hy hx);cases h
  |agg cs L R C=>
   simp only[pM]at h;split at h;rename_i ds hds;cases h;exact Rd.br (B hds ⟨R,C⟩);cases h
  |fm cs L R C=>
   simp only[pM]at h;split at h;rename_i ds hds;cases h;exact Rd.ak (B hds ⟨R,C⟩);cases h
section
variable{P:gD}{E:uW}{F:Fc}
def fj(P:gD)(gl:gG)(f:gX)(ts:gC)(r:T):Prop:=
 uQ P f=true/\∀(g:G) (b:gV),sJ g->(∃N,∀l,N<=l->¬g.al l)->gn gl g->fv g b ts->
  Calls P f b.toArray g.w λe d=>∃v a,e= .returned v/\a.w=d/\fx g a/\sJ a/\Rd a v r
end
inductive RD(Y:Type)where
 |ok (a:Y) (ds log:gL)
 |need (c:Bool) (log:gL)
 |fail (why:Nat)
structure Ed where
 gl:Nat->Option T
 pd:Hp->FuncId->List T->Option (T×List Bool)
def Kf:Option T->Option (T×List Bool)
 |some r=>some (r,[])|none=>none
def LX(P:gD)(t:gB)(x i:T):Option (T×List Bool):=
 match i with
 | .int _ n=>
  match P.underlying t,x with
  |some (.slice e),.sl _ a=>match uI P e with
   |some s=>some (.ref (a.getD n.toNat oS) 0,[decide (0<=n),decide (n<a.length),decide ((a.getD n.toNat oS).cells.length=s)])|none=>none
  |some (.slice e),.ac _ len f=>match uI P e with
   |some s=>some (.ref (f n.toNat) 0,[decide (0<=n),decide (n<len),decide ((f n.toNat).cells.length=s)])|none=>none
  |some (.slice e),.ge l b j len=>match uI P e with
   |some s=>if b=s then some (.ptr l ((j+n.toNat)*b),[decide (0<=n),decide (n<len)])else none
   |none=>none
  |some (.array len e),x=>match uI P e with
   |some s=>match aAu x (n.toNat*s)with
    |some y=>some (y,[decide (0<=n),decide (n<len)])|none=>none
   |none=>none
  |_,_ =>none
 |_ =>none
def Ty(P:gD)(t:gB)(x i:T):Option (T×List Bool):=
 match i with
 | .int _ n=>
  match P.underlying t,x with
  |some (.array len e),.agg a=>match uI P e with
   |some s=>match wK P e a (n.toNat*s)with
    |some y=>some (y,[decide (0<=n),decide (n<len)])|none=>none
   |none=>none
  |some .string,.str s=>some (.int .u8 (s.getD n.toNat 0).toNat,[decide (0<=n),decide (n<s.length)])|_,_ =>none
 |_ =>none
def HJ(x:jE)(d a:Nat):Option (Nat×List Bool):=
 match x with
 |none=>some (d,[])|some (.int _ n)=>some (n.toNat,[decide (0<=n),decide (n<=a)])|some _ =>none
def Vi(P:gD)(t:gB)(x:T)(o q:jE):Option (T×List Bool):=
 match P.underlying t,x with
 |some .string,.str s=>
  match HJ q s.length s.length with
  |some (h,b)=>match HJ o 0 h with
   |some (l,d)=>some (.str ((s.take h).drop l),b++d)|none=>none
  |none=>none
 |some (.slice e),.sl a j=>
  match HJ q j.length j.length with
  |some (h,b)=>match HJ o 0 h with
   |some (l,d)=>match uI P e with
    |some s=>some (.sl (a&&h==j.length) ((j.take h).drop l),b++d++[DD s j])|none=>none
   |none=>none
  |none=>none
 |some (.slice e),.ac a n f=>
  match HJ q n n with
  |some (h,b)=>match HJ o 0 h with
   |some (l,d)=>match uI P e with
    |some s=>some (.ac (a&&h==n) (h-l) (λi=>f (l+i)),b++d++[decide ((f l).cells.length=s)])|none=>none
   |none=>none
  |none=>none
 |_,_ =>none
def aBy:T->Bool
 | .gb=>true|_ =>false
def aQq:T->Bool
 | .gb=>true| .iface .. =>true|_ =>false
def TY(P:gD)(t:gB):Bool:=match P.underlying t with
 |some (.interface _)=>true|_ =>false
def Xo(P:gD)(x y:gC):List Field->Option Bool
 |[]=>some true
 |f::r=>match x[f.offset]?,y[f.offset]? with
  |some a,some b=>if f.name= "_" then none else match ke P f.type a b,Xo P x y r with
   |some b,some c=>some (b&&c)|_,_ =>none
  |_,_ =>none
def aXx(P:gD)(t:gB)(x y:gC):Option Bool:=
 if P.eqGuardType P.depth t then none else match P.underlying t with
  |some (.struct f)=>if P.stoodInHeld t then none else Xo P x y f.toList
  |_ =>none
def aXg(P:gD)(op:jU)(t:gB)(x y:T):Option (T×List Bool):=
 match op,x,y with
 | .quo,.int k a,.int d b=>if k=d then some (.int k (k.wrap (a.tdiv b)),[b !=0])else none
 | .rem,.int k a,.int d b=>if k=d then some (.int k (a.tmod b),[b !=0])else none
 | .add,.str a,.str b=>some (.str (a++b),[decide (a.length+b.length<=pK)])| .eql,x,.gb=>if TY P t then some (.bool (aBy x),[aQq x])else none
 | .neq,x,.gb=>if TY P t then some (.bool (!aBy x),[aQq x])else none
 | .neq,.agg e,.agg f=>match aXx P t e f with
  |some b=>some (.bool (!b),[])|none=>Kf (BF P .neq t (.agg e) (.agg f))
 |op,x,y=>Kf (BF P op t x y)
def aQo:T->Int
 | .int _ n=>n|_ =>0
def aVh(k:iC):T->Bool
 | .int a _ =>decide (a=k)|_ =>false
def aJd(P:gD)(H:Hp)(t:gB)(p:T):Option (T×List Bool):=
 match p with
 | .ptr l a=>match H.get l with
  |some o=>if o.sz=0 then Kf (wI P H t p)else match P.underlying t with
   |some (.int k)=>some (.int k (aQo (o.cells.getD a oS)),[aVh k (o.cells.getD a oS),decide (a<o.cells.length),decide (KM P t=some false)])|_ =>Kf (wI P H t p)
  |none=>none
 |p=>Kf (wI P H t p)
def PS(P:gD)(E:Ed)(own:Bool)(H:Hp)(d:gC)(o:Oper):Option (T×List Bool):=
 let ev:=pQ E.gl d
 match o.op with
 | .indexAddr t x i=>match ev x,ev i with
  |some a,some b=>LX P t a b|_,_ =>none
 | .index t x i=>match ev x,ev i with
  |some a,some b=>Ty P t a b|_,_ =>none
 | .load t a=>match ev a with
  |some p=>aJd P H t p|none=>none
 | .binOp s t x y _ =>match ev x,ev y with
  |some a,some b=>if MC x y a b then aXg P s t a b else none
  |_,_ =>none
 | .slice t x u q mx=>match mx with
  |some _ =>none
  |none=>match ev x with
   |some a=>match OP ev u,OP ev q with
    |some l,some h=>Vi P t a l h|_,_ =>none
   |none=>none
 | .call c=>match c.callee with
  | .value f=>match ev f with
   |some (.fn (.func g) first j)=>match vN E.gl d c.args.toList with
    |some e=>E.pd H g (first++e++j)
    |none=>none
   |_ =>none
  | .invoke _ _ =>none| .builtin _ =>Kf (yT P ⟨E.gl,λ_ _ _ =>none⟩ H d c)
 |_ =>Kf (pS P ⟨E.gl,λ_ _ _ =>none⟩ own H d o)
def Ah(H:Hp)(l:Nat):Ob:=match H.get l with
 |some o=>o|none=>{elem:=0,sz:=0,cells:=[]}
def TI(H:Hp)(l k:Nat):Bool:=match H.get l with
 |some o=>decide (k<=o.cells.length)|none=>false
def aVv(H:Hp)(l:Nat)(e:gB)(s len:Nat):Bool:=match H.get l with
 |some o=>if o.sz=s/\o.elem=e then decide (o.cells.length=len*s)else false
 |none=>false
def Tz:T->Bool
 | .fp=>true|_ =>false
def aIm:T->Bool
 | .ge _ 1 0 _ =>true|_ =>false
def aIn(a:Nat)(t:T):Bool:=match a with
 |1=>aIm t
 |_ =>match t with
  | .ge _ s i _ =>s==a&&i==0|_ =>false
def bEf(P:gD)(t:gB):Nat:=match P.underlying t with
 |some (.slice e)=>(uI P e).getD 0|_ =>0
def Gj(H:Hp)(l o n:Nat):List T:=(List.range n).map λi=>(Ah H l).cells.getD (o+i) oS
theorem Cd{H:Hp}{l o n:Nat}(h:o+n<=(Ah H l).cells.length):Gj H l o n=((Ah H l).cells.drop o).take n:=by
 unfold Gj;apply List.ext_getElem;simp;omega;intro i a b;simp at a;simp only[List.getElem_map,List.getElem_range,List.getElem_take,List.getElem_drop];rw[bC,aB (by omega)];rfl
def bOz:T->Nat
 | .ge l _ _ _ =>l|_ =>0
def bPa:T->Nat
 | .ge _ _ _ n=>n|_ =>0
def Fr(P:gD)(H:Hp)(t d:gB)(s x:T):Option (T×Hp×List Bool):=
 match P.underlying t with
 |some (.slice e)=>
  match P.info? e,rA H x,vO x with
  |some i,some new,some m=>
   if i.size=0\/(i.zero.map λz=>z.cells.size)≠some i.size\/zG P d i.size x=false then none else
   match s with
   | .fp=>if m=0 then some (.fp,H,[decide (new.length=m*i.size),qO new])else
     some (.ge H.next i.size 0 m,H.new {elem:=e,sz:=i.size,cells:=new},[decide (new.length=m*i.size),qO new,AI m i.bytes])
   | .sl true a=>if m=0 then some (.sl true a,H,[decide (new.length=m*i.size),qO new])else
     some (.ge H.next i.size 0 (a.length+m),H.new {elem:=e,sz:=i.size,cells:=a.flatMap T.cells++new},[decide (new.length=m*i.size),qO new,AI (a.length+m) i.bytes,DD i.size a])
   | .ge l b 0 len=>if m=0 then some (.ge l b 0 len,H,[decide (new.length=m*i.size),qO new])else if b=i.size then
      some (.ge H.next i.size 0 (len+m),(H.drop l).new {elem:=e,sz:=i.size,cells:=(Ah H l).cells++new},[decide (new.length=m*i.size),qO new,aVv H l e i.size len,AI (len+m) i.bytes])else none
   |_ =>none
  |_,_,_ =>none
 |_ =>none
def MB(P:gD)(H:Hp)(t:gB)(l c:T):Option (T×Hp×List Bool):=
 match P.underlying t,l,c with
 |some (.slice e),.int .i64 n,.int .i64 m=>
  match uI P e,(P.info? e).map (·.bytes),wM P e with
  | some sz,some bytes,some z=>if 0<sz/\z.cells.length=sz then
    some (.ge H.next sz 0 n.toNat,H.new {elem:=e,sz:=sz,cells:=(List.replicate n.toNat z).flatMap T.cells},[decide (0<=n),decide (n=m),decide (n.toNat*bytes<=70368744177664),decide (n<=70368744177664)])else none
  |_,_,_ =>none
 |_,_,_ =>none
def Vr(P:gD)(H:Hp)(t:gB)(p x:T):Option (Hp×List Bool):=
 match p with
 | .ptr l o=>match uI P t with
  |some n=>some (H.put l {Ah H l with cells:=sC (Ah H l).cells o x.cells},[decide (x.cells.length=n),TI H l (o+n),qO x.cells])
  |none=>none
 |_ =>none
def aXw(P:gD)(E:Ed)(F:Fc)(H:Hp)(d:gC)(o:Oper):Option (T×Hp×List Bool):=
 let ev:=pQ E.gl d
 match o.op with
 | .store t p x=>match ev p,ev x with
  |some q,some y=>match Vr P H t q y with
   |some (j,c)=>some (oS,j,c)|none=>none
  |_,_ =>none
 | .makeSlice t l c=>match ev l,ev c with
  |some n,some m=>MB P H t n m|_,_ =>none
 | .call c=>match c.callee with
  | .builtin .append=>match c.args.toList,c.argTypes.toList with
   |[s,x],[t,i]=>match ev s,ev x with
    |some a,some b=>if GB F.own o.dst then none else Fr P H t i a b
    |_,_ =>none
   |_,_ =>none
  | .value f=>match ev f with
   |some (.fn (.func g) first h)=>match vN E.gl d c.args.toList with
    |some e=>F.ed g (first++e++h) H
    |none=>none
   |_ =>none
  |_ =>aDy (xW P ⟨E.gl,λ_ _ _ =>none⟩ F H d o)
 |_ =>aDy (xW P ⟨E.gl,λ_ _ _ =>none⟩ F H d o)
def TQ(own:Bool)(o:Oper):Bool:=
 match o.op with
 | .alloc _ | .store .. | .makeSlice .. =>true| .box .. | .buildSlice .. =>own
 | .call c=>match c.callee with
  | .builtin .append=>true| .value _ =>true|_ =>false
 |_ =>false
def Ed.env(D:Ed):uW:={gl:=D.gl,pe:=λH f b=>match D.pd H f b with
 |some (r,a)=>if oU a then some r else none
 |none=>none}
def QP(e:gF)(h:gC)(o:Oper)(ds a:gL):RD Bool:=
 match o.guard with
 |none=> .ok true ds a
 |some (j,w)=>
  match((e[j]?).bind (·.dst)).bind (λd=>bGo h d)with
  |some (.bool b)=>match ds with
   |[]=> .need b a|d::f=> .ok (d==w) f ((if d then b else !b)::a)
  |_ => .ok false ds a
def Dw(P:gD)(E:Ed)(own:Bool)(H:Hp)(i:gC)(o:Oper)(ds e:gL):RD (Option T):=
 match o.op with
 | .pick c a b=>match pQ E.gl i c with
  |some (.bool t)=>match ds with
   |[]=> .need t e
   |d::h=>match pQ E.gl i (if d then a else b)with
    |some v=> .ok (some v) h ((if d then t else !t)::e)
    |none=> .fail 30
  |_ => .fail 31
 | .load t a=>match own,pQ E.gl i a with
  |true,some (.ptr l f)=>match KM P t with
   |some true=>match uI P t with
    |some n=> .ok (some (.agg (Gj H l f n))) ds (TI H l (f+n)::e)|none=> .fail 9
   |_ =>match ds with
    |[]=> .need (Tz ((Ah H l).cells.getD f oS)) e
    | d::h=>if d then .ok (some .fp) h (Tz ((Ah H l).cells.getD f oS)::TI H l (f+1)::decide (KM P t=some false)::e)
      else .ok (some (.ge (bOz ((Ah H l).cells.getD f oS)) (bEf P t) 0 (bPa ((Ah H l).cells.getD f oS)))) h (aIn (bEf P t) ((Ah H l).cells.getD f oS)::TI H l (f+1)::decide (KM P t=some false)::e)
  |_,_ =>match PS P E own H i o with
   |some (v,c)=> .ok (some v) ds (c++e)|none=>if TQ own o then .ok none ds e else .fail 9
 |_ =>match PS P E own H i o with
  |some (v,c)=> .ok (some v) ds (c++e)|none=>if TQ own o then .ok none ds e else .fail 9
def YL(P:gD)(E:Ed)(F:Fc)(b:gF)(s:Fx)(o:Oper)(ds a:gL):RD Fx:=
 match QP b s.fr o ds a with
 | .ok true ds a=>
  match Dw P E (CH F o) s.H s.fr o ds a with
  | .ok (some v) ds a=> .ok {s with fr:=aCs s.fr o.dst v} ds a
  | .need c l=> .need c l| .fail n=> .fail n
  | .ok none ds a=>
   match wA F o with
   |some (d,t)=>if s.fq.isSome then .fail 3 else match uI P t,wM P t with
    |some n,some z=>if z.cells.length=n/\d<s.fr.length then .ok {s with fr:=aDh oS s.fr d,fq:=some (d,t)} ds a else .fail 1
    |_,_ => .fail 2
   |none=>match aXw P E F s.H s.fr o with
    |some (v,e,c)=> .ok {s with fr:=aCs s.fr o.dst v,H:=e} ds (c++a)
    |none=> .fail 4
 | .ok false ds a=> .ok {s with fr:=aCs s.fr o.dst oS} ds a
 | .need c a=> .need c a| .fail n=> .fail n
def aLv(P:gD)(E:Ed)(F:Fc)(a:gF)(s:Fx)(o:Oper)(ds b:gL):RD Fx:=
 match s.fq with
 |none=>YL P E F a s o ds b
 |some (d,t)=>
  match o.op,o.dst,o.guard with
  | .store f (.tmp e) x,none,none=>
   if e=d then
    if f=t/\zE x d=true then
     match pQ E.gl s.fr x,uI P t with
     |some y,some n=> .ok (if F.own (d+1000)then{fr:=aDh (.ptr s.H.next 0) s.fr d,H:=s.H.new {elem:=t,sz:=0,cells:=y.cells},fq:=none}else{s with fr:=aDh (.ref y 0) s.fr d,fq:=none}) ds (decide (y.cells.length=n)::qO y.cells::b)
     |_,_ => .fail 5
    else .fail 6
   else if rQ a o d then .fail 7 else YL P E F a s o ds b
  |_,_,_ =>if rQ a o d then .fail 8 else YL P E F a s o ds b
def BZ(P:gD)(E:Ed)(F:Fc)(d:gF):List Oper->Fx->List Bool->List Bool->RD Fx
 |[],s,ds,a=> .ok s ds a
 |o::b,s,ds,a=>match aLv P E F d s o ds a with
  | .ok h f e=>BZ P E F d b h f e| .need c l=> .need c l| .fail n=> .fail n
def zS(P:gD)(E:Ed)(F:Fc)(a:gF):List Oper->Nat->Fx->List Bool->List Bool->RD Fx
 |[],_,s,ds,h=>match s.fq with
  |none=> .ok s ds h|some _ => .fail 10
 |o::e,m,s,ds,h=>
  if KA a s o then
   if rG (tU a.toList []) m a.size then BZ P E F a (o::e) s ds h else .fail 11
  else if yR s o=false then .fail 12
  else match QP a s.fr o ds h with
   | .ok true f b=>
    match Dw P E (CH F o) s.H s.fr o f b with
    | .ok (some v) f b=>zS P E F a e (m+1) {s with fr:=aCs s.fr o.dst v} f b
    | .need c l=> .need c l| .fail n=> .fail n
    | .ok none f b=>match wA F o with
     |some (d,t)=>if s.fq.isSome then .fail 17 else match uI P t,wM P t with
      |some n,some z=>if z.cells.length=n then zS P E F a e (m+1) {s with fr:=aDh oS s.fr d,fq:=some (d,t)} f b else .fail 13
      |_,_ => .fail 14
     |none=>if o.guard.isNone&&rG (tU a.toList []) m a.size then BZ P E F a (o::e) s ds h else .fail 15
   | .ok false f b=>zS P E F a e (m+1) {s with fr:=aCs s.fr o.dst oS} f b
   | .need c l=> .need c l| .fail n=> .fail n
def qQ(P:gD)(E:Ed)(F:Fc):Code->List T->Hp->List Bool->List Bool->RD (X×List T×Hp)
 | .skip,f,H,ds,e| .label _,f,H,ds,e=> .ok (.normal,f,H) ds e
 | .region _ o u,f,H,ds,e=>
  match(if u then(if aZc o then(match rR P E.env F o f H with
   |some s=> .ok s ds e|none=> .fail 99)else zS P E F o o.toList 0 ⟨f,H,none⟩ ds e)else BZ P E F o o.toList ⟨f,H,none⟩ ds e)with
  | .ok ⟨j,q,none⟩ i h=> .ok (.normal,j,q) i h| .ok _ _ _ => .fail 20| .need c l=> .need c l| .fail n=> .fail n
 | .seq a b,f,H,ds,e=>match qQ P E F a f H ds e with
  | .ok (.normal,j,q) i h=>qQ P E F b j q i h|r=>r
 | .cond c a b,f,H,ds,e=>match pQ E.gl f c with
  |some (.bool t)=>match ds with
   |[]=> .need t e|d::i=>if d then qQ P E F a f H i (t::e)else qQ P E F b f H i ((!t)::e)
  |_ => .fail 21
 | .block id c,f,H,ds,e=>match qQ P E F c f H ds e with
  | .ok (.exit v,j,q) i h=>if v=id then .ok (.normal,j,q) i h else .ok (.exit v,j,q) i h
  |r=>r
 | .scope c,f,H,ds,e=>qQ P E F c f H ds e| .exit id,f,H,ds,e=> .ok (.exit id,f,H) ds e| .ret,f,H,ds,e=> .ok (.ret,f,H) ds e|_,_,_,_,_ => .fail 22
end
theorem vF{a b:gL}:oU (a++b)=(oU a&&oU b):=by
 induction a with
 |nil=>simp[oU]|cons x a i=>simp[oU,i,Bool.and_assoc]
section
variable{P:gD}{D:Ed}{F:Fc}
theorem Ab{t:gB}{x i v:T}{c:gL}(h:LX P t x i=some (v,c))(a:oU c=true):sH P t x i=some v:=by
 unfold LX at h;unfold sH;split at h;rename_i k n;split at h;rename_i e q B d;split at h;rename_i s b;simp only[aI,bF]at h;obtain⟨rfl,rfl⟩:=h;simp only[oU,bM,aA,aF]at a;obtain⟨z,C,u⟩:=a;have o:n.toNat<B.length:=by omega
 have e:B.getD n.toNat oS=B[n.toNat]:=by simp[o]
 rw[e]at u⊢;simp[d,z,o,b,u];cases h;rename_i e q len f d;split at h;rename_i s b;simp only[aI,bF]at h;obtain⟨rfl,rfl⟩:=h;simp only[oU,bM,aA,aF]at a;obtain⟨z,C,u⟩:=a;simp[d,z,C,b,u];cases h;rename_i e l J j len d;split at h;rename_i s b;split at h;rename_i w;simp only[aI,bF]at h;obtain⟨rfl,rfl⟩:=h;simp only[oU,bM,aA,aF]at a;simp[d,a.1,a.2,b,w];cases h;cases h;rename_i len e d;split at h;rename_i s b;split at h;rename_i y I;simp only[aI,bF]at h;obtain⟨rfl,rfl⟩:=h;simp only[oU,bM,aA,aF]at a;simp[d,a.1,a.2,b,I];cases h;cases h;cases h;cases h
theorem aBw{t:gB}{x i v:T}{c:gL}(h:Ty P t x i=some (v,c))(a:oU c=true):FR P t x i=some v:=by
 unfold Ty at h;unfold FR;split at h;rename_i k n;split at h;rename_i len e o d;split at h;rename_i s f;split at h;rename_i y j;simp only[aI,bF]at h;obtain⟨rfl,rfl⟩:=h;simp only[oU,bM,aA,aF]at a;simp[d,a.1,a.2,f,j];cases h;cases h;rename_i s d;simp only[aI,bF]at h;obtain⟨rfl,rfl⟩:=h;simp only[oU,bM,aA,aF]at a;have b:n.toNat<s.length:=by omega
 simp[d,a.1,b];cases h;cases h
theorem BO{x:jE}{d a r:Nat}{c:gL}(h:HJ x d a=some (r,c))(b:oU c=true):tD x d a=some r:=by
 unfold HJ at h;unfold tD;split at h;simp only[aI,bF]at h;simp[h.1];simp only[aI,bF]at h;obtain⟨rfl,rfl⟩:=h;simp only[oU,bM,aA,aF]at b;simp[b.1,b.2];cases h
theorem aDi{t:gB}{x v:T}{B C:jE}{c:gL}(h:Vi P t x B C=some (v,c))(a:oU c=true):vY P t x B C=some v:=by
 unfold Vi at h;unfold vY;split at h;rename_i s d;split at h;rename_i I y i;split at h;rename_i l z o;simp only[aI,bF]at h;obtain⟨rfl,rfl⟩:=h;rw[vF,aA]at a;simp[d,BO i a.1,BO o a.2];cases h;cases h;rename_i e j J d;split at h;rename_i I y i;split at h;rename_i l z o;split at h;rename_i s w;simp only[aI,bF]at h;obtain⟨rfl,rfl⟩:=h;rw[vF,vF,aA,aA]at a;obtain⟨⟨u,q⟩,b⟩:=a;simp only[oU,bM]at b;simp[d,BO i u,BO o q,w,b];cases h;cases h;cases h;rename_i e j n f d;split at h;rename_i I y i;split at h;rename_i l z o;split at h;rename_i s w;simp only[aI,bF]at h;obtain⟨rfl,rfl⟩:=h;rw[vF,vF,aA,aA]at a;obtain⟨⟨u,q⟩,b⟩:=a;simp only[oU,bM,aF]at b;simp[d,BO i u,BO o q,w,b];cases h;cases h;cases h;cases h
theorem GF{q:jE}{v:T}{c:gL}(h:Kf q=some (v,c)):q=some v:=by
 cases q with
 |none=>cases h|some r=>simp only[Kf,aI,bF]at h;rw[h.1]
theorem aAm{q:Option (T×Hp)}{v:T}{H:Hp}{c:gL}(h:aDy q=some (v,H,c)):q=some (v,H):=by
 cases q with
 |none=>cases h|some r=>simp only[aDy,aI,bF]at h;rw[<-h.1,<-h.2.1]
theorem Mq{e y:gC}:∀(d:List Field) (r:Bool),Xo P e y d=some r->Ti P e y d=some r
 |[],r,h=>h
 |f::d,r,h=>by
  unfold Xo at h;unfold Ti;split at h;rename_i a b j i;simp only[j,i];split at h;cases h;rename_i q;rw[aH q];split at h;rename_i x c o s;simp only[aI]at h;subst h;rw[o];cases x with
  |true=>simpa using Mq d c s|false=>rfl
  cases h;cases h
theorem aPs{t:gB}{x y:gC}{r:Bool}(h:aXx P t x y=some r):j5 P t (.agg x) (.agg y)=some r:=by
 unfold aXx at h;unfold j5 Tj;split at h;cases h;rename_i b;simp only[b,cN];split at h;rename_i f a;rw[a];split at h;cases h;rename_i d;simp only[d,cN];exact Mq _ _ h;cases h
theorem aOm{o:jU}{t:gB}{x y v:T}{c:gL}(h:aXg P o t x y=some (v,c))(a:oU c=true):BF P o t x y=some v:=by
 unfold aXg at h;split at h;split at h;rename_i f;simp only[aI,bF]at h;obtain⟨rfl,rfl⟩:=h;simp only[oU,bM,bne_iff_ne]at a;simp[BF,xP,f,a];cases h;split at h;rename_i f;simp only[aI,bF]at h;obtain⟨rfl,rfl⟩:=h;simp only[oU,bM,bne_iff_ne]at a;simp[BF,xP,f,a];cases h;simp only[aI,bF]at h;obtain⟨rfl,rfl⟩:=h;simp only[oU,bM,aF]at a;simp[BF,GE,a];split at h;rename_i d;simp only[aI,bF]at h;obtain⟨rfl,rfl⟩:=h;simp only[oU,bM]at a;unfold TY at d;split at d;rename_i j e;cases x<;>simp[aQq]at a;simp[BF,j5,PR,e,aBy];simp[BF,j5,PR,e,aBy];cases d;cases h;split at h;rename_i d;simp only[aI,bF]at h;obtain⟨rfl,rfl⟩:=h;simp only[oU,bM]at a;unfold TY at d;split at d;rename_i j e;cases x<;>simp[aQq]at a;simp[BF,j5,PR,e,aBy];simp[BF,j5,PR,e,aBy];cases d;cases h;split at h;rename_i b i;simp only[aI,bF]at h;obtain⟨rfl,rfl⟩:=h;simp only[BF,aPs i];rfl;exact GF h;exact GF h
theorem aJe{H:Hp}{t:gB}{p v:T}{c:gL}(h:aJd P H t p=some (v,c))(d:oU c=true):wI P H t p=some v:=by
 unfold aJd at h;split at h;rename_i l b;split at h;rename_i o i;split at h;exact GF h;split at h;rename_i k j;simp only[aI,bF]at h;obtain⟨rfl,rfl⟩:=h;simp only[oU,aA,bM,aF]at d;obtain⟨a,f,e⟩:=d;simp only[wI,vM,i,wK,e];rw[bC,aB f]at a⊢;simp only[fP]at a⊢;generalize o.cells[b]=y at a;cases y<;>simp only[aVh,bI,aF]at a;subst a;rfl;exact GF h;cases h;exact GF h
theorem Cp{own:Bool}{H:Hp}{B:gC}{o:Oper}{v:T}{c:gL}(h:PS P D own H B o=some (v,c))(j:oU c=true):pS P D.env own H B o=some v:=by
 obtain⟨U,J,I,O,z,guard⟩:=o;cases J<;>simp only[PS]at h
 case indexAddr t x i=>
  simp only[pS];split at h;rename_i p q d s;simp only[Ed.env];rw[d,s];exact Ab h j;cases h
 case index t x i=>
  simp only[pS];split at h;rename_i p q d s;simp only[Ed.env];rw[d,s];exact aBw h j;cases h
 case binOp J t x y t'=>
  simp only[pS];split at h;rename_i p q d s;simp only[Ed.env];rw[d,s];split at h;rename_i V;simp only;rw[aJ V];exact aOm h j;cases h;cases h
 case load t a=>
  simp only[pS];split at h;rename_i p d;simp only[Ed.env];rw[d];exact aJe h j;cases h
 case slice t x lo hi mx=>
  simp only[pS];cases mx with
  |some m=>cases h
  |none=>
   simp only at h⊢;split at h;rename_i p d;simp only[Ed.env];rw[d];simp only;split at h;rename_i l hh R w;rw[R,w];exact aDi h j;cases h;cases h
 case call cl=>
  simp only[pS];obtain⟨e,C,M⟩:=cl;cases e with
  |value f=>
   simp only at h;simp only[yT];split at h;rename_i k first cap L
   split at h;rename_i W u;simp only[Ed.env]at*;rw[L];simp only;rw[u];simp only[h,j,cB];cases h;cases h
  |invoke r m=>cases h|builtin b=>exact GF h
 all_goals exact GF h
theorem CQ{own:Bool}{H:Hp}{u:gC}{o:Oper}(h:PS P D own H u o=none)(e:TQ own o=true):pS P D.env own H u o=none:=by
 obtain⟨B,z,w,y,s,guard⟩:=o;cases z<;>simp only[TQ,bI]at e<;>simp only[pS]
 case box=>simp[e]
 case buildSlice=>simp[e]
 case call cl=>
  obtain⟨a,v,x⟩:=cl;cases a with
  |value f=>
   simp only[PS]at h;simp only[yT,Ed.env]at*;split at h;rename_i k first i j
   rw[j];simp only;split at h;rename_i C d;rw[d];simp only[h];rename_i d;rw[d];rename_i q;split;rename_i k first i j;exact absurd j (q k first i)
   rfl
  |invoke r m=>cases e
  |builtin b=>
   cases b<;>simp at e;simp[yT]
theorem Sa{H B:Hp}{t y:gB}{s x v:T}{c:gL}(h:Fr P H t y s x=some (v,B,c))(d:oU c=true):rO P H t y s x=some (v,B):=by
 unfold Fr at h;unfold rO;split at h;rename_i e J;split at h;rename_i i new m O j L;split at h;cases h;rename_i C;simp only[not_or]at C;obtain⟨U,M,I⟩:=C;rw[J];simp only;rw[O,j,L];simp only;have a:new.length=m*i.size/\qO new=true->¬(i.size=0\/new.length≠m*i.size\/qO new=false\/(i.zero.map λz=>z.cells.size)≠some i.size\/zG P y i.size x=false):=by
  rintro⟨W,R⟩ (q|q|q|q|q);exact U q;exact q W;rw[R]at q;cases q;exact M q;exact I q
 split at h;split at h;rename_i b;simp only[aI,bF]at h;obtain⟨rfl,rfl,rfl⟩:=h;simp only[oU,bM,aA,aF]at d;rw[aH (a d)];simp only;rw[aJ b];rename_i b;simp only[aI,bF]at h;obtain⟨rfl,rfl,rfl⟩:=h;simp only[oU,bM,aA,aF]at d;rw[aH (a ⟨d.1,d.2.1⟩)];simp only;rw[aH b,aJ d.2.2];split at h;rename_i b;simp only[aI,bF]at h;obtain⟨rfl,rfl,rfl⟩:=h;simp only[oU,bM,aA,aF]at d;rw[aH (a d)];simp only;rw[aJ b];rename_i b;simp only[aI,bF]at h;obtain⟨rfl,rfl,rfl⟩:=h;simp only[oU,bM,aA,aF]at d;rw[aH (a ⟨d.1,d.2.1⟩)];simp only;rw[aH b,aJ (by rw[d.2.2.1,d.2.2.2];rfl)];split at h;rename_i b;simp only[aI,bF]at h;obtain⟨rfl,rfl,rfl⟩:=h;simp only[oU,bM,aA,aF]at d;rw[aH (a d)];simp only;rw[aJ b];rename_i b;split at h;rename_i w;simp only[aI,bF]at h;obtain⟨rfl,rfl,rfl⟩:=h;simp only[oU,bM,aA,aF]at d;rw[aH (a ⟨d.1,d.2.1⟩)];simp only;rw[aH b];have f:=d.2.2.1;unfold aVv at f;unfold Ah;split at f;rename_i o V;split at f;rename_i u;rw[V];simp only;rw[aJ ⟨w,u.1,u.2,by simpa using f,d.2.2.2⟩];cases f;cases f;cases h;cases h;cases h;cases h
theorem Ag{H d:Hp}{t:gB}{l k v:T}{c:gL}(h:MB P H t l k=some (v,d,c))(b:oU c=true):sX P H t l k=some (v,d):=by
 unfold MB at h;unfold sX;split at h;rename_i e n m o;split at h;rename_i s bytes z f i j;split at h;rename_i a;simp only[aI,bF]at h;obtain⟨rfl,rfl,rfl⟩:=h;simp only[oU,bM,aA,aF]at b;rw[o];simp only;rw[f,i,j];simp only;rw[aJ ⟨a.1,a.2,b.1,b.2.1,b.2.2.1,b.2.2.2⟩];cases h;cases h;cases h
theorem aDt{H d:Hp}{t:gB}{p x:T}{c:gL}(h:Vr P H t p x=some (d,c))(b:oU c=true):vZ P H t p x=some d:=by
 unfold Vr at h;unfold vZ;split at h;split at h;rename_i n e;simp only[aI,bF]at h;obtain⟨rfl,rfl⟩:=h;simp only[oU,bM,aA,aF]at b;have a:=b.2.1;unfold TI at a;unfold Ah;simp only;split at a;rename_i o f;rw[e,f];simp only;rw[aJ ⟨b.1,by simpa using a,b.2.2⟩];cases a;cases h;cases h
theorem aPn{H B:Hp}{z:gC}{o:Oper}{v:T}{c:gL}(h:aXw P D F H z o=some (v,B,c))(e:oU c=true):xW P D.env F H z o=some (v,B):=by
 obtain⟨W,V,I,U,w,guard⟩:=o;cases V<;>simp only[aXw]at h
 case store t p x=>
  simp only[xW];split at h;rename_i q y d j;simp only[Ed.env];rw[d,j];simp only;split at h;rename_i H1 c1 M;simp only[aI,bF]at h;obtain⟨rfl,rfl,rfl⟩:=h;rw[aDt M e];cases h;cases h
 case makeSlice t l k=>
  simp only[xW];split at h;rename_i q y d j;simp only[Ed.env];rw[d,j];exact Ag h e;cases h
 case call cl=>
  obtain⟨f,C,O⟩:=cl;simp only at h;split at h;simp only[xW];split at h;rename_i s x t0 t1 a b;split at h;rename_i p q R d;rw[a,b];simp only[Ed.env];rw[R,d];simp only;split at h;cases h;rename_i u;unfold TG;rw[aH u];exact Sa h e;cases h;cases h;simp only[xW];split at h;rename_i g first cap L
  split at h;rename_i ars i;simp only[Ed.env];rw[L,i];simp only[Fc.ee,h];rw[aJ e];cases h;cases h;have J:=aAm h;simp only[xW]at J⊢;exact J
 all_goals exact aAm h
theorem zU{f:gF}{w:gC}{o:Oper}{ds e v a:gL}{b:Bool}(h:QP f w o ds e= .ok b v a)(i:oU a=true):pX f w o=b/\oU e=true:=by
 unfold QP at h;simp only[Zf]at h;unfold pX AJ;split at h;rename_i s;rw[s];cases h;exact⟨rfl,i⟩;rename_i j x s;rw[s];simp only;split at h;rename_i t q;rw[q];simp only;split at h;cases h;rename_i d z;cases h;simp only[oU,aA]at i;refine⟨?_,i.2⟩;have y:=i.1;cases d<;>cases t<;>simp at y⊢;rename_i u;cases h;refine⟨?_,i⟩;split;rename_i t q;exact absurd q (u t);rfl
theorem IX{own:Bool}{H:Hp}{B:gC}{o:Oper}{ds z M u:gL}{q:jE}(h:Dw P D own H B o ds z= .ok q M u)(e:oU u=true):pS P D.env own H B o=q/\oU z=true:=by
 unfold Dw at h;split at h;rename_i c a b I;split at h;rename_i t ht;split at h;cases h;rename_i d L;split at h;rename_i v j;cases h;simp only[oU,aA]at e;refine⟨?_,e.2⟩;simp only[pS,I,Ed.env];rw[ht];simp only;have f:=e.1;cases d with
 |true=>simp only[cB]at f j;rw[f];simpa using j
 |false=>
  simp only[bI,cN,bQ]at f j;rw[f];simpa using j
 cases h;cases h;rename_i t x I;split at h;rename_i l i V;split at h;rename_i J;split at h;rename_i n hn;cases h;simp only[oU,aA]at e;refine⟨?_,e.2⟩;have f:=e.1;have hE:pS P D.env true H B o=wI P H t (.ptr l i):=by
  simp only[pS,I,Ed.env];rw[V]
 rw[hE];simp only[wI,vM];have R:= @Cd H l i n;unfold TI at f;unfold Ah at R;split at f;rename_i W w;rw[w]at R⊢;simp only[aF]at f;simp only[wK,J,hn];rw[aJ f,R f];cases f;cases h;split at h;cases h;rename_i d L;have s:∀y,(Ah H l).cells.getD i oS=y->TI H l (i+1)=true->decide (KM P t=some false)=true->pS P D.env true H B o=some y:=by
  intro y C f U;simp only[pS,I,Ed.env];rw[V];simp only[aF]at U;simp only[wI,vM];unfold TI at f;unfold Ah at C;split at f;rename_i W w;rw[w]at C⊢;simp only[aF]at f;simp only[wK,U];simp only at C;rw[<-C,bC,aB (by omega)];rfl;cases f
 split at h;cases h;simp only[oU,aA]at e;refine⟨s _ ?_ e.2.1 e.2.2.1,e.2.2.2⟩;have:=e.1;generalize (Ah H l).cells.getD i oS=y at this;cases y<;>simp[Tz]at this;rfl;cases h;simp only[oU,aA]at e;refine⟨s _ ?_ e.2.1 e.2.2.1,e.2.2.2⟩;have:=e.1;generalize (Ah H l).cells.getD i oS=y at this⊢;unfold aIn at this;split at this;rename_i e1;rw[e1];unfold aIm at this;split at this;rfl;cases this;split at this;simp only[aA,bN]at this;obtain⟨rfl,rfl⟩:=this;rfl;cases this;split at h;rename_i v c j;cases h;rw[vF,aA]at e;exact⟨Cp j e.1,e.2⟩;rename_i j;split at h;rename_i O;cases h;exact⟨CQ j O,e⟩;cases h;split at h;rename_i v c j;cases h;rw[vF,aA]at e;exact⟨Cp j e.1,e.2⟩;rename_i j;split at h;rename_i O;cases h;exact⟨CQ j O,e⟩;cases h
theorem Uq{own:Bool}{H:Hp}{i:gC}{o:Oper}{ds b e a:gL}(h:Dw P D own H i o ds b= .ok none e a):pS P D.env own H i o=none:=by
 unfold Dw at h;split at h;split at h;split at h;cases h;split at h<;>cases h;cases h;split at h;split at h;split at h<;>cases h;split at h;cases h;split at h<;>cases h;split at h;cases h;rename_i d;split at h;rename_i f;exact CQ d f;cases h;split at h;cases h;rename_i d;split at h;rename_i f;exact CQ d f;cases h
end
section
variable{P:gD}{D:Ed}{F:Fc}
theorem RK{q:gF}{s U:Fx}{o:Oper}{ds y M b:gL}(a:YL P D F q s o ds y= .ok U M b)(i:oU b=true):vP P D.env F q s o=some U/\oU y=true:=by
 unfold YL at a;simp only[Zn,OY]at a;unfold vP;split at a;rename_i L j x;split at a;rename_i v R B C;cases a;obtain⟨w,u⟩:=IX C i;obtain⟨e,h⟩:=zU x u;rw[aJ e,w];exact⟨rfl,h⟩;cases a;cases a;rename_i R B C;split at a;rename_i d t f;rw[f];simp only;split at a;cases a;rename_i I;split at a;rename_i n z W V;split at a;rename_i O;cases a;obtain⟨w,u⟩:=IX C i;obtain⟨e,h⟩:=zU x u;rw[aJ e,w];simp only;rw[aH I,W,V];simp only;rw[aJ O];exact⟨rfl,h⟩;cases a;cases a;rename_i f;rw[f];simp only;split at a;rename_i v H1 c J;cases a;rw[vF,aA]at i;obtain⟨w,u⟩:=IX C i.2;obtain⟨e,h⟩:=zU x u;rw[aJ e,w,aPn J i.1];exact⟨rfl,h⟩;cases a;rename_i L j x;cases a;obtain⟨e,h⟩:=zU x i;rw[aH (by simp[e])];exact⟨rfl,h⟩;cases a;cases a
theorem aLw{u:gF}{s J:Fx}{o:Oper}{ds j w a:gL}(h:aLv P D F u s o ds j= .ok J w a)(i:oU a=true):wL P D.env F u s o=some J/\oU j=true:=by
 unfold aLv at h;simp only[OY]at h;unfold wL;split at h;rename_i b;rw[b];exact RK h i;rename_i d t b;rw[b];simp only;split at h;rename_i I C x z B f;rw[z,B,f];simp only;split at h;rename_i e;rw[aJ e];split at h;rename_i O;rw[aJ O];split at h;rename_i y n M L;cases h;simp only[oU,aA,aF]at i;simp only[Ed.env];rw[M,L];simp only;rw[aJ ⟨i.1,i.2.1⟩];exact⟨rfl,i.2.2⟩;cases h;cases h;rename_i e;rw[aH e];split at h;cases h;rename_i v;rw[aH v];exact RK h i;rename_i q;split at h;cases h;rename_i v;have R:=RK h i;split;rename_i I C x z B f;exact(q I C x z B f).elim;rw[aH v];exact R
theorem UI{e:gF}:∀{l:hU} {s f:Fx} {ds b d a:gL},BZ P D F e l s ds b= .ok f d a->oU a=true->pU P D.env F e l s=some f/\oU b=true
 |[],s,f,ds,b,d,a,h,i=>by
  simp only[BZ]at h;cases h;exact⟨rfl,i⟩
 |o::l,s,f,ds,b,d,a,h,i=>by
  simp only[BZ]at h;split at h;rename_i z x j y;obtain⟨v,u⟩:=UI h i;obtain⟨q,w⟩:=aLw y u;exact⟨by simp only[pU,q,v],w⟩;cases h;cases h
theorem NR{i:gF}:∀{l:hU} {m:Nat} {s U:Fx} {ds e x b:gL},zS P D F i l m s ds e= .ok U x b->oU b=true->qI P D.env F i l m s=some U/\oU e=true
 |[],m,s,U,ds,e,x,b,h,y=>by
  simp only[zS]at h;split at h;rename_i hp;cases h;exact⟨by simp only[qI,hp],y⟩;cases h
 |o::l,m,s,U,ds,e,x,b,h,y=>by
  simp only[zS,Zn,OY]at h;simp only[qI];split at h;rename_i f;rw[aJ f];split at h;rename_i O;rw[aJ O];exact UI h y;cases h;rename_i f;rw[aH f];split at h;cases h;rename_i L;rw[aH L];split at h;rename_i ds1 J C;split at h;rename_i v ds2 M R;obtain⟨w,u⟩:=NR h y;obtain⟨h3,V⟩:=IX R u;obtain⟨j,a⟩:=zU C V;rw[aJ j,h3];exact⟨w,a⟩;cases h;cases h;rename_i ds2 M R;split at h;rename_i d t q;rw[q];simp only;split at h;cases h;rename_i W;split at h;rename_i n z hn hz;split at h;rename_i hcc;obtain⟨w,u⟩:=NR h y;obtain⟨h3,V⟩:=IX R u;obtain⟨j,a⟩:=zU C V;rw[aJ j,h3];simp only;rw[aH W,hn,hz];simp only;rw[aJ hcc];exact⟨w,a⟩;cases h;cases h;rename_i q;rw[q];simp only;split at h;rename_i O;rw[aA]at O;obtain⟨w,u⟩:=UI h y;refine⟨?_,u⟩;have I:o.guard=none:=by simpa using O.1
  have j:pX i s.fr o=true:=by simp[pX,I]
  have B:pS P D.env (CH F o) s.H s.fr o=none:=by
   have hg':QP i s.fr o ds e= .ok true ds e:=by simp[QP,I]
   rw[hg']at C;cases C;exact Uq R
  rw[aJ j,B,aJ O.2];exact w;cases h;rename_i ds1 J C;obtain⟨w,u⟩:=NR h y;obtain⟨j,a⟩:=zU C u;rw[aH (by simp[j])];exact⟨w,a⟩;cases h;cases h
theorem VX(n:Nat):∀{c:Code} {w i:gC} {H y:Hp} {x:X} {ds j q f:gL},qQ P D F c w H ds j= .ok (x,i,y) q f->oU f=true->oW P D.env F n c w H=some (x,i,y)/\oU j=true:=by
 intro c
 induction c with
 |skip=>intro w i H y x ds j q f h u;simp only[qQ]at h;cases h;exact⟨rfl,u⟩|label l=>intro w i H y x ds j q f h u;simp only[qQ]at h;cases h;exact⟨rfl,u⟩|exit id=>intro w i H y x ds j q f h u;simp only[qQ]at h;cases h;exact⟨rfl,u⟩|ret=>intro w i H y x ds j q f h u;simp only[qQ]at h;cases h;exact⟨rfl,u⟩
 |region id O J=>
  intro w i H y x ds j q f h u;simp only[qQ]at h;simp only[oW];split at h;rename_i f1 V I B v;cases h;cases J with
  |false=>
   simp only[bI,cN]at v⊢;obtain⟨a,b⟩:=UI v u;rw[a];exact⟨rfl,b⟩
  |true=>
   simp only[cB]at v⊢;split at v;split at v;rename_i s hs;cases v;rw[hs];exact⟨rfl,u⟩;cases v;rename_i M;obtain⟨a,b⟩:=NR v u;have a':rR P D.env F O w H=some ⟨i,y,none⟩:=by unfold rR;rw[aH M];exact a
   rw[a'];exact⟨rfl,b⟩
  cases h;cases h;cases h
 |seq W c2 z C=>
  intro w i H y x ds j q f h u;simp only[qQ]at h;simp only[oW];split at h;rename_i f1 V I B v;obtain⟨a,b⟩:=C h u;obtain⟨R,b1⟩:=z v b;rw[R];exact⟨a,b1⟩;rename_i v;obtain⟨R,b1⟩:=z h u;rw[R];cases x with
  |normal=>exact absurd h (v _ _ _ _)|exit id=>exact⟨rfl,b1⟩|ret=>exact⟨rfl,b1⟩
 |cond o W c2 z C=>
  intro w i H y x ds j q f h u;simp only[qQ]at h;simp only[oW,Ed.env];split at h;rename_i t ht;rw[ht];simp only;split at h;cases h;rename_i d I;split at h;obtain⟨a,b⟩:=z h u;simp only[oU,aA]at b;rw[aJ b.1];exact⟨a,b.2⟩;obtain⟨a,b⟩:=C h u;simp only[oU,aA,bQ]at b;rw[aH (by simp[b.1])];exact⟨a,b.2⟩;cases h
 |block id c L=>
  intro w i H y x ds j q f h u;simp only[qQ]at h;simp only[oW];split at h;rename_i U f1 V I B v;split at h;rename_i e;cases h;obtain⟨a,b⟩:=L v u;rw[a];simp only;rw[aJ e];exact⟨rfl,b⟩;rename_i e;cases h;obtain⟨a,b⟩:=L v u;rw[a];simp only;rw[aH e];exact⟨rfl,b⟩;rename_i v;obtain⟨a,b⟩:=L h u;rw[a];cases x with
  |normal=>exact⟨rfl,b⟩|exit U=>exact absurd h (v _ _ _ _ _)|ret=>exact⟨rfl,b⟩
 |scope c L=>
  intro w i H y x ds j q f h u;simp only[qQ]at h;simp only[oW];exact L h u
 |_ =>intro w i H y x ds j q f h;simp[qQ]at h
end
noncomputable section
abbrev gT:=X->List T->Hp->Prop
def Good(P:gD)(E:uW)(c:Code)(j:gC)(H:Hp)(Q:gT):Prop:=
 ∀(e g:G) (i:Hp) (a:Act),qK E e i g a j H->∀(R:gJ),(∀x f d b h,Q x f d->qK E e i h b f d->R x.au b h.w)->c.wp P R a g.w
def rE(N:List T->Hp->Prop)(Q:gT):X->List T->Hp->Prop
 | .normal,f,H=>N f H|x,f,H=>Q x f H
def xJ(id:Nat)(Q:gT):X->List T->Hp->Prop
 | .exit i,f,H=>if i=id then Q .normal f H else Q (.exit i) f H
 |x,f,H=>Q x f H
section
variable{P:gD}{E:uW}{c:Code}{fr:gC}{H:Hp}{Q:gT}
theorem Good.mono{d:gT}(h:Good P E c fr H Q)(u:∀x f b,Q x f b->d x f b):Good P E c fr H d:=
 λi g s a v R j=>h i g s a v R (λx f b e o q=>j x f b e o (u x f b q))
theorem aIe{i j:Code}(h:Good P E i fr H (rE (λf o=>Good P E j f o Q) Q)):Good P E (.seq i j) fr H Q:=by
 intro q g s a w R e;refine wp_seq (h q g s a w _ (λx f o u v d b=> ?_));cases x with
 |normal=>exact d q v s u b R e|exit id=>exact e _ _ _ _ _ d b|ret=>exact e _ _ _ _ _ d b
theorem Tq{id:Nat}(h:Good P E c fr H (xJ id Q)):Good P E (.block id c) fr H Q:=by
 intro o g q a s R f;refine wp_block (h o g q a s _ (λx i u v w d b=> ?_));cases x with
 |normal=>exact f _ _ _ _ _ d b
 |exit j=>
  simp only[xJ]at d;simp only[X.au,Exit.inBlock];split at d;rename_i e;rw[aJ e];exact f _ _ _ _ _ d b;rename_i e;rw[aH e];exact f _ _ _ _ _ d b
 |ret=>exact f _ _ _ _ _ d b
theorem Ts(h:Good P E c fr H Q):Good P E (.scope c) fr H Q:=by
 intro i g j a o R e;refine wp_scope_straight (h i g j a o _ (λx f s q u d b=> ?_));cases x with
 |normal=>exact e _ _ _ _ _ d b|exit id=>exact e _ _ _ _ _ d b|ret=>exact e _ _ _ _ _ d b
theorem Cy{o:jH}{b d:Code}{t:Bool}(j:pQ E.gl fr o=some (.bool t))(s:t=true->Good P E b fr H Q)(q:t=false->Good P E d fr H Q):Good P E (.cond o b d) fr H Q:=by
 intro e g i a h R f;have u:=(EX.of h.fr none).eval h.gl (λ_ _ =>by simp) j;refine wp_cond u.a8 ?_;cases t with
 |true=>exact s rfl e g i a h R f|false=>exact q rfl e g i a h R f
theorem SX{R:gJ}:∀(k:Nat) (a:Act) (w:iG),Code.rounds P c R k a w->Code.rounds P c R (k+1) a w
 |0,_,_,h=>h.elim
 |k+1,a,w,h=>by
  rw[rounds_succ]at h⊢;refine wp_mono h λe b d q=> ?_;cases e with
  |normal=>exact SX k b d q|_ =>exact q
theorem aDa{R:gJ}{k m:Nat}(b:k<=m){a:Act}{w:iG}(h:Code.rounds P c R k a w):Code.rounds P c R m a w:=by
 induction m with
 | zero => have:k=0:=by omega
           subst this;exact h
 |succ m i=>
  rcases dS b with e|hlt;exact e▸h;exact SX m a w (i (by omega))
theorem aBu(I:Nat->List T->Hp->Prop)(hI:∀n f H,I n f H->Good P E c f H (rE (λb e=>∃m,m<n/\I m b e) Q)):∀n f H,I n f H->Good P E (.loop c) f H Q:=by
 intro n f H i u g v a q R s;refine wp_loop_rounds (n+1) ?_;have j:∀n f H a g,I n f H->qK E u v g a f H->Code.rounds P c R (n+1) a g.w:=by
  intro n
  induction n using Nat.strongRecOn with
  |_ n z=>
   intro f H a g i q;rw[rounds_succ];refine hI n f H i u g v a q _ (λx b e B C d h=> ?_);cases x with
   |normal=>
    obtain⟨m,y,o⟩:=d;exact aDa (k:=m+1) (by omega) (z m y b e B C o h)
   |exit id=>exact s _ _ _ _ _ d h|ret=>exact s _ _ _ _ _ d h
 exact j n f H a g i q
def BM(P:gD)(a:Func)(f:gC)(H:Hp):Option T:=
 match rJ P f H a.results.toList with
 |some [t]=>some t|some b=>some (.fm b)|none=>none
theorem aCx{fn:Func}{s g:G}{y:Hp}{a:Act}(e:qK E s y g a fr H){r:T}(b:BM P fn fr H=some r):∃v,(results fn a.tmps).run P g.w= .ok v g.w/\Rd g v r:=by
 unfold BM at b;split at b;rename_i t f;cases b;obtain⟨d,i,h⟩:=yK (P:=P) e.st e.fr f
 match d,h with
 |[u],h=>
  refine⟨u,?_,(h.I).1⟩;have:fn.results=fn.results.toList.toArray:=by simp
  rw[yC,this,eH];simp only[aW,fV];rw[i];simp
 |[],h=>simp[fv]at h|_ ::_ ::_,h=>simp[fv]at h
 rename_i o j f;cases b;obtain⟨d,i,h⟩:=yK (P:=P) e.st e.fr f;refine⟨.tuple d.toArray,?_,Rd.ak h⟩;have:fn.results=fn.results.toList.toArray:=by simp
 rw[yC,this,eH];simp only[aW,fV];rw[i];have x:d.length≠1:=λq=>by
  rw[h.1]at q;obtain⟨t,rfl⟩:=eY.1 q;exact j t rfl
 simp[x];cases b
def Rr(P:gD)(a:Func)(k:Nat)(r:T)(x:X)(f:gC)(H:Hp):Prop:=(x= .normal\/x= .ret)/\∃q,BM P a f H=some q/\pM k H q=some r
end
abbrev iX:=List T->Option (T×List Bool)
abbrev iQ:=Hp->FuncId->List T->Option (T×List Bool)
def qC(f:gX)(s:iX)(b:iQ):Hp->FuncId->List T->Option (T×List Bool):=λH g a=>if g=f then s a else b H g a
theorem pG{P:gD}{gl:gG}{f:gX}{s:iX}{j:iQ}(h:rV P gl (Ed.env ⟨gl,j⟩).pe)
  (w:∀b r d,s b=some (r,d)->oU d=true->fj P gl f b r):rV P gl (Ed.env ⟨gl,qC f s j⟩).pe:=by
 intro H k b r a;simp only[Ed.env,qC]at a;by_cases e:k=f;subst e;simp only[cB]at a;split at a;rename_i q d u;split at a;rename_i x;simp only[aI]at a;subst a;have:=w b _ d u x;exact⟨this.1,λg v o i=>this.2 g v o ⟨H.next,i.new⟩⟩;cases a;cases a;rw[aH e]at a;exact h H k b r a
theorem rM{P:gD}{gl:gG}:rV P gl (Ed.env ⟨gl,λ_ _ _ =>none⟩).pe:=λH f a r h=>by simp[Ed.env]at h
theorem vW{P:gD}{gl:gG}:sD P gl (λ_ _ _ =>none):=λf b H r a h=>by cases h
def mO(a:iE)(f:gC):Nat->Nat->List T
 |_,0=>[]|k,n+1=>(match a.lookup k with|some v=>v|none=>rW f k)::mO a f (k+1) n
theorem aJz(a:iE)(f:gC)(b:∀k v,a.lookup k=some v->rW f k=v):∀(n k:Nat),k+n=f.length->mO a f k n=f.drop k
 |0,k,h=>by simp[mO];omega
 |n+1,k,h=>by
  simp only[mO];rw[aJz a f b n (k+1) (by omega),eN (show k<f.length by omega)];congr 1;split;rename_i v d;have:=b k v d;rw[<-this];rw[uG];rw[bC,aB (by omega)];rfl;rw[uG];rw[bC,aB (by omega)];rfl
def SY:T->Bool
 | .int .. | .bool _ | .str _ | .fS| .fp| .gg| .gb| .fw=>true|_ =>false
def Eh:T->Bool
 | .agg a=>a.all SY|t=>SY t
def Ai:T->Bool
 | .fm a=>a.all Eh| .agg a=>a.all Eh|t=>SY t
abbrev gI:=FuncId->List T->Option T
def sR(k:Nat)(d:gI)(H:Hp)(f:gX)(b:gC):Option T:=
 match qJ (pM k ⟨0,.nl⟩) b with
 |some a=>d f a
 |none=>match qJ (pM k H) b with
  |some a=>match d f a with
   |some r=>if Ai r then some r else none
   |none=>none
  |none=>none
def LO(own:hJ)(e:gK):Fc:=⟨own,λf a H=>aDy (e f a H)⟩
theorem FH(own:hJ)(e:gK):(LO own e).ee=e:=by
 funext f a H;show(match aDy (e f a H)with|some (r,d,b)=>if oU b then some (r,d)else none|none=>none)=_;cases e f a H with
 |none=>rfl|some r=>rfl
section
variable{P:gD}
def G.bare(g:G):G:={w:=g.w,S:=g.S,al:=λ_ =>False,loc:=g.loc,cp:=g.cp}
def wO(gl:gG):Prop:=∀k t,gl k=some t->∃n,pM n ⟨0,.nl⟩ t=some t
theorem HT:∀(n N:Nat) (H:Hp) (t r:T),pM n ⟨N,.nl⟩ t=some r->pM n H t=some r:=by
 intro n
 induction n with
 |zero=>intro N H t r h;simp[pM]at h
 |succ n s=>
  intro N H;have d:∀(j o:gC),qJ (pM n ⟨N,.nl⟩) j=some o->qJ (pM n H) j=some o:=by
   intro j
   induction j with
   |nil=>intro o h;exact h
   |cons t j q=>
    intro o h;simp only[qJ]at h⊢;split at h;rename_i a u;split at h;rename_i b v;rw[s N H _ _ u,q _ v];exact h;cases h;cases h
  intro t r h;cases t<;>simp only[pM]at h⊢<;>try exact h
  case ptr l off=>rw[ii]at h;cases h
  case ge l sz i len=>rw[ii]at h;cases h
  case ref x off=>
   split at h;rename_i y e;rw[s N H _ _ e];exact h;cases h
  case sl f xs=>
   split at h;rename_i y e;rw[d _ _ e];exact h;cases h
  case fn f a c=>
   split at h;rename_i x y w e;rw[d _ _ w,d _ _ e];exact h;cases h
  case iface t x=>
   split at h;rename_i y e;rw[s N H _ _ e];exact h;cases h
  case agg cs=>
   split at h;rename_i y e;rw[d _ _ e];exact h;cases h
  case fm cs=>
   split at h;rename_i y e;rw[d _ _ e];exact h;cases h
theorem TW{g g0:G}{H:Hp}(s:St g H){k:Nat}{f a:gC}(h:qJ (pM k H) f=some a){e:gV}(d:fv g e f):fv (g.aM H g0) e a:=by
 obtain⟨u,q⟩:=FY h;refine⟨by rw[d.1,u],λj v c b w=> ?_⟩;obtain⟨t,o,i⟩:=q j c w;exact LR s k t c v i (d.2 j v t b o)
theorem St.bare{g:G}{H:Hp}(h:St g H):St g ⟨H.next,.nl⟩:=St.nl _ _ (h.new)
theorem JL(g a:G)(N:Nat):g.aM ⟨N,.nl⟩ a={w:=g.w,S:=g.S,al:=a.al,loc:=a.loc,cp:=a.cp}:=by
 simp only[G.aM,ii];congr 1;funext b;simp
theorem gn.aM{gl:gG}(i:wO gl){g g0:G}{H:Hp}(o:St g H)(h:gn gl g):gn gl (g.aM H g0):=λj t a=>by
 obtain⟨n,d⟩:=i j t a;obtain⟨e,f,b⟩:=h j t a;exact⟨LR o n t t _ (HT n 0 H t t d) e,.inl f,b⟩
def iq(P:gD)(gl:gG)(h:gI):Prop:=
 ∀f b r,h f b=some r->uQ P f=true/\∀(g:G) (d:gV),sJ g->(∀l,¬g.al l)->gn gl g->fv g d b->
  Calls P f d.toArray g.w λe i=>∃v a,e= .returned v/\a.w=i/\fx g a/\sJ a/\Rd a v r
theorem aLd{g a:G}{v:gZ}{t:T}(h:SY t=true)(b:Rd g v t):Rd a v t:=by
 cases b<;>simp[SY]at h<;>constructor
theorem Qb{g u:G}{v:gZ}{t:T}(h:Eh t=true)(e:Rd g v t):Rd u v t:=by
 cases e with
 |agg f q i o=>
  simp only[Eh,aP]at h;exact .agg f q i (λj v c d a=>aLd (h c (bK a)) (o j v c d a))
 |int k n=>exact .int k n|bool b=>exact .bool b|str s=>exact .str s|fS=>exact .fS|fp=>exact .fp|gg=>exact .gg|gb=>exact .gb|fw=>exact .fw|_ =>simp[Eh,SY]at h
theorem aSy{g u:G}{v:gZ}{t:T}(h:Ai t=true)(q:Rd g v t):Rd u v t:=by
 cases q with
 |agg e o f i=>
  simp only[Ai,aP]at h;exact .agg e o f (λj v c d a=>Qb (h c (bK a)) (i j v c d a))
 |fm e o f i=>
  simp only[Ai,aP]at h;exact .fm e o f (λj v c d a=>Qb (h c (bK a)) (i j v c d a))
 |int k n=>exact .int k n|bool b=>exact .bool b|str s=>exact .str s|fS=>exact .fS|fp=>exact .fp|gg=>exact .gg|gb=>exact .gb|fw=>exact .fw|_ =>simp[Ai,SY]at h
theorem aCu{g g':G}(hw:g.w=g'.w)(W:∀b,g.S b->g'.S b)(B:∀l,¬g.al l):∀{v:gZ} {t:T},Rd g v t->Rd g' v t:=by
 intro v t hr;have hc:∀(a:Addr) (v:gZ),g.w.cell? a=some v->g'.w.cell? a=some v:=λa v h=>by rw[<-hw];exact h
 induction hr with
 |int k n=>exact .int k n|bool b=>exact .bool b|str s=>exact .str s|fS=>exact .fS|ptr l L I=>exact absurd I (B l)|ref x L b o y e u C _ z=>exact .ref x L b o y (W b e) u (λj v U=>hc _ _ (C j v U)) z|fp=>exact .fp|ai d f p=>exact .ai d f p|sl d xs sz b o J y e O h2 M R u C _ z=>exact .sl d xs sz b o J y (λhx=>W b (e hx)) O h2 M R u (λj v U=>hc _ _ (C j v U)) z|ac d n f sz b o J y e h2 M R h5 h6 h7 h8=>exact Rd.ay W (λ_ _ _ _ q=>hc _ _ q) e h2 M R h5 h6 h7 h8|ge l sz i len b o J I=>exact absurd I (B l)|gg=>exact .gg|fn f a c y us e _ M _ V ih2=>exact .fn f a c y us e V M ih2|gb=>exact .gb|iface t v x _ z=>exact .iface t v x z|fw=>exact .fw|mp l I=>exact absurd I (B l)|yl l I=>exact absurd I (B l)|agg cs y e _ z=>exact .agg cs y e z|fm cs y e _ z=>exact .fm cs y e z
theorem CW{gl:gG}{pe:gI}{k:Nat}(hz:wO gl)(h:iq P gl pe):rV P gl (sR k pe):=by
 intro H f u r s;unfold sR at s;split at s;rename_i d y;obtain⟨h1,h2⟩:=h f d r s;refine⟨h1,λg L M I C R=> ?_⟩;have J:qJ (pM k ⟨H.next,.nl⟩) u=some d:=by
  have:∀(u d:gC),qJ (pM k ⟨0,.nl⟩) u=some d->qJ (pM k ⟨H.next,.nl⟩) u=some d:=by
   intro u
   induction u with
   |nil=>intro rs h;exact h
   |cons t u V=>
    intro rs h;simp only[qJ]at h⊢;split at h;rename_i a ha;split at h;rename_i b z;rw[HT k 0 _ _ _ ha,V _ z];exact h;cases h;cases h
  exact this u d y
 have B:fv g.bare L d:=by
  have:=TW (g0:=g.bare) I.bare J R;rw[JL]at this;exact this
 have j:gn gl g.bare:=by
  have:=gn.aM (g0:=g.bare) hz I.bare C;rw[JL]at this;exact this
 refine(h2 g.bare L M (λ_ q=>q) j B).mono λe w' ⟨v,x,e1,e2,i,e4,W⟩=> ?_;refine⟨v,{w:=x.w,S:=x.S,al:=g.al,loc:=g.loc,cp:=g.cp},e1,e2,⟨i.os,i.tape,i.output,i.size,i.block,i.sub,i.fresh,rfl,rfl,rfl⟩,e4,?_⟩;exact aCu (g:=x) (g':={w:=x.w,S:=x.S,al:=g.al,loc:=g.loc,cp:=g.cp}) rfl (λ_ q=>q) (by rw[i.al];exactλ_ q=>q) W;split at s;rename_i d y;split at s;rename_i r' hr';split at s;rename_i O;cases s;obtain⟨h1,h2⟩:=h f d r hr';refine⟨h1,λg L M I C R=> ?_⟩;have B:fv (g.aM H g.bare) L d:=TW I y R;have j:gn gl (g.aM H g.bare):=gn.aM hz I C;have U:sJ (g.aM H g.bare):=by
  intro b z;rcases z with z|⟨l,o,ho,rfl⟩
  exact M b z;exact I.lt (pD ho).1
 refine(h2 (g.aM H g.bare) L U (λ_ q=>q) j B).mono λe w' ⟨v,x,e1,e2,i,e4,W⟩=> ?_;refine⟨v,{w:=x.w,S:=g.S,al:=g.al,loc:=g.loc,cp:=g.cp},e1,e2,⟨i.os,i.tape,i.output,i.size,i.block,λ_ q=>q,λ_ q=> .inl q,rfl,rfl,rfl⟩,λb z=>cX (M b z) i.size,aSy O W⟩;cases s;cases s;cases s
end
abbrev gW:=Option Nat
def Fw(a:gW):Fence:={Fence.wide with round:=a}
abbrev iU:=List Deferred
def DS(ds:iU)(a:Act):Act:={a with defers:=a.defers++ds}
theorem FA{b:gW}{n:Nat}{P:gD}{f:gX}{a:hP}{w:iG}{R:Ending->World->Prop}:CallsIn (Fw b) n P f a w R↔Calls P f a w R:=
 (callsIn_wide (n:=n) (P:=P) (f:=f) (args:=a) (w:=w) (R:=R))
theorem aDc{d:gW}{n:Nat}{P:gD}{b:String}{a:hP}{w:iG}{R:Value->World->Prop}(h:Rows P b a w R):RowsIn (Fw d) n P b a w R:=
 λc e _ =>let⟨v,w',r,s⟩:=h c e;⟨v,w',r,(stepsIn_wide (P:=P)).2 s⟩
section
variable{P:gD}{ops:gF}{Q:gJ}{ro:gW}{n:Nat}{ds:iU}
theorem LJ(a:Act)(d:jC)(v:gZ):DS ds (a.put d v)=(DS ds a).put d v:=by cases d<;>rfl
theorem aSg{o:Oper}(B:∀c,o.op≠ .defer c){K z:iJ}(u:∀a w,¬Q .outgrown a w)(j:∀a w,K a w->z (DS ds a) w){a:Act}{w:iG}(h:o.wp P a w K (λe a w=>Q e (DS ds a) w)):
  o.wpIn (Fw ro) n P (DS ds a) w z Q:=by
 refine⟨λ_ _ =>trivial,?_⟩;have e:o.semAt (Fw ro).round (DS ds a).eval=execOp a.eval o:=Oper.semAt_eq _ _ _ B;rw[e];unfold Oper.wp at h;have I:¬LetsOut (λe a w=>Q e (DS ds a) w):=λ⟨a,w,h⟩=>u _ _ h;generalize (execOp a.eval o).run P w=r at h;cases r with
 |ok x C=>
  cases x with
  |value v=>simp only[Oper.upon,Oper.uponIn]at h⊢;rw[<-LJ];exact j _ _ h|skip=>simp only[Oper.upon,Oper.uponIn]at h⊢;rw[<-LJ];exact j _ _ h
  |enter f i=>
   simp only[Oper.upon,Oper.uponIn]at h⊢;refine⟨λq=>(by cases q),FA.2 (h.mono ?_)⟩;intro e y b;cases e with
   |returned v=>simp only at b⊢;rw[<-LJ];exact j _ _ b|panicked s=>exact b|outgrown=>exact absurd b I
  |row r i=>
   simp only[Oper.upon,Oper.uponIn]at h⊢;refine⟨λq=>(by cases q),aDc (h.mono ?_)⟩;intro v y b;rw[<-LJ];exact j _ _ b
  |defer d=>
   simp only[Oper.upon,Oper.uponIn]at h⊢;have:=j _ _ h
   rwa [LJ]at this
  |_ =>simp only[Oper.upon]at h
 |halt x C=>cases x<;>simp only[Oper.upon,Oper.uponIn]at h⊢<;>exact h
theorem Ez(o:Oper)(a:Act):Region.wanted o (yielded ops (DS ds a).tmps)=Region.wanted o (yielded ops a.tmps):=rfl
def tP(a:gF):Bool:=a.toList.all λo=>match o.op with
  | .defer _ =>false|_ =>true
theorem SU(h:tP ops=true){i:Nat}{o:Oper}(b:ops[i]? =some o):∀c,o.op≠ .defer c:=by
 intro c a;unfold tP at h;rw[aP]at h;have:=h o (by rw[Array.mem_toList_iff];exact Array.mem_of_getElem? b);rw[a]at this;cases this
theorem Kq(s:tP ops=true){i:Nat}{K q:iJ}(b:∀a w,¬Q .outgrown a w)(f:∀a w,K a w->q (DS ds a) w){a:Act}{w:iG}(h:wpOp P ops (λe a w=>Q e (DS ds a) w) i K a w):
  wpOpIn (Fw ro) n P ops Q i q (DS ds a) w:=by
 unfold wpOp at h;unfold wpOpIn;split;rename_i d;rw[d]at h;exact f _ _ h;rename_i o d;rw[d]at h;simp only at h;rw[Ez];split;rename_i j;rw[aJ j]at h;rcases h with h|⟨_,u,v,h⟩
 exact aSg (SU s d) b f h;exact absurd h (b _ _);rename_i j;rw[aH j]at h;refine⟨λ_ _ =>trivial,?_⟩;rw[<-LJ];exact f _ _ h
theorem ZO(d:tP ops=true)(b:∀a w,¬Q .outgrown a w):∀(l:gU) (a:Act) (w:iG),wpOps P ops (λe a w=>Q e (DS ds a) w) l a w->wpOpsIn (Fw ro) n P ops Q l (DS ds a) w
 |[],a,w,h=>h
 |i::l,a,w,h=>by
  rw[wpOps_cons]at h;rw[wpOpsIn_cons];exact Kq d b (λa w h=>ZO d b l a w h) h
theorem PK(j:tP ops=true){f:Region.Mode}(d:∀a w,¬Q .outgrown a w):∀(fuel:Nat) (b:iP) (a:Act) (w:iG),wpAny P f ops (λe a w=>Q e (DS ds a) w) fuel b a w->wpAnyIn (Fw ro) n P f ops Q fuel b (DS ds a) w
 |0,b,a,w,h=>h|fuel+1,b,a,w,h=>⟨h.1,λi o=>Kq j d (λa w h=>PK j d fuel _ a w h) (h.2 i o)⟩
variable{E:uW}{F:Fc}
theorem Eb(y:P.follows .mixedOrders=true)(x:rV P E.gl E.pe)(hF:sD P E.gl F.ee){id:Nat}{draw:Bool}(s:tP ops=true)(b:draw=true->zQ ops=true){d f:gC}{H j:Hp}
  (v:(if draw then rR P E F ops d H else pU P E F ops ops.toList ⟨d,H,none⟩)=some ⟨f,j,none⟩) {o g:G} {u:Hp} {a:Act} (B:qK E o u g a d H)
  (h:∀a w,¬Q .outgrown a w) (z:∀i q,qK E o u q i f j->Q .normal (DS ds i) q.w):(Code.region id ops draw).wpIn (Fw ro) n P Q (DS ds a) g.w:=by
 have:=SW (Q:=λe a w=>Q e (DS ds a) w) x hF b v B z;cases draw with
 |false=>exact wpIn_region (ZO s h _ _ _ this)|true=>exact wpIn_region_any y (PK s h _ _ _ _ this)
def uZ:Code->Bool
 | .region _ o _ =>tP o| .seq a b| .cond _ a b=>uZ a&&uZ b| .block _ c| .loop c=>uZ c| .skip| .label _ | .exit _ | .ret=>true|_ =>false
theorem xN{K:iJ}(b:∀a w,¬Q .outgrown a w):∀a w,¬Exit.then K Q .outgrown a w:=λa w h=>b a w h
theorem aPc(hm:P.follows .mixedOrders=true)(hE:rV P E.gl E.pe)(hF:sD P E.gl F.ee)(m:Nat):∀(c:Code) (C:gC) (H:Hp) (x:X) (u:gC) (M:Hp),codeOk c=true->uZ c=true->oW P E F m c C H=some (x,u,M)->
  ∀(z g:G) (B:Hp) (a:Act),qK E z B g a C H->∀(Q:gJ),(∀a w,¬Q .outgrown a w)->(∀I J,qK E z B J I u M->Q x.au (DS ds I) J.w)->c.wpIn (Fw ro) n P Q (DS ds a) g.w:=by
 intro c
 induction c with
 |skip=>
  intro C H x u M _ _ f z g B a y Q j v;simp only[oW,aI,bF]at f;obtain⟨rfl,rfl,rfl⟩:=f;exact wpIn_skip (v a g y)
 |label l=>
  intro C H x u M _ _ f z g B a y Q j v;simp only[oW,aI,bF]at f;obtain⟨rfl,rfl,rfl⟩:=f;exact wpIn_label (v a g y)
 |region id ops draw=>
  intro C H x u M i d f z g B a y Q j v;simp only[oW]at f;split at f;rename_i f1 h1 L;cases f;exact Eb hm hE hF d (λq=>by subst q;simpa [codeOk]using i) L y j v;cases f
 |seq c1 c2 O R=>
  intro C H x u M i d f z g B a y Q j v;simp only[codeOk,aA]at i;simp only[uZ,aA]at d;simp only[oW]at f;refine wpIn_seq ?_;split at f;rename_i f1 h1 L;exact O _ _ _ _ _ i.1 d.1 L z g B a y _ (xN j) (λI J s=>R _ _ _ _ _ i.2 d.2 f z J B I s Q j v);rename_i L;refine O _ _ _ _ _ i.1 d.1 f z g B a y _ (xN j) (λI J s=> ?_);cases x with
  |normal=>exact absurd f (L _ _)|exit id=>exact v I J s|ret=>exact v I J s
 |cond o c1 c2 O R=>
  intro C H x u M i d f z g B a y Q j v;simp only[codeOk,aA]at i;simp only[uZ,aA]at d;simp only[oW]at f;split at f;rename_i b hb;have L:=(EX.of y.fr none).eval y.gl (λ_ _ =>by simp) hb;refine wpIn_cond (t:=b) (show(DS ds a).eval o= .bool b from L.a8) ?_;cases b with
  |true=>exact O _ _ _ _ _ i.1 d.1 (by simpa using f) z g B a y Q j v|false=>exact R _ _ _ _ _ i.2 d.2 (by simpa using f) z g B a y Q j v
  cases f
 |block id c U=>
  intro C H x u M i d f z g B a y Q j v;simp only[codeOk]at i;simp only[uZ]at d;simp only[oW]at f;refine wpIn_block ?_;have V:∀a w,¬Exit.inBlock id Q .outgrown a w:=λa w h=>j a w h;split at f;rename_i id' f1 h1 L;refine U _ _ _ _ _ i d L z g B a y _ V (λI J s=> ?_);simp only[X.au,Exit.inBlock];split at f;rename_i e;cases f;rw[aJ e];exact v I J s;rename_i e;cases f;rw[aH e];exact v I J s;rename_i L;refine U _ _ _ _ _ i d f z g B a y _ V (λI J s=> ?_);cases x with
  |normal=>exact v I J s|exit id'=>exact absurd f (L _ _ _)|ret=>exact v I J s
 |loop c U=>
  intro C H x u M i d f z g B a y Q j v;simp only[codeOk]at i;simp only[uZ]at d;simp only[oW]at f;refine wpIn_loop_rounds m ?_;have key:∀(k:Nat) (C:gC) (H:Hp) (a:Act) (g:G),oW.gx (λC H=>oW P E F m c C H) k C H=some (x,u,M)->qK E z B g a C H->Code.roundsIn (Fw ro) n P c Q k (DS ds a) g.w:=by
   intro k
   induction k with
   |zero=>intro C H a g h;simp[oW.gx]at h
   |succ k ihk=>
    intro C H a g h W;simp only[oW.gx]at h;rw[roundsIn_succ];split at h;rename_i f1 h1 L;exact U _ _ _ _ _ i d L z g B a W _ (xN j) (λI J s=>ihk f1 h1 I J h s);rename_i L;refine U _ _ _ _ _ i d h z g B a W _ (xN j) (λI J s=> ?_);cases x with
    |normal=>exact absurd h (L _ _)|exit id=>exact v I J s|ret=>exact v I J s
  exact key m C H a g f y
 |exit id=>
  intro C H x u M _ _ f z g B a y Q j v;simp only[oW,aI,bF]at f;obtain⟨rfl,rfl,rfl⟩:=f;exact wpIn_exit (v a g y)
 |ret=>
  intro C H x u M _ _ f z g B a y Q j v;simp only[oW,aI,bF]at f;obtain⟨rfl,rfl,rfl⟩:=f;exact wpIn_ret (v a g y)
 |_ =>
  intro C H x u M _ d;simp[uZ]at d
end
theorem bOp{a b:Nat}:Nat.beq a b=true↔a=b:=⟨aD,λh=>by subst h;exact fJ a⟩
section
variable(P:gD)(E:uW)(F:Fc)(ops:gF)
end
section
variable{P:gD}{E:uW}{F:Fc}{ops:gF}
theorem pP.bh(H:Hp)(g:G)(l:Nat):pP H g (H.drop l) g:=by
 refine⟨rfl,rfl,rfl,bB _,λ_ _ _ =>rfl,λ_ h=>h,λ_ h=> .inl h,λ_ h=>h,λ_ _ =>rfl,λ_ _ =>rfl,λm o a=> ?_⟩;rw[qY]at a;split at a;cases a;exact .inl ⟨m,o,a,rfl⟩
theorem St.bh{g:G}{H:Hp}(b:St g H)(l:Nat):St g (H.drop l):=by
 have h:∀m q,(H.drop l).any m=some q->H.any m=some q:=λm q a=>by
  rw[qY]at a;split at a;cases a;exact a
 refine⟨λm q a=> ?_,λm q w a i=>b.ap m q w (h m q a) i,λm j q o u s e=>b.sep m j q o (h m q u) (h j o s) e,λm v=>b.new m v⟩;obtain⟨f,d⟩:=pD a;exact b.own m q (yA (h m q f) d)
theorem aKn{g z:G}{H I:Hp}{l:Nat}{B:Ob}(hl:H.get l=some B)(L:St g H)(h:pP (H.drop l) g I z)(f:St z I):pP H g (I.put l B) z/\St z (I.put l B):=by
 obtain⟨s,hlm⟩:=pD hl;have J:∀m q,(H.drop l).any m=some q->H.any m=some q/\m≠l:=λm q a=>by
  rw[qY]at a;split at a;cases a;exact⟨a,‹_›⟩
 obtain⟨a1,a2,cs,a3,a4,a5,a6,a7⟩:=L.own l B hl;have d:z.loc l=g.loc l:=h.loc l a1;have W:g.loc l<g.w.heap.size:=L.lt s;have u:∀m q,(H.drop l).any m=some q->g.loc m≠g.loc l:=λm q a e=>(J m q a).2 (L.sep _ _ _ _ (J m q a).1 s e);have C:∀m q,I.any m=some q->z.loc m≠g.loc l:=λm q a e=>by
  rcases h.live m q a with⟨j,o,y,x⟩|q
  exact u j o y (x.trans e);omega
 have hS':¬z.S (g.loc l):=λq=>by
  rcases h.fresh _ q with q|q|⟨j,o,y,x⟩;exact a2 q;omega;exact u j o y x
 refine⟨⟨h.os,h.tape,h.output,h.size,λb hb hn=>h.block b hb λm q a=>hn m q (J m q a).1,h.sub,λb hb=> ?_,h.al,h.loc,h.cp,λm q a=> ?_⟩,⟨λm q a=> ?_,λm q mo a v=> ?_,λm m' q q' R O e=> ?_,λm hm=>f.new m hm⟩⟩;rcases h.fresh b hb with q|q|⟨j,o,y,x⟩;exact .inl q;exact .inr (.inl q);exact .inr (.inr ⟨j,o,(J j o y).1,x⟩);rw[qP]at a;split at a;rename_i e;subst e;exact .inl ⟨m,B,s,d.symm⟩;rcases h.live m q a with⟨j,o,y,x⟩|q
 exact .inl ⟨j,o,(J j o y).1,x⟩;exact .inr q;obtain⟨i,V⟩:=pD a;rw[qP]at i;split at i;rename_i e;subst e;cases i;refine⟨h.al _ a1,by rw[d];exact hS',cs,?_,a4,a5,by rw[h.cp _ a1];exact a6,a7.af (L.bh m) h⟩;rw[d,h.block _ W u];exact a3;exact f.own m q (yA i V);rw[qP]at a;split at a;cases a;rw[hlm]at v;cases v;exact f.ap m q mo a v;rw[qP]at R O;split at R<;>split at O;rename_i M U;rw[M,U];rename_i M U;subst M;exact absurd (e.symm.trans d) (C m' q' O);rename_i M U;subst U;exact absurd (e.trans d) (C m q R);exact f.sep m m' q q' R O e
def BJ(o:Oper):Bool:=match o.op with
 | .call c=>(match c.callee with
  | .value _ =>true|_ =>false)
 |_ =>false
def GW(P:gD)(E:uW)(F:Fc)(b:gW)(H:Hp)(f:gC)(o:Oper):Option (T×Hp):=
 match(if BJ o then b else none)with
 |none=>xW P E F H f o
 |some l=>match H.get l with
  |some d=>match xW P E F (H.drop l) f o with
   |some (v,a)=>some (v,a.put l d)|none=>none
  |none=>none
theorem aPo(hF:sD P E.gl F.ee){g:G}{H:Hp}(d:gn E.gl g)(f:St g H)(y:sJ g){z:gW}{s:gC}{a:Act}{o:Oper}{t:T}{w:Hp}
  (h:GW P E F z H s o=some (t,w)) (b:∀x∈o.op.operands,∀t,pQ E.gl s x=some t->Rd g (a.eval x) t):mN P o a g H t w:=by
 unfold GW at h;split at h;exact TR hF d f y h b;rename_i l _;split at h;rename_i O i;split at h;rename_i v R B;cases h;intro K Q I;refine TR hF d (f.bh l) y B b K Q (λu M q e j C=> ?_);obtain⟨L,J⟩:=aKn i f q j;exact I u M L e J C;cases h;cases h
abbrev Pd:=Option (Nat×Nat×Tmp×TypeId)
abbrev kB:=Nat->Hp
abbrev jZ:=Nat->Nat
structure Wh(P:gD)(E:uW)(F:Fc)(ops:gF)(pd:Pd)(S:jF)(K:Nat)(ep:jZ)(Hc:kB):Prop where
 at_ :∀i,i<ops.size->∃o,ops[i]? =some o/\(∀d,o.dst=some d->d<(S i).length)/\
  ((∃i1 d t n z,pd=some (i,i1,d,t)/\o.op= .alloc t/\o.dst=some d/\o.guard=none/\uI P t=some n/\wM P t=some z/\z.cells.length=n/\(∀k,k<K->ep k≠i)/\S (i+1)=pW (S i) o.dst oS)\/
   (∃i0 d t x y n,pd=some (i0,i,d,t)/\o.op= .store t (.tmp d) x/\o.dst=none/\o.guard=none/\zE x d=true/\pQ E.gl (S i) x=some y/\uI P t=some n/\y.cells.length=n/\qO y.cells=true/\(∀k,k<K->ep k≠i)/\S (i+1)=(S i).set d (.ref y 0))\/
   ((∀i0 i1 d t,pd=some (i0,i1,d,t)->i≠i0/\i≠i1/\rQ ops o d=false)/\
  ((∃k v lq,k<K/\ep k=i/\pX ops (S i) o=true/\GW P E F lq (Hc k) (S i) o=some (v,Hc (k+1))/\S (i+1)=pW (S i) o.dst v)\/
   ((∀k,k<K->ep k≠i)/\((pX ops (S i) o=true/\∃v,(∀c,c<=K->(∀k,k<K->uU (tU ops.toList []) i (ep k)=true->k<c)->(∀k,k<K->uU (tU ops.toList []) (ep k) i=true->c<=k)->pS P E (CH F o) (Hc c) (S i) o=some v)/\S (i+1)=pW (S i) o.dst v)\/
    (pX ops (S i) o=false/\S (i+1)=pW (S i) o.dst oS))))))
 lt:∀k,k<K->ep k<ops.size
 ch:∀k k',k'<k->k<K->uU (tU ops.toList []) (ep k) (ep k')=true
 ef:∀i0 i1 d t,pd=some (i0,i1,d,t)->i0<i1/\i1<ops.size/\uU (tU ops.toList []) i1 i0=true
variable{pd:Pd}{S:jF}{K:Nat}{ep:jZ}{Hc:kB}
theorem Wh.next(h:Wh P E F ops pd S K ep Hc){i:Nat}(j:i<ops.size):∃o,ops[i]? =some o/\((∃v,S (i+1)=pW (S i) o.dst v)\/∃b d t v,pd=some (b,i,d,t)/\S (i+1)=(S i).set d v):=by
 obtain⟨o,a,_,h1|h1|⟨_,h1|h1⟩⟩:=h.at_ i j;obtain⟨i1,d,t,n,z,_,_,_,_,_,_,_,_,e⟩:=h1;exact⟨o,a,.inl ⟨_,e⟩⟩;obtain⟨b,d,t,x,y,n,f,_,_,_,_,_,_,_,_,_,e⟩:=h1;exact⟨o,a,.inr ⟨b,d,t,_,f,e⟩⟩;obtain⟨k,v,_,_,_,_,_,e⟩:=h1;exact⟨o,a,.inl ⟨v,e⟩⟩;rcases h1.2 with⟨_,v,_,e⟩|⟨_,e⟩
 exact⟨o,a,.inl ⟨v,e⟩⟩;exact⟨o,a,.inl ⟨_,e⟩⟩
theorem Wh.dk(h:Wh P E F ops pd S K ep Hc){i:Nat}(a:i<ops.size):(S (i+1)).length=(S i).length:=by
 obtain⟨o,_,⟨v,e⟩|⟨_,d,_,v,_,e⟩⟩:=h.next a;rw[e];cases o.dst<;>simp[pW];rw[e];simp
theorem Wh.other(h:Wh P E F ops pd S K ep Hc){i:Nat}(u:i<ops.size){t:Tmp}(q:∀o,ops[i]? =some o->o.dst≠some t)(s:∀f d a,pd=some (f,i,d,a)->d≠t):(S (i+1))[t]? =(S i)[t]? :=by
 obtain⟨o,w,⟨v,e⟩|⟨f,d,a,v,j,e⟩⟩:=h.next u;have:=q o w;rw[e];cases hd:o.dst with
 |none=>rfl
 | some d => have b:d≠t:=λe=>this (by rw[hd,e])
             simp[pW,dE b]
 rw[e,dE (s f d a j)]
theorem Wh.same(h:Wh P E F ops pd S K ep Hc){t:Tmp}:∀(k q:Nat),q+k<=ops.size->(∀j o,q<=j->j<q+k->ops[j]? =some o->o.dst≠some t)->(∀j i d a,q<=j->pd=some (i,j,d,a)->d≠t)->(S (q+k))[t]? =(S q)[t]? :=by
 intro k
 induction k with
 |zero=>intro q _ _ _;rfl
 |succ k s=>
  intro q y f b;rw[show q+(k+1)=q+k+1 by omega,h.other (by omega) (λo w=>f (q+k) o (by omega) (by omega) w) (λi d a e=>b (q+k) i d a (by omega) e)];exact s q (by omega) (λj v u x=>f j v u (by omega)) b
theorem Wh.len(h:Wh P E F ops pd S K ep Hc):∀i,i<=ops.size->(S i).length=(S 0).length:=by
 intro i
 induction i with
 |zero=>intro _;rfl|succ i a=>intro b;rw[h.dk (by omega)];exact a (by omega)
structure bCr(P:gD)(E:uW)(ops:gF)(pd:Pd)(S:jF)(K:Nat)(ep:jZ)(Hc:kB)(g0:G)(H0:Hp)(listed:iP)(g:G)(a:Act)(c:Nat):Prop where
 sz:listed.size=ops.size
 down:Ku ops listed
 ok:sJ g
 ck:c<=K
 ld:∀k,k<K->(Ld listed (ep k)↔k<c)
 st:St g (Hc c)
 ss:pP H0 g0 (Hc c) g
 gl:gn E.gl g
 df:a.defers=[]
 len:a.tmps.size=(S 0).length
 pn:∀i0 i1 d t,pd=some (i0,i1,d,t)->(Ld listed i0->¬Ld listed i1->HF P g0 g (Hc c) a d t)/\(Ld listed i1->∀v y,a.tmps[d]? =some v->(S ops.size)[d]? =some y->Rd g v y)
 sl:∀(t:Tmp) (i:Nat) (v:gZ) (c:T),(∀i0 i1 d ty,pd=some (i0,i1,d,ty)->d≠t)->i<=ops.size->(∀j o,j<i->ops[j]? =some o->o.dst=some t->Ld listed j)->(∀j o,i<=j->j<ops.size->ops[j]? =some o->o.dst=some t->¬Ld listed j)->
  a.tmps[t]? =some v->(S i)[t]? =some c->Rd g v c
theorem aGw(hE:rV P E.gl E.pe)(hF:sD P E.gl F.ee)(hdr:zQ ops=true){g0:G}{H0:Hp}(R:Wh P E F ops pd S K ep Hc){Q:gJ}
  (hfin:∀a' C,Inv P E g0 H0 C a' ⟨S ops.size,Hc K,none⟩->Q .normal a' C.w):
  ∀(fuel:Nat) (b:iP) (a:Act) (g:G) (c:Nat),bCr P E ops pd S K ep Hc g0 H0 b g a c->VV b=fuel->wpAny P .any ops Q fuel b a g.w:=by
 simp only[zQ,aA]at hdr;obtain⟨⟨hb,_⟩,htm⟩:=hdr;intro fuel
 induction fuel with
 |zero=>
  intro b a g c h hc;have hall:∀i,i<ops.size->Ld b i:=λi hi=>LC hc (by rw[h.sz];exact hi);have hcK:c=K:=by
   rcases eG c K with q|q;have:=(h.ld c q).1 (hall _ (R.lt c q));omega;exact Nat.le_antisymm h.ck q
  have hlen:=R.len ops.size (bB _);have hi:Inv P E g0 H0 g a ⟨S ops.size,Hc K,none⟩:=by
   refine⟨h.ok,by rw[<-hcK];exact h.st,h.gl,h.df,⟨by show a.tmps.size=(S ops.size).length;rw[hlen];exact h.len,λj v cc _ hv L=> ?_⟩,λd t q=>(by cases q),by rw[<-hcK];exact h.ss⟩;by_cases hj:∃I i1 U,pd=some (I,i1,j,U);obtain⟨I,i1,U,e⟩:=hj;exact(h.pn I i1 j U e).2 (hall i1 (R.ef I i1 j U e).2.1) v cc hv L;exact h.sl j ops.size v cc (λI i1 d U e q=>hj ⟨I,i1,U,by rw[e,q]⟩) (bB _) (λk o hk _ _ =>hall k hk) (λk o h1 h2=>by omega) hv L
  refine⟨?_,hfin a g hi⟩;rcases hr:Region.ready .any ops b with _ |⟨x,xs⟩
  rfl;have hx:x∈Region.ready .any ops b:=by rw[hr];simp
  obtain⟨h1,o,h2,_⟩:=mem_ready.1 hx;exact absurd (hall x (aX.1 h2).1) (zV.1 h1).2
 |succ fuel ih=>
  intro b a g c h hc;refine⟨λhr=>absurd hr (MN hb h.sz (by omega)),λi hi=> ?_⟩;obtain⟨h1,o,h2,h3⟩:=mem_ready.1 hi;have hni:=(zV.1 h1).2;have hio:i<ops.size:=(aX.1 h2).1;have hcl:∀j,uU (tU ops.toList []) i j=true->Ld b j:=uX h.down h.sz i o h2 h3;obtain⟨o',ho',hdl,hps⟩:=R.at_ i hio;rw[h2]at ho';cases ho';have before:∀t,t∈yZ ops o->∀j J,j<i->ops[j]? =some J->J.dst=some t->Ld b j:=λt ht j J hj s B=>
   hcl j ((xC htm h2 s (by omega) B ht).1 hj)
  have behind:∀t,t∈yZ ops o->∀j J,i<j->ops[j]? =some J->J.dst=some t->¬Ld b j:=λt ht j J hj s B hl=>
   hni (uX h.down h.sz j J s (h.down j J s hl) i ((xC htm h2 s (by omega) B ht).2 hj))
  have notself:∀t,t∈yZ ops o->∀j J,i<=j->ops[j]? =some J->J.dst=some t->¬Ld b j:=λt ht j J hj s B=>by
   rcases dS hj with rfl|hj;exact hni;exact behind t ht j J hj s B
  have hleni:=R.len i (by omega);have slot:∀t,t∈o.looksAt ops->(∀I i1 d U,pd=some (I,i1,d,U)->d≠t)->∀v c,a.tmps[t]? =some v->(S i)[t]? =some c->Rd g v c:=λt ht O v c hv L=>by
   have hn:t∈yZ ops o:=bZ.2 (.inr ht);exact h.sl t i v c O (by omega) (λj J hj s B=>before t hn j J hj s B) (λj J hj _ s B=>notself t hn j J hj s B) hv L
  have getfr:∀t,t∈o.looksAt ops->(∀I i1 d U,pd=some (I,i1,d,U)->d≠t)->Rd g (a.tmps.getD t undef) (rW (S i) t):=λt ht O=>by
   rw[uG];by_cases hlt:t<(S i).length;have V:t<a.tmps.size:=by rw[h.len,<-hleni];exact hlt
   have:=slot t ht O a.tmps[t] (S i)[t] (by simp[V]) (by simp[hlt]);simpa [hlt,V]using this;have V:¬t<a.tmps.size:=by rw[h.len,<-hleni];exact hlt
   have e1:a.tmps.getD t undef=undef:=by simp[dD (cQ V)]
   have e2:(S i).getD t oS=oS:=by simp[cA (cQ hlt)]
   rw[e1,e2];exact Rd.undef
  have hopx:∀x∈o.op.operands,(∀I i1 d U,pd=some (I,i1,d,U)->x≠ .tmp d)->∀r,pQ E.gl (S i) x=some r->Rd g (a.eval x) r:=λx hx O r hr=>by
   cases x with
   |tmp t=>simp only[pQ,aI]at hr;subst hr;exact getfr t (wX hx) (λI i1 d U e q=>O I i1 d U e (by rw[q]))|const v=>exact EN g hr|global k=>exact(h.gl k r hr).1|func f=>simp only[pQ,aI]at hr;subst hr;exact Rd.bx fv.nil fv.nil
  have hcnt:VV (b.setIfInBounds i true)=fuel:=by have:=NI h1;omega
  have M:∀j,Ld (b.setIfInBounds i true) j↔Ld b j\/j=i:=λj=>IP (by rw[h.sz];exact hio)
  have W:Ku ops (b.setIfInBounds i true):=λk ok hk hl e he hbd=>(M e.on).2 (.inl (by
   rcases(M k).1 hl with q|rfl;exact h.down k ok hk q e he hbd
   rw[h2]at hk;cases hk;exact h3 e he hbd))
  have slots:∀(C:G) (v:gZ) (c:T),(∀u t,Rd g u t->Rd C u t)->Rd C v c->(∀d,o.dst=some d->(S (i+1))[d]? =some c)->
    ∀(t:Tmp) (k:Nat) (u:gZ) (cc:T),(∀I i1 d U,pd=some (I,i1,d,U)->d≠t)->k<=ops.size->(∀j o',j<k->ops[j]? =some o'->o'.dst=some t->Ld (b.setIfInBounds i true) j)->(∀j o',k<=j->j<ops.size->ops[j]? =some o'->o'.dst=some t->¬Ld (b.setIfInBounds i true) j)->
     (a.put o.dst v).tmps[t]? =some u->(S k)[t]? =some cc->Rd C u cc:=by
   intro C v c hkeep hv hset t k u cc O hk hw1 hw2 hu L;by_cases htd:o.dst=some t;have hik:i<k:=by
    rcases eG i k with q|q;exact q;exact absurd ((M i).2 (.inr rfl)) (hw2 i o q hio h2 htd)
   have hnow:∀j J,i+1<=j->j<k->ops[j]? =some J->J.dst≠some t:=λj J hj1 hj2 s B=>by
    have hl:=hw1 j J hj2 s B;rcases(M j).1 hl with q|q
    exact behind t (bZ.2 (.inl (by rw[htd];simp))) j J (by omega) s B q;omega
   have hsame:=R.same (t:=t) (k-(i+1)) (i+1) (by omega) (λj J q1 q2=>hnow j J q1 (by omega)) (λj I d U _ e=>O I j d U e);rw[show i+1+(k-(i+1))=k by omega]at hsame;rw[hsame,hset t htd]at L;cases L;rw[htd]at hu;simp only[Act.put,dH]at hu;split at hu;cases hu;exact hv;cases hu;have hu':a.tmps[t]? =some u:=by
    cases B:o.dst with
    |none=>rw[B]at hu;exact hu
    |some d=>
     rw[B]at hu;have:d≠t:=λe=>htd (by rw[B,e]);simpa [Act.put,bT this]using hu
   refine hkeep _ _ (h.sl t k u cc O hk (λj J hj s B=> ?_) (λj J hj1 hj2 s B hl=>hw2 j J hj1 hj2 s B ((M j).2 (.inl hl))) hu' L);rcases(M j).1 (hw1 j J hj s B)with q|rfl
   exact q;rw[h2]at s;cases s;exact absurd B htd
  have lens:∀v,(a.put o.dst v).tmps.size=(S 0).length:=λv=>by cases o.dst<;>simp[Act.put,h.len]
  have ib:∀(C:G),(∀u t,Rd g u t->Rd C u t)->∀(t:Tmp) (k:Nat) (u:gZ) (cc:T),(∀I i1 d U,pd=some (I,i1,d,U)->d≠t)->o.dst≠some t->k<=ops.size->(∀j o',j<k->ops[j]? =some o'->o'.dst=some t->Ld (b.setIfInBounds i true) j)->(∀j o',k<=j->j<ops.size->ops[j]? =some o'->o'.dst=some t->¬Ld (b.setIfInBounds i true) j)->
    a.tmps[t]? =some u->(S k)[t]? =some cc->Rd C u cc:=by
   intro C hkeep t k u cc O htd hk hw1 hw2 hu L;refine hkeep _ _ (h.sl t k u cc O hk (λj J hj s B=> ?_) (λj J hj1 hj2 s B hl=>hw2 j J hj1 hj2 s B ((M j).2 (.inl hl))) hu L);rcases(M j).1 (hw1 j J hj s B)with q|rfl
   exact q;rw[h2]at s;cases s;exact absurd B htd
  have hldk:(∀k,k<K->ep k≠i)->∀j,j<K->(Ld (b.setIfInBounds i true) (ep j)↔j<c):=λhnk j hj=>by
   rw[M,h.ld j hj];exact⟨λq=>q.elim id λe=>absurd e (hnk j hj),.inl⟩
  unfold wpOp;rw[h2];simp only;rcases hps with⟨i1,d,t,n,z,e0,eo,ed,eg,en,ez,ezl,hnk,hS⟩|⟨I,d,t,x,y,n,e0,eo,ed,eg,ex,ey,en,eyl,e1,hnk,hS⟩|⟨hpc,hps⟩
  .
   have hw:Region.wanted o (yielded ops a.tmps)=true:=by unfold Region.wanted;rw[eg]
   rw[aJ hw];left;obtain⟨p1,p2,p3⟩:=R.ef i i1 d t e0;have hn1:¬Ld b i1:=λq=>by
    obtain⟨o1,ho1,_⟩:=R.at_ i1 p2;exact hni (uX h.down h.sz i1 o1 ho1 (h.down i1 o1 ho1 q) i p3)
   refine Lh (g0:=g0) h.ok h.st h.ss.size eo ed en ez ezl (by rw[h.len,<-hleni];exact hdl d ed) (λC v hp hok hpn=>ih _ _ C c ?_ hcnt);refine⟨by simpa using h.sz,W,hok,h.ck,hldk hnk,h.st.ad hp,h.ss.trans hp.bi,h.gl.ad hp,by rw[sY];exact h.df,lens v,λj0 j1 d' t' e=> ?_,λt' k u cc O hk hw1 hw2 hu L=> ?_⟩;rw[e0]at e;cases e;exact⟨λ_ _ =>hpn.ad (fx.refl C),λq=>((M i1).1 q).elim (λq=>absurd q hn1) λq=>absurd q (by omega)⟩;have hne:d≠t':=O i i1 d t e0;have hu':a.tmps[t']? =some u:=by rw[ed]at hu;simpa [Act.put,bT hne]using hu
   exact ib C (λ_ _ q=>q.ad hp) t' k u cc O (by rw[ed];intro q;exact hne (bV q)) hk hw1 hw2 hu' L
  .
   have hw:Region.wanted o (yielded ops a.tmps)=true:=by unfold Region.wanted;rw[eg]
   rw[aJ hw];left;obtain⟨p1,p2,p3⟩:=R.ef I i d t e0;have hl0:Ld b I:=hcl I p3
   have hr:Rd g (a.eval x) y:=hopx x (by rw[eo];simp[Op.operands]) (λj0 j1 d' U e q=>by
    rw[e0]at e;cases e;subst q
    simp[zE]at ex) y ey
   refine Qp h.ok h.st h.gl h.ss ((h.pn I i d t e0).1 hl0 hni) eo ed hr en eyl e1 (λC keep hok hst hgl hss hv=> ?_);have hput:∀v,a.put o.dst v=a:=λv=>by rw[ed];rfl
   refine ih _ _ C c ⟨by simpa using h.sz,W,hok,h.ck,hldk hnk,hst,hss,hgl,h.df,h.len,λj0 j1 d' t' e=> ?_,λt' k u cc O hk hw1 hw2 hu L=>ib C keep t' k u cc O (by rw[ed];simp) hk hw1 hw2 hu L⟩ hcnt;rw[e0]at e;cases e;refine⟨λ_ q=>absurd ((M i).2 (.inr rfl)) q,λ_ v y' hv' hy'=> ?_⟩
   have hsame:=R.same (t:=d) (ops.size-(i+1)) (i+1) (by omega) (λj J q1 q2 s B=>by
    obtain⟨oj',hoj',_,k1|k1|⟨k1,_⟩⟩:=R.at_ j (by omega);obtain⟨_,_,_,_,_,e,_⟩:=k1;rw[e0]at e;cases e;omega;obtain⟨_,_,_,_,_,_,e,_⟩:=k1;rw[e0]at e;cases e;omega
    rw[s]at hoj';cases hoj';exact(yF (k1 I i d t e0).2.2).2 B) (λj j0 d' U q1 e=>by rw[e0]at e;cases e;omega)
   rw[show i+1+(ops.size-(i+1))=ops.size by omega,hS]at hsame;rw[hsame,dM]at hy';simp only[cB]at hy';split at hy';cases hy';exact hv v hv';cases hy'
  have hop:∀x∈o.op.operands,∀r,pQ E.gl (S i) x=some r->Rd g (a.eval x) r:=λx hx=>hopx x hx (λI i1 d U e q=>by
   subst q
   exact(yF (hpc I i1 d U e).2.2).1 (wX hx))
  have pnk:∀(C:G) (c':Nat) (v:gZ),(∀d t,HF P g0 g (Hc c) a d t->HF P g0 C (Hc c') a d t)->(∀u t,Rd g u t->Rd C u t)->∀I i1 d t,pd=some (I,i1,d,t)->(Ld (b.setIfInBounds i true) I->¬Ld (b.setIfInBounds i true) i1->HF P g0 C (Hc c') (a.put o.dst v) d t)/\(Ld (b.setIfInBounds i true) i1->∀v' y,(a.put o.dst v).tmps[d]? =some v'->(S ops.size)[d]? =some y->Rd C v' y):=by
   intro C c' v hpk hkeep I i1 d t e;obtain⟨q0,q1,q2⟩:=hpc I i1 d t e;have hdd:=(yF q2).2;obtain⟨r1,r2⟩:=h.pn I i1 d t e;refine⟨λl0 l1=>(hpk d t (r1 (((M I).1 l0).resolve_right λq=>q0 q.symm) (λq=>l1 ((M i1).2 (.inl q))))).put hdd v,λl1 v' y hv' hy=>hkeep _ _ (r2 (((M i1).1 l1).resolve_right λq=>q1 q.symm) v' y ?_ hy)⟩;cases B:o.dst with
   |none=>rw[B]at hv';exact hv'
   |some d'=>
    rw[B]at hv';have:d'≠d:=λe=>hdd (by rw[B,e]);simpa [Act.put,bT this]using hv'
  have hwant:Region.wanted o (yielded ops a.tmps)=pX ops (S i) o:=by
   unfold Region.wanted pX;cases hg:o.guard with
   |none=>rfl
   |some p=>
    obtain⟨j,w⟩:=p;simp only;congr 1;unfold yielded AJ;cases B:(ops[j]?).bind (·.dst)with
    |none=>rfl
    |some d=>
     simp only[eD];have hl:=wJ hg B;by_cases hlt:d<(S i).length;have V:d<a.tmps.size:=by rw[h.len,<-hleni];exact hlt
     have hv:a.tmps[d]? =some a.tmps[d]:=by simp[V]
     have L:(S i)[d]? =some (S i)[d]:=by simp[hlt]
     have:=slot d hl (λI i1 d' U e q=>by subst q;exact(yF (hpc I i1 d' U e).2.2).1 hl) _ _ hv L;rw[hv,L];generalize a.tmps[d]=u at this;generalize (S i)[d]=c at this;cases this<;>rfl;have V:¬d<a.tmps.size:=by rw[h.len,<-hleni];exact hlt
     rw[dD (cQ V),cA (cQ hlt)]
  rw[hwant];rcases hps with⟨k,v,lq,hk,hki,hw,he,hS⟩|⟨hnk,hA⟩
  .
   have hkc:k=c:=by
    rcases Nat.lt_trichotomy k c with q|q|q;exact absurd ((h.ld k hk).2 q) (by rw[hki];exact hni);exact q;have hpr:=R.ch k c q hk;rw[hki]at hpr;have:=(h.ld c (by omega)).1 (hcl _ hpr);omega
   subst hkc;rw[aJ hw];left;refine aPo hF h.gl h.st h.ok he hop _ _ (λu C hsst hok hst' hr=>ih _ _ C (k+1) ?_ hcnt);refine⟨by simpa using h.sz,W,hok,by omega,λj hj=> ?_,hst',h.ss.trans hsst,h.gl.af h.st hsst,by rw[sY];exact h.df,lens u,pnk C (k+1) u (λ_ _ q=>q.af hsst) (λ_ _ q=>q.af h.st hsst),?_⟩;rw[M,h.ld j hj];constructor;rintro(q|q);omega;rcases Nat.lt_trichotomy j k with q'|q'|q';omega;omega;have hpr:=R.ch j k q' hj;rw[q,hki]at hpr;exact absurd (hcl i hpr) hni;intro q;rcases dS (Nat.le_of_lt_succ q)with q|q
   right;rw[q,hki];exact .inl q;exact slots C u v (λ_ _ q=>q.af h.st hsst) hr (λd B=>by rw[hS,B];simp[pW,hdl d B])
  .
   have iz:∀(C:G) (v:gZ) (cc:T),fx g C->sJ C->Rd C v cc->(∀d,o.dst=some d->(S (i+1))[d]? =some cc)->bCr P E ops pd S K ep Hc g0 H0 (b.setIfInBounds i true) C (a.put o.dst v) c:=by
    intro C v cc hst hok hv hset;refine⟨by simpa using h.sz,W,hok,h.ck,λj hj=> ?_,h.st.ad hst,h.ss.trans hst.bi,h.gl.ad hst,by rw[sY];exact h.df,lens v,pnk C c v (λ_ _ q=>q.ad hst) (λ_ _ q=>q.ad hst),slots C v cc (λ_ _ q=>q.ad hst) hv hset⟩;rw[M,h.ld j hj];exact⟨λq=>q.elim id λe=>absurd e (hnk j hj),.inl⟩
   rcases hA with⟨hw,v,hv,hS⟩|⟨hw,hS⟩
   rw[aJ hw];left
   have hv':=hv c h.ck (λk hk hpr=>(h.ld k hk).1 (hcl _ hpr)) (λk hk hpr=>by
    rcases eG k c with q|q;obtain⟨ok,hok',_⟩:=R.at_ (ep k) (R.lt k hk);have hlk:=(h.ld k hk).2 q;exact absurd (uX h.down h.sz (ep k) ok hok' (h.down (ep k) ok hok' hlk) i hpr) hni
    exact q)
   exact HP hE h.gl h.st h.ok hv' hop _ _ (λu C hst hok hr=>ih _ _ C c (iz C u v hst hok hr (λd B=>by rw[hS,B];simp[pW,hdl d B])) hcnt);rw[hw];simp only[bI,cN];exact ih _ _ g c (iz g undef oS (fx.refl g) h.ok Rd.undef (λd B=>by rw[hS,B];simp[pW,hdl d B])) hcnt
theorem Wh.run(hE:rV P E.gl E.pe)(hF:sD P E.gl F.ee)(I:zQ ops=true)(s:Wh P E F ops pd S K ep Hc){g:G}{a:Act}(f:Inv P E g (Hc 0) g a ⟨S 0,Hc 0,none⟩)
  {Q:gJ} (hQ:∀U W,Inv P E g (Hc 0) W U ⟨S ops.size,Hc K,none⟩->Q .normal U W.w):wpAny P .any ops Q ops.size (Array.replicate ops.size false) a {g.w with drawn:=g.w.drawn+1}:=by
 let V:G:={g with w:={g.w with drawn:=g.w.drawn+1}}
 have z:fx g V:=⟨rfl,rfl,rfl,bB _,λ_ _ =>rfl,λ_ h=>h,λ_ h=> .inl h,rfl,rfl,rfl⟩;have x:VV (Array.replicate ops.size false)=ops.size:=by simp[VV]
 have b:∀i,¬Ld (Array.replicate ops.size false) i:=λi C=>by
  unfold Ld at C;by_cases q:i<ops.size<;>simp[q]at C
 refine aGw (g0:=g) (H0:=Hc 0) hE hF I s hQ ops.size _ a V 0 ?_ x;have y:fv g a.tmps.toList (S 0):=f.fr.all;refine⟨by simp,λi o B C=>absurd C (b i),f.ok,Nat.zero_le _,λk hk=>⟨λq=>absurd q (b _),λq=>by omega⟩,f.st.ad z,z.bi,f.gl.ad z,f.df,by have:=y.1;simpa using this,λR i1 d t e=>⟨λq=>absurd q (b _),λq=>absurd q (b _)⟩,?_⟩;intro t i v c J hi' h1 h2 hv u;have L:∀j o,j<i->ops[j]? =some o->o.dst≠some t:=λj o O B M=>absurd (h1 j o O B M) (b j);have:=s.same (t:=t) i 0 (by omega) (λj o _ O B=>L j o (by omega) B) (λj R d ty _ e=>J R j d ty e);rw[cG]at this;rw[this]at u;exact(y.ad z).2 t v c (by simpa using hv) u
end
def FT.of(l:gC):Nat->FT->FT:=List.rec (motive:=λ_ =>Nat->FT->FT) (λ_ f=>f) (λt _ a i f=>a (Nat.succ i) (FT.st t (Qt i) f)) l
section
abbrev gR:=Nat->List T->Hp->Option (Bool×Hp)
variable{Y:Type}(P:gD)(gl:gG)(ee:gK)(yd:gR)
def mf{Z:Type}(o:Option Z)(k:Z->Option Y):Option Y:=Option.rec (motive:=λ_ =>Option Y) none k o
section
variable(tr:FT)(H:Hp)(k:T->Hp->Option Y)
end
end
abbrev RX:=Option (List (X×FT×Hp))
def CI(P:gD)(H:Hp)(t:gB)(x:T):Option (T×Hp):=match x with
 | .mp m=>match P.underlying t,H.any m with
  |some (.map ..),some o=>match o.me with
   |some (.map c _)=>some (.ptr H.next 0,H.new {elem:=0,sz:=0,cells:=[],me:=some (.aT m c [] c)})|_ =>none
  |_,_ =>none
 | .str s=>match P.underlying t with
  |some .string=>some (.ptr H.next 0,H.new {elem:=0,sz:=0,cells:=[],me:=some (.cz s 0)})|_ =>none
 | .fw=>match P.underlying t with
  |some (.map ..)=>some (.ptr H.next 0,H.new {elem:=0,sz:=0,cells:=[],me:=some .cd})|_ =>none
 |_ =>none
def xK(m:Mo):Ob:={elem:=0,sz:=0,cells:=[],me:=some m}
def wG(seen:gU)(a:gS):List (Nat×T×T):=a.filter λe=> !seen.contains e.1
def OL(H:Hp)(jh:Bool)(x:T):Option (List (T×Hp)):=match x with
 | .ptr l 0=>match H.any l with
  |some o=>match o.me with
   |some (.aT m a seen f)=>if jh then none else match H.any m with
    |some i=>match i.me with
     | some (.map c h)=>if(h.all λe=>Nat.ble (Nat.succ e.1) a)&&Nat.ble a f then
       match wG seen h with
       |[]=>some [(.fm [.bool false],H.drop l)]|left=>some (left.map λe=>(.fm [.bool true,e.2.1,e.2.2],H.put l (xK (.aT m a (seen++[e.1]) c))))
      else none
     |_ =>none
    |none=>none
   | some (.cz s d)=>if jh then match s[d]? with
     |some b=>if Nat.ble (Nat.succ b.toNat) 128 then some [(.fm [.bool true,.int .i64 d,.int .i32 b.toNat],H.put l (xK (.cz s (d+1))))]else none
     |none=>some [(.fm [.bool false],H.drop l)]
    else none
   |some .cd=>if jh then none else some [(.fm [.bool false],H.drop l)]
   |_ =>none
  |none=>none
 |_ =>none
def stepT(H:Hp)(x:T):Option (List (T×Hp)):=match x with
 | .ptr l 0=>match H.any l with
  |some o=>match o.me with
   |some (.aT m _ seen a)=>match seen.getLast?,H.any m with
    |some b,some d=>match d.me with
     | some (.map c f)=>if Nat.beq c a then match f.find? λe=>Nat.beq e.1 b with
       |some e=>some [(.fm [e.2.1,e.2.2],H)]|none=>none
      else none
     |_ =>none
    |_,_ =>none
   |_ =>none
  |none=>none
 |_ =>none
def aQr(H:Hp)(l:Nat):Bool:=match H.any l with
 |some o=>match o.me with
  |some (.loop _)=>true|_ =>false
 |none=>false
def Pp(H:Hp)(a:gW):Bool:=match a with
 |none=>true|some l=>aQr H l
def CN(r:Lr):Ob:={elem:=0,sz:=0,cells:=[],me:=some (.loop r)}
def RA{Y:Type}(H:Hp)(l:Nat)(k:Lr->Option Y):Option Y:=mf (H.any l) λo=>mf o.me λm=>match m with
 | .loop r=>k r|_ =>none
def aPp(l:Nat)(a:FT)(H:Hp):RX:=RA H l λr=>match r.st with
 | .busy=>none
 |_ =>match r.pe with
  |none=>some [(.normal,a,H.drop l)]|some (.exit id)=>some [(.exit id,a,H.drop l)]|some .ret=>some [(.ret,a,H.drop l)]|_ =>none
section
variable(P:gD)(gl:gG)(ee:gK)(yd:gR)(pc:gI)(N n:Nat)(ro:gW)
def ML(l:Nat)(H:Hp)(x:X):Option (Bool×Hp):=RA H l λr=>
 X.rec (motive:=λ_ =>Option (Bool×Hp)) (some (true,H.put l (CN {r with st:= .ready,pe:=none}))) (λid=>some (false,H.put l (CN {r with st:= .done,pe:=some (.exit id)}))) (some (false,H.put l (CN {r with st:= .done,pe:=some .ret}))) x
end
open Go.IntWalk
theorem FT.dp(p:gL):FT.gt p .nl=oS:=by
 induction p with
 |nil=>rfl|cons b p i=>cases b<;>exact i
theorem FT.cv(v:T):∀(p q:gL) (t:FT),FT.gt q (FT.st v p t)=if q=p then v else FT.gt q t
 |[],[],t=>rfl
 |[],b::q,t=>by
  rw[aH (by simp)];show FT.gt (b::q) (.nd v t.lf t.rt)=_;cases b<;>rfl
 |b::p,[],t=>by
  rw[aH (by simp)];cases b<;>rfl
 |b::p,c::q,t=>by
  cases b<;>cases c;show FT.gt q (FT.st v p t.lf)=_;rw[FT.cv v p q];by_cases e:q=p;rw[aJ e,aJ (by rw[e])];rw[aH e,aH (by simpa using e)];rfl;rw[aH (by simp)];rfl;rw[aH (by simp)];rfl;show FT.gt q (FT.st v p t.rt)=_;rw[FT.cv v p q];by_cases e:q=p;rw[aJ e,aJ (by rw[e])];rw[aH e,aH (by simpa using e)];rfl
theorem FT.dw(v:T)(d m:Nat)(t:FT):FT.gt (Qt m) (FT.st v (Qt d) t)=if m=d then v else FT.gt (Qt m) t:=by
 rw[FT.cv];by_cases e:m=d;rw[aJ (by rw[e]),aJ e];rw[aH (λh=>e (aAo h)),aH e]
section
variable{n:Nat}{tr:FT}
theorem aMv:(tr.view n).length=n:=by simp[FT.view]
theorem aUa{i:Nat}(h:i<n):(tr.view n)[i]? =some (FT.gt (Qt i) tr):=by simp[FT.view,h]
theorem FT.cw:∀(l:gC) (i:Nat) (f:FT) (m:Nat),FT.gt (Qt m) (FT.of l i f)=if i<=m/\m<i+l.length then l.getD (m-i) oS else FT.gt (Qt m) f
 |[],i,f,m=>by
  show FT.gt (Qt m) f=_;rw[aH (by simp)]
 |t::l,i,f,m=>by
  show FT.gt (Qt m) (FT.of l (i+1) (FT.st t (Qt i) f))=_;rw[FT.cw l (i+1)];by_cases h:i+1<=m/\m<i+1+l.length;rw[aJ h,aJ (by simp;omega),show m-i=(m-(i+1))+1 by omega];rfl;rw[aH h,FT.dw];by_cases e:m=i;subst e;rw[aJ rfl,aJ (by simp)];simp;rw[aH e,aH (by simp;omega)]
theorem aSb{l:gC}(h:l.length<=n):(FT.of l 0 .nl).view n=l++List.replicate (n-l.length) oS/\(FT.of l 0 .nl).Wf n:=by
 refine⟨?_,λm d=>by rw[FT.cw,aH (by omega),FT.dp]⟩;apply fL;intro i;by_cases b:i<n;rw[aUa b,FT.cw,FT.dp,dP];by_cases a:i<l.length;rw[aJ (by omega),aJ a];simp[a];rw[aH (by omega),aH a,List.getElem?_replicate,aJ (by omega)];rw[cA (by rw[aMv];omega),cA (by simp;omega)]
end
section
variable{Y Z:Type}
theorem Zh{o:Option Z}{k:Z->Option Y}{r:Y}(h:mf o k=some r):∃t,o=some t/\k t=some r:=by
 cases o with
 |none=>cases h|some t=>exact⟨t,rfl,h⟩
theorem aZn{a b:Nat}:Nat.ble a b=true↔a<=b:=⟨dX,Nat.ble_eq_true_of_le⟩
end
section
variable{Y:Type}{P:gD}{gl:gG}{tr:FT}{n:Nat}
end
def DH(gl:gG)(b:gC)(o:Oper):Option (Nat×List T):=
 match o.op with
 | .call c=>match c.callee with
  | .value f=>match pQ gl b f with
   |some (.yl l)=>match vN gl b c.args.toList with
    |some a=>some (l,a)|none=>none
   |_ =>none
  |_ =>none
 |_ =>none
section
variable{Y:Type}{P:gD}{gl:gG}{ee:gK}{yd:gR}{tr:FT}{n:Nat}{H:Hp}
abbrev Wg(gl:gG):uW:=⟨gl,λ_ _ _ =>none⟩
end
def nF(M H:Hp):Prop:=M.next=H.next/\∀l o,M.any l=some o->H.any l=some o
theorem nF.get{M H:Hp}(h:nF M H){l:Nat}{o:Ob}(q:M.get l=some o):H.get l=some o:=by
 obtain⟨b,a⟩:=pD q;exact yA (h.2 l o b) a
theorem St.le{g:G}{M H:Hp}(a:St g H)(h:nF M H):St g M:=
 ⟨λl o b=>a.own l o (h.get b),λl o m b q=>a.ap l o m (h.2 l o b) q,λl d o f j i e=>a.sep l d o f (h.2 l o j) (h.2 d f i) e,λl s=>a.new l (by rw[<-h.1];exact s)⟩
theorem JC{g:G}(h:sJ g)(b:Nat)(o:Obj):sJ (g.ah b o):=λk a=>by
 have:=h k a;simpa [G.ah]using this
section
variable{P:gD}{gl:gG}{g:G}
abbrev jD:=Nat->Bool
theorem sK.filter(p:jD):∀{b:iH} {a:gS},sK g b a->sK g (b.filter λe=>p e.born) (a.filter λe=>p e.1)
 |[],[],_ =>⟨rfl,fv.nil,fv.nil⟩|[],_ ::_,h=>by have:=h.len;simp at this|_ ::_,[],h=>by have:=h.len;simp at this
 |m::b,e::a,h=>by
  obtain⟨d,i,f,j⟩:=h.I;have:=sK.filter p j;rw[List.filter_cons,List.filter_cons,d];cases p e.1 with
  |true=>exact sK.cons d i f this|false=>exact this
theorem Jk{w:iG}{r v s b c:Nat}{seen:gU}{f:jO}(R:w.heap[r]? =some (.mapIter (some v) s seen.toArray b))(V:w.heap[v]? =some (.map f c))(d:∀x∈f.toList,x.born<s)(y:s<=b)(M:gB):
  ((leftOf f seen.toArray).size=0/\(Instr.next (.pointer (some ⟨r,0,none⟩)) false M).run P w= .ok (.tuple #[.bool false]) w)\/
  ∃e∈(leftOf f seen.toArray).toList,∃a:World,(a=w\/a=w.drew)/\(Instr.next (.pointer (some ⟨r,0,none⟩)) false M).run P w= .ok (.tuple #[.bool true,e.key,e.val]) {a with heap:=a.heap.setIfInBounds r (.mapIter (some v) s (seen.toArray.push e.born) c)}:=by
 simp only[Instr.next,getObj,aW,Sem.run,R,V,Result.andThen,next_test_false seen.toArray f s b d y,bI,cN];unfold leftOf;have h:∀x∈(Array.filter (λe=> !seen.toArray.contains e.born) f).toList,x.born<s:=λx i=>d x (by simp at i⊢;exact i.1);generalize Array.filter (λe=> !seen.toArray.contains e.born) f=L at h⊢;have W:L.filter (λx=>decide (x.born<s))=L:=Array.filter_eq_self.2 (λx i=>by simpa using h x (by simpa using i));have e2:L.filter (λx=>decide (x.born>=s))= #[]:=by
  rw[Array.filter_eq_empty_iff];intro x i;have:=h x (by simpa using i);simp;omega
 simp only[W,e2,Array.append_empty];by_cases O:L.size=0;left;have:L= #[]:=Array.eq_empty_of_size_eq_zero O;subst this;refine⟨rfl,?_⟩;simp[choose,Sem.run,Question.forced];right;have z:L.isEmpty=false:=by simp[Array.isEmpty,O]
 simp only[z,bI,cN,Array.empty_append,Array.size_map];have I:∃(j:Nat) (a:iG),j<L.size/\(a=w\/a=w.drew)/\(choose (Question.mapNext L.size)).run P w= .ok j a:=by
  by_cases J:L.size<=1;exact⟨0,w,by omega,.inl rfl,by simp[choose,Sem.run,Question.forced,J]⟩
  exact⟨_,w.drew,Nat.mod_lt _ (by omega),.inr rfl,by
   simp only[choose,Sem.run,Question.forced,aF,J,cN,Question.cut]
   rfl⟩
 obtain⟨j,a,U,u,q⟩:=I;refine⟨L[j],by simp,a,u,?_⟩;have B:a.heap[r]? =some (.mapIter (some v) s seen.toArray b):=by rcases u with rfl|rfl<;>exact R
 have o:∀C,(setObj r C).run P a= .ok () {a with heap:=a.heap.setIfInBounds r C}:=λC=>by simp[setObj,Sem.run,B]
 simp only[q,Array.getElem?_map,Array.getElem?_eq_getElem U,cK,aW,o,Result.andThen];rfl
abbrev jV:=List (T×Hp)
theorem aSa{H:Hp}(R:St g H)(hg:sJ g){jh:Bool}{x:T}{cs:jV}(h:OL H jh x=some cs){v:gZ}(hv:Rd g v x)(ty:gB):
  ∃t H1 u g',(t,H1)∈cs/\(Instr.next v jh ty).run P g.w= .ok u g'.w/\pP H g H1 g'/\sJ g'/\St g' H1/\Rd g' u t:=by
 unfold OL at h;split at h;rename_i l;have hv':v= .pointer (some ⟨g.loc l,0,none⟩):=by cases hv;rfl
 subst hv';split at h;rename_i o ho;split at h;rename_i m a seen last hm;split at h;cases h;rename_i d;have d:jh=false:=by simpa using d
 subst d;split at h;rename_i om hom;split at h;rename_i c U hme;split at h;rename_i W;simp only[aA]at W;obtain⟨hal,oz,b,O,hmo⟩:=R.ap l o _ ho hm;obtain⟨ham,e⟩:=hmo;subst e;obtain⟨_,_,b2,hb2,M,e2,hmr⟩:=R.ap m om _ hom hme;subst e2;have hold:∀x∈M.toList,x.born<a:=by
  intro x hx;obtain⟨i,hi,rfl⟩:=List.mem_iff_getElem.1 hx;have h1:=hmr.1;have z:i<U.length:=by rw[<-hmr.len];exact hi
  have h2:M.toList[i].born=(U[i]).1:=by
   have:=bG (λl=>l[i]?) h1;simp only[bA,aB hi,aB z,cK]at this;exact bV this
  rw[h2];have h3:=W.1;rw[aP]at h3;exact aZn.1 (h3 _ (cC z))
 have y:sK g (leftOf M seen.toArray).toList (wG seen U):=by
  have:=sK.filter (λb=> !seen.contains b) hmr;have e:(leftOf M seen.toArray).toList=M.toList.filter λe=> !seen.contains e.born:=by
   unfold leftOf;rw[Array.toList_filter];congr 1;funext e;simp
  rw[e];exact this
 rcases Jk (P:=P) O hb2 hold (aZn.1 W.2) ty with⟨h0,C⟩|⟨e,he,w1,hw1,C⟩
 have J:wG seen U=[]:=by
  have:=y.len;rw[cW,h0]at this;exact eU.1 this.symm
 rw[J]at h;cases h;exact⟨_,_,_,g,bR.2 rfl,C,pP.bh H g l,hg,R.bh l,Rd.ak (vs:=[.bool false]) (fv.cons (.bool false) fv.nil)⟩;obtain⟨i,hi,rfl⟩:=List.mem_iff_getElem.1 he;have z:i<(wG seen U).length:=by rw[<-y.len];exact hi
 obtain⟨e2,q1,q2,q3,q4⟩:=y.at_ (aB z);rw[aB hi]at q1;cases bV q1;split at h;rename_i J;rw[J]at z;simp at z;cases h;obtain⟨V,I⟩:∃V:G,V={g with w:=w1}:=⟨_,rfl⟩;have hp:fx g V:=by
  rw[I];rcases hw1 with rfl|rfl
  exact fx.refl g;exact⟨rfl,rfl,rfl,bB _,λ_ _ =>rfl,λ_ h=>h,λ_ h=> .inl h,rfl,rfl,rfl⟩
 have hokd:sJ V:=λb O=>cX (hg b (by rw[I]at O;exact O)) hp.size;have L:∀k,V.loc k=g.loc k:=λk=>by rw[I]
 have hmo':lP V (.aT m a (seen++[(wG seen U)[i].1]) c) (.mapIter (some (g.loc m)) a (seen.toArray.push (leftOf M seen.toArray).toList[i].born) c):=by
  refine⟨by rw[I];exact ham,?_⟩;rw[L,<-q2];simp
 refine⟨.fm [.bool true,(wG seen U)[i].2.1,(wG seen U)[i].2.2],H.put l (xK (.aT m a (seen++[(wG seen U)[i].1]) c)),.tuple #[.bool true,(leftOf M seen.toArray).toList[i].key,(leftOf M seen.toArray).toList[i].val],V.ah (V.loc l) (.mapIter (some (g.loc m)) a (seen.toArray.push (leftOf M seen.toArray).toList[i].born) c),?_,?_,hp.bi.trans (yE ho _ _),JC hokd _ _,JD (R.ad hp) ho rfl hmo',?_⟩;exact bS.2 ⟨_,cC z,rfl⟩;rw[C,L,I];rfl;have hstp:=yE (g:=V) (H:=H) ho (.mapIter (some (g.loc m)) a (seen.toArray.push (leftOf M seen.toArray).toList[i].born) c) (xK (.aT m a (seen++[(wG seen U)[i].1]) c));exact(Rd.ak (vs:=[.bool true,_,_]) (fv.cons (.bool true) (fv.cons (q3.ad hp) (fv.cons (q4.ad hp) fv.nil)))).af (R.ad hp) hstp;cases h;cases h;cases h;rename_i s j hm;split at h;rename_i d;subst d;obtain⟨hal,oz,b,O,u,hu,e⟩:=R.ap l o _ ho hm;subst e;have hsz:u.size=s.length:=by rw[<-hu];rfl
 split at h;rename_i c W;split at h;rename_i hlt;cases h;have f:j<u.size:=by rw[hsz];exact(aQ.1 W).1
 have B:u[j]'f=c:=by
  have h1:u.data.toList[j]? =some c:=by rw[hu];exact W
  rw[dW]at h1;obtain⟨h2,h3⟩:=aX.1 h1;exact h3
 have hasc:(u[j]'f).toNat<128:=by rw[B];exact aZn.1 hlt
 refine⟨_,_,.tuple #[.bool true,.int .i64 j,.int .i32 c.toNat],g.ah (g.loc l) (.stringIter u (j+1)),bR.2 rfl,?_,yE ho _ _,JC hg _ _,JD R ho rfl ⟨u,hu,rfl⟩,Rd.ak (vs:=[.bool true,_,_]) (fv.cons (.bool true) (fv.cons (.int _ _) (fv.cons (.int _ _) fv.nil)))⟩;have hset:∀o',(setObj (g.loc l) o').run P g.w= .ok () {g.w with heap:=g.w.heap.setIfInBounds (g.loc l) o'}:=λo'=>by simp[setObj,Sem.run,O]
 simp only[Instr.next,getObj,aW,Sem.run,O,Result.andThen,f,cB,decode_ascii u j f hasc,hset];rw[B];simp[goInt,G.ah];cases h;rename_i W;cases h;have f:¬j<u.size:=λq=>by
  rw[hsz]at q;rw[aB q]at W;cases W
 refine⟨_,_,_,g,bR.2 rfl,?_,pP.bh H g l,hg,R.bh l,Rd.ak (vs:=[.bool false]) (fv.cons (.bool false) fv.nil)⟩;simp[Instr.next,getObj,Sem.run,O,f];cases h;rename_i hm;split at h;cases h;rename_i d;have d:jh=false:=by simpa using d
 subst d;cases h;obtain⟨hal,oz,b,O,e⟩:=R.ap l o _ ho hm;subst e;refine⟨_,_,.tuple #[.bool false],g,bR.2 rfl,?_,pP.bh H g l,hg,R.bh l,Rd.ak (vs:=[.bool false]) (fv.cons (.bool false) fv.nil)⟩;simp[Instr.next,getObj,Sem.run,O];cases h;cases h;cases h
theorem Mx{b:Nat}:∀{f:iH} {i:gS} {e:jN},sK g f i->i.find? (λe=>Nat.beq e.1 b)=some e->∃m,f.find? (λm=>m.born==b)=some m/\Rd g m.key e.2.1/\Rd g m.val e.2.2
 |[],[],e,_,h=>by cases h|[],_ ::_,_,h,_ =>by have:=h.len;simp at this|_ ::_,[],_,h,_ =>by have:=h.len;simp at this
 |m::f,x::i,e,h,a=>by
  obtain⟨j,s,q,o⟩:=h.I;rw[List.find?_cons]at a⊢;by_cases d:x.1=b;rw[show Nat.beq x.1 b=true from bOp.2 d]at a;cases a;exact⟨m,by rw[j];simp[d],s,q⟩;have y:Nat.beq x.1 b=false:=by
   cases e:Nat.beq x.1 b with
   |false=>rfl|true=>exact absurd (aD e) d
  rw[y]at a;obtain⟨w,v,u⟩:=Mx o a;exact⟨w,by rw[j,show(x.1==b)=false by simpa using d];exact v,u⟩
theorem aTe{H:Hp}(q:St g H)(hg:sJ g){x:T}{L:jV}(h:stepT H x=some L){v:gZ}(W:Rd g v x):
  ∃t J u j,(t,J)∈L/\(Instr.entry v).run P g.w= .ok u j.w/\pP H g J j/\sJ j/\St j J/\Rd j u t:=by
 unfold stepT at h;split at h;rename_i l;have C:v= .pointer (some ⟨g.loc l,0,none⟩):=by cases W;rfl
 subst C;split at h;rename_i o ho;split at h;rename_i m s seen M R;split at h;rename_i b om a B;split at h;rename_i c es y;split at h;rename_i hc;split at h;rename_i e O;cases h;obtain⟨hal,oz,bo,hb,ham,e1⟩:=q.ap l o _ ho R;subst e1;obtain⟨_,_,b2,I,V,e2,z⟩:=q.ap m om _ B y;subst e2;obtain⟨i,q1,q2,U⟩:=Mx z O;refine⟨_,_,.tuple #[i.key,i.val],g,bR.2 rfl,?_,pP.refl H g,hg,q,Rd.ak (vs:=[i.key,i.val]) (fv.cons q2 (fv.cons U fv.nil))⟩;have d:seen.toArray.back? =some b:=by simpa using a
 have f:V.find? (λm=>m.born==b)=some i:=by rw[<-q1,<-Array.find?_toList]
 simp only[Instr.entry,getObj,aW,Sem.run,hb,I,Result.andThen,d,aD hc,f];simp;cases h;cases h;cases h;cases h;cases h;cases h;cases h
theorem aKr{H J:Hp}(d:St g H)(i:sJ g){j:gB}{x t:T}(h:CI P H j x=some (t,J)){v:gZ}(z:Rd g v x):
  ∃u y,(Instr.range j v).run P g.w= .ok u y.w/\pP H g J y/\sJ y/\St y J/\Rd y u t:=by
 unfold CI at h;split at h;rename_i m;split at h;rename_i B L o a V;split at h;rename_i c es C;cases h;obtain⟨q,_,b,R,O,e,U⟩:=d.ap m o _ V C;subst e;have f:v= .map (some (g.loc m)):=by cases z;rfl
 subst f;have I:=wY d (.mapIter (some (g.loc m)) c #[] c) 0 (xK (.aT m c [] c));have hn:m≠H.next:=λe=>d.new H.next (bB _) (e▸q);refine⟨_,g.own H.next (.mapIter (some (g.loc m)) c #[] c) 0,?_,I,DF i _ _ _,JX d i λ_ keep=>⟨λe=>(by cases e),λM e=> ?_⟩,YH _ _ _⟩;rw[run_range_map g.w j B L _ O c a R];rfl;cases e;exact⟨.inl q,by simp[G.own,hn]⟩;cases h;cases h;rename_i s;split at h;rename_i a;cases h;obtain⟨u,rfl,W⟩:=z.aj;refine⟨_,g.own H.next (.stringIter u 0) 0,?_,wY d _ 0 (xK (.cz s 0)),DF i _ _ _,JX d i λ_ keep=>⟨λe=>(by cases e),λM e=> ?_⟩,YH _ _ _⟩;rw[run_range_string g.w j u a];rfl;cases e;exact⟨u,W,rfl⟩;cases h;split at h;rename_i B L a;cases h;have f:v= .map none:=by cases z;rfl
 subst f;refine⟨_,g.own H.next (.mapIter none 0 #[] 0) 0,?_,wY d _ 0 (xK .cd),DF i _ _ _,JX d i λ_ keep=>⟨λe=>(by cases e),λM e=> ?_⟩,YH _ _ _⟩;rw[run_range_nilMap g.w j B L a];rfl;cases e;rfl;cases h;cases h
end
open Go.RowKit
structure GI(H:Hp)(g g':G):Prop where
 os:g'.w.os=g.w.os
 tape:g'.w.tape=g.w.tape
 output:g'.w.output=g.w.output
 size:g.w.heap.size<=g'.w.heap.size
 ib:∀b,g.S b->g'.w.heap[b]? =g.w.heap[b]?
 dq:∀l o,H.any l=some o->g'.w.heap[g.loc l]? =g.w.heap[g.loc l]?
 sub:∀b,g.S b->g'.S b
 fresh:∀b,g'.S b->g.S b\/g.w.heap.size<=b
 al:g'.al=g.al
 loc:g'.loc=g.loc
 cp:g'.cp=g.cp
theorem Rd.ib{g U:G}(hS:∀b,g.S b->U.S b)(hb:∀b,g.S b->U.w.heap[b]? =g.w.heap[b]?)(e:∀l,g.al l->U.al l/\U.loc l=g.loc l/\U.cp l=g.cp l){v:gZ}{t:T}(hr:Rd g v t):Rd U v t:=by
 have hc:∀b o v,g.S b->g.w.cell? ⟨b,o,none⟩=some v->U.w.cell? ⟨b,o,none⟩=some v:=λb o v L h=>(World.cell?_of_block (w:=g.w) (a:=⟨b,o,none⟩) (hb b L)).trans h
 induction hr with
 |int k n=>exact .int k n|bool b=>exact .bool b|str s=>exact .str s|fS=>exact .fS|ptr l M B=>rw[<-(e l B).2.1];exact .ptr l M (e l B).1|ref x M b o C L d R _ I=>exact .ref x M b o C (hS b L) d (λj v W=>hc _ _ _ L (R j v W)) I|fp=>exact .fp|ai u f p=>exact .ai u f p
 |sl u xs sz b o J C L hsz z O V d R _ I=>
  refine .sl u xs sz b o J C (λhx=>hS b (L hx)) hsz z O V d (λj v W=> ?_) I;have hn:xs≠[]:=by
   rintro rfl;simp at d;subst d;simp at W
  exact hc _ _ _ (L hn) (R j v W)
 |ac u n f sz b o J C z O V h4 h5 h6 h7 h8=>exact Rd.ay hS hc z O V h4 h5 h6 h7 h8
 |ge l sz i len b o J B z O V h4=>
  obtain⟨q1,q2,q3⟩:=e l B;exact .ge l sz i len b o J q1 z (q3▸O) (λq=>q2▸V q) (λq=>q3▸h4 q)
 |gg=>exact .gg|fn f first y C us z _ O _ ih1 ih2=>exact .fn f first y C us z ih1 O ih2
 |gb=>exact .gb|iface t v x _ I=>exact .iface t v x I|fw=>exact .fw|mp l B=>rw[<-(e l B).2.1];exact .mp l (e l B).1|yl l B=>rw[<-(e l B).2.1];exact .yl l (e l B).1|agg cs C z _ I=>exact .agg cs C z I|fm cs C z _ I=>exact .fm cs C z I
theorem fv.ib{g a:G}(q:∀b,g.S b->a.S b)(i:∀b,g.S b->a.w.heap[b]? =g.w.heap[b]?)(h:∀l,g.al l->a.al l/\a.loc l=g.loc l/\a.cp l=g.cp l){e:gV}{d:gC}(f:fv g e d):fv a e d:=
 ⟨f.1,λj v c o s=>(f.2 j v c o s).ib q i h⟩
theorem gn.ib{gl:gG}{g a:G}(f:∀b,g.S b->a.S b)(i:∀b,g.S b->a.w.heap[b]? =g.w.heap[b]?)(h:∀l,g.al l->a.al l/\a.loc l=g.loc l/\a.cp l=g.cp l)(u:gn gl g):gn gl a:=λk t o=>by
 obtain⟨s,d,j,e,x,q,v⟩:=u k t o;exact⟨s.ib f i h,f k d,j,e,x,by rw[i k d];exact q,v⟩
section
variable{H:Hp}{g g':G}
theorem GI.ga(h:GI H g g'):∀l,g.al l->g'.al l/\g'.loc l=g.loc l/\g'.cp l=g.cp l:=λl a=>⟨h.al▸a,by rw[h.loc],by rw[h.cp]⟩
theorem GI.e9(h:GI H g g'){v:gV}{a:gC}(b:fv g v a):fv g' v a:=b.ib h.sub h.ib h.ga
theorem GI.gl(h:GI H g g'){gl:gG}(a:gn gl g):gn gl g':=a.ib h.sub h.ib h.ga
theorem GI.st(h:GI H g g')(f:St g H):St g' H:=by
 refine⟨λl o d=> ?_,λl o m d x=> ?_,λl L o J b v e=>f.sep l L o J b v (by rw[h.loc]at e;exact e),λl i=>by rw[h.al];exact f.new l i⟩;obtain⟨j,s,C,a,b,v,I,y⟩:=f.own l o d;have u:g.loc l<g.w.heap.size:=(aX.1 a).1;refine⟨h.al▸j,?_,C,?_,b,v,?_,h.e9 y⟩;rw[h.loc];exactλq=>(h.fresh _ q).elim s (λB=>by omega);rw[h.loc,h.dq l o (pD d).1];exact a;rw[h.cp];exact I;obtain⟨j,s,z,a,b⟩:=f.ap l o m d x;have u:g.loc l<g.w.heap.size:=(aX.1 a).1;refine⟨h.al▸j,?_,z,?_,b.mono (λ_ _ q=>q.ib h.sub h.ib h.ga) (λl i=>⟨(h.ga l i).1,(h.ga l i).2.1⟩)⟩;rw[h.loc];exactλq=>(h.fresh _ q).elim s (λB=>by omega);rw[h.loc,h.dq l o d];exact a
theorem GI.af(h:GI H g g'){f:Hp}{a:G}(k:pP f a H g)(i:∀b,b<a.w.heap.size->g'.w.heap[b]? =g.w.heap[b]?):pP f a H g':=by
 have e:∀b,a.w.heap.size<=b\/b<a.w.heap.size:=λb=>by omega
 refine⟨h.os.trans k.os,h.tape.trans k.tape,h.output.trans k.output,dK k.size h.size,λb d j=>(i b d).trans (k.block b d j),λb q=>h.sub b (k.sub b q),λb q=> ?_,
  λl q=>h.al▸k.al l q,λl q=>by rw[h.loc];exact k.loc l q,λl q=>by rw[h.cp];exact k.cp l q,λl o s=>by rw[h.loc];exact k.live l o s⟩
 rcases h.fresh b q with q|q;exact k.fresh b q;exact .inr (.inl (dK k.size q))
end
structure aFl(H:Hp)(g:G)(b:Nat):Prop where
 s:¬g.S b
 o:∀l o,H.any l=some o->g.loc l≠b
theorem aKo{H:Hp}{g:G}{l:Nat}(a:aFl H g l)(o:Obj):GI H g {g with w:=g.w.putObj l o}:=
 ⟨rfl,rfl,rfl,by simp,λb d=>World.putObj_heap_other (λe=>a.s (e▸d)),λm q f=>World.putObj_heap_other (a.o m q f),λ_ h=>h,λ_ h=> .inl h,rfl,rfl,rfl⟩
abbrev iR:=List Tmp
def SZ(b:iR)(x:gC)(a:gC):List T:=(b.zip x).foldl (λf p=>f.set p.1 p.2) a
section
variable(P:gD)(E:uW)(F:Fc)(n:Nat)(ps:iR)(a_s bd:Code)(fr:gC)
end
theorem aLh{g:G}:∀(b:iR) (a:gV) (x:gC) (v:hP) (f:gC),fv g a x->fv g v.toList f->
  fv g ((b.zip a).foldl (λt p=>t.setIfInBounds p.1 p.2) v).toList (SZ b x f):=by
 intro b
 induction b with
 |nil=>intro a x v f _ h;simpa [SZ]using h
 |cons p b i=>
  intro a x v f d h;cases a with
  |nil=>
   have:x=[]:=by have:=d.1;simp at this;exact eU.1 this.symm
   subst this;simpa [SZ]using h
  |cons u a=>
   cases x with
   |nil=>have:=d.1;simp at this
   |cons t x=>
    obtain⟨j,e⟩:=d.I;have:=i a x (v.setIfInBounds p u) (f.set p t) e (by simpa using h.set p j);simpa [SZ]using this
theorem aNc(b:Array Tmp)(a:gV)(d:hP):(b.zip a.toArray).foldl (λt (p,v)=>t.setIfInBounds p v) d=(b.toList.zip a).foldl (λt p=>t.setIfInBounds p.1 p.2) d:=by
 have:b=b.toList.toArray:=by simp
 rw[this,List.zip_toArray,List.foldl_toArray]
theorem Sx(a:Act):DS [] a=a:=by cases a;simp[DS]
theorem De{k N:Nat}:∀{e d:gC},qJ (pM k ⟨0,.nl⟩) e=some d->qJ (pM k ⟨N,.nl⟩) e=some d
 |[],_,h=>h
 |t::e,j,h=>by
  simp only[qJ]at h⊢;split at h;rename_i a i;split at h;rename_i b f;rw[HT k 0 _ _ _ i,De f];exact h;cases h;cases h
section
variable{P:gD}{E:uW}{F:Fc}
theorem qK.ek{e g d:G}{i H:Hp}{a:Act}{f:gC}(h:qK E e i g a f H)(k:GI H g d)(o:sJ d)(j:∀b,b<e.w.heap.size->d.w.heap[b]? =g.w.heap[b]?):qK E e i d a f H:=
 ⟨o,k.st h.st,k.gl h.gl,h.df,k.e9 h.fr,k.af h.step j⟩
theorem qK.ad{d g b:G}{e H:Hp}{a:Act}{f:gC}(h:qK E d e g a f H)(k:fx g b)(i:sJ b):qK E d e b a f H:=
 ⟨i,h.st.ad k,h.gl.ad k,h.df,h.fr.ad k,h.step.trans k.bi⟩
theorem pP.free{H j:Hp}{g i:G}{b:Nat}(h:pP H g j i)(a:aFl H g b)(x:b<g.w.heap.size){o:Obj}(v:g.w.heap[b]? =some o):aFl j i b/\i.w.heap[b]? =some o:=by
 have e:=(h.block b x a.o).trans v;refine⟨⟨λq=> ?_,λl o y e=> ?_⟩,e⟩;rcases h.fresh b q with q|q|⟨l,o,f,d⟩;exact a.s q;omega;exact a.o l o f d;rcases h.live l o y with⟨z,u,f,d⟩|q
 exact a.o z u f (d.trans e);omega
end
open Go.RowKit
structure Mk(g0 g:G)(H:Hp)(ds:iU):Prop where
 at_ :∀d∈ds,∃D,d={target:= .collected D,args:= #[]}/\g0.w.heap.size<=D/\aFl H g D/\g.w.heap[D]? =some (.deferred (some []))
 nd:ds.Nodup
section
variable{P:gD}{E:uW}{F:Fc}{It:FuncId->List T->Option (List (List T))}
theorem Mk.af{b g i:G}{H a:Hp}{ds:iU}(h:Mk b g H ds)(u:pP H g a i):Mk b i a ds:=by
 refine⟨λd s=> ?_,h.nd⟩;obtain⟨D,e,o,v,f⟩:=h.at_ d s;obtain⟨j,q⟩:=u.free v (aX.1 f).1 f;exact⟨D,e,o,j,q⟩
theorem qK.eu{e g i:G}{j H d:Hp}{a b:Act}{o f:gC}(h:qK E e j g a o H)(k:qK E g H i b f d):qK E e j i b f d:=
 ⟨k.ok,k.st,k.gl,k.df,k.fr,h.step.trans k.step⟩
theorem qK.self{d g:G}{b H:Hp}{a:Act}{f:gC}(h:qK E d b g a f H):qK E g H g a f H:=
 ⟨h.ok,h.st,h.gl,h.df,h.fr,pP.refl H g⟩
theorem FW{x:Func}{n:Nat}{R:Ending->World->Prop}{u:G}{J H:Hp}{a:Act}{v:gC}(C:∀I,qK E u J I a v H->LeavesIn (Fw none) n P x a.tmps R [] .returning I.w):
  ∀(ds:iU) (g:G),qK E u J g a v H->Mk u g H ds->LeavesInM (Fw none) n P x a.tmps R ds .returning g.w
 |[],g,j,_ =>C g j
 |d::ds,g,j,i=>by
  obtain⟨D,rfl,W,V,L⟩:=i.at_ d (by simp);have h:aFl H g D:=V;have k:=aKo h (.deferred none);refine⟨by simp,.inl ⟨D,_,rfl,run_takeDeferred L,?_⟩⟩;refine FW C ds {g with w:=g.w.putObj D (.deferred none)} (j.ek k (λb y=>cX (j.ok b y) k.size) (λb y=>World.putObj_heap_other (by omega))) ⟨λU f=> ?_,(dU.1 i.nd).2⟩;obtain⟨B,rfl,M,z,O⟩:=i.at_ U (by simp[f]);have q:B≠D:=λe=>(dU.1 i.nd).1 (by rw[e]at f;exact f);exact⟨B,rfl,M,⟨z.s,z.o⟩,(World.putObj_heap_other q).trans O⟩
end
def Fk(P:gD)(gl:gG)(y:gR):Prop:=
 ∀l f H b d,y l f H=some (b,d)->∀(g:G) (v:gV),sJ g->St g H->gn gl g->fv g v f->
  YieldAt (Fw none) 0 P (g.loc l) v.toArray g.w λe h=>∃a,e= .returned (.bool b)/\a.w=h/\pP H g d a/\sJ a/\St a d
theorem Uy{e:gW}{n:Nat}{P:gD}{l:Nat}{f:gX}{a:hP}{b d:Code}{w:iG}{R:Ending->World->Prop}(h:RoundIn (Fw none) 0 P l f a b d w R):RoundIn (Fw e) n P l f a b d w R:=
 ⟨h.1,λc i _ =>h.2 c i (λ_ h=>by cases h)⟩
section
variable{P:gD}{gl:gG}{ee:gK}{yd:gR}{n:Nat}
end
open Go.RowKit
section
variable{P:gD}{gl:gG}{ee:gK}{yd:gR}{n:Nat}
theorem aNb(hY:Fk P gl yd){q:gF}(hp:tP q=true){i:Nat}{o:Oper}(hi:q[i]? =some o){M:gC}{H R:Hp}{l:Nat}{B:gC}{b:Bool}(s:DH gl M o=some (l,B))(hy:yd l B H=some (b,R))
  (hw:pX q M o=true) {g0 g:G} {H0:Hp} {a:Act} (j:qK (Wg gl) g0 H0 g a M H) {ro:gW} {m:Nat} {ds:iU} {K:iJ} {Q:gJ}
  (hK:∀L,qK (Wg gl) g0 H0 L (a.put o.dst (.bool b)) (pW M o.dst (.bool b)) R->pP H g R L->K (DS ds (a.put o.dst (.bool b))) L.w):wpOpIn (Fw ro) m P q Q i K (DS ds a) g.w:=by
 have hx:=EX.of j.fr none;have hwd:Region.wanted o (yielded q (DS ds a).tmps)=true:=by
  rw[Ez,Fa hx (λd _ =>by simp)];exact hw
 unfold wpOpIn;rw[hi];simp only[hwd,cB];refine⟨λ_ _ =>trivial,?_⟩;have ep:o.semAt (Fw ro).round (DS ds a).eval=execOp a.eval o:=Oper.semAt_eq _ _ _ (SU hp hi);rw[ep];unfold DH at s;split at s;rename_i c hop;split at s;rename_i f y;split at s;rename_i W hev;split at s;rename_i I v;simp only[aI,bF]at s;obtain⟨rfl,rfl⟩:=s;obtain⟨U,J,tys⟩:=c;simp only at y v;subst y;have hv:a.eval f= .func (.yield (g.loc W)) #[] #[]:=by
  have:=hx.eval j.gl (λ_ _ =>by simp) hev;revert this;generalize a.eval f=u;intro this;cases this;rfl
 have h3:=wS (g:=g) (a:=a) v (λx hx' t ht=>hx.eval j.gl (λ_ _ =>by simp) ht);obtain⟨fn,z,a_s,bd,hy',hR⟩:=hY W I H b R hy g (J.toList.map a.eval) j.ok j.st j.gl h3;have C:(execOp a.eval o).run P g.w= .ok (.round (g.loc W) fn z a_s bd) g.w:=by
  simp only[execOp,hop,resolve,hv,Deferred.ofValue,aW,bH,aL,invoke,sF];simpa using hy'
 rw[C];refine⟨λh=>(by cases h),Uy (hR.mono ?_)⟩;rintro e W' ⟨L,rfl,rfl,O,V,hst⟩;have:=hK L ⟨V,hst,j.gl.af j.st O,by rw[sY];exact j.df,((EX.of (j.fr.af j.st O) none).put (Rd.bool b)).all,j.step.trans O⟩ O
 rwa [LJ]at this
 cases s;cases s;cases s;cases s
theorem Oy{fr:gC}(h:fr.length=n):(FT.of fr 0 .nl).view n=fr/\(FT.of fr 0 .nl).Wf n:=by
 obtain⟨b,a⟩:=aSb (n:=n) (l:=fr) (by omega);refine⟨?_,a⟩;rw[b,h,Nat.sub_self];simp
theorem Cj{g:G}{H:Hp}{l:Nat}{o:Ob}(f:H.any l=some o)(d:Obj):pP H g (H.drop l) (g.ah (g.loc l) d):=by
 refine⟨rfl,rfl,rfl,by simp[G.ah],λb _ e=> ?_,λ_ h=>h,λb h=> .inl h,λ_ h=>h,λ_ _ =>rfl,λ_ _ =>rfl,λm q a=> ?_⟩;simp only[G.ah];rw[bT (e l o f)];rw[qY]at a;split at a;cases a;exact .inl ⟨m,q,a,rfl⟩
theorem aPl{g:G}{H:Hp}(i:St g H){l:Nat}{o:Ob}(L:H.any l=some o)(j:Obj):St (g.ah (g.loc l) j) (H.drop l):=by
 have d:=Cj (g:=g) L j;have f:∀m q,m≠l->H.any m=some q->(g.ah (g.loc l) j).w.heap[g.loc m]? =g.w.heap[g.loc m]? :=λm q v b=>by
  simp only[G.ah];rw[bT (λe'=>v (i.sep m l q o b L e'.symm))]
 have a:∀m q,(H.drop l).any m=some q->m≠l/\H.any m=some q:=λm q b=>by
  rw[qY]at b;split at b;cases b;rename_i e;exact⟨e,b⟩
 refine⟨λm q b=> ?_,λm q V b C=> ?_,λm M q J h1 h2 e=> ?_,λm U=>i.new m U⟩;obtain⟨h,s⟩:=pD b;obtain⟨e,h⟩:=a m q h;obtain⟨u,x,c0,y,I,q2,W,R⟩:=i.own m q (yA h s);exact⟨u,x,c0,by rw[show(g.ah (g.loc l) j).loc m=g.loc m from rfl,f m q e h];exact y,I,q2,W,R.af i d⟩;obtain⟨e,h⟩:=a m q b;obtain⟨u,x,B,y,I⟩:=i.ap m q V h C;exact⟨u,x,B,by rw[show(g.ah (g.loc l) j).loc m=g.loc m from rfl,f m q e h];exact y,I.mono (λ_ _ z=>z.af i d) (λl O=>⟨d.al l O,d.loc l O⟩)⟩;exact i.sep m M q J (a m q h1).2 (a M J h2).2 e
theorem xX{Y:Type}{H:Hp}{l:Nat}{k:Lr->Option Y}{r:Y}(h:RA H l k=some r):∃o a,H.any l=some o/\o.me=some (.loop a)/\k a=some r:=by
 unfold RA at h;obtain⟨o,d,h⟩:=Zh h;obtain⟨m,b,h⟩:=Zh h;split at h;exact⟨o,_,d,b,h⟩;cases h
theorem OJ{g:G}{H:Hp}(a:St g H){l:Nat}{o:Ob}{r:Lr}(q:H.any l=some o)(j:o.me=some (.loop r)):g.al l/\∃fn tmps D,g.w.heap[g.loc l]? =some (.loop {state:=r.st,pending:=r.pe,fn,tmps,params:=r.ps,assign:=r.iF,body:=r.bd,defers:=D})/\fv g tmps.toList (r.fr.view r.n)/\r.fr.Wf r.n:=by
 obtain⟨i,_,b,h,fn,tmps,D,e,f,d⟩:=a.ap l o _ q j;exact⟨i,fn,tmps,D,by rw[h,e],f,d⟩
theorem aHb{y:gW}{u g:G}{H0 H:Hp}{a:Act}{R:gC}{ds:iU}(s:qK (Wg gl) u H0 g a R H)(x:Mk u g H ds)(B:∀l,y=some l->u.al l)(f:Pp H y=true)(fn:gX)(tmps:hP)(L:Array Tmp)(j O:Code):
  ∃(v:iG) (D:Nat) (mark:iU),(Instr.enterLoop fn tmps L j O (y.map u.loc)).run P g.w= .ok (v.heap.size,mark) (v.alloc (.loop {state:= .ready,pending:=none,fn,tmps,params:=L,assign:=j,body:=O,defers:=D}))/\
   fx g {g with w:=v}/\sJ {g with w:=v}/\Mk u {g with w:=v} H (mark++ds):=by
 cases y with
 |none=>
  have i:Below g.w.heap.size g.w (g.w.alloc (.deferred (some []))):=(Below.refl _ g.w).alloc (bB _) _;have J:fx g {g with w:=g.w.alloc (.deferred (some []))}:=⟨i.os,i.tape,i.output,i.size,i.block,λ_ h=>h,λ_ h=> .inl h,rfl,rfl,rfl⟩;refine⟨g.w.alloc (.deferred (some [])),g.w.heap.size,[{target:= .collected g.w.heap.size,args:= #[]}],?_,J,λb I=>cX (s.ok b I) J.size,λd hdm=> ?_,?_⟩;rw[World.size_alloc];exact run_enterLoop_outer _ _ _ _ _;rcases aY.1 hdm with rfl|hdm;refine⟨g.w.heap.size,rfl,s.step.size,⟨λq=> ?_,λl o M e=> ?_⟩,World.alloc_heap_new g.w _⟩;have:=s.ok _ q;omega;have:=s.st.lt M;have e':g.loc l=g.w.heap.size:=e;omega;exact(x.af J.bi).at_ d hdm;refine dU.2 ⟨λhdm=> ?_,x.nd⟩;obtain⟨D',e,_,_,q⟩:=x.at_ _ hdm;cases e;have:=(aX.1 q).1;omega
 |some z=>
  unfold Pp aQr at f;simp only at f;split at f;rename_i o M;split at f;rename_i r U;obtain⟨_,V,C,D,i,_,_⟩:=OJ s.st M U;have W:u.loc z=g.loc z:=(s.step.loc z (B z rfl)).symm;refine⟨g.w,D,[],?_,fx.refl g,s.ok,x⟩;rw[cK,W];have:=run_enterLoop_inner (P:=P) i fn tmps L j O;exact this;cases f;cases f
end
open Go.RowKit
section
variable{P:gD}{gl:gG}{ee:gK}{yd:gR}{n:Nat}
theorem aHa{l:Nat}{j:FT}{H:Hp}{L:List (X×FT×Hp)}(h:aPp l j H=some L):∃o a x,H.any l=some o/\o.me=some (.loop a)/\a.st≠ .busy/\L=[(x,j,H.drop l)]/\
  ((x= .normal/\a.pe=none)\/(∃id,x= .exit id/\a.pe=some (.exit id))\/(x= .ret/\a.pe=some .ret)):=by
 obtain⟨o,a,i,f,b⟩:=xX h;split at b;cases b;rename_i e;split at b;rename_i d;cases b;exact⟨o,a,.normal,i,f,e,rfl,.inl ⟨rfl,d⟩⟩;rename_i id d;cases b;exact⟨o,a,.exit id,i,f,e,rfl,.inr (.inl ⟨id,rfl,d⟩)⟩;rename_i d;cases b;exact⟨o,a,.ret,i,f,e,rfl,.inr (.inr ⟨rfl,d⟩)⟩;cases b
theorem Uu(hF:sD P gl ee){ro:gW}{m:Nat}{g0:G}{H0:Hp}(hro:∀l,ro=some l->g0.al l){gv:jH}{ps:Array Tmp}{z bd:Code}{ow:hJ}{tr:FT}{H H2:Hp}{L:List (X×FT×Hp)}{gf:gX}{R:gC}{v:T}(hw:tr.Wf n)(he:pQ gl (tr.view n) gv=some (.fn (.func gf) [] R))
  (hrok:Pp H ro=true) (C:ee gf (.yl H.next::R) (H.new (CN ⟨.ready,none,tr,n,ps,z,bd,ow⟩))=some (v,H2)) (h:aPp H.next tr H2=some L) {g:G} {a:Act} {ds:iU} (hc:qK (Wg gl) g0 H0 g a (tr.view n) H) (hd:Mk g0 g H ds) {Q:gJ}
  (hQ:∀p∈L,∀a' g' ds',qK (Wg gl) g0 H0 g' a' (p.2.1.view n) p.2.2->p.2.1.Wf n->Mk g0 g' p.2.2 ds'->Q p.1.au (DS ds' a') g'.w):(Code.rangeFunc gv ps z bd).wpIn (Fw (ro.map g0.loc)) m P Q (DS ds a) g.w:=by
 obtain⟨o2,J,x,ho2,hm2,hst2,rfl,hx⟩:=aHa h;have hv:=(EX.of hc.fr none).eval hc.gl (λ_ _ =>by simp) he;obtain⟨y,hev,hus⟩:∃y:List Value,a.eval gv= .func (.func gf) #[] y.toArray/\fv g y R:=by
  revert hv;generalize a.eval gv=u;intro hv;cases hv with
  |fn f first captured vs y h1 h2 h3 h4=>
   have:vs=[]:=by simpa using h1
   subst this;exact⟨y,rfl,h3,h4⟩
 refine wpIn_rangeFunc λfn hfn=> ?_;obtain⟨w',D,mark,q,hp1,hok1,hmk1⟩:=aHb (P:=P) hc hd hro hrok fn a.tmps ps z bd;obtain⟨d,hg1⟩:∃d:G,d={g with w:=w'}:=⟨_,rfl⟩;rw[<-hg1]at hp1 hok1 hmk1;have hw1:w'=d.w:=by rw[hg1]
 rw[hw1]at q;have b:qK (Wg gl) g0 H0 d a (tr.view n) H:=hc.ad hp1 hok1;obtain⟨rec,V⟩:∃rec:Loop,rec={state:= .ready,pending:=none,fn,tmps:=a.tmps,params:=ps,assign:=z,body:=bd,defers:=D}:=⟨_,rfl⟩;rw[<-V]at q;obtain⟨r0,O⟩:∃r0:Lr,r0=⟨.ready,none,tr,n,ps,z,bd,ow⟩:=⟨_,rfl⟩;rw[<-O]at C;obtain⟨hokf,hcon⟩:=hF _ _ _ _ _ C;obtain⟨o,i⟩:∃o:G,o=d.own H.next (.loop rec) 0:=⟨_,rfl⟩;have hs2:pP H d (H.new (CN r0)) o:=by rw[i];exact wY b.st _ _ _
 have hok2:sJ o:=by rw[i];exact DF b.ok _ _ _
 have hst2':St o (H.new (CN r0)):=by
  rw[i];refine JX b.st b.ok λ_ keep=>⟨λe=>(by cases e),λm e=> ?_⟩;cases e;refine⟨fn,a.tmps,D,?_,?_,?_⟩;rw[O,V];rw[O];exact⟨b.fr.1,λj v c hv hc=>keep v c (b.fr.2 j v c hv hc)⟩;rw[O];exact hw
 have hgl2:gn gl o:=b.gl.af b.st hs2;have W:o.loc H.next=d.w.heap.size:=by rw[i];simp[G.own]
 have hW:d.w.alloc (.loop rec)=o.w:=by rw[i];rfl
 rw[hW]at q;have hargs:fv o (.func (.yield d.w.heap.size) #[] #[]::y) (.yl H.next::R):=by
  refine fv.cons ?_ ((hus.ad hp1).af b.st hs2);rw[<-W];exact .yl H.next (by rw[i];exact .inr rfl)
 refine⟨d.w.heap.size,mark,o.w,{target:= .fn (.func gf) y.toArray,args:= #[.func (.yield d.w.heap.size) #[] #[]]},o.w,gf, #[.func (.yield d.w.heap.size) #[] #[]]++y.toArray,o.w,q,?_,?_,?_,λh=>(by cases h),?_⟩;have hev':(DS ds a).eval gv= .func (.func gf) #[] y.toArray:=hev;simp only[resolve,hev'];simp[go_sem];intro _ _;trivial;have:=RF (g:=o) hokf (#[.func (.yield d.w.heap.size) #[] #[]]++y.toArray);simp[invoke,go_sem]at this⊢;exact this;have ea:({DS ds a with defers:=mark++(DS ds a).defers}:Act)=DS (mark++ds) a:=by simp[DS,hc.df]
 have eargs:(#[.func (.yield d.w.heap.size) #[] #[]]++y.toArray:Array Value)=(Value.func (.yield d.w.heap.size) #[] #[]::y).toArray:=by simp
 rw[eargs];refine FA.2 ((hcon o _ hok2 hst2' hgl2 hargs).mono ?_);rintro e w3 ⟨v',g3,rfl,rfl,hs3,hok3,U,_⟩;obtain⟨hal3,fn3,B,D3,hb3,_,_⟩:=OJ U ho2 hm2;have hl3:g3.loc H.next=d.w.heap.size:=by rw[<-W];exact hs3.loc H.next (by rw[i];exact .inr rfl)
 rw[hl3]at hb3;have hend:=run_endLoop (P:=P) hb3 (by simpa using hst2);obtain⟨I,M⟩:∃I:G,I=g3.ah (g3.loc H.next) (.loop {state:= .exhausted,pending:=J.pe,fn:=fn3,tmps:=B,params:=J.ps,assign:=J.iF,body:=J.bd,defers:=D3}):=⟨_,rfl⟩;have hs4:pP H2 g3 (H2.drop H.next) I:=by rw[M];exact Cj ho2 _
 have hst4:St I (H2.drop H.next):=by rw[M];exact aPl U ho2 _
 have hok4:sJ I:=by rw[M];exact JC hok3 _ _
 have hw4:(g3.w.putObj d.w.heap.size (.loop {state:= .exhausted,pending:=J.pe,fn:=fn3,tmps:=B,params:=J.ps,assign:=J.iF,body:=J.bd,defers:=D3}))=I.w:=by rw[M,hl3];rfl
 rw[hw4]at hend;have s:pP H d (H2.drop H.next) I:=(hs2.trans hs3).trans hs4;have hc4:qK (Wg gl) g0 H0 I a (tr.view n) (H2.drop H.next):=⟨hok4,hst4,b.gl.af b.st s,hc.df,b.fr.af b.st s,b.step.trans s⟩;have hq:=hQ _ (bR.2 rfl) a I (mark++ds) hc4 hw (hmk1.af s);refine⟨J.pe,I.w,hend,?_⟩;rw[ea];rcases hx with⟨rfl,hp⟩|⟨id,rfl,hp⟩|⟨rfl,hp⟩
 rw[hp];exact hq;rw[hp];exact wpIn_exit hq;rw[hp];exact wpIn_ret hq
theorem qK.cast{E E':uW}(e:E.gl=E'.gl){b g:G}{d H:Hp}{a:Act}{f:gC}(h:qK E b d g a f H):qK E' b d g a f H:=⟨h.ok,h.st,e▸h.gl,h.df,h.fr,h.step⟩
end
open Go.RowKit
section
variable{P:gD}{gl:gG}{ee:gK}{yd:gR}{pc:gI}{n:Nat}
theorem Mk.none{a g:G}{H:Hp}:Mk a g H []:=⟨λd h=>by simp at h,List.nodup_nil⟩
theorem aCz{l:Nat}{j g:G}{C H:Hp}{a:Act}{I:gC}(y:qK (Wg gl) j C g a I H)(L:j.al l){x:X}{b:Bool}{i:Hp}(h:ML l H x=some (b,i)):
  roundPost P (j.loc l) (λe O=>∃d,e= .returned (.bool b)/\d.w=O/\pP C j i d/\sJ d/\St d i) x.au a g.w:=by
 obtain⟨o,f,B,J,h⟩:=xX h;obtain⟨_,fn,tmps,D,z,R,M⟩:=OJ y.st B J;have U:j.loc l=g.loc l:=(y.step.loc l L).symm;rw[U];have fin:∀(st:LoopState) (pe:Option Code),∃d,d.w=g.w.putObj (g.loc l) (.loop {state:=st,pending:=pe,fn,tmps,params:=f.ps,assign:=f.iF,body:=f.bd,defers:=D})/\pP C j (H.put l (CN {f with st:=st,pe:=pe})) d/\sJ d/\St d (H.put l (CN {f with st:=st,pe:=pe})):=by
  intro st pe;refine⟨g.ah (g.loc l) (.loop {state:=st,pending:=pe,fn,tmps,params:=f.ps,assign:=f.iF,body:=f.bd,defers:=D}),rfl,y.step.trans (yE B _ _),JC y.ok _ _,JD y.st B rfl ⟨fn,tmps,D,rfl,R,M⟩⟩
 cases x with
 |normal=>
  cases(show some (true,H.put l (CN {f with st:= .ready,pe:=none}))=some (b,i)from h);obtain⟨d,s,v,u,q⟩:=fin .ready none;exact⟨_,_,run_endRound none z,d,rfl,s,v,u,q⟩
 |exit id=>
  cases(show some (false,H.put l (CN {f with st:= .done,pe:=some (.exit id)}))=some (b,i)from h);obtain⟨d,s,v,u,q⟩:=fin .done (some (.exit id));exact⟨_,_,run_endRound (some (.exit id)) z,d,rfl,s,v,u,q⟩
 |ret=>
  cases(show some (false,H.put l (CN {f with st:= .done,pe:=some .ret}))=some (b,i)from h);obtain⟨d,s,v,u,q⟩:=fin .done (some .ret);exact⟨_,_,run_endRound (some .ret) z,d,rfl,s,v,u,q⟩
end
def Nj(gl:gG)(f:gC)(o:Oper):Bool:=
 match o.op with
 | .load _ a=>match pQ gl f a with
  |some (.ref ..)=>true|_ =>false
 | .convert _ _ x=>match pQ gl f x with
  |some (.ge ..)=>false|_ =>true
 | .call c=>match c.callee with
  | .builtin .len=>c.args.toList.all λx=>match pQ gl f x with
   |some (.mp _)=>false|_ =>true
  | .builtin _ =>true|_ =>false
 | .lookup .. =>false|_ =>true
def aIl(d:Tmp)(t:gB)(o:Oper):Bool:=match o.op,o.dst,o.guard with
 | .alloc b,some a,none=>Nat.beq a d&&Nat.beq b t|_,_,_ =>false
def aQs(d:Tmp)(t:gB)(o:Oper):Option Operand:=match o.op,o.dst,o.guard with
 | .store b (.tmp a) x,none,none=>if Nat.beq a d&&(Nat.beq b t&&zE x d)then some x else none
 |_,_,_ =>none
def bLh(own:hJ)(o:Oper):Option (Tmp×TypeId):=match o.op,o.dst,o.guard with
 | .alloc t,some d,none=>if own d then none else some (d,t)
 |_,_,_ =>none
def aKg(own:hJ)(a:gF):Pd:=match a.toList.findSome? (bLh own)with
 |some (d,t)=>match a.toList.findIdx? (aIl d t),a.toList.findIdx? (λo=>(aQs d t o).isSome)with
  |some i,some i1=>some (i,i1,d,t)|_,_ =>none
 |none=>none
def aZv(a:Pd)(o:gF):Bool:=match a with
 |some (i,i1,_,_)=>Nat.blt i i1&&(Nat.blt i1 o.size&&uU (tU o.toList []) i1 i)|none=>true
def kf(gl:gG)(b:gW)(f:gC)(o:Oper):Bool:=match b,o.op with
 |some l,.load _ a=>(match pQ gl f a with
  |some (.ptr d _)=>Nat.beq d l|_ =>false)
 |_,_ =>false
section
variable(P:gD)(E:uW)(F:Fc)(ops:gF)
def mg(a:Pd)(m:Nat)(f:gC)(o:Oper):Option (Option (List T)):=match a with
 |none=>some none
 |some (i,i1,d,t)=>if Nat.beq m i then(if aIl d t o then match uI P t,wM P t with
    |some n,some z=>if z.cells.length=n then some (some (pW f o.dst oS))else none
    |_,_ =>none
   else none)
  else if Nat.beq m i1 then match aQs d t o with
   |some x=>match pQ E.gl f x,uI P t with
    |some y,some n=>if y.cells.length=n/\qO y.cells=true then some (some (f.set d (.ref y 0)))else none
    |_,_ =>none
   |none=>none
  else if rQ ops o d then none else some none
def GX(b:gW)(d:Pd):List Oper->Nat->List T->Hp->Option (List T×Hp×List (Nat×Bool)×List (Nat×Bool))
 |[],_,a,H=>some (a,H,[],[])
 |o::r,m,a,H=>
  if yR ⟨a,H,none⟩ o=false then none
  else match mg P E ops d m a o with
  |none=>none|some (some i)=>GX b d r (m+1) i H
  |some none=>if pX ops a o then match pS P E (CH F o) H a o with
   |some v=>match GX b d r (m+1) (pW a o.dst v) H with
    |some (f,e,h,ds)=>some (f,e,h,if Nj E.gl a o then ds else(m,kf E.gl b a o)::ds)
    |none=>none
   |none=>match GW P E F b H a o with
    |some (v,j)=>match GX b d r (m+1) (pW a o.dst v) j with
     |some (f,e,h,ds)=>some (f,e,(m,BJ o&&b.isSome)::h,ds)|none=>none
    |none=>none
  else GX b d r (m+1) (pW a o.dst oS) H
abbrev iV:=List (Nat×Bool)
def Dm(A:gU)(a ds:iV):Bool:=(a.all λe=>a.all λb=> !(Nat.blt b.1 e.1)||uU A e.1 b.1)&&ds.all λd=>a.all λe=>(d.2&&e.2)||if Nat.blt e.1 d.1 then uU A d.1 e.1 else uU A e.1 d.1
def AW(b:gW)(a:gC)(H:Hp):Option Fx:=match GX P E F ops b (aKg F.own ops) ops.toList 0 a H with
 |some (f,d,e,ds)=>if aZv (aKg F.own ops) ops&&Dm (tU ops.toList []) e ds then some ⟨f,d,none⟩else none
 |none=>none
def oA(f:gC):Option Nat:=match KG ops with
 |some b=>match rW f b with
  | .ptr l _ =>some l|_ =>none
 |none=>none
def rv:Bool:=ops.toList.any λo=>match o.op with
 | .lookup .. =>true|_ =>false
def AU(b a:Bool)(f:gC)(H:Hp):Option Fx:=if !a then AW P E F ops (oA ops f) f H else if rv ops|| !b then AW P E F ops none f H else rR P E F ops f H
end
section
variable{P:gD}{E:uW}{F:Fc}{ops:gF}
theorem aQg{j:gC}{o:Oper}{H H':Hp}{own:Bool}(h:Nj E.gl j o=true):pS P E own H j o=pS P E own H' j o:=by
 obtain⟨I,B,L,z,w,guard⟩:=o;cases B<;>simp only[Nj]at h<;>try first|rfl|(cases h;done)
 case load t a=>
  simp only[pS];split at h;rename_i x y q;rw[q];rfl;cases h
 case convert s d x=>
  simp only[pS];split at h;cases h;rename_i J;cases he:pQ E.gl j x with
  |none=>rfl|some a=>exact Lz λl R i n e=>J _ _ _ _ (e▸he)
 case call c=>
  simp only[pS,yT];split at h;rename_i v;rw[v];simp only;rw[aP]at h;split;rename_i x t M C O;have f:=h x (by rw[C];simp);split;rename_i a q;rw[q]at f;cases a<;>first|rfl|(simp at f)
  rfl;rfl;rename_i b v u;rw[u];cases b<;>first|rfl|exact absurd rfl v
  cases h
theorem aZe{b:gW}{f:gC}{o:Oper}{H H':Hp}{own:Bool}(h:kf E.gl b f o=true)(s:∀l,b=some l->H.get l=H'.get l):pS P E own H f o=pS P E own H' f o:=by
 obtain⟨u,i,w,v,d,guard⟩:=o;cases b with
 |none=>simp[kf]at h
 |some l=>
  cases i<;>simp only[kf]at h<;>try(cases h;done)
  case load t a=>
   split at h;rename_i j q e;have:=aD h;subst this;simp only[pS,e,wI,vM,s j rfl];cases h
theorem aBk{b:gW}{H e:Hp}{f:gC}{o:Oper}{v:T}(h:GW P E F b H f o=some (v,e))(d:(BJ o&&b.isSome)=true):∃l,b=some l/\e.get l=H.get l:=by
 simp only[aA]at d;obtain⟨l,rfl⟩:=eQ.1 d.2;refine⟨l,rfl,?_⟩;unfold GW at h;rw[aJ d.1]at h;simp only at h;split at h;rename_i i a;split at h;cases h;rw[gw _ _ _ _ (pD a).2,aJ rfl,a];cases h;cases h
def Fh(P:gD)(E:uW)(F:Fc)(b:gF)(s:gW)(h:Pd)(K:Nat)(e:jZ)(j:kB)(ds:iV)(p:Nat)(o:Oper)(f a:gC):Prop:=
 (∃i1 d t n z,h=some (p,i1,d,t)/\o.op= .alloc t/\o.dst=some d/\o.guard=none/\uI P t=some n/\wM P t=some z/\z.cells.length=n/\(∀k,k<K->e k≠p)/\a=pW f o.dst oS)\/
 (∃i d t x y n,h=some (i,p,d,t)/\o.op= .store t (.tmp d) x/\o.dst=none/\o.guard=none/\zE x d=true/\pQ E.gl f x=some y/\uI P t=some n/\y.cells.length=n/\qO y.cells=true/\(∀k,k<K->e k≠p)/\a=f.set d (.ref y 0))\/
 ((∀i i1 d t,h=some (i,i1,d,t)->p≠i/\p≠i1/\rQ b o d=false)/\
  ((∃k v,k<K/\e k=p/\pX b f o=true/\GW P E F s (j k) f o=some (v,j (k+1))/\a=pW f o.dst v)\/
   ((∀k,k<K->e k≠p)/\((pX b f o=true/\∃v q,q<=K/\(∀k,k<K->(e k<p↔k<q))/\pS P E (CH F o) (j q) f o=some v/\(Nj E.gl f o=true\/(p,kf E.gl s f o)∈ds)/\a=pW f o.dst v)\/(pX b f o=false/\a=pW f o.dst oS)))))
theorem Fh.ds{i:gW}{u:Pd}{K:Nat}{s:jZ}{x:kB}{ds a:iV}{p:Nat}{o:Oper}{e f:gC}(h:Fh P E F ops i u K s x ds p o e f)(J:∀d∈ds,d∈a):Fh P E F ops i u K s x a p o e f:=by
 rcases h with h|h|⟨b,h|⟨j,⟨w,v,q,I,C,z,y,B⟩|h⟩⟩;exact .inl h;exact .inr (.inl h);exact .inr (.inr ⟨b,.inl h⟩);exact .inr (.inr ⟨b,.inr ⟨j,.inl ⟨w,v,q,I,C,z,y.imp id (J _),B⟩⟩⟩);exact .inr (.inr ⟨b,.inr ⟨j,.inr h⟩⟩)
theorem Fh.shift{W:gW}{pd:Pd}{K:Nat}{e:jZ}{Hc:kB}{ds:iV}{p m:Nat}{o:Oper}{V f:gC}(h:Fh P E F ops W pd K e Hc ds p o V f)(hm:m<p)(H:Hp):
  Fh P E F ops W pd (K+1) (λk=>match k with|0=>m|k+1=>e k) (λk=>match k with|0=>H|k+1=>Hc k) ds p o V f:=by
 have ne:(∀k,k<K->e k≠p)->∀k,k<K+1->(match k with|0=>m|k+1=>e k)≠p:=λh k hk=>by
  cases k with
  |zero=>show m≠_;omega|succ k=>exact h k (by omega)
 rcases h with⟨i1,d,t,n,z,b,M,R,I,i,ez,J,a,s⟩|⟨i0,d,t,x,y,n,b,M,R,I,ex,ey,i,L,C,a,s⟩|⟨B,⟨k,v,C,U,O,j,u⟩|⟨h1,⟨w,v,q,C,U,O,j,u⟩|h⟩⟩
 exact .inl ⟨i1,d,t,n,z,b,M,R,I,i,ez,J,ne a,s⟩;exact .inr (.inl ⟨i0,d,t,x,y,n,b,M,R,I,ex,ey,i,L,C,ne a,s⟩);exact .inr (.inr ⟨B,.inl ⟨k+1,v,by omega,U,O,j,u⟩⟩);refine .inr (.inr ⟨B,.inr ⟨ne h1,.inl ⟨w,v,q+1,by omega,λk hk=> ?_,O,j,u⟩⟩⟩);cases k with
 |zero=>exact⟨λ_ =>by omega,λ_ =>hm⟩|succ k=>have:=U k (by omega);exact⟨λq=>by have:=this.1 q;omega,λq=>this.2 (by omega)⟩
 exact .inr (.inr ⟨B,.inr ⟨ne h1,.inr h⟩⟩)
def nG(P:gD)(E:uW)(F:Fc)(h:gF)(j:gW)(v:Pd)(b:hU)(m:Nat)(u:gC)(H:Hp)(f:gC)(w:Hp)(x ds:iV):Prop:=
 ∃(S:jF) (K:Nat) (e:jZ) (s:jD) (a:kB),S 0=u/\S b.length=f/\a 0=H/\a K=w/\(∀k,k<K->x[k]? =some (e k,s k))/\
  (∀k,k<K->m<=e k/\e k<m+b.length)/\(∀k q,q<k->k<K->e q<e k)/\(∀k,k<K->s k=true->∃l,j=some l/\(a (k+1)).get l=(a k).get l)/\
  ∀i,i<b.length->∃o,b[i]? =some o/\(∀d,o.dst=some d->d<(S i).length)/\Fh P E F h j v K e a ds (m+i) o (S i) (S (i+1))
theorem nG.plain{s:gW}{w:Pd}{o:Oper}{C:hU}{m:Nat}{q b f:gC}{H y:Hp}{z ds e:iV}(I:nG P E F ops s w C (m+1) b H f y z e)(u:∀d,o.dst=some d->d<q.length)(v:∀d∈e,d∈ds)
  (h:∀(K:Nat) (j:jZ) (a:kB),(∀k,k<K->m<j k)->a 0=H->Fh P E F ops s w K j a ds m o q b):nG P E F ops s w (o::C) m q H f y z ds:=by
 obtain⟨S,K,j,kb,a,M,V,B,U,O,x,h7,L,h8⟩:=I;refine⟨λi=>match i with|0=>q|i+1=>S i,K,j,kb,a,rfl,V,B,U,O,λk h=>⟨by have:=x k h;omega,by have:=x k h;simp;omega⟩,h7,L,λi R=> ?_⟩;cases i with
 |zero=>exact⟨o,rfl,u,by show Fh _ _ _ _ _ _ _ _ _ _ _ _ _ (S 0);rw[M];exact h K j a (λk h=>by have:=x k h;omega) B⟩
 |succ i=>
  obtain⟨W,q1,q2,J⟩:=h8 i (by simpa using R);refine⟨W,by simpa using q1,q2,?_⟩;rw[show m+(i+1)=m+1+i by omega];exact J.ds v
theorem NU{lq:gW}{pd:Pd}:∀(C:hU) (m:Nat) (B:gC) (H:Hp) (f:gC) (H':Hp) (es ds:iV),GX P E F ops lq pd C m B H=some (f,H',es,ds)->nG P E F ops lq pd C m B H f H' es ds
 |[],m,B,H,f,H',es,ds,h=>by
  simp only[GX,aI,bF]at h;obtain⟨rfl,rfl,rfl,rfl⟩:=h;exact⟨λ_ =>B,0,λ_ =>0,λ_ =>false,λ_ =>H,rfl,rfl,rfl,rfl,λk b=>by omega,λk b=>by omega,λk k' _ b=>by omega,λk b=>by omega,λi hi=>by simp at hi⟩
 |o::C,m,B,H,f,H',es,ds,h=>by
  simp only[GX]at h;split at h;cases h;rename_i w;have u:=BW w;split at h;cases h
  .
   rename_i fr1 a;refine(NU C (m+1) _ H _ _ _ _ h).plain u (λd w=>w) (λK L M J hH=> ?_);have O:∀k,k<K->L k≠m:=λk b=>by have:=J k b;omega
   unfold mg at a;split at a;cases a;rename_i U i1 d t;split at a;rename_i e0;have:=aD e0;subst this;split at a;rename_i j;split at a;rename_i n z hn hz;split at a;rename_i hzl;cases a;unfold aIl at j;split at j;rename_i t' d' q1 V q3;simp only[aA]at j;have e1:=aD j.1;have e2:=aD j.2;subst e1 e2;exact .inl ⟨i1,d',t',n,z,rfl,q1,V,q3,hn,hz,hzl,O,rfl⟩;cases j;cases a;cases a;cases a;split at a;rename_i e0;have:=aD e0;subst this;split at a;rename_i x s;split at a;rename_i y n hy hn;split at a;rename_i hc;cases a;unfold aQs at s;split at s;rename_i t' d' x' q1 V q3;split at s;rename_i R;cases s;simp only[aA]at R;obtain⟨b1,b2,b3⟩:=R;have e1:=aD b1;have e2:=aD b2;subst e1 e2;exact .inr (.inl ⟨U,d',t',x,y,n,rfl,q1,V,q3,b3,hy,hn,hc.1,hc.2,O,rfl⟩);cases s;cases s;cases a;cases a;cases a;split at a<;>cases a
  rename_i a;have I:∀U i1 d t,pd=some (U,i1,d,t)->m≠U/\m≠i1/\rQ ops o d=false:=λU i1 d t e=>by
   subst e;simp only[mg]at a;split at a;split at a;split at a;split at a<;>cases a;cases a;cases a;rename_i n0;split at a;split at a;split at a;split at a<;>cases a;cases a;cases a;rename_i n1;split at a;cases a;rename_i n2;exact⟨λe=>n0 (by rw[e];exact fJ _),λe=>n1 (by rw[e];exact fJ _),by simpa using n2⟩
  split at h;rename_i hw;split at h;rename_i v hv;split at h;rename_i f1 H1 j6 ds1 he;simp only[aI,bF]at h;obtain⟨rfl,rfl,rfl,rfl⟩:=h;refine(NU C (m+1) _ H _ _ _ _ he).plain u (λd w=> ?_) (λK L M J hH=> .inr (.inr ⟨I,.inr ⟨λk b=>by have:=J k b;omega,.inl ⟨hw,v,0,Nat.zero_le _,λk b=>⟨λq=>by have:=J k b;omega,λq=>by omega⟩,by rw[hH];exact hv,?_,rfl⟩⟩⟩));split;exact w;exact aC _ w;by_cases hh:Nj E.gl B o=true;exact .inl hh;rw[aH hh];exact .inr aO;cases h;split at h;rename_i v H1 W;split at h;rename_i f1 H2 j6 ds1 he;simp only[aI,bF]at h;obtain⟨rfl,rfl,rfl,rfl⟩:=h;obtain⟨S,K,L,kb,M,h0,h1,h2,h3,h5,h6,h7,h9,h8⟩:=NU C (m+1) _ H1 _ _ _ _ he;refine⟨λi=>match i with|0=>B|i+1=>S i,K+1,λk=>match k with|0=>m|k+1=>L k,λk=>match k with|0=>BJ o&&lq.isSome|k+1=>kb k,λk=>match k with|0=>H|k+1=>M k,rfl,h1,rfl,h3,λk b=> ?_,λk b=> ?_,λk k' hkk b=> ?_,λk b R=> ?_,λi hi=> ?_⟩;cases k with
  |zero=>rfl|succ k=>exact h5 k (by omega)
  cases k with
  |zero=>simp|succ k=>have:=h6 k (by omega);simp only[aZ];omega
  cases k with
  |zero=>omega
  |succ k=>
   cases k' with
   |zero=>have:=h6 k (by omega);show m<L k;omega|succ k'=>exact h7 k k' (by omega) (by omega)
  cases k with
  |zero=>show∃l,lq=some l/\(M 0).get l=H.get l;rw[h2];exact aBk W R|succ k=>exact h9 k (by omega) R
  cases i with
  |zero=>exact⟨o,rfl,u,.inr (.inr ⟨I,.inl ⟨0,v,by omega,rfl,hw,by show _ =some (v,M 0);rw[h2];exact W,by show S 0=_;rw[h0]⟩⟩)⟩
  |succ i=>
   obtain⟨o',q1,V,q3⟩:=h8 i (by simpa using hi);refine⟨o',by simpa using q1,V,?_⟩;rw[show m+(i+1)=m+1+i by omega];exact q3.shift (by omega) H
  cases h;cases h;rename_i hw;exact(NU C (m+1) _ H _ _ _ _ h).plain u (λd w=>w) (λK L M J hH=> .inr (.inr ⟨I,.inr ⟨λk b=>by have:=J k b;omega,.inr ⟨by simpa using hw,rfl⟩⟩⟩))
theorem WX{b:gW}{K:Nat}{i:jD}{a:kB}(h:∀k,k<K->i k=true->∃l,b=some l/\(a (k+1)).get l=(a k).get l){l:Nat}(f:b=some l):∀(n c:Nat),c+n<=K->(∀k,c<=k->k<c+n->i k=true)->(a (c+n)).get l=(a c).get l
 |0,c,_,_ =>rfl
 |n+1,c,u,d=>by
  obtain⟨s,e,o⟩:=h (c+n) (by omega) (d _ (by omega) (by omega));rw[f]at e;cases e;exact o.trans (WX h f n c (by omega) λk j q=>d k j (by omega))
theorem bEd{L:gW}{U:gC}{H:Hp}{s:Fx}(h:AW P E F ops L U H=some s):s.fq=none/\∃(S:jF) (K:Nat) (B:jZ) (y:kB),Wh P E F ops (aKg F.own ops) S K B y/\S 0=U/\S ops.size=s.fr/\y 0=H/\y K=s.H:=by
 unfold AW at h;split at h;rename_i f H' es ds he;split at h;rename_i hc;cases h;simp only[Dm,aA,aP]at hc;obtain⟨C,hc1,V⟩:=hc;obtain⟨S,K,B,R,y,h0,h1,h2,h3,h5,h6,h7,h9,h8⟩:=NU (P:=P) (E:=E) (F:=F) (ops:=ops) ops.toList 0 U H f H' es ds he;have j:∀k,k<K->(B k,R k)∈es:=λk b=>bK (h5 k b);refine⟨rfl,S,K,B,y,⟨λi hi=> ?_,λk b=>by have:=h6 k b;simpa using this.2,λk k' hkk b=> ?_,λi0 i1 d t e=> ?_⟩,h0,by simpa using h1,h2,h3⟩;obtain⟨o,q1,q2,q3⟩:=h8 i (by simpa using hi);refine⟨o,by simpa using q1,q2,?_⟩;rw[cG]at q3;rcases q3 with q3|q3|⟨q0,⟨k,v,r1,r2,r3,r4,r5⟩|⟨q3,⟨w,v,q,e1,e2,e3,e4,e5⟩|q4⟩⟩;exact .inl q3;exact .inr (.inl q3);exact .inr (.inr ⟨q0,.inl ⟨k,v,L,r1,r2,r3,r4,r5⟩⟩);refine .inr (.inr ⟨q0,.inr ⟨q3,.inl ⟨w,v,λc hcK w1 w2=> ?_,e5⟩⟩⟩);rcases e4 with e4|e4
 rw[aQg (H':=y q) e4];exact e3
 .
  have I:∀k,k<K->(kf E.gl L (S i) o&&R k)=false->(k<c↔k<q):=λk b x=>by
   have C:=V _ e4 _ (j k b);simp only[x,Bool.false_or]at C;have M:=e2 k b;split at C;rename_i a;have a:B k<i:=Nat.lt_of_succ_le (by simpa [Nat.blt]using a);exact⟨λ_ =>M.1 a,λ_ =>w1 k b C⟩;rename_i a;have a:¬B k<i:=Nat.not_lt.2 (Nat.le_of_lt_succ (by simpa [Nat.blt]using a));exact⟨λz=>by have:=w2 k b C;omega,λz=>absurd (M.2 z) a⟩
  have J:∀l,L=some l->kf E.gl L (S i) o=true->(y c).get l=(y q).get l:=λl O x=>by
   have u:∀k,k<K->((c<=k/\k<q)\/(q<=k/\k<c))->R k=true:=λk b hr=>by
    cases u:R k with
    |true=>rfl|false=>have:=I k b (by rw[u,Bool.and_false]);omega
   rcases Nat.le_total c q with z|z;have:=WX h9 O (q-c) c (by omega) (λk z1 z2=>u k (by omega) (.inl ⟨z1,by omega⟩));rw[show c+(q-c)=q by omega]at this;exact this.symm;have:=WX h9 O (c-q) q (by omega) (λk z1 z2=>u k (by omega) (.inr ⟨z1,by omega⟩));rw[show q+(c-q)=c by omega]at this;exact this
  cases x:kf E.gl L (S i) o with
  |true=>rw[aZe (H':=y q) x (λl O=>J l O x)];exact e3
  |false=>
   have W:c=q:=by
    rcases Nat.lt_trichotomy c q with z|z|z;have:=I c (by omega) (by rw[x];rfl);omega;exact z;have:=I q (by omega) (by rw[x];rfl);omega
   subst W;exact e3
 exact .inr (.inr ⟨q0,.inr ⟨q3,.inr q4⟩⟩);have a:=h7 k k' hkk b;have:=hc1 _ (j k b) _ (j k' (by omega));simp only[bO,bQ]at this;have x:Nat.blt (B k') (B k)=true:=by simp[Nat.blt];omega
 rcases this with q|q;rw[x]at q;cases q;exact q;rw[e]at C;simp only[aZv,aA]at C;obtain⟨p1,p2,p3⟩:=C;have p1:i0+1<=i1:=by simpa [Nat.blt]using p1
 have p2:i1+1<=ops.size:=by simpa [Nat.blt]using p2
 exact⟨by omega,by omega,p3⟩;cases h;cases h
theorem Xh(o:rV P E.gl E.pe)(hF:sD P E.gl F.ee)(h:zQ ops=true){i:gW}{f:gC}{H:Hp}{s:Fx}(j:AW P E F ops i f H=some s){g:G}{a:Act}(x:Inv P E g H g a ⟨f,H,none⟩)
  {Q:gJ} (q:∀d e,Inv P E g H e d ⟨s.fr,s.H,none⟩->Q .normal d e.w):wpAny P .any ops Q ops.size (Array.replicate ops.size false) a {g.w with drawn:=g.w.drawn+1}:=by
 obtain⟨_,S,K,z,y,b,rfl,v,rfl,u⟩:=bEd j;exact b.run o hF h x (by rw[v,u];exact q)
end
def FD:Nat->Nat->List UInt8->List UInt8
 |0,_,a=>a|k+1,u,a=>if u<10 then UInt8.ofNat (48+u)::a else FD k (u/10) (UInt8.ofNat (48+u%10)::a)
def qL(n:Int):List UInt8:=if n<0 then 45::FD 20 n.natAbs []else FD 20 n.toNat []
def Np:List T->Option T
 |[.int .i64 n]=>if-9223372036854775808<=n/\n<=9223372036854775807 then some (.str (qL n))else none
 |_ =>none
def Et:List T->Option (List (List UInt8))
 |[]=>some []
 | .str s::r=>match Et r with
  |some l=>some (s::l)|none=>none
 |_ =>none
def tY(s:gH):List (List UInt8)->List UInt8
 |[]=>[]|[x]=>x|x::y::r=>x++s++tY s (y::r)
def aIs:List T->Option T
 |[.fp,.str _]=>some (.str [])
 |[.sl _ x,.str s]=>match Et x with
  |some l=>if(tY s l).length<=140737488355328/\l.length<=140737488355328 then some (.str (tY s l))else none
  |none=>none
 |_ =>none
def NM(tB:gB):List T->Hp->Option (T×Hp)
 |[.ptr l 0],H=>match H.get l with
  |some o=>match o.cells with
   |[.fS,v]=>if o.elem=tB/\o.sz=0 then some (.fm [],H.put l {o with cells:=[.ptr l 0,v]})else none
   |[.ptr a 0,_]=>if a=l/\o.elem=tB/\o.sz=0 then some (.fm [],H)else none
   |_ =>none
  |none=>none
 |_,_ =>none
def Ao(tB d:gB):List T->Hp->Option (T×Hp)
 |[.ptr l 0],H=>match H.get l with
  |some o=>if o.elem=tB/\o.sz=0 then match o.cells with
   |[_,.fp]=>some (.str [],H)
   |[_,.ge b 1 0 len]=>match H.get b with
    |some a=>if a.elem=d/\a.sz=1/\a.cells.length=len/\len≠0 then match BU a.cells with
     |some e=>some (.str e,H.drop b)|none=>none
     else none
    |none=>none
   |_ =>none
   else none
  |none=>none
 |_,_ =>none
end
end Go.Ps
