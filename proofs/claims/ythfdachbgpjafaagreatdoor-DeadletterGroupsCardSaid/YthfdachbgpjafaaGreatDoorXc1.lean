/- Lemmas for the card; no conditions. -/
import Derived.Test.YthfdachbgpjafaaGreatDoorXc0
import Derived.LoopN
import Derived.Scope
import Derived.Shelf.Strings.OnBuilder
import Derived.Shelf.LaysM
import Derived.Shelf.Strconv.Itoa3
import Derived.Lib.LaidTab
import Derived.ChangeArms
import Derived.Carry
import Derived.OrdersIn
import Derived.LoopNIn
import Derived.TacticsIn
import Derived.IntWalk
set_option linter.unusedSimpArgs false
set_option linter.unusedVariables false
set_option linter.unusedSectionVars false
namespace Go.Ps
abbrev iQ:=Array Bool
def Ld(listed:iQ)(i:Nat):Prop:=listed.getD i false=true
theorem IU{listed:iQ}{i j:Nat}(hi:i<listed.size):Ld (listed.setIfInBounds i true) j↔Ld listed j\/j=i:=by
 unfold Ld;by_cases h:i=j
 .subst h;simp[hi]
 .rw[getD_set_ne false h];simp[Ne.symm h]
theorem AF{listed:iQ}{i:Nat}:listed.getD i true=false↔i<listed.size/\¬Ld listed i:=by
 unfold Ld;by_cases h:i<listed.size
 .simp[h]
 .simp[h]
theorem SZ(acc:gI)(j:Nat):∀(l:List Edge) (s:Nat),(l.foldl (λs e=>if Region.binds .any e then s|||(2^e.on|||acc.getD e.on 0)else s) s).testBit j=true->
  s.testBit j=true\/∃e∈l,Region.binds .any e=true/\(j=e.on\/(acc.getD e.on 0).testBit j=true)
 |[],s,h=> .inl h
 |e::l,s,h=>by
  rw[List.foldl_cons]at h;rcases SZ acc j l _ h with h|⟨e',he',h'⟩
  .split at h
   .rename_i hb;rw[Nat.testBit_or,Nat.testBit_or,bF,bF]at h;rcases h with h|h|h
    .exact .inl h
    .refine .inr ⟨e,by simp,hb,.inl ?_⟩;rw[Nat.testBit_two_pow]at h;exact(of_decide_eq_true h).symm
    .exact .inr ⟨e,by simp,hb,.inr h⟩
   .exact .inl h
  .exact .inr ⟨e',by simp[he'],h'⟩
theorem PS:∀(l:gW) (acc:gI),(tL l acc).take acc.length=acc/\(tL l acc).length=acc.length+l.length
 |[],acc=>by simp[tL]
 |o::l,acc=>by
  have ih:=PS l (acc++[yB acc o]);simp only[tL];refine⟨?_,by rw[ih.2];simp;omega⟩;have h1:=ih.1;have:((tL l (acc++[yB acc o])).take (acc++[yB acc o]).length).take acc.length=acc:=by rw[h1];simp
  rw[List.take_take]at this
  rwa [show min acc.length (acc++[yB acc o]).length=acc.length by simp]at this
theorem Xu:∀(l:gW) (acc:gI) (i:Nat) (o:Oper),l[i]? =some o->(tL l acc)[acc.length+i]? =some (yB ((tL l acc).take (acc.length+i)) o)
 |[],acc,i,o,h=>by simp at h
 |x::l,acc,0,o,h=>by
  simp at h;subst h;have ht:=PS l (acc++[yB acc x]);have ht0:=PS (x::l) acc;simp only[tL]at ht0⊢;simp only[Nat.add_zero];rw[ht0.1];have:((tL l (acc++[yB acc x])).take (acc++[yB acc x]).length)[acc.length]? =some (yB acc x):=by rw[ht.1];simp
  rw[bD]at this;split at this
  .exact this
  .cases this
 |x::l,acc,i+1,o,h=>by
  simp at h;have:=Xu l (acc++[yB acc x]) i o h;simp only[tL];simp only[bI,bL,List.length_nil,bP]at this;rw[show acc.length+(i+1)=acc.length+1+i by omega];exact this
theorem aDr{ops:fZ}{i j:Nat}{o:Oper}(ho:ops[i]? =some o)(h:vQ (tL ops.toList []) i j=true):
  ∃e∈o.after,Region.binds .any e=true/\(j=e.on\/(e.on<i/\vQ (tL ops.toList []) e.on j=true)):=by
 have ha:=Xu ops.toList [] i o (by simpa using ho);simp only[List.length_nil,bP]at ha;unfold vQ at h;rw[aW,ha]at h;simp only[fL]at h;unfold yB at h;rcases SZ _ j _ 0 h with h|⟨e,he,hb,h⟩
 .simp at h
 .refine⟨e,by simpa using he,hb,h.imp id λh=> ?_⟩;rw[aW,bD]at h;split at h
  .rename_i hlt;exact⟨hlt,by unfold vQ;rw[aW];exact h⟩
  .simp at h
def Lz(ops:fZ)(listed:iQ):Prop:=∀i o,ops[i]? =some o->Ld listed i->∀e∈o.after,Region.binds .any e=true->Ld listed e.on
theorem wD{ops:fZ}{listed:iQ}(hd:Lz ops listed)(hsz:listed.size=ops.size):∀(i:Nat) (o:Oper),ops[i]? =some o->(∀e∈o.after,Region.binds .any e=true->Ld listed e.on)->∀j,vQ (tL ops.toList []) i j=true->Ld listed j:=by
 intro i
 induction i using Nat.strongRecOn with
 |_ i ih=>
  intro o ho hall j hp;obtain⟨e,he,hb,h⟩:=aDr ho hp;have hl:=hall e he hb;rcases h with rfl|⟨hlt,h⟩
  .exact hl
  .have hlt':e.on<ops.size:=by
    have:e.on<listed.size:=by
     unfold Ld at hl;by_cases q:e.on<listed.size
     .exact q
     .simp[q]at hl
    omega
   exact ih e.on hlt (ops[e.on]) (by simp[hlt']) (hd e.on _ (by simp[hlt']) hl) j h
theorem CQ{ops:fZ}(h:ER ops=true){i:Nat}{o:Oper}(ho:ops[i]? =some o):∀e∈o.after,Region.binds .any e=true->e.on<i:=by
 intro e he hb;unfold ER at h;rw[aH]at h;have hm:(o,i)∈ops.toList.zipIdx:=by
  rw[List.mem_iff_getElem?];exact⟨i,by simp[ho]⟩
 have:=h _ hm;rw[aH]at this;have:=this e (by simpa using he);simp[hb]at this;exact this
theorem xC{ops:fZ}{A:gI}(h:Ww ops A=true){i j:Nat}{oi oj:Oper}(hi:ops[i]? =some oi)(hj:ops[j]? =some oj)(hne:i≠j){d:Tmp}(hd:oj.dst=some d)(hn:d∈zN ops oi):
  (j<i->vQ A i j=true)/\(i<j->vQ A j i=true):=by
 unfold Ww at h;rw[aH]at h;have hm:∀{k:Nat} {o:Oper},ops[k]? =some o->(o,k)∈ops.toList.zipIdx:=λ{k o} ho=>by
  rw[List.mem_iff_getElem?];exact⟨k,by simp[ho]⟩
 have:=h _ (hm hi);rw[aH]at this;have:=this _ (hm hj);simp only[hd,bF,beq_iff_eq,bW]at this;rcases this with h|h|h
 .exact absurd h hne
 .exact absurd (List.contains_iff_mem.2 hn) (by rw[h];simp)
 .constructor
  .intro hlt;rw[if_pos hlt]at h;exact h
  .intro hlt;rw[if_neg (by omega)]at h;exact h
theorem FQ{A:gI}{m n:Nat}(h:rU A m n=true){i j:Nat}(h1:m<=i)(h2:i<n)(h3:j<i):vQ A i j=true:=by
 unfold rU at h;rw[aH]at h;have:=h i (by rw[List.mem_range'_1];omega);rw[aH]at this;exact this j (by simpa using h3)
def cnt(listed:iQ):Nat:=listed.toList.count false
theorem NN{listed:iQ}{i:Nat}(h:listed.getD i true=false):cnt (listed.setIfInBounds i true)+1=cnt listed:=by
 obtain⟨hi,hn⟩:=AF.1 h;have hi':i<listed.toList.length:=by simpa using hi
 have he:listed.toList[i]=false:=by simpa [hi]using h
 unfold cnt;rw[Array.toList_setIfInBounds,List.count_set hi'];have hpos:0<listed.toList.count false:=List.count_pos_iff.2 (by rw[<-he];exact cK hi');rw[he];simp only[beq_self_eq_true,if_true];have:(true==false)=false:=rfl;rw[this];simp only[aY,if_false];omega
theorem LE{listed:iQ}(h:cnt listed=0){i:Nat}(hi:i<listed.size):Ld listed i:=by
 unfold cnt at h;rw[List.count_eq_zero]at h;unfold Ld;have:listed.toList[i]'(by simpa using hi)≠false:=λq=>h (by rw[<-q];exact cK _);simpa [hi]using this
theorem LH{listed:iQ}(h:∀i,i<listed.size->Ld listed i):cnt listed=0:=by
 unfold cnt;rw[List.count_eq_zero];intro hm;obtain⟨i,hi,he⟩:=cO hm;have hi':i<listed.size:=by simpa using hi
 have:=h i hi';unfold Ld at this;simp[hi']at this he;rw[this]at he;cases he
theorem bFl(p:Nat->Prop):∀n,(∃i,i<n/\p i)->∃i,i<n/\p i/\∀j,j<i->¬p j:=by
 intro n
 induction n with
 |zero=>rintro⟨i,hi,_⟩;omega
 |succ n ih=>
  rintro⟨i,hi,hp⟩;rcases Classical.em (∃i,i<n/\p i)with h|h
  .obtain⟨i,h1,h2,h3⟩:=ih h;exact⟨i,by omega,h2,h3⟩
  .have:i=n:=by
    rcases eO i n with q|q
    .exact absurd ⟨i,q,hp⟩ h
    .omega
   subst this;exact⟨i,by omega,hp,λj hj hpj=>h ⟨j,hj,hpj⟩⟩
theorem ML{ops:fZ}{listed:iQ}(hb:ER ops=true)(hsz:listed.size=ops.size)(h:0<cnt listed):Region.ready .any ops listed≠[]:=by
 have hex:∃i,i<ops.size/\¬Ld listed i:=by
  rcases Classical.em (∃i,i<ops.size/\¬Ld listed i)with q|q
  .exact q
  .have:cnt listed=0:=LH λi hi=>dG λhn=>q ⟨i,by omega,hn⟩;omega
 obtain⟨i,h1,h2,h3⟩:=bFl (λi=>¬Ld listed i) ops.size hex;have:i∈Region.ready .any ops listed:=by
  refine mem_ready.2 ⟨AF.2 ⟨by omega,h2⟩,ops[i],by simp[h1],λe he hbd=> ?_⟩;have:=CQ hb (i:=i) (o:=ops[i]) (by simp[h1]) e he hbd;exact dG λq=>h3 e.on this q
 intro e;rw[e]at this;cases this
section
variable{P:fV}{ops:fZ}{Q:gC}
theorem Rz(hb:ER ops=true){m:Nat}(hch:rU (tL ops.toList []) m ops.size=true):∀(r i:Nat) (listed:iQ) (a:Act) (w:iK),i+r=ops.size->m<=i->listed.size=ops.size->
  (∀j,Ld listed j↔j<i)->wpOps P ops Q (List.range' i r) a w->wpAny P .any ops Q r listed a w:=by
 intro r
 induction r with
 |zero=>
  intro i listed a w hir _ hsz hl h;refine⟨?_,h⟩;rcases hr:Region.ready .any ops listed with _ |⟨x,xs⟩
  .rfl
  .have hx:x∈Region.ready .any ops listed:=by rw[hr];simp
   obtain⟨h1,o,h2,_⟩:=mem_ready.1 hx;have hlt:x<ops.size:=(aK.1 h2).1;exact absurd ((hl x).2 (by omega)) (AF.1 h1).2
 |succ r ih=>
  intro i listed a w hir hmi hsz hl h;have hdown:Lz ops listed:=λk o ho hk e he hbd=>(hl e.on).2 (by have:=CQ hb ho e he hbd;have:=(hl k).1 hk;omega);refine⟨λhr=> ?_,λk hk=> ?_⟩
  .have hi:i∈Region.ready .any ops listed:=by
    refine mem_ready.2 ⟨AF.2 ⟨by omega,λq=>by have:=(hl i).1 q;omega⟩,ops[i]'(by omega),by simp,λe he hbd=> ?_⟩;exact(hl e.on).2 (CQ hb (i:=i) (o:=ops[i]'(by omega)) (by simp) e he hbd)
   rw[hr]at hi;cases hi
  .obtain⟨h1,o,h2,h3⟩:=mem_ready.1 hk;have hlt:k<ops.size:=(aK.1 h2).1;have hge:i<=k:=by
    rcases eO k i with q|q
    .exact absurd ((hl k).2 q) (AF.1 h1).2
    .exact q
   have:k=i:=by
    rcases eE hge with q|q
    .exact q.symm
    .have hp:=FQ hch (i:=k) (j:=i) (by omega) hlt q;have:=wD hdown hsz k o h2 h3 i hp;have:=(hl i).1 this;omega
   subst this;rw[eU,wpOps_cons]at h;refine wpOp_mono (λa w hh=>ih (k+1) (listed.setIfInBounds k true) a w (by omega) (by omega) (by simpa using hsz) (λj=> ?_) hh) h;rw[IU (by omega),hl j];omega
end
section
variable(P:fV)(E:tY)(F:Fc)(ops:fZ)
def yR(s:Fx)(o:Oper)(s':Fx):Prop:=
 (∀d t,s.pend=some (d,t)->uW ops o d=false)/\(∀d,o.dst=some d->d<s.fr.length)/\
 ((qH ops s.fr o=true/\∃v,qK P E (zO F o) s.H s.fr o=some v/\s'={s with fr:=qU s.fr o.dst v})\/
  (qH ops s.fr o=true/\∃t d n z,o.op= .alloc t/\o.dst=some d/\s.pend=none/\vZ P t=some n/\yA P t=some z/\z.cells.length=n/\s'={s with fr:=s.fr.set d pV,pend:=some (d,t)})\/
  (qH ops s.fr o=false/\s'={s with fr:=qU s.fr o.dst pV}))
def SU(m:Nat)(S:Nat->Fx):Prop:=∀i,i<m->∃o,ops[i]? =some o/\yR P E F ops (S i) o (S (i+1))
end
section
variable{P:fV}{E:tY}{F:Fc}{ops:fZ}
theorem Se:∀(l:gW) (m:Nat) (s s':Fx),(∀j,l[j]? =ops[m+j]?)->qQ P E F ops l m s=some s'->
  ∃(k:Nat) (S:Nat->Fx),k<=l.length/\S 0=s/\(∀i,i<k->∃o,l[i]? =some o/\yR P E F ops (S i) o (S (i+1)))/\
   ((k=l.length/\(S k).pend=none/\s'=S k)\/(k<l.length/\rU (tL ops.toList []) (m+k) ops.size=true/\qL P E F ops (l.drop k) (S k)=some s'))
 |[],m,s,s',_,h=>by
  simp only[qQ]at h;split at h
  .rename_i hp;cases h;exact⟨0,λ_ =>s,by simp,rfl,λi hi=>by omega,.inl ⟨rfl,hp,rfl⟩⟩
  .cases h
 |o::l,m,s,s',hl,h=>by
  have h0:ops[m]? =some o:=by simpa using(hl 0).symm
  have hl':∀j,l[j]? =ops[m+1+j]? :=λj=>by have:=hl (j+1);simpa [dW,Nat.add_comm 1 j]using this
  have stop:rU (tL ops.toList []) m ops.size=true->qL P E F ops (o::l) s=some s'->_ :=λh1 h2=>
   (⟨0,λ_ =>s,by simp,rfl,λi hi=>by omega,.inr ⟨by simp,h1,h2⟩⟩:∃(k:Nat) (S:Nat->Fx),k<=(o::l).length/\S 0=s/\(∀i,i<k->∃o',(o::l)[i]? =some o'/\yR P E F ops (S i) o' (S (i+1)))/\
   ((k=(o::l).length/\(S k).pend=none/\s'=S k)\/(k<(o::l).length/\rU (tL ops.toList []) (m+k) ops.size=true/\qL P E F ops ((o::l).drop k) (S k)=some s')))
  have go:∀s1,yR P E F ops s o s1->qQ P E F ops l (m+1) s1=some s'->∃(k:Nat) (S:Nat->Fx),k<=(o::l).length/\S 0=s/\(∀i,i<k->∃o',(o::l)[i]? =some o'/\yR P E F ops (S i) o' (S (i+1)))/\
   ((k=(o::l).length/\(S k).pend=none/\s'=S k)\/(k<(o::l).length/\rU (tL ops.toList []) (m+k) ops.size=true/\qL P E F ops ((o::l).drop k) (S k)=some s')):=by
   intro s1 hpre hev;obtain⟨k,S,h1,h2,h3,h4⟩:=Se l (m+1) s1 s' hl' hev;refine⟨k+1,λi=>match i with|0=>s|i+1=>S i,by simp;omega,rfl,λi hi=> ?_,?_⟩
   .cases i with
    |zero=>exact⟨o,rfl,by simpa [h2]using hpre⟩|succ i=>obtain⟨o',ho',hp'⟩:=h3 i (by omega);exact⟨o',by simpa using ho',hp'⟩
   .rcases h4 with⟨e1,e2,e3⟩|⟨e1,e2,e3⟩
    .exact .inl ⟨by simp;omega,e2,e3⟩
    .exact .inr ⟨by simp;omega,by rw[show m+(k+1)=m+1+k by omega];exact e2,by simpa using e3⟩
  simp only[qQ]at h;split at h
  .split at h
   .rename_i hc;exact stop hc h
   .cases h
  .rename_i htouch;have hpt:∀d t,s.pend=some (d,t)->uW ops o d=false:=λd t hp=>by
    simp only[CA,hp,Bool.not_eq_true]at htouch;exact htouch
   split at h
   .cases h
   .rename_i hdst;have hdl:∀d,o.dst=some d->d<s.fr.length:=λd hd=>by simpa [xP,hd]using hdst
    split at h
    .rename_i hw;split at h
     .rename_i v hv;exact go _ ⟨hpt,hdl,.inl ⟨hw,v,hv,rfl⟩⟩ h
     .split at h
      .rename_i d t hal;obtain⟨hop,hd⟩:=ND hal;split at h
       .cases h
       .rename_i hpn;have hpn':s.pend=none:=by simpa using hpn
        split at h
        .rename_i n z hn hz;split at h
         .rename_i hzl;exact go _ ⟨hpt,hdl,.inr (.inl ⟨hw,t,d,n,z,hop,hd,hpn',hn,hz,hzl,rfl⟩)⟩ h
         .cases h
        .cases h
      .split at h
       .rename_i hc;exact stop hc h
       .cases h
    .rename_i hw;exact go _ ⟨hpt,hdl,.inr (.inr ⟨by simpa using hw,rfl⟩)⟩ h
theorem yR.len{s s':Fx}{o:Oper}(h:yR P E F ops s o s'):s'.fr.length=s.fr.length/\s'.H=s.H:=by
 rcases h.2.2 with⟨_,v,_,rfl⟩|⟨_,t,d,n,z,_,_,_,_,_,_,rfl⟩|⟨_,rfl⟩
 .exact⟨by cases o.dst<;>simp[qU],rfl⟩
 .exact⟨by simp,rfl⟩
 .exact⟨by cases o.dst<;>simp[qU],rfl⟩
theorem yR.other{s s':Fx}{o:Oper}(h:yR P E F ops s o s'){t:Tmp}(ht:o.dst≠some t):s'.fr[t]? =s.fr[t]? :=by
 rcases h.2.2 with⟨_,v,_,rfl⟩|⟨_,ty,d,n,z,_,hd,_,_,_,_,rfl⟩|⟨_,rfl⟩
 .cases hd:o.dst with
  |none=>rfl|some d=>have:d≠t:=λe=>ht (by rw[hd,e]);simp[qU,dN this]
 .have:d≠t:=λe=>ht (by rw[hd,e]);simp[dN this]
 .cases hd:o.dst with
  |none=>rfl|some d=>have:d≠t:=λe=>ht (by rw[hd,e]);simp[qU,dN this]
theorem yR.pend{s s':Fx}{o:Oper}(h:yR P E F ops s o s'):s'.pend=s.pend\/(s.pend=none/\∃d t,s'.pend=some (d,t)/\o.dst=some d/\o.op= .alloc t):=by
 rcases h.2.2 with⟨_,v,_,rfl⟩|⟨_,ty,d,n,z,hop,hd,hp,_,_,_,rfl⟩|⟨_,rfl⟩
 .exact .inl rfl
 .exact .inr ⟨hp,d,ty,rfl,hd,hop⟩
 .exact .inl rfl
variable{m:Nat}{S:Nat->Fx}
theorem SU.same(h:SU P E F ops m S){t:Tmp}:∀(k p:Nat),p+k<=m->(∀j o,p<=j->j<p+k->ops[j]? =some o->o.dst≠some t)->(S (p+k)).fr[t]? =(S p).fr[t]? :=by
 intro k
 induction k with
 |zero=>intro p _ _;rfl
 |succ k ih=>
  intro p hp hn;obtain⟨o,ho,hs⟩:=h (p+k) (by omega);rw[show p+(k+1)=p+k+1 by omega,hs.other (hn (p+k) o (by omega) (by omega) ho)];exact ih p (by omega) (λj o' h1 h2=>hn j o' h1 (by omega))
theorem SU.len(h:SU P E F ops m S):∀i,i<=m->(S i).fr.length=(S 0).fr.length/\(S i).H=(S 0).H:=by
 intro i
 induction i with
 |zero=>intro _;exact⟨rfl,rfl⟩
 |succ i ih=>
  intro hi;obtain⟨o,_,hs⟩:=h i (by omega);have:=hs.len;have:=ih (by omega);exact⟨by omega,by simp_all⟩
theorem SU.pend(h:SU P E F ops m S){d:Tmp}{t:fS}:∀(k i:Nat),i+k<=m->(S i).pend=some (d,t)->(S (i+k)).pend=some (d,t):=by
 intro k
 induction k with
 |zero=>intro i _ hp;exact hp
 |succ k ih=>
  intro i hi hp;obtain⟨o,_,hs⟩:=h (i+k) (by omega);have h1:=ih i (by omega) hp;rcases hs.pend with e|⟨e,_⟩
  .rw[show i+(k+1)=i+k+1 by omega,e];exact h1
  .rw[h1]at e;cases e
structure DInv(P:fV)(E:tY)(ops:fZ)(m:Nat)(S:Nat->Fx)(g0:G)(H0:Hp)(listed:iQ)(g:G)(a:Act):Prop where
 sz:listed.size=ops.size
 down:Lz ops listed
 lt:∀i,Ld listed i->i<m
 ok:rZ g
 st:St g (S 0).H
 gl:GlOk E.gl g
 df:a.defers=[]
 len:a.tmps.size=(S 0).fr.length
 sl:∀(t:Tmp) (i:Nat) (v:gQ) (c:T),i<=m->(∀j o,j<i->ops[j]? =some o->o.dst=some t->Ld listed j)->(∀j o,i<=j->j<m->ops[j]? =some o->o.dst=some t->¬Ld listed j)->
  (S i).pend.map (·.1)≠some t->a.tmps[t]? =some v->(S i).fr[t]? =some c->Rd g v c
 pd:∀(p:Nat) (d:Tmp) (t:fS),p<m->(S p).pend=none->(S (p+1)).pend=some (d,t)->Ld listed p->VQ P g0 g (S 0).H a d t
 step:qF H0 g0 (S 0).H g
theorem aHz(hE:vP P E.gl E.pe)(hdr:BM ops=true){g0:G}{H0:Hp}(htr:SU P E F ops m S)(hp0:(S 0).pend=none)(hm:m<=ops.size)(hch:m<ops.size->rU (tL ops.toList []) m ops.size=true){Q:gC}
  (hfin:∀a' g',Inv P E g0 H0 g' a' (S m)->wpOps P ops Q (List.range' m (ops.size-m)) a' g'.w):
  ∀(fuel:Nat) (listed:iQ) (a:Act) (g:G),DInv P E ops m S g0 H0 listed g a->cnt listed=fuel->wpAny P .any ops Q fuel listed a g.w:=by
 simp only[BM,aA]at hdr;obtain⟨⟨hb,_⟩,htm⟩:=hdr;have full:∀(listed:iQ) (a:Act) (g:G),DInv P E ops m S g0 H0 listed g a->(∀i,i<m->Ld listed i)->Inv P E g0 H0 g a (S m):=by
  intro listed a g h hall;have hlen:=htr.len m (aZ _);refine⟨h.ok,by rw[hlen.2];exact h.st,h.gl,h.df,⟨by rw[hlen.1];exact h.len,λj v c hj hv hc=> ?_⟩,λd t hpd=> ?_,by rw[hlen.2];exact h.step⟩
  .exact h.sl j m v c (aZ _) (λk o hk _ _ =>hall k hk) (λk o h1 h2=>by omega) hj hv hc
  .
   have:∃p,p<m/\(S p).pend=none/\(S (p+1)).pend=some (d,t):=by
    have key:∀i,i<=m->(S i).pend=some (d,t)->∃p,p<i/\(S p).pend=none/\(S (p+1)).pend=some (d,t):=by
     intro i
     induction i with
     |zero=>intro _ q;rw[hp0]at q;cases q
     |succ i ih=>
      intro hi q;obtain⟨o,_,hs⟩:=htr i (by omega);rcases hs.pend with e|⟨e,_⟩
      .obtain⟨p,h1,h2,h3⟩:=ih (by omega) (by rw[<-e];exact q);exact⟨p,by omega,h2,h3⟩
      .exact⟨i,by omega,e,q⟩
    exact key m (aZ _) hpd
   obtain⟨p,h1,h2,h3⟩:=this;have:=h.pd p d t h1 h2 h3 (hall p h1);rw[hlen.2];exact this
 intro fuel
 induction fuel with
 |zero=>
  intro listed a g h hc;have hall:∀i,i<ops.size->Ld listed i:=λi hi=>LE hc (by rw[h.sz];exact hi);have hme:m=ops.size:=by
   rcases eO m ops.size with q|q
   .have:=h.lt m (hall m q);omega
   .omega
  have hi:=full listed a g h (λi hi=>hall i (by omega));have hq:=hfin a g hi;rw[hme,Nat.sub_self]at hq;refine⟨?_,hq⟩;rcases hr:Region.ready .any ops listed with _ |⟨x,xs⟩
  .rfl
  .have hx:x∈Region.ready .any ops listed:=by rw[hr];simp
   obtain⟨h1,o,h2,_⟩:=mem_ready.1 hx;exact absurd (hall x (aK.1 h2).1) (AF.1 h1).2
 |succ fuel ih=>
  intro listed a g h hc;refine⟨λhr=>absurd hr (ML hb h.sz (by omega)),λi hi=> ?_⟩;obtain⟨h1,o,h2,h3⟩:=mem_ready.1 hi;have hni:=(AF.1 h1).2;have hio:i<ops.size:=(aK.1 h2).1;have hcl:∀j,vQ (tL ops.toList []) i j=true->Ld listed j:=wD h.down h.sz i o h2 h3;by_cases him:i<m
  .
   obtain⟨o',ho',hps⟩:=htr i him;rw[h2]at ho';cases ho';have before:∀t,t∈zN ops o->∀j oj,j<i->ops[j]? =some oj->oj.dst=some t->Ld listed j:=λt ht j oj hj hoj hd=>
    hcl j ((xC htm h2 hoj (by omega) hd ht).1 hj)
   have behind:∀t,t∈zN ops o->∀j oj,i<j->ops[j]? =some oj->oj.dst=some t->¬Ld listed j:=λt ht j oj hj hoj hd hl=>
    hni (wD h.down h.sz j oj hoj (h.down j oj hoj hl) i ((xC htm h2 hoj (by omega) hd ht).2 hj))
   have notself:∀t,t∈zN ops o->∀j oj,i<=j->ops[j]? =some oj->oj.dst=some t->¬Ld listed j:=λt ht j oj hj hoj hd=>by
    rcases eE hj with rfl|hj
    .exact hni
    .exact behind t ht j oj hj hoj hd
   have hleni:=htr.len i (by omega);have slot:∀t,t∈o.looksAt ops->(S i).pend.map (·.1)≠some t->∀v c,a.tmps[t]? =some v->(S i).fr[t]? =some c->Rd g v c:=λt ht hpn v c hv hcc=>by
    have hn:t∈zN ops o:=bH.2 (.inr ht);exact h.sl t i v c (by omega) (λj oj hj hoj hd=>before t hn j oj hj hoj hd) (λj oj hj _ hoj hd=>notself t hn j oj hj hoj hd) hpn hv hcc
   have hnp:∀t,t∈o.looksAt ops->(S i).pend.map (·.1)≠some t:=λt ht q=>by
    cases hp:(S i).pend with
    |none=>rw[hp]at q;cases q
    |some dt=>
     obtain⟨d,ty⟩:=dt;rw[hp]at q;cases q;exact(MP (hps.1 d ty hp)).1 ht
   have getfr:∀t,t∈o.looksAt ops->Rd g (a.tmps.getD t undef) (qR (S i).fr t):=λt ht=>by
    rw[uR];by_cases hlt:t<(S i).fr.length
    .have hlt':t<a.tmps.size:=by rw[h.len,<-hleni.1];exact hlt
     have:=slot t ht (hnp t ht) a.tmps[t] (S i).fr[t] (by simp[hlt']) (by simp[hlt]);simpa [hlt,hlt']using this
    .have hlt':¬t<a.tmps.size:=by rw[h.len,<-hleni.1];exact hlt
     have e1:a.tmps.getD t undef=undef:=by simp[dI (cJ hlt')]
     have e2:(S i).fr.getD t pV=pV:=by simp[bU (cJ hlt)]
     rw[e1,e2];exact Rd.undef
   have hop:∀x∈o.op.operands,∀r,qG E.gl (S i).fr x=some r->Rd g (a.eval x) r:=λx hx r hr=>by
    cases x with
    |tmp t=>simp only[qG,aC]at hr;subst hr;exact getfr t (zJ hx)|const v=>exact FC g hr|global k=>exact(h.gl k r hr).1|func f=>simp only[qG,aC]at hr;subst hr;exact Rd.mk_fn RdL.nil RdL.nil
   have hwant:Region.wanted o (yielded ops a.tmps)=qH ops (S i).fr o:=by
    unfold Region.wanted qH;cases hg:o.guard with
    |none=>rfl
    |some p=>
     obtain⟨j,w⟩:=p;simp only;congr 1;unfold yielded BJ;cases hd:(ops[j]?).bind (·.dst)with
     |none=>rfl
     |some d=>
      simp only[eL];have hl:=wM hg hd;by_cases hlt:d<(S i).fr.length
      .have hlt':d<a.tmps.size:=by rw[h.len,<-hleni.1];exact hlt
       have hv:a.tmps[d]? =some a.tmps[d]:=by simp[hlt']
       have hcc:(S i).fr[d]? =some (S i).fr[d]:=by simp[hlt]
       have:=slot d hl (hnp d hl) _ _ hv hcc;rw[hv,hcc];generalize a.tmps[d]=u at this;generalize (S i).fr[d]=c at this;cases this<;>rfl
      .have hlt':¬d<a.tmps.size:=by rw[h.len,<-hleni.1];exact hlt
       rw[dI (cJ hlt'),bU (cJ hlt)]
   have hcnt:cnt (listed.setIfInBounds i true)=fuel:=by have:=NN h1;omega
   have hld:∀j,Ld (listed.setIfInBounds i true) j↔Ld listed j\/j=i:=λj=>IU (by rw[h.sz];exact hio)
   have hdown':Lz ops (listed.setIfInBounds i true):=λk ok hk hl e he hbd=>(hld e.on).2 (.inl (by
    rcases(hld k).1 hl with q|rfl
    .exact h.down k ok hk q e he hbd
    .rw[h2]at hk;cases hk;exact h3 e he hbd))
   have pendkeep:∀(p:Nat) (d:Tmp) (t:fS),p<m->(S p).pend=none->(S (p+1)).pend=some (d,t)->Ld listed p->o.dst≠some d:=λp d t hp hn hsm hlp hd=>by
    obtain⟨op,hop',hpp⟩:=htr p hp;have hdst:op.dst=some d:=by
     rcases hpp.pend with e|⟨_,d',t',e1,e2,_⟩
     .rw[e,hn]at hsm;cases hsm
     .rw[hsm]at e1;cases e1;exact e2
    have hip:i≠p:=λq=>hni (q▸hlp);rcases eO i p with q|q
    .
     have:=xC htm h2 hop' hip hdst (bH.2 (.inl (by rw[hd];simp)));exact hni (wD h.down h.sz p op hop' (h.down p op hop' hlp) i (this.2 q))
    .have hpi:(S i).pend=some (d,t):=by
      have:=htr.pend (i-(p+1)) (p+1) (by omega) hsm
      rwa [show p+1+(i-(p+1))=i by omega]at this
     exact(MP (hps.1 d t hpi)).2 hd
   have next:∀(g':G) (v:gQ) (c:T),PStep g g'->rZ g'->Rd g' v c->(∀d,o.dst=some d->(S (i+1)).fr[d]? =some c/\(S (i+1)).pend=(S i).pend)->(o.dst=none->(S (i+1)).pend=(S i).pend)->
     DInv P E ops m S g0 H0 (listed.setIfInBounds i true) g' (a.put o.dst v):=by
    intro g' v c hst hok hv hset hset';have hpe:(S (i+1)).pend=(S i).pend:=by
     cases hd:o.dst with
     |none=>exact hset' hd|some d=>exact(hset d hd).2
    refine⟨by simpa using h.sz,hdown',λj hj=>((hld j).1 hj).elim (h.lt j) (λe=>e▸him),hok,h.st.pstep hst,h.gl.pstep hst,by rw[tJ];exact h.df,?_,?_,?_,h.step.trans hst.toS⟩
    .cases o.dst<;>simp[Act.put,h.len]
    .intro t k u cc hk hw1 hw2 hpn hu hcc;by_cases htd:o.dst=some t
     .
      have hik:i<k:=by
       rcases eO i k with q|q
       .exact q
       .exact absurd ((hld i).2 (.inr rfl)) (hw2 i o q him h2 htd)
      have hnow:∀j oj,i+1<=j->j<k->ops[j]? =some oj->oj.dst≠some t:=λj oj hj1 hj2 hoj hd=>by
       have hl:=hw1 j oj hj2 hoj hd;rcases(hld j).1 hl with q|q
       .exact behind t (bH.2 (.inl (by rw[htd];simp))) j oj (by omega) hoj hd q
       .omega
      have hsame:=htr.same (t:=t) (k-(i+1)) (i+1) (by omega) (λj oj q1 q2=>hnow j oj q1 (by omega));rw[show i+1+(k-(i+1))=k by omega]at hsame;rw[hsame,(hset t htd).1]at hcc;cases hcc;rw[htd]at hu;simp only[Act.put,dK]at hu;split at hu
      .cases hu;exact hv
      .cases hu
     .have hu':a.tmps[t]? =some u:=by
       cases hd:o.dst with
       |none=>rw[hd]at hu;exact hu
       |some d=>
        rw[hd]at hu;have:d≠t:=λe=>htd (by rw[hd,e]);simpa [Act.put,bJ this]using hu
      refine(h.sl t k u cc hk (λj oj hj hoj hd=> ?_) (λj oj hj1 hj2 hoj hd hl=>hw2 j oj hj1 hj2 hoj hd ((hld j).2 (.inl hl))) hpn hu' hcc).pstep hst;rcases(hld j).1 (hw1 j oj hj hoj hd)with q|rfl
      .exact q
      .rw[h2]at hoj;cases hoj;exact absurd hd htd
    .intro p d t hp hn hsm hl;rcases(hld p).1 hl with q|rfl
     .exact((h.pd p d t hp hn hsm q).pstep hst).put (pendkeep p d t hp hn hsm q) v
     .rw[hpe,hn]at hsm;cases hsm
   unfold wpOp;rw[h2];simp only;rw[hwant];rcases hps.2.2 with⟨hw,v,hv,hS⟩|⟨hw,t,d,n,z,hopa,hd,hpn,hn,hz,hzl,hS⟩|⟨hw,hS⟩
   .rw[if_pos hw];left;have hst':St g (S i).H:=by rw[hleni.2];exact h.st
    refine HT hE h.gl hst' h.ok hv hop _ _ (λu g' hst hok hr=>ih _ _ g' (next g' u v hst hok hr (λd hd=> ?_) (λ_ =>by rw[hS])) hcnt);refine⟨?_,by rw[hS]⟩;rw[hS,hd];simp[qU,hps.2.1 d hd]
   .rw[if_pos hw];left;obtain⟨zv,hzv,hzr⟩:=GV (g:=g) hz
    let g':G:={g with w:={g.w with heap:=g.w.heap.push (.cells zv.cells t)}}
    have hst:PStep g g':=⟨rfl,rfl,rfl,by simp[g'],λb hb=>by simp only[g'];rw[fJ,if_neg (by omega)],λ_ q=>q,λ_ q=> .inl q,rfl,rfl,rfl⟩;have hok:rZ g':=λb hb=>by have:=h.ok b hb;simp only[g',Array.size_push];omega
    have hrun:(execOp a.eval o).run P g.w= .ok (.value (.pointer (some ⟨g.w.heap.size,0,none⟩))) g'.w:=by
     simp only[execOp,hopa,Instr.alloc,aP,hzv,aI,newVar,newRow,run_newObj,aX];rfl
    unfold Oper.wp;rw[hrun];refine ih _ _ g' ?_ hcnt;have hdl:=hps.2.1 d hd;have hdl':d<a.tmps.size:=by rw[h.len,<-hleni.1];exact hdl
    refine⟨by simpa using h.sz,hdown',λj hj=>((hld j).1 hj).elim (h.lt j) (λe=>e▸him),hok,h.st.pstep hst,h.gl.pstep hst,by rw[tJ];exact h.df,by simp[hd,Act.put,h.len],?_,?_,h.step.trans hst.toS⟩
    .intro t' k u cc hk hw1 hw2 hpn' hu hcc;by_cases htd:d=t'
     .subst htd;have hik:i<k:=by
       rcases eO i k with q|q
       .exact q
       .exact absurd ((hld i).2 (.inr rfl)) (hw2 i o q him h2 hd)
      have hpk:(S k).pend=some (d,t):=by
       have h0:(S (i+1)).pend=some (d,t):=by rw[hS]
       have:=htr.pend (k-(i+1)) (i+1) (by omega) h0
       rwa [show i+1+(k-(i+1))=k by omega]at this
      rw[hpk]at hpn';exact absurd rfl hpn'
     .have hu':a.tmps[t']? =some u:=by
       rw[hd]at hu;simpa [Act.put,bJ htd]using hu
      refine(h.sl t' k u cc hk (λj oj hj hoj hdj=> ?_) (λj oj hj1 hj2 hoj hdj hl=>hw2 j oj hj1 hj2 hoj hdj ((hld j).2 (.inl hl))) hpn' hu' hcc).pstep hst;rcases(hld j).1 (hw1 j oj hj hoj hdj)with q|rfl
      .exact q
      .rw[h2]at hoj;cases hoj;rw[hd]at hdj;exact absurd (by injection hdj) htd
    .intro p d' t' hp hnn hsm hl;rcases(hld p).1 hl with q|rfl
     .exact((h.pd p d' t' hp hnn hsm q).pstep hst).put (pendkeep p d' t' hp hnn hsm q) _
     .rw[hS]at hsm;simp only[aC,aU]at hsm;obtain⟨rfl,rfl⟩:=hsm;have hcz:=hzr.cells;refine⟨g.w.heap.size,zv.cells,?_,h.step.size,λq=> ?_,λl ob hl=> ?_,?_,?_⟩
      .simp only[hd,Act.put];rw[dK,if_pos hdl']
      .exact absurd (h.ok _ q) (by omega)
      .have:=h.st.lt hl;show g.loc l≠_;omega
      .simp only[g'];exact Array.getElem?_push_size
      .rw[hn,<-hzl,<-hcz.1];simp
   .rw[hw];simp only[aY,if_false];refine ih _ _ g (next g undef pV (PStep.refl g) h.ok Rd.undef (λd hd=> ?_) (λ_ =>by rw[hS])) hcnt;refine⟨?_,by rw[hS]⟩;rw[hS,hd];simp[qU,hps.2.1 d hd]
  .
   have hlt:m<ops.size:=by omega
   have hchn:=hch hlt;have hallj:∀j,j<i->Ld listed j:=λj hj=>hcl j (FQ hchn (by omega) hio hj);have hie:i=m:=by
    rcases eE (cJ him)with q|q
    .exact q.symm
    .have:=h.lt m (hallj m q);omega
   subst hie;have hinv:=full listed a g h hallj;have hq:=hfin a g hinv;have hexact:∀j,Ld listed j↔j<i:=λj=>⟨h.lt j,hallj j⟩;have hc':cnt listed=ops.size-i:=by
    have key:∀(r k:Nat) (L:iQ),L.size=ops.size->(∀j,Ld L j↔j<k)->k+r=ops.size->cnt L=r:=by
     intro r
     induction r with
     |zero=>intro k L hs hl hk;exact LH λj hj=>(hl j).2 (by omega)
     |succ r ihr=>
      intro k L hs hl hk;have hun:L.getD k true=false:=AF.2 ⟨by omega,λq=>by have:=(hl k).1 q;omega⟩;have:=ihr (k+1) (L.setIfInBounds k true) (by simpa using hs) (λj=>by rw[IU (by omega),hl j];omega) (by omega);have:=NN hun;omega
    exact key (ops.size-i) i listed h.sz hexact (by omega)
   rw[show ops.size-i=(ops.size-(i+1))+1 by omega,eU,wpOps_cons]at hq;have hf:fuel=ops.size-(i+1):=by omega
   rw[hf];refine wpOp_mono (λa w hh=>Rz hb hchn (ops.size-(i+1)) (i+1) (listed.setIfInBounds i true) a w (by omega) (by omega) (by simpa using h.sz) (λj=> ?_) hh) hq;rw[IU (by rw[h.sz];exact hio),hexact j];omega
end
section
variable{P:fV}{E:tY}{F:Fc}{ops:fZ}
theorem aJi{l:Nat}{fr:fU}{o:Oper}{H H':Hp}{own:Bool}(h:hOk E.gl l fr o=true)(hh:∀l',l'≠l->H'.get l'=H.get l'):qK P E own H fr o=qK P E own H' fr o:=by
 obtain⟨dst,op,ty,pos,after,guard⟩:=o;cases op<;>simp only[hOk]at h<;>try first|rfl|(cases h;done)
 case load t a=>
  simp only[qK];split at h
  .rename_i x off ha;rw[ha];rfl
  .rename_i l' off ha;rw[ha];have:l'≠l:=by simpa using h
   simp only[wZ,wI,hh l' this]
  .cases h
 case call c=>
  simp only[qK,zA];split at h
  .rename_i hb;rw[hb];simp only;rw[aH]at h;split
   .rename_i x t ts hx ht;have hx':=h x (by rw[hx];simp);split
    .rename_i a ha;rw[ha]at hx';cases a<;>first|rfl|(simp at hx')
    .rfl
   .rfl
  .rename_i b hb hne;rw[hne];cases b<;>first|rfl|exact absurd rfl hb
  .cases h
structure Tj(P:fV)(E:tY)(F:Fc)(ops:fZ)(H H':Hp)(a b:Prop)(fr:fU)(o:Oper)(fr':fU):Prop where
 dl:∀d,o.dst=some d->d<fr.length
 cs:(qH ops fr o=true/\∃v,(a\/qK P E (zO F o) H fr o=some v)/\(b\/qK P E (zO F o) H' fr o=some v)/\fr'=qU fr o.dst v)\/(qH ops fr o=false/\fr'=qU fr o.dst pV)
structure aVd(P:fV)(E:tY)(H H':Hp)(fr:fU)(o:Oper)(fr':fU):Prop where
 gd:o.guard=none
 ds:o.dst=none
 sf:fr'=fr
 st:∃t x y q v,o.op= .store t x y/\qG E.gl fr x=some q/\qG E.gl fr y=some v/\wF P H t q v=some H'
theorem CP{s:Fx}{o:Oper}(h:¬xP s o=false):∀d,o.dst=some d->d<s.fr.length:=λd hd=>by simpa [xP,hd]using h
theorem Jm{o:Oper}(h:OD o=true):o.dst=none/\o.guard=none:=by
 unfold OD at h;split at h
 .exact⟨‹_›,‹_›⟩
 .cases h
abbrev jG:=Nat->List T
theorem Rp{A:gI}{p l:Nat}{H H':Hp}(hh:∀l',l'≠l->H'.get l'=H.get l'):∀(os:gW) (m:Nat) (fr:fU) (s':Fx),tC P E F ops A p l os m true ⟨fr,H',none⟩=some s'->
  ∃(n:Nat) (S:jG),n<=os.length/\S 0=fr/\(∀i,i<n->∃o,os[i]? =some o/\Tj P E F ops H H' (vQ A (m+i) p=true) False (S i) o (S (i+1)))/\
   ((n=os.length/\s'=⟨S n,H',none⟩)\/(n<os.length/\rU A (m+n) ops.size=true/\qL P E F ops (os.drop n) ⟨S n,H',none⟩=some s'))
 |[],m,fr,s',h=>by
  simp only[tC,if_true]at h;cases h;exact⟨0,λ_ =>fr,by simp,rfl,λi hi=>by omega,.inl ⟨rfl,rfl⟩⟩
 |o::os,m,fr,s',h=>by
  have go:∀fr1,Tj P E F ops H H' (vQ A m p=true) False fr o fr1->tC P E F ops A p l os (m+1) true ⟨fr1,H',none⟩=some s'->∃(n:Nat) (S:jG),n<=(o::os).length/\S 0=fr/\(∀i,i<n->∃o',(o::os)[i]? =some o'/\Tj P E F ops H H' (vQ A (m+i) p=true) False (S i) o' (S (i+1)))/\
   ((n=(o::os).length/\s'=⟨S n,H',none⟩)\/(n<(o::os).length/\rU A (m+n) ops.size=true/\qL P E F ops ((o::os).drop n) ⟨S n,H',none⟩=some s')):=by
   intro fr1 hp he;obtain⟨n,S,h1,h2,h3,h4⟩:=Rp hh os (m+1) fr1 s' he;refine⟨n+1,λi=>match i with|0=>fr|i+1=>S i,by simp;omega,rfl,λi hi=> ?_,?_⟩
   .cases i with
    |zero=>exact⟨o,rfl,by simpa [h2]using hp⟩|succ i=>obtain⟨o',ho',hp'⟩:=h3 i (by omega);exact⟨o',by simpa using ho',by rw[show m+(i+1)=m+1+i by omega];exact hp'⟩
   .rcases h4 with⟨e1,e2⟩|⟨e1,e2,e3⟩
    .exact .inl ⟨by simp;omega,e2⟩
    .exact .inr ⟨by simp;omega,by rw[show m+(n+1)=m+1+n by omega];exact e2,by simpa using e3⟩
  simp only[tC,Bool.true_and,if_true]at h;split at h
  .rename_i hc;exact⟨0,λ_ =>fr,by simp,rfl,λi hi=>by omega,.inr ⟨by simp,hc,h⟩⟩
  .split at h
   .cases h
   .rename_i hd;split at h
    .simp at h
    .split at h
     .rename_i hw;split at h
      .rename_i ho;split at h
       .rename_i v hv;rcases bF _ _ |>.mp ho with ho|ho
        .exact go _ ⟨CP hd,.inl ⟨hw,v,.inl ho,.inr hv,rfl⟩⟩ h
        .exact go _ ⟨CP hd,.inl ⟨hw,v,.inr ((aJi ho hh).trans hv),.inr hv,rfl⟩⟩ h
       .cases h
      .cases h
     .rename_i hw;exact go _ ⟨CP hd,.inr ⟨by simpa using hw,rfl⟩⟩ h
theorem Ry{t:fS}{l off:Nat}{v:T}{H H':Hp}(h:wF P H t (.ptr l off) v=some H'):∀l',l'≠l->H'.get l'=H.get l':=by
 simp only[wF]at h;split at h
 .rename_i o n ho hn;split at h
  .cases h;intro l' hl;rw[wX,sH,if_neg hl,<-wX]
  .cases h
 .cases h
theorem Gw{A:gI}{p l:Nat}{H:Hp}:∀(os:gW) (m:Nat) (fr:fU) (s':Fx),vF os m=some p->tC P E F ops A p l os m false ⟨fr,H,none⟩=some s'->
  ∃(n:Nat) (S:jG) (H':Hp),p<m+n/\m<=p/\n<=os.length/\S 0=fr/\(∀l',l'≠l->H'.get l'=H.get l')/\
   (∀i,i<n->∃o,os[i]? =some o/\((m+i=p/\aVd P E H H' (S i) o (S (i+1)))\/(m+i≠p/\Tj P E F ops H H' (p<m+i/\vQ A (m+i) p=true) (m+i<p/\vQ A p (m+i)=true) (S i) o (S (i+1)))))/\
   ((n=os.length/\s'=⟨S n,H',none⟩)\/(n<os.length/\rU A (m+n) ops.size=true/\qL P E F ops (os.drop n) ⟨S n,H',none⟩=some s'))
 |[],m,fr,s',hf,h=>by simp[tC]at h
 |o::os,m,fr,s',hf,h=>by
  have go:∀fr1,vF os (m+1)=some p->(∀H',(∀l',l'≠l->H'.get l'=H.get l')->Tj P E F ops H H' False (vQ A p m=true) fr o fr1)->tC P E F ops A p l os (m+1) false ⟨fr1,H,none⟩=some s'->
    ∃(n:Nat) (S:jG) (H':Hp),p<m+n/\m<=p/\n<=(o::os).length/\S 0=fr/\(∀l',l'≠l->H'.get l'=H.get l')/\
   (∀i,i<n->∃o',(o::os)[i]? =some o'/\((m+i=p/\aVd P E H H' (S i) o' (S (i+1)))\/(m+i≠p/\Tj P E F ops H H' (p<m+i/\vQ A (m+i) p=true) (m+i<p/\vQ A p (m+i)=true) (S i) o' (S (i+1)))))/\
   ((n=(o::os).length/\s'=⟨S n,H',none⟩)\/(n<(o::os).length/\rU A (m+n) ops.size=true/\qL P E F ops ((o::os).drop n) ⟨S n,H',none⟩=some s')):=by
   intro fr1 hfs hp he;obtain⟨n,S,H',h0,h0',h1,h2,hh,h3,h4⟩:=Gw os (m+1) fr1 s' hfs he;refine⟨n+1,λi=>match i with|0=>fr|i+1=>S i,H',by omega,by omega,by simp;omega,rfl,hh,λi hi=> ?_,?_⟩
   .cases i with
    |zero=>
     have hq:=hp H' hh;refine⟨o,rfl,.inr ⟨by omega,hq.dl,?_⟩⟩;simp only[h2];rcases hq.cs with⟨w,v,v1,v2,v3⟩|q
     .exact .inl ⟨w,v,v1.imp False.elim id,v2.imp (λz=>⟨by omega,by simpa using z⟩) id,v3⟩
     .exact .inr q
    |succ i=>
     obtain⟨o',ho',hp'⟩:=h3 i (by omega);refine⟨o',by simpa using ho',?_⟩;rcases hp' with⟨e,q⟩|⟨e,q⟩
     .exact .inl ⟨by omega,q⟩
     .refine .inr ⟨by omega,?_⟩;rw[show m+(i+1)=m+1+i by omega];exact q
   .rcases h4 with⟨e1,e2⟩|⟨e1,e2,e3⟩
    .exact .inl ⟨by simp;omega,e2⟩
    .exact .inr ⟨by simp;omega,by rw[show m+(n+1)=m+1+n by omega];exact e2,by simpa using e3⟩
  simp only[tC,Bool.false_and,aY,if_false]at h;split at h
  .cases h
  .rename_i hd;split at h
   .rename_i hst;have hpm:m=p:=by simpa [vF,hst]using hf
    obtain⟨s1,s2⟩:=Jm hst;split at h
    .rename_i t x y hop;split at h
     .rename_i l' off v hx hy;split at h
      .rename_i hl;split at h
       .rename_i H' hs;subst hl;have hh:=Ry hs;obtain⟨n,S,h1,h2,h3,h4⟩:=Rp (A:=A) (p:=p) (l:=l') hh os (m+1) fr s' h;refine⟨n+1,λi=>match i with|0=>fr|i+1=>S i,H',by omega,by omega,by simp;omega,rfl,hh,λi hi=> ?_,?_⟩
        .cases i with
         |zero=>exact⟨o,rfl,.inl ⟨by omega,⟨s2,s1,h2,t,x,y,_,v,hop,hx,hy,hs⟩⟩⟩
         |succ i=>
          obtain⟨o',ho',hp'⟩:=h3 i (by omega);refine⟨o',by simpa using ho',.inr ⟨by omega,hp'.dl,?_⟩⟩;rcases hp'.cs with⟨w,v,v1,v2,v3⟩|q
          .exact .inl ⟨w,v,v1.imp (λz=>⟨by omega,by rw[show m+(i+1)=m+1+i by omega];exact z⟩) id,v2.imp False.elim id,v3⟩
          .exact .inr q
        .rcases h4 with⟨e1,e2⟩|⟨e1,e2,e3⟩
         .exact .inl ⟨by simp;omega,e2⟩
         .exact .inr ⟨by simp;omega,by rw[show m+(n+1)=m+1+n by omega];exact e2,by simpa using e3⟩
       .cases h
      .cases h
     .cases h
    .cases h
   .rename_i hns;have hfs:vF os (m+1)=some p:=by simpa [vF,hns]using hf
    split at h
    .rename_i hw;split at h
     .rename_i ho;split at h
      .rename_i v hv;rcases bF _ _ |>.mp ho with ho|ho
       .exact go _ hfs (λH' hh=>⟨CP hd,.inl ⟨hw,v,.inr hv,.inl ho,rfl⟩⟩) h
       .exact go _ hfs (λH' hh=>⟨CP hd,.inl ⟨hw,v,.inr hv,.inr ((aJi ho hh).symm.trans hv),rfl⟩⟩) h
      .cases h
     .cases h
    .rename_i hw;exact go _ hfs (λH' hh=>⟨CP hd,.inr ⟨by simpa using hw,rfl⟩⟩) h
structure FTr(P:fV)(E:tY)(F:Fc)(ops:fZ)(m p:Nat)(S:jG)(H H':Hp):Prop where
 lt:p<m
 at_ :∀i,i<m->∃o,ops[i]? =some o/\((i=p/\aVd P E H H' (S i) o (S (i+1)))\/(i≠p/\Tj P E F ops H H' (p<i/\vQ (tL ops.toList []) i p=true) (i<p/\vQ (tL ops.toList []) p i=true) (S i) o (S (i+1))))
variable{m p:Nat}{S:jG}{H H':Hp}
theorem FTr.len1(h:FTr P E F ops m p S H H'){i:Nat}(hi:i<m):(S (i+1)).length=(S i).length:=by
 obtain⟨o,_,h1|h1⟩:=h.at_ i hi
 .rw[h1.2.sf]
 .rcases h1.2.cs with⟨_,v,_,_,e⟩|⟨_,e⟩<;>rw[e]<;>cases o.dst<;>simp[qU]
theorem FTr.other(h:FTr P E F ops m p S H H'){i:Nat}(hi:i<m){t:Tmp}(ht:∀o,ops[i]? =some o->o.dst≠some t):(S (i+1))[t]? =(S i)[t]? :=by
 obtain⟨o,ho,h1|h1⟩:=h.at_ i hi
 .rw[h1.2.sf]
 .have:=ht o ho;rcases h1.2.cs with⟨_,v,_,_,e⟩|⟨_,e⟩<;>rw[e]
  all_goals
   cases hd:o.dst with
   |none=>rfl
   | some d => have hne:d≠t:=λe=>this (by rw[hd,e])
               simp[qU,dN hne]
theorem FTr.same(h:FTr P E F ops m p S H H'){t:Tmp}:∀(k q:Nat),q+k<=m->(∀j o,q<=j->j<q+k->ops[j]? =some o->o.dst≠some t)->(S (q+k))[t]? =(S q)[t]? :=by
 intro k
 induction k with
 |zero=>intro q _ _;rfl
 |succ k ih=>
  intro q hq hn;rw[show q+(k+1)=q+k+1 by omega,h.other (by omega) (λo ho=>hn (q+k) o (by omega) (by omega) ho)];exact ih q (by omega) (λj o' h1 h2=>hn j o' h1 (by omega))
theorem FTr.len(h:FTr P E F ops m p S H H'):∀i,i<=m->(S i).length=(S 0).length:=by
 intro i
 induction i with
 |zero=>intro _;rfl|succ i ih=>intro hi;rw[h.len1 (by omega)];exact ih (by omega)
structure aNl(P:fV)(E:tY)(ops:fZ)(m p:Nat)(S:jG)(H H':Hp)(g0:G)(H0:Hp)(listed:iQ)(g:G)(a:Act):Prop where
 sz:listed.size=ops.size
 down:Lz ops listed
 lt:∀i,Ld listed i->i<m
 ok:rZ g
 st1:¬Ld listed p->St g H/\qF H0 g0 H g
 st2:Ld listed p->St g H'/\qF H0 g0 H' g
 gl:GlOk E.gl g
 df:a.defers=[]
 len:a.tmps.size=(S 0).length
 sl:∀(t:Tmp) (i:Nat) (v:gQ) (c:T),i<=m->(∀j o,j<i->ops[j]? =some o->o.dst=some t->Ld listed j)->(∀j o,i<=j->j<m->ops[j]? =some o->o.dst=some t->¬Ld listed j)->
  a.tmps[t]? =some v->(S i)[t]? =some c->Rd g v c
theorem Um(hE:vP P E.gl E.pe)(hF:tX P E.gl F.ee)(hdr:BM ops=true){g0:G}{H0:Hp}(htr:FTr P E F ops m p S H H')(hm:m<=ops.size)(hch:m<ops.size->rU (tL ops.toList []) m ops.size=true){Q:gC}
  (hfin:∀a' g',Inv P E g0 H0 g' a' ⟨S m,H',none⟩->wpOps P ops Q (List.range' m (ops.size-m)) a' g'.w):
  ∀(fuel:Nat) (listed:iQ) (a:Act) (g:G),aNl P E ops m p S H H' g0 H0 listed g a->cnt listed=fuel->wpAny P .any ops Q fuel listed a g.w:=by
 simp only[BM,aA]at hdr;obtain⟨⟨hb,_⟩,htm⟩:=hdr;have full:∀(listed:iQ) (a:Act) (g:G),aNl P E ops m p S H H' g0 H0 listed g a->(∀i,i<m->Ld listed i)->Inv P E g0 H0 g a ⟨S m,H',none⟩:=by
  intro listed a g h hall;have hlen:=htr.len m (aZ _);have hp:=h.st2 (hall p htr.lt);refine⟨h.ok,hp.1,h.gl,h.df,⟨by show a.tmps.size=(S m).length;rw[hlen];exact h.len,λj v c _ hv hc=> ?_⟩,λd t q=>(by cases q),hp.2⟩;exact h.sl j m v c (aZ _) (λk o hk _ _ =>hall k hk) (λk o h1 h2=>by omega) hv hc
 intro fuel
 induction fuel with
 |zero=>
  intro listed a g h hc;have hall:∀i,i<ops.size->Ld listed i:=λi hi=>LE hc (by rw[h.sz];exact hi);have hme:m=ops.size:=by
   rcases eO m ops.size with q|q
   .have:=h.lt m (hall m q);omega
   .omega
  have hi:=full listed a g h (λi hi=>hall i (by omega));have hq:=hfin a g hi;rw[hme,Nat.sub_self]at hq;refine⟨?_,hq⟩;rcases hr:Region.ready .any ops listed with _ |⟨x,xs⟩
  .rfl
  .have hx:x∈Region.ready .any ops listed:=by rw[hr];simp
   obtain⟨h1,o,h2,_⟩:=mem_ready.1 hx;exact absurd (hall x (aK.1 h2).1) (AF.1 h1).2
 |succ fuel ih=>
  intro listed a g h hc;refine⟨λhr=>absurd hr (ML hb h.sz (by omega)),λi hi=> ?_⟩;obtain⟨h1,o,h2,h3⟩:=mem_ready.1 hi;have hni:=(AF.1 h1).2;have hio:i<ops.size:=(aK.1 h2).1;have hcl:∀j,vQ (tL ops.toList []) i j=true->Ld listed j:=wD h.down h.sz i o h2 h3;by_cases him:i<m
  .obtain⟨o',ho',hps⟩:=htr.at_ i him;rw[h2]at ho';cases ho';have before:∀t,t∈zN ops o->∀j oj,j<i->ops[j]? =some oj->oj.dst=some t->Ld listed j:=λt ht j oj hj hoj hd=>
    hcl j ((xC htm h2 hoj (by omega) hd ht).1 hj)
   have behind:∀t,t∈zN ops o->∀j oj,i<j->ops[j]? =some oj->oj.dst=some t->¬Ld listed j:=λt ht j oj hj hoj hd hl=>
    hni (wD h.down h.sz j oj hoj (h.down j oj hoj hl) i ((xC htm h2 hoj (by omega) hd ht).2 hj))
   have notself:∀t,t∈zN ops o->∀j oj,i<=j->ops[j]? =some oj->oj.dst=some t->¬Ld listed j:=λt ht j oj hj hoj hd=>by
    rcases eE hj with rfl|hj
    .exact hni
    .exact behind t ht j oj hj hoj hd
   have hleni:=htr.len i (by omega);have slot:∀t,t∈o.looksAt ops->∀v c,a.tmps[t]? =some v->(S i)[t]? =some c->Rd g v c:=λt ht v c hv hcc=>by
    have hn:t∈zN ops o:=bH.2 (.inr ht);exact h.sl t i v c (by omega) (λj oj hj hoj hd=>before t hn j oj hj hoj hd) (λj oj hj _ hoj hd=>notself t hn j oj hj hoj hd) hv hcc
   have getfr:∀t,t∈o.looksAt ops->Rd g (a.tmps.getD t undef) (qR (S i) t):=λt ht=>by
    rw[uR];by_cases hlt:t<(S i).length
    .have hlt':t<a.tmps.size:=by rw[h.len,<-hleni];exact hlt
     have:=slot t ht a.tmps[t] (S i)[t] (by simp[hlt']) (by simp[hlt]);simpa [hlt,hlt']using this
    .have hlt':¬t<a.tmps.size:=by rw[h.len,<-hleni];exact hlt
     have e1:a.tmps.getD t undef=undef:=by simp[dI (cJ hlt')]
     have e2:(S i).getD t pV=pV:=by simp[bU (cJ hlt)]
     rw[e1,e2];exact Rd.undef
   have hop:∀x∈o.op.operands,∀r,qG E.gl (S i) x=some r->Rd g (a.eval x) r:=λx hx r hr=>by
    cases x with
    |tmp t=>simp only[qG,aC]at hr;subst hr;exact getfr t (zJ hx)|const v=>exact FC g hr|global k=>exact(h.gl k r hr).1|func f=>simp only[qG,aC]at hr;subst hr;exact Rd.mk_fn RdL.nil RdL.nil
   have hwant:Region.wanted o (yielded ops a.tmps)=qH ops (S i) o:=by
    unfold Region.wanted qH;cases hg:o.guard with
    |none=>rfl
    |some p=>
     obtain⟨j,w⟩:=p;simp only;congr 1;unfold yielded BJ;cases hd:(ops[j]?).bind (·.dst)with
     |none=>rfl
     |some d=>
      simp only[eL];have hl:=wM hg hd;by_cases hlt:d<(S i).length
      .have hlt':d<a.tmps.size:=by rw[h.len,<-hleni];exact hlt
       have hv:a.tmps[d]? =some a.tmps[d]:=by simp[hlt']
       have hcc:(S i)[d]? =some (S i)[d]:=by simp[hlt]
       have:=slot d hl _ _ hv hcc;rw[hv,hcc];generalize a.tmps[d]=u at this;generalize (S i)[d]=c at this;cases this<;>rfl
      .have hlt':¬d<a.tmps.size:=by rw[h.len,<-hleni];exact hlt
       rw[dI (cJ hlt'),bU (cJ hlt)]
   have hcnt:cnt (listed.setIfInBounds i true)=fuel:=by have:=NN h1;omega
   have hld:∀j,Ld (listed.setIfInBounds i true) j↔Ld listed j\/j=i:=λj=>IU (by rw[h.sz];exact hio)
   have hdown':Lz ops (listed.setIfInBounds i true):=λk ok hk hl e he hbd=>(hld e.on).2 (.inl (by
    rcases(hld k).1 hl with q|rfl
    .exact h.down k ok hk q e he hbd
    .rw[h2]at hk;cases hk;exact h3 e he hbd))
   have slots:∀(g':G) (v:gQ) (c:T),(∀u t,Rd g u t->Rd g' u t)->Rd g' v c->(∀d,o.dst=some d->(S (i+1))[d]? =some c)->
     ∀(t:Tmp) (k:Nat) (u:gQ) (cc:T),k<=m->(∀j o',j<k->ops[j]? =some o'->o'.dst=some t->Ld (listed.setIfInBounds i true) j)->(∀j o',k<=j->j<m->ops[j]? =some o'->o'.dst=some t->¬Ld (listed.setIfInBounds i true) j)->
      (a.put o.dst v).tmps[t]? =some u->(S k)[t]? =some cc->Rd g' u cc:=by
    intro g' v c hkeep hv hset t k u cc hk hw1 hw2 hu hcc;by_cases htd:o.dst=some t
    .have hik:i<k:=by
      rcases eO i k with q|q
      .exact q
      .exact absurd ((hld i).2 (.inr rfl)) (hw2 i o q him h2 htd)
     have hnow:∀j oj,i+1<=j->j<k->ops[j]? =some oj->oj.dst≠some t:=λj oj hj1 hj2 hoj hd=>by
      have hl:=hw1 j oj hj2 hoj hd;rcases(hld j).1 hl with q|q
      .exact behind t (bH.2 (.inl (by rw[htd];simp))) j oj (by omega) hoj hd q
      .omega
     have hsame:=htr.same (t:=t) (k-(i+1)) (i+1) (by omega) (λj oj q1 q2=>hnow j oj q1 (by omega));rw[show i+1+(k-(i+1))=k by omega]at hsame;rw[hsame,hset t htd]at hcc;cases hcc;rw[htd]at hu;simp only[Act.put,dK]at hu;split at hu
     .cases hu;exact hv
     .cases hu
    .have hu':a.tmps[t]? =some u:=by
      cases hd:o.dst with
      |none=>rw[hd]at hu;exact hu
      |some d=>
       rw[hd]at hu;have:d≠t:=λe=>htd (by rw[hd,e]);simpa [Act.put,bJ this]using hu
     refine hkeep _ _ (h.sl t k u cc hk (λj oj hj hoj hd=> ?_) (λj oj hj1 hj2 hoj hd hl=>hw2 j oj hj1 hj2 hoj hd ((hld j).2 (.inl hl))) hu' hcc);rcases(hld j).1 (hw1 j oj hj hoj hd)with q|rfl
     .exact q
     .rw[h2]at hoj;cases hoj;exact absurd hd htd
   have lens:∀v,(a.put o.dst v).tmps.size=(S 0).length:=λv=>by cases o.dst<;>simp[Act.put,h.len]
   have lts:∀j,Ld (listed.setIfInBounds i true) j->j<m:=λj hj=>((hld j).1 hj).elim (h.lt j) (λe=>e▸him);unfold wpOp;rw[h2];simp only;rw[hwant];rcases hps with⟨hip,hB⟩|⟨hip,hA⟩
   .
    subst hip;obtain⟨hst,hss⟩:=h.st1 hni;obtain⟨t,x,y,q,v,ho,hx,hy,hs⟩:=hB.st;have hw:qH ops (S i) o=true:=by unfold qH;rw[hB.gd]
    rw[if_pos hw];left;have he:xF P E F H (S i) o=some (pV,H'):=by simp only[xF,ho,hx,hy,hs]
    refine Im hF h.gl hst h.ok he hop _ _ (λu g' hsst hok hst' hr=>ih _ _ g' ?_ hcnt);refine⟨by simpa using h.sz,hdown',lts,hok,λq=>absurd ((hld i).2 (.inr rfl)) q,λ_ =>⟨hst',hss.trans hsst⟩,h.gl.sstep hst hsst,by rw[tJ];exact h.df,lens u,?_⟩;exact slots g' u pV (λ_ _ q=>q.sstep hst hsst) hr (λd hd=>by rw[hB.ds]at hd;cases hd)
   .
    have pnext:∀(g':G) (v:gQ) (c:T),PStep g g'->rZ g'->Rd g' v c->(∀d,o.dst=some d->(S (i+1))[d]? =some c)->aNl P E ops m p S H H' g0 H0 (listed.setIfInBounds i true) g' (a.put o.dst v):=by
     intro g' v c hst hok hv hset;have hpi:Ld (listed.setIfInBounds i true) p↔Ld listed p:=⟨λq=>((hld p).1 q).elim id λe=>absurd e.symm hip,λq=>(hld p).2 (.inl q)⟩
     exact⟨by simpa using h.sz,hdown',lts,hok,λq=>by have:=h.st1 (λr=>q (hpi.2 r));exact⟨this.1.pstep hst,this.2.trans hst.toS⟩,
      λq=>by have:=h.st2 (hpi.1 q);exact⟨this.1.pstep hst,this.2.trans hst.toS⟩,h.gl.pstep hst,by rw[tJ];exact h.df,lens v,slots g' v c (λ_ _ q=>q.pstep hst) hv hset⟩
    rcases hA.cs with⟨hw,v,hv,hv',hS⟩|⟨hw,hS⟩
    .rw[if_pos hw];left;have fin:∀u g',PStep g g'->rZ g'->Rd g' u v->wpAny P .any ops Q fuel (listed.setIfInBounds i true) (a.put o.dst u) g'.w:=λu g' hst hok hr=>
      ih _ _ g' (pnext g' u v hst hok hr (λd hd=>by rw[hS,hd];simp[qU,hA.dl d hd])) hcnt
     by_cases hlp:Ld listed p
     .rcases hv' with⟨_,hpr⟩|hv'
      .obtain⟨op,hop',_⟩:=htr.at_ p htr.lt;exact absurd (wD h.down h.sz p op hop' (h.down p op hop' hlp) i hpr) hni
      .exact HT hE h.gl (h.st2 hlp).1 h.ok hv' hop _ _ fin
     .rcases hv with⟨_,hpr⟩|hv
      .exact absurd (hcl p hpr) hlp
      .exact HT hE h.gl (h.st1 hlp).1 h.ok hv hop _ _ fin
    .rw[hw];simp only[aY,if_false];exact ih _ _ g (pnext g undef pV (PStep.refl g) h.ok Rd.undef (λd hd=>by rw[hS,hd];simp[qU,hA.dl d hd])) hcnt
  .have hlt:m<ops.size:=by omega
   have hchn:=hch hlt;have hallj:∀j,j<i->Ld listed j:=λj hj=>hcl j (FQ hchn (by omega) hio hj);have hie:i=m:=by
    rcases eE (cJ him)with q|q
    .exact q.symm
    .have:=h.lt m (hallj m q);omega
   subst hie;have hinv:=full listed a g h hallj;have hq:=hfin a g hinv;have hexact:∀j,Ld listed j↔j<i:=λj=>⟨h.lt j,hallj j⟩;have hc':cnt listed=ops.size-i:=by
    have key:∀(r k:Nat) (L:iQ),L.size=ops.size->(∀j,Ld L j↔j<k)->k+r=ops.size->cnt L=r:=by
     intro r
     induction r with
     |zero=>intro k L hs hl hk;exact LH λj hj=>(hl j).2 (by omega)
     |succ r ihr=>
      intro k L hs hl hk;have hun:L.getD k true=false:=AF.2 ⟨by omega,λq=>by have:=(hl k).1 q;omega⟩;have:=ihr (k+1) (L.setIfInBounds k true) (by simpa using hs) (λj=>by rw[IU (by omega),hl j];omega) (by omega);have:=NN hun;omega
    exact key (ops.size-i) i listed h.sz hexact (by omega)
   rw[show ops.size-i=(ops.size-(i+1))+1 by omega,eU,wpOps_cons]at hq;have hf:fuel=ops.size-(i+1):=by omega
   rw[hf];refine wpOp_mono (λa w hh=>Rz hb hchn (ops.size-(i+1)) (i+1) (listed.setIfInBounds i true) a w (by omega) (by omega) (by simpa using h.sz) (λj=> ?_) hh) hq;rw[IU (by rw[h.sz];exact hio),hexact j];omega
end
noncomputable section
structure qT(E:tY)(g0:G)(H0:Hp)(g:G)(a:Act)(fr:fU)(H:Hp):Prop where
 ok:rZ g
 st:St g H
 gl:GlOk E.gl g
 df:a.defers=[]
 fr:RdL g a.tmps.toList fr
 step:qF H0 g0 H g
def X.exit_ :X->Exit
 | .normal=> .normal| .exit id=> .exit id| .ret=> .ret
section
variable{P:fV}{E:tY}{F:Fc}
theorem qT.toInv{g0 g:G}{H0 H:Hp}{a:Act}{fr:fU}(h:qT E g0 H0 g a fr H):Inv P E g H g a ⟨fr,H,none⟩:=
 ⟨h.ok,h.st,h.gl,h.df,EB.of h.fr none,λd t q=>(by cases q),qF.refl H g⟩
theorem Inv.toC{g0 g1 g:G}{H0 H1:Hp}{a:Act}{s:Fx}(hs:qF H0 g0 H1 g1)(h:Inv P E g1 H1 g a s)(hp:s.pend=none):qT E g0 H0 g a s.fr s.H:=
 ⟨h.ok,h.st,h.gl,h.df,EB.all (by have:=h.fr;rw[hp]at this;exact this),hs.trans h.step⟩
theorem TU(hE:vP P E.gl E.pe)(hF:tX P E.gl F.ee){ops:fZ}{draw:Bool}(hok:draw=true->BM ops=true){fr fr':fU}{H H':Hp}
  (he:(if draw then rW P E F ops fr H else qL P E F ops ops.toList ⟨fr,H,none⟩)=some ⟨fr',H',none⟩) {g0 g:G} {H0:Hp} {a:Act} (hc:qT E g0 H0 g a fr H)
  {Q:gC} (hQ:∀a' g',qT E g0 H0 g' a' fr' H'->Q .normal a' g'.w):
  (if draw then wpAny P .any ops Q ops.size (Array.replicate ops.size false) a {g.w with drawn:=g.w.drawn+1}else wpOps P ops Q (List.range ops.size) a g.w):=by
 cases draw with
 |false=>
  simp only[aY,if_false]at he⊢;have:=ZX (P:=P) (E:=E) (F:=F) (g0:=g) (H0:=H) hE hF ops.toList 0 _ _ a g (λj=>by simp) hc.toInv he (λa' g' hi=>hQ a' g' (hi.toC hc.step rfl))
  rwa [dH,<-List.range_eq_range']at this
 |true=>
  simp only[if_true]at he⊢
  let gd:G:={g with w:={g.w with drawn:=g.w.drawn+1}}
  have hp:PStep g gd:=⟨rfl,rfl,rfl,aZ _,λ_ _ =>rfl,λ_ h=>h,λ_ h=> .inl h,rfl,rfl,rfl⟩;have hd:=hok rfl;have hcd:qT E g0 H0 gd a fr H:=⟨hc.ok,hc.st.pstep hp,hc.gl.pstep hp,hc.df,hc.fr.pstep hp,hc.step.trans hp.toS⟩;have hcnt:cnt (Array.replicate ops.size false)=ops.size:=by simp[cnt]
  have nold:∀i,¬Ld (Array.replicate ops.size false) i:=λi hl=>by
   unfold Ld at hl;by_cases q:i<ops.size<;>simp[q]at hl
  unfold rW at he;split at he
  .
   split at he
   .rename_i b p hb hfs;split at he
    .rename_i l hgt;obtain⟨m,S,H1,hpm,_,hml,hS0,hh,htr,hend⟩:=Gw (P:=P) (E:=E) (F:=F) (ops:=ops) ops.toList 0 fr _ hfs he;simp only[bP]at hpm htr hend;have hml':m<=ops.size:=by simpa using hml
     have htrace:FTr P E F ops m p S H H1:=⟨hpm,λi hi=>by
      obtain⟨o,ho,hps⟩:=htr i hi
      exact⟨o,by simpa using ho,hps⟩⟩
     have hinv:aNl P E ops m p S H H1 gd H (Array.replicate ops.size false) gd a:=by
      refine⟨by simp,λi o ho hl=>absurd hl (nold i),λi hl=>absurd hl (nold i),hcd.ok,λ_ =>⟨hcd.st,qF.refl H gd⟩,λhl=>absurd hl (nold p),hcd.gl,hcd.df,by rw[hS0];have:=hcd.fr.1;simpa using this,?_⟩;intro t i v c hi h1 h2 hv hcc;have hno:∀j o,j<i->ops[j]? =some o->o.dst≠some t:=λj o hj ho hdd=>absurd (h1 j o hj ho hdd) (nold j);have:=htrace.same (t:=t) i 0 (by omega) (λj o _ hj ho=>hno j o (by omega) ho);rw[bP]at this;rw[this,hS0]at hcc;exact hcd.fr.2 t v c (by simpa using hv) hcc
     refine Um hE hF hd htrace hml' (λhlt=> ?_) (λa' g' hi=> ?_) ops.size _ a gd hinv hcnt
     .rcases hend with⟨e,_⟩|⟨_,e,_⟩
      .simp at e;omega
      .simpa using e
     .rcases hend with⟨e1,e3⟩|⟨e1,_,e3⟩
      .have:m=ops.size:=by simpa using e1
       rw[this,Nat.sub_self];show Q .normal a' g'.w;cases e3;exact hQ a' g' (hi.toC (P:=P) hcd.step rfl)
      .have:=ZX (P:=P) (E:=E) (F:=F) (g0:=gd) (H0:=H) hE hF (ops.toList.drop m) m _ _ a' g' (λj=>by simp) hi e3 (λa'' g'' hi'=>hQ a'' g'' (hi'.toC hcd.step rfl))
       rwa [cY,dH]at this
    .cases he
   .cases he
  obtain⟨m,S,hml,hS0,htr,hend⟩:=Se (P:=P) (E:=E) (F:=F) (ops:=ops) ops.toList 0 _ _ (λj=>by simp) he;have hml':m<=ops.size:=by simpa using hml
  have htrace:SU P E F ops m S:=λi hi=>by
   obtain⟨o,ho,hps⟩:=htr i hi;exact⟨o,by simpa using ho,hps⟩
  have hinv:DInv P E ops m S gd H (Array.replicate ops.size false) gd a:=by
   refine⟨by simp,λi o ho hl=> ?_,λi hl=> ?_,hcd.ok,by rw[hS0];exact hcd.st,hcd.gl,hcd.df,by rw[hS0];have:=hcd.fr.1;simpa using this,?_,?_,by rw[hS0];exact qF.refl H gd⟩
   .unfold Ld at hl;by_cases q:i<ops.size<;>simp[q]at hl
   .unfold Ld at hl;by_cases q:i<ops.size<;>simp[q]at hl
   .intro t i v c hi h1 h2 hpn hv hcc;have hno:∀j o,j<i->ops[j]? =some o->o.dst≠some t:=λj o hj ho hdd=>by
     have:=h1 j o hj ho hdd;unfold Ld at this;by_cases q:j<ops.size<;>simp[q]at this
    have:=htrace.same (t:=t) i 0 (by omega) (λj o _ hj ho=>hno j o (by omega) ho);rw[bP]at this;rw[this,hS0]at hcc;exact hcd.fr.2 t v c (by simpa using hv) hcc
   .intro p d t _ _ _ hl;unfold Ld at hl;by_cases q:p<ops.size<;>simp[q]at hl
  refine aHz hE hd htrace (by rw[hS0]) hml' (λhlt=> ?_) (λa' g' hi=> ?_) ops.size _ a gd hinv hcnt
  .rcases hend with⟨e,_⟩|⟨_,e,_⟩
   .simp at e;omega
   .simpa using e
  .rcases hend with⟨e1,e2,e3⟩|⟨e1,_,e3⟩
   .have:m=ops.size:=by simpa using e1
    rw[this,Nat.sub_self];show Q .normal a' g'.w;have:=hi.toC (P:=P) hcd.step e2;rw[<-e3]at this;exact hQ a' g' this
   .have:=ZX (P:=P) (E:=E) (F:=F) (g0:=gd) (H0:=H) hE hF (ops.toList.drop m) m _ _ a' g' (λj=>by simp) hi e3 (λa'' g'' hi'=>hQ a'' g'' (hi'.toC hcd.step rfl))
    rwa [cY,dH]at this
theorem aDz(hm:P.follows .mixedOrders=true)(hE:vP P E.gl E.pe)(hF:tX P E.gl F.ee){id:Nat}{ops:fZ}{draw:Bool}(hok:draw=true->BM ops=true){fr fr':fU}{H H':Hp}
  (he:(if draw then rW P E F ops fr H else qL P E F ops ops.toList ⟨fr,H,none⟩)=some ⟨fr',H',none⟩) {g0 g:G} {H0:Hp} {a:Act} (hc:qT E g0 H0 g a fr H)
  {Q:gC} (hQ:∀a' g',qT E g0 H0 g' a' fr' H'->Q .normal a' g'.w):(Code.region id ops draw).wp P Q a g.w:=by
 have:=TU hE hF hok he hc hQ;cases draw with
 |false=>exact wp_region this|true=>exact wp_region_any hm this
theorem Ii(hm:P.follows .mixedOrders=true)(hE:vP P E.gl E.pe)(hF:tX P E.gl F.ee)(n:Nat):∀(c:Code) (fr:fU) (H:Hp) (x:X) (fr':fU) (H':Hp),codeOk c=true->pU P E F n c fr H=some (x,fr',H')->
  ∀(g0 g:G) (H0:Hp) (a:Act),qT E g0 H0 g a fr H->∀(Q:gC),(∀a' g',qT E g0 H0 g' a' fr' H'->Q x.exit_ a' g'.w)->c.wp P Q a g.w:=by
 intro c
 induction c with
 |skip=>
  intro fr H x fr' H' _ he g0 g H0 a hc Q hQ;simp only[pU,aC,aU]at he;obtain⟨rfl,rfl,rfl⟩:=he;exact wp_skip (hQ a g hc)
 |label l=>
  intro fr H x fr' H' _ he g0 g H0 a hc Q hQ;simp only[pU,aC,aU]at he;obtain⟨rfl,rfl,rfl⟩:=he;exact wp_label (hQ a g hc)
 |region id ops draw=>
  intro fr H x fr' H' hok he g0 g H0 a hc Q hQ;simp only[pU]at he;split at he
  .rename_i f1 h1 hr;cases he;exact aDz hm hE hF (λq=>by subst q;simpa [codeOk]using hok) hr hc hQ
  .cases he
 |seq c1 c2 ih1 ih2=>
  intro fr H x fr' H' hok he g0 g H0 a hc Q hQ;simp only[codeOk,aA]at hok;simp only[pU]at he;refine wp_seq ?_;split at he
  .rename_i f1 h1 hr;exact ih1 _ _ _ _ _ hok.1 hr g0 g H0 a hc _ (λa' g' hc'=>ih2 _ _ _ _ _ hok.2 he g0 g' H0 a' hc' Q hQ)
  .rename_i hr;refine ih1 _ _ _ _ _ hok.1 he g0 g H0 a hc _ (λa' g' hc'=> ?_);cases x with
   |normal=>exact absurd he (hr _ _)|exit id=>exact hQ a' g' hc'|ret=>exact hQ a' g' hc'
 |cond o c1 c2 ih1 ih2=>
  intro fr H x fr' H' hok he g0 g H0 a hc Q hQ;simp only[codeOk,aA]at hok;simp only[pU]at he;split at he
  .rename_i b hb;have hr:=(EB.of hc.fr none).eval hc.gl (λ_ _ =>by simp) hb;refine wp_cond hr.inv_bool ?_;cases b with
   |true=>exact ih1 _ _ _ _ _ hok.1 (by simpa using he) g0 g H0 a hc Q hQ|false=>exact ih2 _ _ _ _ _ hok.2 (by simpa using he) g0 g H0 a hc Q hQ
  .cases he
 |block id c ih=>
  intro fr H x fr' H' hok he g0 g H0 a hc Q hQ;simp only[codeOk]at hok;simp only[pU]at he;refine wp_block ?_;split at he
  .rename_i id' f1 h1 hr;refine ih _ _ _ _ _ hok hr g0 g H0 a hc _ (λa' g' hc'=> ?_);simp only[X.exit_,Exit.inBlock];split at he
   .rename_i e;cases he;rw[if_pos e];exact hQ a' g' hc'
   .rename_i e;cases he;rw[if_neg e];exact hQ a' g' hc'
  .rename_i hr;refine ih _ _ _ _ _ hok he g0 g H0 a hc _ (λa' g' hc'=> ?_);cases x with
   |normal=>exact hQ a' g' hc'|exit id'=>exact absurd he (hr _ _ _)|ret=>exact hQ a' g' hc'
 |loop c ih=>
  intro fr H x fr' H' hok he g0 g H0 a hc Q hQ;simp only[codeOk]at hok;simp only[pU]at he;refine wp_loop_rounds n ?_;have key:∀(k:Nat) (fr:fU) (H:Hp) (a:Act) (g:G),pU.loopN (λfr H=>pU P E F n c fr H) k fr H=some (x,fr',H')->qT E g0 H0 g a fr H->Code.rounds P c Q k a g.w:=by
   intro k
   induction k with
   |zero=>intro fr H a g h;simp[pU.loopN]at h
   |succ k ihk=>
    intro fr H a g h hcc;simp only[pU.loopN]at h;rw[rounds_succ];split at h
    .rename_i f1 h1 hr;exact ih _ _ _ _ _ hok hr g0 g H0 a hcc _ (λa' g' hc'=>ihk f1 h1 a' g' h hc')
    .rename_i hr;refine ih _ _ _ _ _ hok h g0 g H0 a hcc _ (λa' g' hc'=> ?_);cases x with
     |normal=>exact absurd h (hr _ _)|exit id=>exact hQ a' g' hc'|ret=>exact hQ a' g' hc'
  exact key n fr H a g he hc
 |scope c ih=>
  intro fr H x fr' H' hok he g0 g H0 a hc Q hQ;simp only[codeOk]at hok;simp only[pU]at he;refine wp_scope_straight (ih _ _ _ _ _ hok he g0 g H0 a hc _ (λa' g' hc'=> ?_));cases x with
  |normal=>exact hQ a' g' hc'|exit id=>exact hQ a' g' hc'|ret=>exact hQ a' g' hc'
 |exit id=>
  intro fr H x fr' H' _ he g0 g H0 a hc Q hQ;simp only[pU,aC,aU]at he;obtain⟨rfl,rfl,rfl⟩:=he;exact wp_exit (hQ a g hc)
 |ret=>
  intro fr H x fr' H' _ he g0 g H0 a hc Q hQ;simp only[pU,aC,aU]at he;obtain⟨rfl,rfl,rfl⟩:=he;exact wp_ret (hQ a g hc)
 |_ =>
  intro fr H x fr' H' _ he;simp[pU]at he
def aLm(tmps:gX):ResultVar->Sem Value
 | .tmp t=>pure (tmps.getD t undef)| .cell x t=>do loadVar t (<-asAddr (tmps.getD x undef))
theorem uE(fn:Func)(tmps:gX):results fn tmps=(do
  let vs<-fn.results.mapM (aLm tmps)
  pure (if h:vs.size=1 then vs[0]else .tuple vs)):=by
 unfold results;congr 1
abbrev jH:=List ResultVar
theorem uJ{g:G}{H:Hp}{a:Act}{fr:fU}(hs:St g H)(hf:RdL g a.tmps.toList fr):∀{rs:jH} {ts:fU},sS P fr H rs=some ts->
  ∃vs,(rs.mapM (aLm a.tmps)).run P g.w= .ok vs g.w/\RdL g vs ts
 |[],ts,h=>by simp[sS]at h;subst h;exact⟨[],by simp,RdL.nil⟩
 |r::rs,ts,h=>by
  simp only[sS]at h;split at h
  .rename_i t ht;split at h
   .rename_i ts' hts;cases h;obtain⟨vs,h1,h2⟩:=uJ hs hf hts;have hx:=EB.of hf none;cases r with
    |tmp k=>
     simp only[Qo,aC]at ht;subst ht;exact⟨_ ::vs,by rw[List.mapM_cons];simp only[aLm,aP,aX,aI,h1],RdL.cons (hx.get (by simp)) h2⟩
    |cell k ty=>
     simp only[Qo]at ht;have hk:=hx.get (t:=k) (by simp);obtain⟨u,h3,h4⟩:=Zp (P:=P) hs ht hk;refine⟨u::vs,?_,RdL.cons h4 h2⟩;unfold Instr.loadAt at h3;have:∃A,a.tmps.getD k undef= .pointer (some A):=by
      unfold wZ at ht;split at ht
      .rename_i cs off hc;obtain⟨b,o,_,e,_⟩:=WQ hs hc hk;exact⟨_,e⟩
      .cases ht
     obtain⟨A,hA⟩:=this;rw[hA]at h3;simp only[Instr.sureAddr,aP,aX,aI]at h3;have h5:(aLm a.tmps (.cell k ty)).run P g.w= .ok u g.w:=by
      simp only[aLm,hA,asAddr,aP,aX,aI,h3]
     rw[List.mapM_cons];simp only[aP,h5,aX,aI,h1]
   .cases h
  .cases h
theorem aTq(hm:P.follows .mixedOrders=true)(hE:vP P E.gl E.pe)(hF:tX P E.gl F.ee){n:Nat}{f:gV}(hok:aWq P f=true){ts:fU}{H H':Hp}{r:T}(he:PY P E F n f ts H=some (r,H'))
  (g:G) (vs:gM) (hg:rZ g) (hs:St g H) (hgl:GlOk E.gl g) (hv:RdL g vs ts):
  Calls P f vs.toArray g.w λe w'=>∃v g',e= .returned v/\g'.w=w'/\qF H g H' g'/\rZ g'/\St g' H'/\Rd g' v r:=by
 unfold PY at he;unfold aWq at hok;split at he
 .rename_i fn hfn;rw[hfn]at hok;simp only at hok;split at he
  .rename_i c hc;rw[hc]at hok;simp only at hok;have hframe:RdL g (vs.toArray++Array.replicate (fn.ntmps-vs.toArray.size) undef).toList (ts++List.replicate (fn.ntmps-ts.length) pV):=by
    have:(vs.toArray++Array.replicate (fn.ntmps-vs.toArray.size) undef).toList=vs++List.replicate (fn.ntmps-ts.length) undef:=by simp[hv.1]
    rw[this];exact hv.append (RdL.replicate _ Rd.undef)
   have hinv:qT E g H g {tmps:=vs.toArray++Array.replicate (fn.ntmps-vs.toArray.size) undef,defers:=[]} (ts++List.replicate (fn.ntmps-ts.length) pV) H:=⟨hg,hs,hgl,rfl,hframe,qF.refl H g⟩
   have fin:∀(fr:fU) (H1:Hp),(match sS P fr H1 fn.results.toList with
     |some [t]=>some (t,H1)|some ts=>some (.tup ts,H1)|none=>none)=some (r,H')->∀(a':Act) (g':G),qT E g H g' a' fr H1->a'.defers=[]/\∃v,(results fn a'.tmps).run P g'.w= .ok v g'.w/\∃v' g'',Ending.returned v= .returned v'/\g''.w=g'.w/\qF H g H' g''/\rZ g''/\St g'' H'/\Rd g'' v' r:=by
    intro fr H1 hr a' g' hci;refine⟨hci.df,?_⟩;have hH:H1=H':=by
     split at hr
     .cases hr;rfl
     .cases hr;rfl
     .cases hr
    subst hH;split at hr
    .rename_i t ht;cases hr;obtain⟨us,h1,h2⟩:=uJ (P:=P) hci.st hci.fr ht
     match us,h2 with
     |[u],h2=>
      refine⟨u,?_,u,g',rfl,rfl,hci.step,hci.ok,hci.st,(h2.inv_cons).1⟩;have:fn.results=fn.results.toList.toArray:=by simp
      rw[uE,this,dM];simp only[aP,eY];rw[h1];simp
     |[],h2=>simp[RdL]at h2|_ ::_ ::_,h2=>simp[RdL]at h2
    .rename_i ts' hne ht;cases hr;obtain⟨us,h1,h2⟩:=uJ (P:=P) hci.st hci.fr ht;refine⟨.tuple us.toArray,?_,_,g',rfl,rfl,hci.step,hci.ok,hci.st,Rd.mk_tup h2⟩;have:fn.results=fn.results.toList.toArray:=by simp
     rw[uE,this,dM];simp only[aP,eY];rw[h1];have hl:us.length≠1:=λq=>by
      rw[h2.1]at q;obtain⟨t,rfl⟩:=fC.1 q;exact hne t rfl
     simp[hl]
    .cases hr
   refine calls_of_wp hfn hc ?_;split at he
   .rename_i fr H1 hev;exact Ii hm hE hF n c _ _ _ _ _ hok hev g g H _ hinv _ (λa' g' hci=>fin fr H1 he a' g' hci)
   .rename_i fr H1 hev;exact Ii hm hE hF n c _ _ _ _ _ hok hev g g H _ hinv _ (λa' g' hci=>fin fr H1 he a' g' hci)
   .cases he
  .cases he
 .cases he
end
abbrev jU:=T->Option T
def mapO(f:jU):List T->Option (List T)
 |[]=>some []
 |t::ts=>match f t with
  |some r=>match mapO f ts with
   |some rs=>some (r::rs)|none=>none
  |none=>none
def DM(sz:Nat):Nat->List T->List T
 |0,_ =>[]|n+1,cs=> .agg (cs.take sz)::DM sz n (cs.drop sz)
def qJ:Nat->Hp->T->Option T
 |0,_,_ =>none
 |n+1,H,t=>match t with
  | .int k i=>some (.int k i)| .bool b=>some (.bool b)| .str s=>some (.str s)| .nilp=>some .nilp| .nils=>some .nils| .nilf=>some .nilf| .nili=>some .nili| .nilm=>some .nilm| .mp _ =>none| .yl _ =>none
  | .ptr l off=>match H.get l with
   |some o=>match mapO (qJ n H) o.cells with
    |some cs=>some (.ref (.agg cs) off)|none=>none
   |none=>none
  | .ref x off=>match qJ n H x with
   |some y=>if y.cells.length=x.cells.length/\y.isAgg=x.isAgg then some (.ref y off)else none
   |none=>none
  | .sl f xs=>match mapO (qJ n H) xs with
   |some ys=>if(xs.map λx=>(x.isAgg,x.cells.length))=(ys.map λx=>(x.isAgg,x.cells.length))then some (.sl f ys)else none
   |none=>none
  | .slf f n h=>some (.slf f n h)
  | .osl l sz i len=>match H.get l with
   | some o=>if sz≠0/\o.sz=sz/\(i+len)*sz<=o.cells.length then
     match mapO (qJ n H) ((o.cells.drop (i*sz)).take (len*sz))with
     |some cs=>if sz=1 then(if(cs.all λc=> !c.isAgg)then some (.sl false cs)else none)else some (.sl false (DM sz len cs))
     |none=>none
    else none
   |none=>none
  | .fn f a c=>match mapO (qJ n H) a,mapO (qJ n H) c with
   |some a',some c'=>some (.fn f a' c')|_,_ =>none
  | .iface t x=>match qJ n H x with
   |some y=>some (.iface t y)|none=>none
  | .agg cs=>match mapO (qJ n H) cs with
   |some ds=>some (.agg ds)|none=>none
  | .tup cs=>match mapO (qJ n H) cs with
   |some ds=>some (.tup ds)|none=>none
theorem OH{f:jU}:∀{ts rs:fU},mapO f ts=some rs->rs.length=ts.length/\∀(j:Nat) (r:T),rs[j]? =some r->∃t,ts[j]? =some t/\f t=some r
 |[],rs,h=>by simp[mapO]at h;subst h;simp
 |t::ts,rs,h=>by
  simp only[mapO]at h;split at h
  .rename_i r hr;split at h
   .rename_i rs' hrs;cases h;obtain⟨h1,h2⟩:=OH hrs;refine⟨by simp[h1],λj q hq=> ?_⟩;cases j with
    |zero=>simp at hq;subst hq;exact⟨t,rfl,hr⟩|succ j=>simp at hq;obtain⟨t',a,b⟩:=h2 j q hq;exact⟨t',by simpa using a,b⟩
   .cases h
  .cases h
def G.frz(g:G)(H:Hp)(g0:G):G:={w:=g.w,S:=λb=>g.S b\/∃l o,H.get l=some o/\g.loc l=b,al:=g0.al,loc:=g0.loc,cp:=g0.cp}
theorem LG(sz:Nat):∀(n:Nat) (cs:fU),cs.length=n*sz->(DM sz n cs).flatMap T.cells=cs/\(∀x∈DM sz n cs,x.cells.length=sz)/\(DM sz n cs).length=n
 |0,cs,h=>by simp at h;subst h;simp[DM]
 |n+1,cs,h=>by
  have hl:sz<=cs.length:=by rw[h,cW];omega
  obtain⟨h1,h2,h3⟩:=LG sz n (cs.drop sz) (by rw[cY,h,cW];omega);refine⟨?_,?_,by simp[DM,h3]⟩
  .simp only[DM,bG,T.cells,h1,List.take_append_drop]
  .intro x hx;simp only[DM,aR]at hx;rcases hx with rfl|hx
   .simp[T.cells];omega
   .exact h2 x hx
theorem BL{t:T}(h:t.isAgg=false):t.cells=[t]:=by cases t<;>simp_all [T.isAgg,T.cells]
theorem TG:∀(cs:fU),(cs.all λc=> !c.isAgg)=true->cs.flatMap T.cells=cs/\∀x∈cs,x.cells.length=1
 |[],_ =>by simp
 |c::cs,h=>by
  simp only[List.all_cons,aA,bW]at h;have hc:=BL h.1;obtain⟨h1,h2⟩:=TG cs h.2;refine⟨by simp[bG,hc,h1],λx hx=> ?_⟩;rcases aR.1 hx with rfl|hx
  .simp[hc]
  .exact h2 x hx
theorem aCn{n:Nat}{H:Hp}{x y:T}(h:qJ (n+1) H x=some y)(hl:y.cells.length=x.cells.length)(ha:y.isAgg=x.isAgg):∀(j:Nat) (c:T),y.cells[j]? =some c->∃b,x.cells[j]? =some b/\(qJ n H b=some c\/qJ (n+1) H b=some c):=by
 intro j c hc;cases hx:x.isAgg with
 |false=>
  rw[hx]at ha;rw[BL ha]at hc;rw[BL hx];cases j with
  |zero=>simp at hc;subst hc;exact⟨x,rfl,.inr h⟩|succ j=>simp at hc
 |true=>
  cases x<;>simp[T.isAgg]at hx;rename_i cs;simp only[qJ]at h;split at h
  .rename_i ds hds;cases h;obtain⟨_,h2⟩:=OH hds;obtain⟨b,hb,hf⟩:=h2 j c (by simpa [T.cells]using hc);exact⟨b,by simpa [T.cells]using hb,.inl hf⟩
  .cases h
theorem XL:∀{xs ys:fU} {sz:Nat},(xs.map λx=>(x.isAgg,x.cells.length))=(ys.map λx=>(x.isAgg,x.cells.length))->(∀x∈xs,x.cells.length=sz)->(∀y∈ys,y.cells.length=sz)/\
  ∀(j:Nat) (c:T),(ys.flatMap T.cells)[j]? =some c->∃(i k:Nat) (x y:T),xs[i]? =some x/\ys[i]? =some y/\x.isAgg=y.isAgg/\x.cells.length=y.cells.length/\y.cells[k]? =some c/\j=i*sz+k
 |[],[],sz,_,_ =>by simp|[],y::ys,sz,h,_ =>by simp at h|x::xs,[],sz,h,_ =>by simp at h
 |x::xs,y::ys,sz,h,hs=>by
  simp only[cB,eP,aU]at h;obtain⟨⟨ha,hl⟩,hr⟩:=h;have hx:=hs x (by simp);obtain⟨h1,h2⟩:=XL hr (λz hz=>hs z (by simp[hz]));refine⟨λz hz=> ?_,λj c hc=> ?_⟩
  .rcases aR.1 hz with rfl|hz
   .omega
   .exact h1 z hz
  .rw[bG,dT]at hc;split at hc
   .exact⟨0,j,x,y,rfl,rfl,ha,hl,hc,by simp⟩
   .rename_i hj;obtain⟨i,k,x',y',e1,e2,e3,e4,e5,e6⟩:=h2 _ c hc;refine⟨i+1,k,x',y',by simpa using e1,by simpa using e2,e3,e4,e5,?_⟩;rw[cW];omega
theorem LO{g g0:G}{H:Hp}(hs:St g H):∀(n:Nat) (t r:T) (v:gQ),qJ n H t=some r->Rd g v t->Rd (g.frz H g0) v r:=by
 intro n
 induction n using Nat.strongRecOn with
 |_ n ih=>
 cases n with
 |zero=>intro t r v h;simp[qJ]at h
 |succ n=>
  have ih1:∀(t r:T) (v:gQ),qJ n H t=some r->Rd g v t->Rd (g.frz H g0) v r:=ih n (by omega);have lst:∀{ts rs:fU} {vs:gM},mapO (qJ n H) ts=some rs->RdL g vs ts->RdL (g.frz H g0) vs rs:=by
   intro ts rs vs hm hv;obtain⟨h1,h2⟩:=OH hm;refine⟨by rw[hv.1,h1],λj v c hvj hc=> ?_⟩;obtain⟨t,ht,hf⟩:=h2 j c hc;exact ih1 t c v hf (hv.2 j v t hvj ht)
  have cel:∀{x y:T},qJ n H x=some y->y.cells.length=x.cells.length->y.isAgg=x.isAgg->∀(j:Nat) (c:T),y.cells[j]? =some c->∃b,x.cells[j]? =some b/\∀u,Rd g u b->Rd (g.frz H g0) u c:=by
   intro x y hy hl ha j c hc;cases n with
   |zero=>simp[qJ]at hy
   |succ n=>
    obtain⟨b',hb',hf⟩:=aCn hy hl ha j c hc;refine⟨b',hb',λu hu=> ?_⟩;rcases hf with hf|hf
    .exact ih n (by omega) b' c u hf hu
    .exact ih1 b' c u hf hu
  intro t r v h hr;cases hr with
  |int k i=>simp only[qJ]at h;cases h;exact .int k i|bool b=>simp only[qJ]at h;cases h;exact .bool b|str s=>simp only[qJ]at h;cases h;exact .str s|nilp=>simp only[qJ]at h;cases h;exact .nilp|nils=>simp only[qJ]at h;cases h;exact .nils|nilf=>simp only[qJ]at h;cases h;exact .nilf|nili=>simp only[qJ]at h;cases h;exact .nili|nilm=>simp only[qJ]at h;cases h;exact .nilm|mp l hl=>simp only[qJ]at h;cases h|yl l hl=>simp only[qJ]at h;cases h
  |ptr l off hl=>
   simp only[qJ]at h;split at h
   .rename_i o ho;split at h
    .rename_i cs hcs;cases h;obtain⟨_,_,c0,hb,q1,_,_,q4⟩:=hs.own l o ho;have hrd:=lst hcs q4;have e0:(⟨g.loc l,off,none⟩:Addr)=⟨g.loc l,0+off,none⟩:=by simp
     rw[e0];refine .ref (.agg cs) off (g.loc l) 0 (c0.toList.take o.cells.length) (.inr ⟨l,o,ho,rfl⟩) hrd.1 (λj u hu=> ?_) hrd.2;rw[bD]at hu;split at hu
     .show g.w.cell? _ =_;simp[World.cell?,hb]at hu⊢;exact hu
     .cases hu
    .cases h
   .cases h
  |ref x off b o vs hS hlen hc hx=>
   simp only[qJ]at h;split at h
   .rename_i y hy;split at h
    .rename_i hsh;cases h;refine .ref y off b o vs (.inl hS) (by rw[hsh.1];exact hlen) hc (λj u c hu hcc=> ?_);obtain⟨b',hb',hf⟩:=cel hy hsh.1 hsh.2 j c hcc;exact hf u (hx j u b' hu hb')
    .cases h
   .cases h
  |sl full xs sz b o cap vs h1 h2 h3 h4 h5 h6 h7 h8=>
   simp only[qJ]at h;split at h
   .rename_i ys hys;split at h
    .rename_i hsh;cases h;obtain⟨hl,hat⟩:=OH hys;obtain⟨s1,s2⟩:=XL hsh h2;rw[<-hl];refine .sl full ys sz b o cap vs (λhy=> .inl (h1 (λe=>hy (by subst e;simpa using hl)))) s1 (by omega) h4 (λq=>by rw[h5 q,hl]) (by rw[hl];exact h6) h7 (λj u c hu hc=> ?_);obtain⟨i,k,x,y,e1,e2,e3,e4,e5,e6⟩:=s2 j c hc;obtain⟨x',hx',hf⟩:=hat i y e2;rw[e1]at hx';cases hx';obtain⟨b',hb',hff⟩:=cel hf e4.symm e3.symm k c e5;exact hff u (h8 j u b' hu (by rw[e6];exact GP h2 e1 k b' hb'))
    .cases h
   .cases h
  |slfn full f p=>
   simp only[qJ]at h;cases h;exact .slfn _ _ p
  |slf full m f sz b o cap vs h1 h2 h3 h4 h5 h6 h7 h8=>
   simp only[qJ]at h;cases h;exact Rd.slf_keep (g:=g) (g':=g.frz H g0) (λ_ q=>Or.inl q) (λ_ _ _ _ q=>q) h1 h2 h3 h4 h5 h6 h7 h8
  |osl l sz i len b o cap p1 p2 p3 p4 p5=>
   simp only[qJ]at h;split at h
   .rename_i ob ho;split at h
    .rename_i hc;obtain⟨c1,c2,c3⟩:=hc;split at h
     .rename_i cs hcs;obtain⟨_,_,c0,hb,q1,_,q3,q4⟩:=hs.own l ob ho;have q3':=q3 (by omega);have hrd:RdL (g.frz H g0) (((c0.toList.take ob.cells.length).drop (i*sz)).take (len*sz)) cs:=lst hcs ((q4.drop _).take _);have hmul:(i+len)*sz=i*sz+len*sz:=fN _ _ _;have hvl:(((c0.toList.take ob.cells.length).drop (i*sz)).take (len*sz)).length=len*sz:=by
       simp only[dX,cY,dH];omega
      have hcl:cs.length=len*sz:=by rw[<-hrd.1];exact hvl
      have fin:∀(xs:fU),xs.length=len->xs.flatMap T.cells=cs->(∀x∈xs,x.cells.length=sz)->Rd (g.frz H g0) (.slice (some ⟨b,o,none⟩) len cap) (.sl false xs):=by
       intro xs e1 e2 e3;subst e1;refine .sl false xs sz b o cap _ (λhx=> ?_) e3 p2 (by omega) (λq=>by cases q) hvl (λj u hu=> ?_) (λj u c hu hcc=>hrd.2 j u c hu (by rw[<-e2];exact hcc))
       .obtain⟨rfl,_⟩:=p4 (.inl (by cases xs with|nil=>exact absurd rfl hx|cons y ys=>simp));exact .inr ⟨l,ob,ho,rfl⟩
       .have hpos:0<xs.length:=by
         rcases Nat.eq_zero_or_pos xs.length with q|q
         .have hz:(((c0.toList.take ob.cells.length).drop (i*sz)).take (xs.length*sz)).length=0:=by rw[hvl,q,Nat.zero_mul]
          rw[cA hz]at hu;simp at hu
         .exact q
        obtain⟨rfl,rfl⟩:=p4 (.inl hpos);rw[bD]at hu;split at hu
        .rw[bZ,bD]at hu;split at hu
         .show g.w.cell? _ =_;simp[World.cell?,hb]at hu⊢;exact hu
         .cases hu
        .cases hu
      split at h
      .rename_i hs1;split at h
       .rename_i hag;cases h;subst hs1;obtain⟨f1,f2⟩:=TG cs hag;exact fin cs (by simpa using hcl) f1 f2
       .cases h
      .cases h;obtain⟨f1,f2,f3⟩:=LG sz len cs hcl;exact fin _ f3 f1 f2
     .cases h
    .cases h
   .cases h
  |fn f a c vs us h1 h2 h3 h4=>
   simp only[qJ]at h;split at h
   .rename_i a' c' ha hc;cases h;exact Rd.mk_fn (lst ha ⟨h1,h2⟩) (lst hc ⟨h3,h4⟩)
   .cases h
  |iface t v x hx=>
   simp only[qJ]at h;split at h
   .rename_i y hy;cases h;exact .iface t v y (ih1 x y v hy hx)
   .cases h
  |agg cs vs h1 h2=>
   simp only[qJ]at h;split at h
   .rename_i ds hds;cases h;exact Rd.mk_agg (lst hds ⟨h1,h2⟩)
   .cases h
  |tup cs vs h1 h2=>
   simp only[qJ]at h;split at h
   .rename_i ds hds;cases h;exact Rd.mk_tup (lst hds ⟨h1,h2⟩)
   .cases h
section
variable{P:fV}{E:tY}{F:Fc}
def pW(P:fV)(gl:fY)(f:gV)(ts:fU)(r:T):Prop:=
 vL P f=true/\∀(g:G) (vs:gM),rZ g->(∃N,∀l,N<=l->¬g.al l)->GlOk gl g->RdL g vs ts->
  Calls P f vs.toArray g.w λe w'=>∃v g',e= .returned v/\g'.w=w'/\PStep g g'/\rZ g'/\Rd g' v r
end
inductive RD(Y:Type)where
 |ok (a:Y) (ds log:gH)
 |need (c:Bool) (log:gH)
 |fail (why:Nat)
structure Ed where
 gl:Nat->Option T
 pd:Hp->FuncId->List T->Option (T×List Bool)
def Ll:Option T->Option (T×List Bool)
 |some r=>some (r,[])|none=>none
def LT(P:fV)(t:fS)(x i:T):Option (T×List Bool):=
 match i with
 | .int _ n=>
  match P.underlying t,x with
  |some (.slice e),.sl _ xs=>match vZ P e with
   |some s=>some (.ref (xs.getD n.toNat pV) 0,[decide (0<=n),decide (n<xs.length),decide ((xs.getD n.toNat pV).cells.length=s)])|none=>none
  |some (.slice e),.slf _ len f=>match vZ P e with
   |some s=>some (.ref (f n.toNat) 0,[decide (0<=n),decide (n<len),decide ((f n.toNat).cells.length=s)])|none=>none
  |some (.slice e),.osl l sz j len=>match vZ P e with
   |some s=>if sz=s then some (.ptr l ((j+n.toNat)*sz),[decide (0<=n),decide (n<len)])else none
   |none=>none
  |some (.array len e),x=>match vZ P e with
   |some s=>match aBr x (n.toNat*s)with
    |some y=>some (y,[decide (0<=n),decide (n<len)])|none=>none
   |none=>none
  |_,_ =>none
 |_ =>none
def Vf(P:fV)(t:fS)(x i:T):Option (T×List Bool):=
 match i with
 | .int _ n=>
  match P.underlying t,x with
  |some (.array len e),.agg cs=>match vZ P e with
   |some s=>match wN P e cs (n.toNat*s)with
    |some y=>some (y,[decide (0<=n),decide (n<len)])|none=>none
   |none=>none
  |some .string,.str s=>some (.int .u8 (s.getD n.toNat 0).toNat,[decide (0<=n),decide (n<s.length)])|_,_ =>none
 |_ =>none
def HK(x:jJ)(dflt top:Nat):Option (Nat×List Bool):=
 match x with
 |none=>some (dflt,[])|some (.int _ n)=>some (n.toNat,[decide (0<=n),decide (n<=top)])|some _ =>none
def Wp(P:fV)(t:fS)(x:T)(lo hi:jJ):Option (T×List Bool):=
 match P.underlying t,x with
 |some .string,.str s=>
  match HK hi s.length s.length with
  |some (h,c1)=>match HK lo 0 h with
   |some (l,c2)=>some (.str ((s.take h).drop l),c1++c2)|none=>none
  |none=>none
 |some (.slice e),.sl full xs=>
  match HK hi xs.length xs.length with
  |some (h,c1)=>match HK lo 0 h with
   |some (l,c2)=>match vZ P e with
    |some s=>some (.sl (full&&h==xs.length) ((xs.take h).drop l),c1++c2++[IJ s xs])|none=>none
   |none=>none
  |none=>none
 |some (.slice e),.slf full n f=>
  match HK hi n n with
  |some (h,c1)=>match HK lo 0 h with
   |some (l,c2)=>match vZ P e with
    |some s=>some (.slf (full&&h==n) (h-l) (λi=>f (l+i)),c1++c2++[decide ((f l).cells.length=s)])|none=>none
   |none=>none
  |none=>none
 |_,_ =>none
def aCu:T->Bool
 | .nili=>true|_ =>false
def aPz:T->Bool
 | .nili=>true| .iface .. =>true|_ =>false
def UQ(P:fV)(t:fS):Bool:=match P.underlying t with
 |some (.interface _)=>true|_ =>false
def Yj(P:fV)(xs ys:fU):List Field->Option Bool
 |[]=>some true
 |f::r=>match xs[f.offset]?,ys[f.offset]? with
  |some a,some b=>if f.name= "_" then none else match eq1 P f.type a b,Yj P xs ys r with
   |some b,some c=>some (b&&c)|_,_ =>none
  |_,_ =>none
def aWl(P:fV)(t:fS)(xs ys:fU):Option Bool:=
 if P.eqGuardType P.depth t then none else match P.underlying t with
  |some (.struct fs)=>if P.stoodInHeld t then none else Yj P xs ys fs.toList
  |_ =>none
def aVp(P:fV)(op:jX)(t:fS)(x y:T):Option (T×List Bool):=
 match op,x,y with
 | .quo,.int k a,.int k' b=>if k=k' then some (.int k (k.wrap (a.tdiv b)),[b !=0])else none
 | .rem,.int k a,.int k' b=>if k=k' then some (.int k (a.tmod b),[b !=0])else none
 | .add,.str a,.str b=>some (.str (a++b),[decide (a.length+b.length<=xA)])| .eql,x,.nili=>if UQ P t then some (.bool (aCu x),[aPz x])else none
 | .neq,x,.nili=>if UQ P t then some (.bool (!aCu x),[aPz x])else none
 | .neq,.agg xs,.agg ys=>match aWl P t xs ys with
  |some b=>some (.bool (!b),[])|none=>Ll (BR P .neq t (.agg xs) (.agg ys))
 |op,x,y=>Ll (BR P op t x y)
def aPy:T->Int
 | .int _ n=>n|_ =>0
def aTu(k:iE):T->Bool
 | .int k' _ =>decide (k'=k)|_ =>false
def aKc(P:fV)(H:Hp)(t:fS)(p:T):Option (T×List Bool):=
 match p with
 | .ptr l off=>match H.get l with
  |some o=>if o.sz=0 then Ll (wZ P H t p)else match P.underlying t with
   |some (.int k)=>some (.int k (aPy (o.cells.getD off pV)),[aTu k (o.cells.getD off pV),decide (off<o.cells.length),decide (KP P t=some false)])|_ =>Ll (wZ P H t p)
  |none=>none
 |p=>Ll (wZ P H t p)
def PZ(P:fV)(E:Ed)(own:Bool)(H:Hp)(fr:fU)(o:Oper):Option (T×List Bool):=
 let ev:=qG E.gl fr
 match o.op with
 | .indexAddr t x i=>match ev x,ev i with
  |some a,some b=>LT P t a b|_,_ =>none
 | .index t x i=>match ev x,ev i with
  |some a,some b=>Vf P t a b|_,_ =>none
 | .load t a=>match ev a with
  |some p=>aKc P H t p|none=>none
 | .binOp op t x y _ =>match ev x,ev y with
  |some a,some b=>if MA x y a b then aVp P op t a b else none
  |_,_ =>none
 | .slice t x lo hi mx=>match mx with
  |some _ =>none
  |none=>match ev x with
   |some a=>match OO ev lo,OO ev hi with
    |some l,some h=>Wp P t a l h|_,_ =>none
   |none=>none
 | .call c=>match c.callee with
  | .value f=>match ev f with
   |some (.fn (.func g) first cap)=>match uO E.gl fr c.args.toList with
    |some ars=>E.pd H g (first++ars++cap)
    |none=>none
   |_ =>none
  | .invoke _ _ =>none| .builtin _ =>Ll (zA P ⟨E.gl,λ_ _ _ =>none⟩ H fr c)
 |_ =>Ll (qK P ⟨E.gl,λ_ _ _ =>none⟩ own H fr o)
def UY(H:Hp)(l:Nat):Ob:=match H.get l with
 |some o=>o|none=>{elem:=0,sz:=0,cells:=[]}
def UD(H:Hp)(l k:Nat):Bool:=match H.get l with
 |some o=>decide (k<=o.cells.length)|none=>false
def Px(H:Hp)(l:Nat)(e:fS)(sz len:Nat):Bool:=match H.get l with
 |some o=>if o.sz=sz/\o.elem=e then decide (o.cells.length=len*sz)else false
 |none=>false
def Vg:T->Bool
 | .nils=>true|_ =>false
def aJo:T->Bool
 | .osl _ 1 0 _ =>true|_ =>false
def aJp(sz:Nat)(t:T):Bool:=match sz with
 |1=>aJo t
 |_ =>match t with
  | .osl _ s i _ =>s==sz&&i==0|_ =>false
def bCk(P:fV)(t:fS):Nat:=match P.underlying t with
 |some (.slice e)=>(vZ P e).getD 0|_ =>0
def Ih(H:Hp)(l off n:Nat):List T:=(List.range n).map λi=>(UY H l).cells.getD (off+i) pV
theorem Dp{H:Hp}{l off n:Nat}(h:off+n<=(UY H l).cells.length):Ih H l off n=((UY H l).cells.drop off).take n:=by
 unfold Ih;apply List.ext_getElem
 .simp;omega
 .intro i h1 h2;simp at h1;simp only[List.getElem_map,List.getElem_range,List.getElem_take,List.getElem_drop];rw[aW,aB (by omega)];rfl
def bPz:T->Nat
 | .osl l _ _ _ =>l|_ =>0
def bQa:T->Nat
 | .osl _ _ _ n=>n|_ =>0
def Hu(P:fV)(H:Hp)(t tx:fS)(s x:T):Option (T×Hp×List Bool):=
 match P.underlying t with
 |some (.slice e)=>
  match P.info? e,sL H x,yF x with
  |some i,some new,some m=>
   if i.size=0\/(i.zero.map λz=>z.cells.size)≠some i.size\/zX P tx i.size x=false then none else
   match s with
   | .nils=>if m=0 then some (.nils,H,[decide (new.length=m*i.size),rM new])else
     some (.osl H.next i.size 0 m,H.new {elem:=e,sz:=i.size,cells:=new},[decide (new.length=m*i.size),rM new,zP m i.bytes])
   | .sl true xs=>if m=0 then some (.sl true xs,H,[decide (new.length=m*i.size),rM new])else
     some (.osl H.next i.size 0 (xs.length+m),H.new {elem:=e,sz:=i.size,cells:=xs.flatMap T.cells++new},[decide (new.length=m*i.size),rM new,zP (xs.length+m) i.bytes,IJ i.size xs])
   | .osl l sz' 0 len=>if m=0 then some (.osl l sz' 0 len,H,[decide (new.length=m*i.size),rM new])else if sz'=i.size then
      some (.osl H.next i.size 0 (len+m),(H.drop l).new {elem:=e,sz:=i.size,cells:=(UY H l).cells++new},[decide (new.length=m*i.size),rM new,Px H l e i.size len,zP (len+m) i.bytes])else none
   |_ =>none
  |_,_,_ =>none
 |_ =>none
def LZ(P:fV)(H:Hp)(t:fS)(l c:T):Option (T×Hp×List Bool):=
 match P.underlying t,l,c with
 |some (.slice e),.int .i64 n,.int .i64 m=>
  match vZ P e,(P.info? e).map (·.bytes),yA P e with
  | some sz,some bytes,some z=>if 0<sz/\z.cells.length=sz then
    some (.osl H.next sz 0 n.toNat,H.new {elem:=e,sz:=sz,cells:=(List.replicate n.toNat z).flatMap T.cells},[decide (0<=n),decide (n=m),decide (n.toNat*bytes<=70368744177664),decide (n<=70368744177664)])else none
  |_,_,_ =>none
 |_,_,_ =>none
def Wu(P:fV)(H:Hp)(t:fS)(p x:T):Option (Hp×List Bool):=
 match p with
 | .ptr l off=>match vZ P t with
  |some n=>some (H.put l {UY H l with cells:=sI (UY H l).cells off x.cells},[decide (x.cells.length=n),UD H l (off+n),rM x.cells])
  |none=>none
 |_ =>none
def aWj(P:fV)(E:Ed)(F:Fc)(H:Hp)(fr:fU)(o:Oper):Option (T×Hp×List Bool):=
 let ev:=qG E.gl fr
 match o.op with
 | .store t p x=>match ev p,ev x with
  |some q,some y=>match Wu P H t q y with
   |some (H',c)=>some (pV,H',c)|none=>none
  |_,_ =>none
 | .makeSlice t l c=>match ev l,ev c with
  |some n,some m=>LZ P H t n m|_,_ =>none
 | .call c=>match c.callee with
  | .builtin .append=>match c.args.toList,c.argTypes.toList with
   |[s,x],[t,t']=>match ev s,ev x with
    |some a,some b=>if OU F.own o.dst then none else Hu P H t t' a b
    |_,_ =>none
   |_,_ =>none
  | .value f=>match ev f with
   |some (.fn (.func g) first cap)=>match uO E.gl fr c.args.toList with
    |some ars=>F.ed g (first++ars++cap) H
    |none=>none
   |_ =>none
  |_ =>aEy (xF P ⟨E.gl,λ_ _ _ =>none⟩ F H fr o)
 |_ =>aEy (xF P ⟨E.gl,λ_ _ _ =>none⟩ F H fr o)
def UK(own:Bool)(o:Oper):Bool:=
 match o.op with
 | .alloc _ | .store .. | .makeSlice .. =>true| .box .. | .buildSlice .. =>own
 | .call c=>match c.callee with
  | .builtin .append=>true| .value _ =>true|_ =>false
 |_ =>false
def Ed.env(D:Ed):tY:={gl:=D.gl,pe:=λH f ts=>match D.pd H f ts with
 |some (r,cs)=>if qA cs then some r else none
 |none=>none}
def LR(ops:fZ)(fr:fU)(o:Oper)(ds log:gH):RD Bool:=
 match o.guard with
 |none=> .ok true ds log
 |some (j,want)=>
  match((ops[j]?).bind (·.dst)).bind (λd=>bFv fr d)with
  |some (.bool b)=>match ds with
   |[]=> .need b log|d::ds'=> .ok (d==want) ds' ((if d then b else !b)::log)
  |_ => .ok false ds log
def Fk(P:fV)(E:Ed)(own:Bool)(H:Hp)(fr:fU)(o:Oper)(ds log:gH):RD (Option T):=
 match o.op with
 | .pick c a b=>match qG E.gl fr c with
  |some (.bool t)=>match ds with
   |[]=> .need t log
   |d::ds'=>match qG E.gl fr (if d then a else b)with
    |some v=> .ok (some v) ds' ((if d then t else !t)::log)
    |none=> .fail 30
  |_ => .fail 31
 | .load t a=>match own,qG E.gl fr a with
  |true,some (.ptr l off)=>match KP P t with
   |some true=>match vZ P t with
    |some n=> .ok (some (.agg (Ih H l off n))) ds (UD H l (off+n)::log)|none=> .fail 9
   |_ =>match ds with
    |[]=> .need (Vg ((UY H l).cells.getD off pV)) log
    | d::ds'=>if d then .ok (some .nils) ds' (Vg ((UY H l).cells.getD off pV)::UD H l (off+1)::decide (KP P t=some false)::log)
      else .ok (some (.osl (bPz ((UY H l).cells.getD off pV)) (bCk P t) 0 (bQa ((UY H l).cells.getD off pV)))) ds' (aJp (bCk P t) ((UY H l).cells.getD off pV)::UD H l (off+1)::decide (KP P t=some false)::log)
  |_,_ =>match PZ P E own H fr o with
   |some (v,c)=> .ok (some v) ds (c++log)|none=>if UK own o then .ok none ds log else .fail 9
 |_ =>match PZ P E own H fr o with
  |some (v,c)=> .ok (some v) ds (c++log)|none=>if UK own o then .ok none ds log else .fail 9
def ZB(P:fV)(E:Ed)(F:Fc)(ops:fZ)(s:Fx)(o:Oper)(ds log:gH):RD Fx:=
 match LR ops s.fr o ds log with
 | .ok true ds log=>
  match Fk P E (zO F o) s.H s.fr o ds log with
  | .ok (some v) ds log=> .ok {s with fr:=Bu s.fr o.dst v} ds log
  | .need c l=> .need c l| .fail n=> .fail n
  | .ok none ds log=>
   match tQ F o with
   |some (d,t)=>if s.pend.isSome then .fail 3 else match vZ P t,yA P t with
    |some n,some z=>if z.cells.length=n/\d<s.fr.length then .ok {s with fr:=aEi pV s.fr d,pend:=some (d,t)} ds log else .fail 1
    |_,_ => .fail 2
   |none=>match aWj P E F s.H s.fr o with
    |some (v,H',c)=> .ok {s with fr:=Bu s.fr o.dst v,H:=H'} ds (c++log)
    |none=> .fail 4
 | .ok false ds log=> .ok {s with fr:=Bu s.fr o.dst pV} ds log
 | .need c log=> .need c log| .fail n=> .fail n
def aBd(P:fV)(E:Ed)(F:Fc)(ops:fZ)(s:Fx)(o:Oper)(ds log:gH):RD Fx:=
 match s.pend with
 |none=>ZB P E F ops s o ds log
 |some (d,t)=>
  match o.op,o.dst,o.guard with
  | .store t' (.tmp d') x,none,none=>
   if d'=d then
    if t'=t/\GJ x d=true then
     match qG E.gl s.fr x,vZ P t with
     |some y,some n=> .ok (if F.own (d+1000)then{fr:=aEi (.ptr s.H.next 0) s.fr d,H:=s.H.new {elem:=t,sz:=0,cells:=y.cells},pend:=none}else{s with fr:=aEi (.ref y 0) s.fr d,pend:=none}) ds (decide (y.cells.length=n)::rM y.cells::log)
     |_,_ => .fail 5
    else .fail 6
   else if uW ops o d then .fail 7 else ZB P E F ops s o ds log
  |_,_,_ =>if uW ops o d then .fail 8 else ZB P E F ops s o ds log
def BB(P:fV)(E:Ed)(F:Fc)(ops:fZ):List Oper->Fx->List Bool->List Bool->RD Fx
 |[],s,ds,log=> .ok s ds log
 |o::rest,s,ds,log=>match aBd P E F ops s o ds log with
  | .ok s' ds' log'=>BB P E F ops rest s' ds' log'| .need c l=> .need c l| .fail n=> .fail n
def AC(P:fV)(E:Ed)(F:Fc)(ops:fZ):List Oper->Nat->Fx->List Bool->List Bool->RD Fx
 |[],_,s,ds,log=>match s.pend with
  |none=> .ok s ds log|some _ => .fail 10
 |o::rest,m,s,ds,log=>
  if CA ops s o then
   if rU (tL ops.toList []) m ops.size then BB P E F ops (o::rest) s ds log else .fail 11
  else if xP s o=false then .fail 12
  else match LR ops s.fr o ds log with
   | .ok true ds' log'=>
    match Fk P E (zO F o) s.H s.fr o ds' log' with
    | .ok (some v) ds' log'=>AC P E F ops rest (m+1) {s with fr:=Bu s.fr o.dst v} ds' log'
    | .need c l=> .need c l| .fail n=> .fail n
    | .ok none ds' log'=>match tQ F o with
     |some (d,t)=>if s.pend.isSome then .fail 17 else match vZ P t,yA P t with
      |some n,some z=>if z.cells.length=n then AC P E F ops rest (m+1) {s with fr:=aEi pV s.fr d,pend:=some (d,t)} ds' log' else .fail 13
      |_,_ => .fail 14
     |none=>if o.guard.isNone&&rU (tL ops.toList []) m ops.size then BB P E F ops (o::rest) s ds log else .fail 15
   | .ok false ds' log'=>AC P E F ops rest (m+1) {s with fr:=Bu s.fr o.dst pV} ds' log'
   | .need c l=> .need c l| .fail n=> .fail n
def qE(P:fV)(E:Ed)(F:Fc):Code->List T->Hp->List Bool->List Bool->RD (X×List T×Hp)
 | .skip,fr,H,ds,log| .label _,fr,H,ds,log=> .ok (.normal,fr,H) ds log
 | .region _ ops draw,fr,H,ds,log=>
  match(if draw then(if aQh ops then(match rW P E.env F ops fr H with
   |some s=> .ok s ds log|none=> .fail 99)else AC P E F ops ops.toList 0 ⟨fr,H,none⟩ ds log)else BB P E F ops ops.toList ⟨fr,H,none⟩ ds log)with
  | .ok ⟨fr',H',none⟩ ds' log'=> .ok (.normal,fr',H') ds' log'| .ok _ _ _ => .fail 20| .need c l=> .need c l| .fail n=> .fail n
 | .seq a b,fr,H,ds,log=>match qE P E F a fr H ds log with
  | .ok (.normal,fr',H') ds' log'=>qE P E F b fr' H' ds' log'|r=>r
 | .cond c a b,fr,H,ds,log=>match qG E.gl fr c with
  |some (.bool t)=>match ds with
   |[]=> .need t log|d::ds'=>if d then qE P E F a fr H ds' (t::log)else qE P E F b fr H ds' ((!t)::log)
  |_ => .fail 21
 | .block id c,fr,H,ds,log=>match qE P E F c fr H ds log with
  | .ok (.exit id',fr',H') ds' log'=>if id'=id then .ok (.normal,fr',H') ds' log' else .ok (.exit id',fr',H') ds' log'
  |r=>r
 | .scope c,fr,H,ds,log=>qE P E F c fr H ds log| .exit id,fr,H,ds,log=> .ok (.exit id,fr,H) ds log| .ret,fr,H,ds,log=> .ok (.ret,fr,H) ds log|_,_,_,_,_ => .fail 22
end
theorem uK{a b:gH}:qA (a++b)=(qA a&&qA b):=by
 induction a with
 |nil=>simp[qA]|cons x a ih=>simp[qA,ih,Bool.and_assoc]
section
variable{P:fV}{D:Ed}{F:Fc}
theorem Bm{t:fS}{x i v:T}{c:gH}(h:LT P t x i=some (v,c))(hc:qA c=true):sP P t x i=some v:=by
 unfold LT at h;unfold sP;split at h
 .rename_i k n;split at h
  .rename_i e full xs hd;split at h
   .rename_i s hs;simp only[aC,aU]at h;obtain⟨rfl,rfl⟩:=h;simp only[qA,bC,aA,aJ]at hc;obtain⟨h1,h2,h3⟩:=hc;have hlt:n.toNat<xs.length:=by omega
    have e:xs.getD n.toNat pV=xs[n.toNat]:=by simp[hlt]
    rw[e]at h3⊢;simp[hd,h1,hlt,hs,h3]
   .cases h
  .rename_i e full len f hd;split at h
   .rename_i s hs;simp only[aC,aU]at h;obtain⟨rfl,rfl⟩:=h;simp only[qA,bC,aA,aJ]at hc;obtain⟨h1,h2,h3⟩:=hc;simp[hd,h1,h2,hs,h3]
   .cases h
  .rename_i e l sz j len hd;split at h
   .rename_i s hs;split at h
    .rename_i hsz;simp only[aC,aU]at h;obtain⟨rfl,rfl⟩:=h;simp only[qA,bC,aA,aJ]at hc;simp[hd,hc.1,hc.2,hs,hsz]
    .cases h
   .cases h
  .rename_i len e hd;split at h
   .rename_i s hs;split at h
    .rename_i y hy;simp only[aC,aU]at h;obtain⟨rfl,rfl⟩:=h;simp only[qA,bC,aA,aJ]at hc;simp[hd,hc.1,hc.2,hs,hy]
    .cases h
   .cases h
  .cases h
 .cases h
theorem aCs{t:fS}{x i v:T}{c:gH}(h:Vf P t x i=some (v,c))(hc:qA c=true):GC P t x i=some v:=by
 unfold Vf at h;unfold GC;split at h
 .rename_i k n;split at h
  .rename_i len e cs hd;split at h
   .rename_i s hs;split at h
    .rename_i y hy;simp only[aC,aU]at h;obtain⟨rfl,rfl⟩:=h;simp only[qA,bC,aA,aJ]at hc;simp[hd,hc.1,hc.2,hs,hy]
    .cases h
   .cases h
  .rename_i s hd;simp only[aC,aU]at h;obtain⟨rfl,rfl⟩:=h;simp only[qA,bC,aA,aJ]at hc;have hlt:n.toNat<s.length:=by omega
   simp[hd,hc.1,hlt]
  .cases h
 .cases h
theorem CJ{x:jJ}{dflt top r:Nat}{c:gH}(h:HK x dflt top=some (r,c))(hc:qA c=true):vU x dflt top=some r:=by
 unfold HK at h;unfold vU;split at h
 .simp only[aC,aU]at h;simp[h.1]
 .simp only[aC,aU]at h;obtain⟨rfl,rfl⟩:=h;simp only[qA,bC,aA,aJ]at hc;simp[hc.1,hc.2]
 .cases h
theorem aEm{t:fS}{x v:T}{lo hi:jJ}{c:gH}(h:Wp P t x lo hi=some (v,c))(hc:qA c=true):AJ P t x lo hi=some v:=by
 unfold Wp at h;unfold AJ;split at h
 .rename_i s hd;split at h
  .rename_i hh c1 eh;split at h
   .rename_i l c2 el;simp only[aC,aU]at h;obtain⟨rfl,rfl⟩:=h;rw[uK,aA]at hc;simp[hd,CJ eh hc.1,CJ el hc.2]
   .cases h
  .cases h
 .rename_i e full xs hd;split at h
  .rename_i hh c1 eh;split at h
   .rename_i l c2 el;split at h
    .rename_i s hs;simp only[aC,aU]at h;obtain⟨rfl,rfl⟩:=h;rw[uK,uK,aA,aA]at hc;obtain⟨⟨h1,h2⟩,h3⟩:=hc;simp only[qA,bC]at h3;simp[hd,CJ eh h1,CJ el h2,hs,h3]
    .cases h
   .cases h
  .cases h
 .rename_i e full n f hd;split at h
  .rename_i hh c1 eh;split at h
   .rename_i l c2 el;split at h
    .rename_i s hs;simp only[aC,aU]at h;obtain⟨rfl,rfl⟩:=h;rw[uK,uK,aA,aA]at hc;obtain⟨⟨h1,h2⟩,h3⟩:=hc;simp only[qA,bC,aJ]at h3;simp[hd,CJ eh h1,CJ el h2,hs,h3]
    .cases h
   .cases h
  .cases h
 .cases h
theorem GU{q:jJ}{v:T}{c:gH}(h:Ll q=some (v,c)):q=some v:=by
 cases q with
 |none=>cases h|some r=>simp only[Ll,aC,aU]at h;rw[h.1]
theorem aBh{q:Option (T×Hp)}{v:T}{H:Hp}{c:gH}(h:aEy q=some (v,H,c)):q=some (v,H):=by
 cases q with
 |none=>cases h|some r=>simp only[aEy,aC,aU]at h;rw[<-h.1,<-h.2.1]
theorem Nt{xs ys:fU}:∀(fs:List Field) (r:Bool),Yj P xs ys fs=some r->Uu P xs ys fs=some r
 |[],r,h=>h
 |f::fs,r,h=>by
  unfold Yj at h;unfold Uu;split at h
  .rename_i a b ha hb;simp only[ha,hb];split at h
   .cases h
   .rename_i hn;rw[if_neg hn];split at h
    .rename_i x c hx hc;simp only[aC]at h;subst h;rw[hx];cases x with
     |true=>simpa using Nt fs c hc|false=>rfl
    .cases h
  .cases h
theorem aPe{t:fS}{xs ys:fU}{r:Bool}(h:aWl P t xs ys=some r):eqS P t (.agg xs) (.agg ys)=some r:=by
 unfold aWl at h;unfold eqS eqK;split at h
 .cases h
 .rename_i hg;simp only[hg,if_false];split at h
  .rename_i fs hf;rw[hf];split at h
   .cases h
   .rename_i hs;simp only[hs,if_false];exact Nt _ _ h
  .cases h
theorem aOb{op:jX}{t:fS}{x y v:T}{c:gH}(h:aVp P op t x y=some (v,c))(hc:qA c=true):BR P op t x y=some v:=by
 unfold aVp at h;split at h
 .split at h
  .rename_i hk;simp only[aC,aU]at h;obtain⟨rfl,rfl⟩:=h;simp only[qA,bC,bne_iff_ne]at hc;simp[BR,xR,hk,hc]
  .cases h
 .split at h
  .rename_i hk;simp only[aC,aU]at h;obtain⟨rfl,rfl⟩:=h;simp only[qA,bC,bne_iff_ne]at hc;simp[BR,xR,hk,hc]
  .cases h
 .simp only[aC,aU]at h;obtain⟨rfl,rfl⟩:=h;simp only[qA,bC,aJ]at hc;simp[BR,GT,hc]
 .split at h
  .rename_i ht;simp only[aC,aU]at h;obtain⟨rfl,rfl⟩:=h;simp only[qA,bC]at hc;unfold UQ at ht;split at ht
   .rename_i ms hu;cases x<;>simp[aPz]at hc
    .simp[BR,eqS,PW,hu,aCu]
    .simp[BR,eqS,PW,hu,aCu]
   .cases ht
  .cases h
 .split at h
  .rename_i ht;simp only[aC,aU]at h;obtain⟨rfl,rfl⟩:=h;simp only[qA,bC]at hc;unfold UQ at ht;split at ht
   .rename_i ms hu;cases x<;>simp[aPz]at hc
    .simp[BR,eqS,PW,hu,aCu]
    .simp[BR,eqS,PW,hu,aCu]
   .cases ht
  .cases h
 .split at h
  .rename_i b hb;simp only[aC,aU]at h;obtain⟨rfl,rfl⟩:=h;simp only[BR,aPe hb];rfl
  .exact GU h
 .exact GU h
theorem aKd{H:Hp}{t:fS}{p v:T}{c:gH}(h:aKc P H t p=some (v,c))(hc:qA c=true):wZ P H t p=some v:=by
 unfold aKc at h;split at h
 .rename_i l off;split at h
  .rename_i o ho;split at h
   .exact GU h
   .split at h
    .rename_i k hk;simp only[aC,aU]at h;obtain⟨rfl,rfl⟩:=h;simp only[qA,aA,bC,aJ]at hc;obtain⟨h1,h2,h3⟩:=hc;simp only[wZ,wI,ho,wN,h3];rw[aW,aB h2]at h1⊢;simp only[fL]at h1⊢;generalize o.cells[off]=y at h1;cases y<;>simp only[aTu,aY,aJ]at h1;subst h1;rfl
    .exact GU h
  .cases h
 .exact GU h
theorem Dz{own:Bool}{H:Hp}{fr:fU}{o:Oper}{v:T}{c:gH}(h:PZ P D own H fr o=some (v,c))(hc:qA c=true):qK P D.env own H fr o=some v:=by
 obtain⟨dst,op,type,pos,after,guard⟩:=o;cases op<;>simp only[PZ]at h
 case indexAddr t x i=>
  simp only[qK];split at h
  .rename_i p q hp hq;simp only[Ed.env];rw[hp,hq];exact Bm h hc
  .cases h
 case index t x i=>
  simp only[qK];split at h
  .rename_i p q hp hq;simp only[Ed.env];rw[hp,hq];exact aCs h hc
  .cases h
 case binOp op t x y t'=>
  simp only[qK];split at h
  .rename_i p q hp hq;simp only[Ed.env];rw[hp,hq];split at h
   .rename_i hn;simp only;rw[if_pos hn];exact aOb h hc
   .cases h
  .cases h
 case load t a=>
  simp only[qK];split at h
  .rename_i p hp;simp only[Ed.env];rw[hp];exact aKd h hc
  .cases h
 case slice t x lo hi mx=>
  simp only[qK];cases mx with
  |some m=>cases h
  |none=>
   simp only at h⊢;split at h
   .rename_i p hp;simp only[Ed.env];rw[hp];simp only;split at h
    .rename_i l hh hl hhi;rw[hl,hhi];exact aEm h hc
    .cases h
   .cases h
 case call cl=>
  simp only[qK];obtain⟨callee,args,tys⟩:=cl;cases callee with
  |value f=>
   simp only at h;simp only[zA];split at h
   .rename_i k first cap hf
    split at h
    .rename_i ars has;simp only[Ed.env]at*;rw[hf];simp only;rw[has];simp only[h,hc,if_true]
    .cases h
   .cases h
  |invoke r m=>cases h|builtin b=>exact GU h
 all_goals exact GU h
theorem DN{own:Bool}{H:Hp}{fr:fU}{o:Oper}(h:PZ P D own H fr o=none)(hk:UK own o=true):qK P D.env own H fr o=none:=by
 obtain⟨dst,op,type,pos,after,guard⟩:=o;cases op<;>simp only[UK,aY]at hk<;>simp only[qK]
 case box=>simp[hk]
 case buildSlice=>simp[hk]
 case call cl=>
  obtain⟨callee,args,tys⟩:=cl;cases callee with
  |value f=>
   simp only[PZ]at h;simp only[zA,Ed.env]at*;split at h
   .rename_i k first cap hf
    rw[hf];simp only;split at h
    .rename_i ars has;rw[has];simp only[h]
    .rename_i has;rw[has]
   .rename_i hne;split
    .rename_i k first cap hf;exact absurd hf (hne k first cap)
    .rfl
  |invoke r m=>cases hk
  |builtin b=>
   cases b<;>simp at hk;simp[zA]
theorem Tq{H H':Hp}{t tx:fS}{s x v:T}{c:gH}(h:Hu P H t tx s x=some (v,H',c))(hc:qA c=true):uL P H t tx s x=some (v,H'):=by
 unfold Hu at h;unfold uL;split at h
 .rename_i e hd;split at h
  .rename_i i new m hi hsrc hm;split at h
   .cases h
   .rename_i hn;simp only[not_or]at hn;obtain⟨n1,n2,n3⟩:=hn;rw[hd];simp only;rw[hi,hsrc,hm];simp only;have hcond:new.length=m*i.size/\rM new=true->¬(i.size=0\/new.length≠m*i.size\/rM new=false\/(i.zero.map λz=>z.cells.size)≠some i.size\/zX P tx i.size x=false):=by
     rintro⟨q1,q2⟩ (q|q|q|q|q)
     .exact n1 q
     .exact q q1
     .rw[q2]at q;cases q
     .exact n2 q
     .exact n3 q
    split at h
    .split at h
     .rename_i hm0;simp only[aC,aU]at h;obtain⟨rfl,rfl,rfl⟩:=h;simp only[qA,bC,aA,aJ]at hc;rw[if_neg (hcond hc)];simp only;rw[if_pos hm0]
     .rename_i hm0;simp only[aC,aU]at h;obtain⟨rfl,rfl,rfl⟩:=h;simp only[qA,bC,aA,aJ]at hc;rw[if_neg (hcond ⟨hc.1,hc.2.1⟩)];simp only;rw[if_neg hm0,if_pos hc.2.2]
    .split at h
     .rename_i hm0;simp only[aC,aU]at h;obtain⟨rfl,rfl,rfl⟩:=h;simp only[qA,bC,aA,aJ]at hc;rw[if_neg (hcond hc)];simp only;rw[if_pos hm0]
     .rename_i hm0;simp only[aC,aU]at h;obtain⟨rfl,rfl,rfl⟩:=h;simp only[qA,bC,aA,aJ]at hc;rw[if_neg (hcond ⟨hc.1,hc.2.1⟩)];simp only;rw[if_neg hm0,if_pos (by rw[hc.2.2.1,hc.2.2.2];rfl)]
    .split at h
     .rename_i hm0;simp only[aC,aU]at h;obtain⟨rfl,rfl,rfl⟩:=h;simp only[qA,bC,aA,aJ]at hc;rw[if_neg (hcond hc)];simp only;rw[if_pos hm0]
     .rename_i hm0;split at h
      .rename_i hcc;simp only[aC,aU]at h;obtain⟨rfl,rfl,rfl⟩:=h;simp only[qA,bC,aA,aJ]at hc;rw[if_neg (hcond ⟨hc.1,hc.2.1⟩)];simp only;rw[if_neg hm0];have hq:=hc.2.2.1;unfold Px at hq;unfold UY;split at hq
       .rename_i o ho;split at hq
        .rename_i ho2;rw[ho];simp only;rw[if_pos ⟨hcc,ho2.1,ho2.2,by simpa using hq,hc.2.2.2⟩]
        .cases hq
       .cases hq
      .cases h
    .cases h
  .cases h
 .cases h
theorem Br{H H':Hp}{t:fS}{l k v:T}{c:gH}(h:LZ P H t l k=some (v,H',c))(hc:qA c=true):tG P H t l k=some (v,H'):=by
 unfold LZ at h;unfold tG;split at h
 .rename_i e n m hd;split at h
  .rename_i sz bytes z hs hb hz;split at h
   .rename_i hcc;simp only[aC,aU]at h;obtain⟨rfl,rfl,rfl⟩:=h;simp only[qA,bC,aA,aJ]at hc;rw[hd];simp only;rw[hs,hb,hz];simp only;rw[if_pos ⟨hcc.1,hcc.2,hc.1,hc.2.1,hc.2.2.1,hc.2.2.2⟩]
   .cases h
  .cases h
 .cases h
theorem aEs{H H':Hp}{t:fS}{p x:T}{c:gH}(h:Wu P H t p x=some (H',c))(hc:qA c=true):wF P H t p x=some H':=by
 unfold Wu at h;unfold wF;split at h
 .split at h
  .rename_i n hn;simp only[aC,aU]at h;obtain⟨rfl,rfl⟩:=h;simp only[qA,bC,aA,aJ]at hc;have hq:=hc.2.1;unfold UD at hq;unfold UY;simp only;split at hq
   .rename_i o ho;rw[hn,ho];simp only;rw[if_pos ⟨hc.1,by simpa using hq,hc.2.2⟩]
   .cases hq
  .cases h
 .cases h
theorem aPb{H H':Hp}{fr:fU}{o:Oper}{v:T}{c:gH}(h:aWj P D F H fr o=some (v,H',c))(hc:qA c=true):xF P D.env F H fr o=some (v,H'):=by
 obtain⟨dst,op,type,pos,after,guard⟩:=o;cases op<;>simp only[aWj]at h
 case store t p x=>
  simp only[xF];split at h
  .rename_i q y hq hy;simp only[Ed.env];rw[hq,hy];simp only;split at h
   .rename_i H1 c1 hs;simp only[aC,aU]at h;obtain⟨rfl,rfl,rfl⟩:=h;rw[aEs hs hc]
   .cases h
  .cases h
 case makeSlice t l k=>
  simp only[xF];split at h
  .rename_i q y hq hy;simp only[Ed.env];rw[hq,hy];exact Br h hc
  .cases h
 case call cl=>
  obtain⟨callee,args,tys⟩:=cl;simp only at h;split at h
  .simp only[xF];split at h
   .rename_i s x t0 t1 hargs htys;split at h
    .rename_i p q hp hq;rw[hargs,htys];simp only[Ed.env];rw[hp,hq];simp only;split at h
     .cases h
     .rename_i hpa;unfold WB;rw[if_neg hpa];exact Tq h hc
    .cases h
   .cases h
  .simp only[xF];split at h
   .rename_i g first cap hf
    split at h
    .rename_i ars has;simp only[Ed.env];rw[hf,has];simp only[Fc.ee,h];rw[if_pos hc]
    .cases h
   .cases h
  .have h':=aBh h;simp only[xF]at h'⊢;exact h'
 all_goals exact aBh h
theorem xJ{ops:fZ}{fr:fU}{o:Oper}{ds log ds' log':gH}{b:Bool}(h:LR ops fr o ds log= .ok b ds' log')(hl:qA log'=true):qH ops fr o=b/\qA log=true:=by
 unfold LR at h;simp only[Zy]at h;unfold qH BJ;split at h
 .rename_i hg;rw[hg];cases h;exact⟨rfl,hl⟩
 .rename_i j want hg;rw[hg];simp only;split at h
  .rename_i t ht;rw[ht];simp only;split at h
   .cases h
   .rename_i d ds1;cases h;simp only[qA,aA]at hl;refine⟨?_,hl.2⟩;have h1:=hl.1;cases d<;>cases t<;>simp at h1⊢
  .rename_i hne;cases h;refine⟨?_,hl⟩;split
   .rename_i t ht;exact absurd ht (hne t)
   .rfl
theorem JC{own:Bool}{H:Hp}{fr:fU}{o:Oper}{ds log ds' log':gH}{q:jJ}(h:Fk P D own H fr o ds log= .ok q ds' log')(hl:qA log'=true):qK P D.env own H fr o=q/\qA log=true:=by
 unfold Fk at h;split at h
 .rename_i c a b ho;split at h
  .rename_i t ht;split at h
   .cases h
   .rename_i d ds1;split at h
    .rename_i v hv;cases h;simp only[qA,aA]at hl;refine⟨?_,hl.2⟩;simp only[qK,ho,Ed.env];rw[ht];simp only;have h1:=hl.1;cases d with
     |true=>simp only[if_true]at h1 hv;rw[h1];simpa using hv
     |false=>
      simp only[aY,if_false,bW]at h1 hv;rw[h1];simpa using hv
    .cases h
  .cases h
 .rename_i t x ho;split at h
  .rename_i l off hx;split at h
   .rename_i hag;split at h
    .rename_i n hn;cases h;simp only[qA,aA]at hl;refine⟨?_,hl.2⟩;have h1:=hl.1;have hE:qK P D.env true H fr o=wZ P H t (.ptr l off):=by
      simp only[qK,ho,Ed.env];rw[hx]
     rw[hE];simp only[wZ,wI];have hc:= @Dp H l off n;unfold UD at h1;unfold UY at hc;split at h1
     .rename_i ob hob;rw[hob]at hc⊢;simp only[aJ]at h1;simp only[wN,hag,hn];rw[if_pos h1,hc h1]
     .cases h1
    .cases h
   .split at h
    .cases h
    .rename_i d ds1;have hload:∀y,(UY H l).cells.getD off pV=y->UD H l (off+1)=true->decide (KP P t=some false)=true->qK P D.env true H fr o=some y:=by
      intro y hy h1 h2;simp only[qK,ho,Ed.env];rw[hx];simp only[aJ]at h2;simp only[wZ,wI];unfold UD at h1;unfold UY at hy;split at h1
      .rename_i ob hob;rw[hob]at hy⊢;simp only[aJ]at h1;simp only[wN,h2];simp only at hy;rw[<-hy,aW,aB (by omega)];rfl
      .cases h1
     split at h
     .cases h;simp only[qA,aA]at hl;refine⟨hload _ ?_ hl.2.1 hl.2.2.1,hl.2.2.2⟩;have:=hl.1;generalize (UY H l).cells.getD off pV=y at this;cases y<;>simp[Vg]at this;rfl
     .cases h;simp only[qA,aA]at hl;refine⟨hload _ ?_ hl.2.1 hl.2.2.1,hl.2.2.2⟩;have:=hl.1;generalize (UY H l).cells.getD off pV=y at this⊢;unfold aJp at this;split at this
      .rename_i e1;rw[e1];unfold aJo at this;split at this
       .rfl
       .cases this
      .split at this
       .simp only[aA,beq_iff_eq]at this;obtain⟨rfl,rfl⟩:=this;rfl
       .cases this
  .split at h
   .rename_i v c hv;cases h;rw[uK,aA]at hl;exact⟨Dz hv hl.1,hl.2⟩
   .rename_i hv;split at h
    .rename_i hk;cases h;exact⟨DN hv hk,hl⟩
    .cases h
 .split at h
  .rename_i v c hv;cases h;rw[uK,aA]at hl;exact⟨Dz hv hl.1,hl.2⟩
  .rename_i hv;split at h
   .rename_i hk;cases h;exact⟨DN hv hk,hl⟩
   .cases h
theorem Vv{own:Bool}{H:Hp}{fr:fU}{o:Oper}{ds log ds' log':gH}(h:Fk P D own H fr o ds log= .ok none ds' log'):qK P D.env own H fr o=none:=by
 unfold Fk at h;split at h
 .split at h
  .split at h
   .cases h
   .split at h<;>cases h
  .cases h
 .split at h
  .split at h
   .split at h<;>cases h
   .split at h
    .cases h
    .split at h<;>cases h
  .split at h
   .cases h
   .rename_i hv;split at h
    .rename_i hk;exact DN hv hk
    .cases h
 .split at h
  .cases h
  .rename_i hv;split at h
   .rename_i hk;exact DN hv hk
   .cases h
end
section
variable{P:fV}{D:Ed}{F:Fc}
theorem SA{ops:fZ}{s s':Fx}{o:Oper}{ds log ds' log':gH}(hp:ZB P D F ops s o ds log= .ok s' ds' log')(hl:qA log'=true):tU P D.env F ops s o=some s'/\qA log=true:=by
 unfold ZB at hp;simp only[Kk,PC]at hp;unfold tU;split at hp
 .rename_i ds1 log1 hg;split at hp
  .rename_i v ds2 log2 hv;cases hp;obtain⟨h1,h2⟩:=JC hv hl;obtain⟨hw,hlog⟩:=xJ hg h2;rw[if_pos hw,h1];exact⟨rfl,hlog⟩
  .cases hp
  .cases hp
  .rename_i ds2 log2 hv;split at hp
   .rename_i d t hal;rw[hal];simp only;split at hp
    .cases hp
    .rename_i hpn;split at hp
     .rename_i n z hn hz;split at hp
      .rename_i hcc;cases hp;obtain⟨h1,h2⟩:=JC hv hl;obtain⟨hw,hlog⟩:=xJ hg h2;rw[if_pos hw,h1];simp only;rw[if_neg hpn,hn,hz];simp only;rw[if_pos hcc];exact⟨rfl,hlog⟩
      .cases hp
     .cases hp
   .rename_i hal;rw[hal];simp only;split at hp
    .rename_i v H1 c hef;cases hp;rw[uK,aA]at hl;obtain⟨h1,h2⟩:=JC hv hl.2;obtain⟨hw,hlog⟩:=xJ hg h2;rw[if_pos hw,h1,aPb hef hl.1];exact⟨rfl,hlog⟩
    .cases hp
 .rename_i ds1 log1 hg;cases hp;obtain⟨hw,hlog⟩:=xJ hg hl;rw[if_neg (by simp[hw])];exact⟨rfl,hlog⟩
 .cases hp
 .cases hp
theorem Rt{ops:fZ}{s s':Fx}{o:Oper}{ds log ds' log':gH}(h:aBd P D F ops s o ds log= .ok s' ds' log')(hl:qA log'=true):sE P D.env F ops s o=some s'/\qA log=true:=by
 unfold aBd at h;simp only[PC]at h;unfold sE;split at h
 .rename_i hpn;rw[hpn];exact SA h hl
 .rename_i d t hpn;rw[hpn];simp only;split at h
  .rename_i t' d' x ho hd hgd;rw[ho,hd,hgd];simp only;split at h
   .rename_i e;rw[if_pos e];split at h
    .rename_i hc;rw[if_pos hc];split at h
     .rename_i y n hy hn;cases h;simp only[qA,aA,aJ]at hl;simp only[Ed.env];rw[hy,hn];simp only;rw[if_pos ⟨hl.1,hl.2.1⟩];exact⟨rfl,hl.2.2⟩
     .cases h
    .cases h
   .rename_i e;rw[if_neg e];split at h
    .cases h
    .rename_i ht;rw[if_neg ht];exact SA h hl
  .rename_i q;split at h
   .cases h
   .rename_i ht;have hp:=SA h hl;split
    .rename_i t' d' x ho hd hgd;exact(q t' d' x ho hd hgd).elim
    .rw[if_neg ht];exact hp
theorem OZ{ops:fZ}:∀{l:gW} {s s':Fx} {ds log ds' log':gH},BB P D F ops l s ds log= .ok s' ds' log'->qA log'=true->qL P D.env F ops l s=some s'/\qA log=true
 |[],s,s',ds,log,ds',log',h,hl=>by
  simp only[BB]at h;cases h;exact⟨rfl,hl⟩
 |o::l,s,s',ds,log,ds',log',h,hl=>by
  simp only[BB]at h;split at h
  .rename_i s1 ds1 log1 hs;obtain⟨h1,h2⟩:=OZ h hl;obtain⟨h3,h4⟩:=Rt hs h2;exact⟨by simp only[qL,h3,h1],h4⟩
  .cases h
  .cases h
theorem NT{ops:fZ}:∀{l:gW} {m:Nat} {s s':Fx} {ds log ds' log':gH},AC P D F ops l m s ds log= .ok s' ds' log'->qA log'=true->qQ P D.env F ops l m s=some s'/\qA log=true
 |[],m,s,s',ds,log,ds',log',h,hl=>by
  simp only[AC]at h;split at h
  .rename_i hp;cases h;exact⟨by simp only[qQ,hp],hl⟩
  .cases h
 |o::l,m,s,s',ds,log,ds',log',h,hl=>by
  simp only[AC,Kk,PC]at h;simp only[qQ];split at h
  .rename_i hhit;rw[if_pos hhit];split at h
   .rename_i hc;rw[if_pos hc];exact OZ h hl
   .cases h
  .rename_i hhit;rw[if_neg hhit];split at h
   .cases h
   .rename_i hdst;rw[if_neg hdst];split at h
    .rename_i ds1 log1 hg;split at h
     .rename_i v ds2 log2 hv;obtain⟨h1,h2⟩:=NT h hl;obtain⟨h3,h4⟩:=JC hv h2;obtain⟨hw,hlog⟩:=xJ hg h4;rw[if_pos hw,h3];exact⟨h1,hlog⟩
     .cases h
     .cases h
     .rename_i ds2 log2 hv;split at h
      .rename_i d t hal;rw[hal];simp only;split at h
       .cases h
       .rename_i hpn;split at h
        .rename_i n z hn hz;split at h
         .rename_i hcc;obtain⟨h1,h2⟩:=NT h hl;obtain⟨h3,h4⟩:=JC hv h2;obtain⟨hw,hlog⟩:=xJ hg h4;rw[if_pos hw,h3];simp only;rw[if_neg hpn,hn,hz];simp only;rw[if_pos hcc];exact⟨h1,hlog⟩
         .cases h
        .cases h
      .rename_i hal;rw[hal];simp only;split at h
       .rename_i hc;rw[aA]at hc;obtain⟨h1,h2⟩:=OZ h hl;refine⟨?_,h2⟩;have hgn:o.guard=none:=by simpa using hc.1
        have hw:qH ops s.fr o=true:=by simp[qH,hgn]
        have hnone:qK P D.env (zO F o) s.H s.fr o=none:=by
         have hg':LR ops s.fr o ds log= .ok true ds log:=by simp[LR,hgn]
         rw[hg']at hg;cases hg;exact Vv hv
        rw[if_pos hw,hnone,if_pos hc.2];exact h1
       .cases h
    .rename_i ds1 log1 hg;obtain⟨h1,h2⟩:=NT h hl;obtain⟨hw,hlog⟩:=xJ hg h2;rw[if_neg (by simp[hw])];exact⟨h1,hlog⟩
    .cases h
    .cases h
theorem AZ(n:Nat):∀{c:Code} {fr fr':fU} {H H':Hp} {x:X} {ds log ds' log':gH},qE P D F c fr H ds log= .ok (x,fr',H') ds' log'->qA log'=true->pU P D.env F n c fr H=some (x,fr',H')/\qA log=true:=by
 intro c
 induction c with
 |skip=>intro fr fr' H H' x ds log ds' log' h hl;simp only[qE]at h;cases h;exact⟨rfl,hl⟩|label l=>intro fr fr' H H' x ds log ds' log' h hl;simp only[qE]at h;cases h;exact⟨rfl,hl⟩|exit id=>intro fr fr' H H' x ds log ds' log' h hl;simp only[qE]at h;cases h;exact⟨rfl,hl⟩|ret=>intro fr fr' H H' x ds log ds' log' h hl;simp only[qE]at h;cases h;exact⟨rfl,hl⟩
 |region id ops draw=>
  intro fr fr' H H' x ds log ds' log' h hl;simp only[qE]at h;simp only[pU];split at h
  .rename_i f1 h1 ds1 log1 hr;cases h;cases draw with
   |false=>
    simp only[aY,if_false]at hr⊢;obtain⟨a,b⟩:=OZ hr hl;rw[a];exact⟨rfl,b⟩
   |true=>
    simp only[if_true]at hr⊢;split at hr
    .split at hr
     .rename_i s hs;cases hr;rw[hs];exact⟨rfl,hl⟩
     .cases hr
    .rename_i hlt;obtain⟨a,b⟩:=NT hr hl;have a':rW P D.env F ops fr H=some ⟨fr',H',none⟩:=by unfold rW;rw[if_neg hlt];exact a
     rw[a'];exact⟨rfl,b⟩
  .cases h
  .cases h
  .cases h
 |seq c1 c2 ih1 ih2=>
  intro fr fr' H H' x ds log ds' log' h hl;simp only[qE]at h;simp only[pU];split at h
  .rename_i f1 h1 ds1 log1 hr;obtain⟨a,b⟩:=ih2 h hl;obtain⟨a1,b1⟩:=ih1 hr b;rw[a1];exact⟨a,b1⟩
  .rename_i hr;obtain⟨a1,b1⟩:=ih1 h hl;rw[a1];cases x with
   |normal=>exact absurd h (hr _ _ _ _)|exit id=>exact⟨rfl,b1⟩|ret=>exact⟨rfl,b1⟩
 |cond o c1 c2 ih1 ih2=>
  intro fr fr' H H' x ds log ds' log' h hl;simp only[qE]at h;simp only[pU,Ed.env];split at h
  .rename_i t ht;rw[ht];simp only;split at h
   .cases h
   .rename_i d ds1;split at h
    .obtain⟨a,b⟩:=ih1 h hl;simp only[qA,aA]at b;rw[if_pos b.1];exact⟨a,b.2⟩
    .obtain⟨a,b⟩:=ih2 h hl;simp only[qA,aA,bW]at b;rw[if_neg (by simp[b.1])];exact⟨a,b.2⟩
  .cases h
 |block id c ih=>
  intro fr fr' H H' x ds log ds' log' h hl;simp only[qE]at h;simp only[pU];split at h
  .rename_i id' f1 h1 ds1 log1 hr;split at h
   .rename_i e;cases h;obtain⟨a,b⟩:=ih hr hl;rw[a];simp only;rw[if_pos e];exact⟨rfl,b⟩
   .rename_i e;cases h;obtain⟨a,b⟩:=ih hr hl;rw[a];simp only;rw[if_neg e];exact⟨rfl,b⟩
  .rename_i hr;obtain⟨a,b⟩:=ih h hl;rw[a];cases x with
   |normal=>exact⟨rfl,b⟩|exit id'=>exact absurd h (hr _ _ _ _ _)|ret=>exact⟨rfl,b⟩
 |scope c ih=>
  intro fr fr' H H' x ds log ds' log' h hl;simp only[qE]at h;simp only[pU];exact ih h hl
 |_ =>intro fr fr' H H' x ds log ds' log' h;simp[qE]at h
end
noncomputable section
abbrev gR:=X->List T->Hp->Prop
def Good(P:fV)(E:tY)(c:Code)(fr:fU)(H:Hp)(Q:gR):Prop:=
 ∀(g0 g:G) (H0:Hp) (a:Act),qT E g0 H0 g a fr H->∀(R:gC),(∀x fr' H' a' g',Q x fr' H'->qT E g0 H0 g' a' fr' H'->R x.exit_ a' g'.w)->c.wp P R a g.w
def wV(N:List T->Hp->Prop)(Q:gR):X->List T->Hp->Prop
 | .normal,fr,H=>N fr H|x,fr,H=>Q x fr H
def xH(id:Nat)(Q:gR):X->List T->Hp->Prop
 | .exit id',fr,H=>if id'=id then Q .normal fr H else Q (.exit id') fr H
 |x,fr,H=>Q x fr H
section
variable{P:fV}{E:tY}{c:Code}{fr:fU}{H:Hp}{Q:gR}
theorem Good.mono{Q':gR}(h:Good P E c fr H Q)(hq:∀x fr' H',Q x fr' H'->Q' x fr' H'):Good P E c fr H Q':=
 λg0 g H0 a hc R hR=>h g0 g H0 a hc R (λx fr' H' a' g' hQ=>hR x fr' H' a' g' (hq x fr' H' hQ))
theorem aJg{c1 c2:Code}(h:Good P E c1 fr H (wV (λfr' H'=>Good P E c2 fr' H' Q) Q)):Good P E (.seq c1 c2) fr H Q:=by
 intro g0 g H0 a hc R hR;refine wp_seq (h g0 g H0 a hc _ (λx fr' H' a' g' hQ hc'=> ?_));cases x with
 |normal=>exact hQ g0 g' H0 a' hc' R hR|exit id=>exact hR _ _ _ _ _ hQ hc'|ret=>exact hR _ _ _ _ _ hQ hc'
theorem Vc{id:Nat}(h:Good P E c fr H (xH id Q)):Good P E (.block id c) fr H Q:=by
 intro g0 g H0 a hc R hR;refine wp_block (h g0 g H0 a hc _ (λx fr' H' a' g' hQ hc'=> ?_));cases x with
 |normal=>exact hR _ _ _ _ _ hQ hc'
 |exit id'=>
  simp only[xH]at hQ;simp only[X.exit_,Exit.inBlock];split at hQ
  .rename_i e;rw[if_pos e];exact hR _ _ _ _ _ hQ hc'
  .rename_i e;rw[if_neg e];exact hR _ _ _ _ _ hQ hc'
 |ret=>exact hR _ _ _ _ _ hQ hc'
theorem Vd(h:Good P E c fr H Q):Good P E (.scope c) fr H Q:=by
 intro g0 g H0 a hc R hR;refine wp_scope_straight (h g0 g H0 a hc _ (λx fr' H' a' g' hQ hc'=> ?_));cases x with
 |normal=>exact hR _ _ _ _ _ hQ hc'|exit id=>exact hR _ _ _ _ _ hQ hc'|ret=>exact hR _ _ _ _ _ hQ hc'
theorem Eg{o:jF}{c1 c2:Code}{t:Bool}(ho:qG E.gl fr o=some (.bool t))(h1:t=true->Good P E c1 fr H Q)(h2:t=false->Good P E c2 fr H Q):Good P E (.cond o c1 c2) fr H Q:=by
 intro g0 g H0 a hc R hR;have hr:=(EB.of hc.fr none).eval hc.gl (λ_ _ =>by simp) ho;refine wp_cond hr.inv_bool ?_;cases t with
 |true=>exact h1 rfl g0 g H0 a hc R hR|false=>exact h2 rfl g0 g H0 a hc R hR
theorem TV{R:gC}:∀(k:Nat) (a:Act) (w:iK),Code.rounds P c R k a w->Code.rounds P c R (k+1) a w
 |0,_,_,h=>h.elim
 |k+1,a,w,h=>by
  rw[rounds_succ]at h⊢;refine wp_mono h λe a' w' q=> ?_;cases e with
  |normal=>exact TV k a' w' q|_ =>exact q
theorem aEd{R:gC}{k m:Nat}(hkm:k<=m){a:Act}{w:iK}(h:Code.rounds P c R k a w):Code.rounds P c R m a w:=by
 induction m with
 | zero => have:k=0:=by omega
           subst this;exact h
 |succ m ih=>
  rcases eE hkm with e|hlt
  .exact e▸h
  .exact TV m a w (ih (by omega))
theorem aCq(I:Nat->List T->Hp->Prop)(hI:∀n fr H,I n fr H->Good P E c fr H (wV (λfr' H'=>∃m,m<n/\I m fr' H') Q)):∀n fr H,I n fr H->Good P E (.loop c) fr H Q:=by
 intro n fr H hi g0 g H0 a hc R hR;refine wp_loop_rounds (n+1) ?_;have key:∀n fr H a g,I n fr H->qT E g0 H0 g a fr H->Code.rounds P c R (n+1) a g.w:=by
  intro n
  induction n using Nat.strongRecOn with
  |_ n ih=>
   intro fr H a g hi hc;rw[rounds_succ];refine hI n fr H hi g0 g H0 a hc _ (λx fr' H' a' g' hQ hc'=> ?_);cases x with
   |normal=>
    obtain⟨m,hm,him⟩:=hQ;exact aEd (k:=m+1) (by omega) (ih m hm fr' H' a' g' him hc')
   |exit id=>exact hR _ _ _ _ _ hQ hc'|ret=>exact hR _ _ _ _ _ hQ hc'
 exact key n fr H a g hi hc
def yD(P:fV)(fn:Func)(fr:fU)(H:Hp):Option T:=
 match sS P fr H fn.results.toList with
 |some [t]=>some t|some ts=>some (.tup ts)|none=>none
theorem aEa{fn:Func}{g0 g:G}{H0:Hp}{a:Act}(hc:qT E g0 H0 g a fr H){r:T}(hr:yD P fn fr H=some r):∃v,(results fn a.tmps).run P g.w= .ok v g.w/\Rd g v r:=by
 unfold yD at hr;split at hr
 .rename_i t ht;cases hr;obtain⟨us,h1,h2⟩:=uJ (P:=P) hc.st hc.fr ht
  match us,h2 with
  |[u],h2=>
   refine⟨u,?_,(h2.inv_cons).1⟩;have:fn.results=fn.results.toList.toArray:=by simp
   rw[uE,this,dM];simp only[aP,eY];rw[h1];simp
  |[],h2=>simp[RdL]at h2|_ ::_ ::_,h2=>simp[RdL]at h2
 .rename_i ts' hne ht;cases hr;obtain⟨us,h1,h2⟩:=uJ (P:=P) hc.st hc.fr ht;refine⟨.tuple us.toArray,?_,Rd.mk_tup h2⟩;have:fn.results=fn.results.toList.toArray:=by simp
  rw[uE,this,dM];simp only[aP,eY];rw[h1];have hl:us.length≠1:=λq=>by
   rw[h2.1]at q;obtain⟨t,rfl⟩:=fC.1 q;exact hne t rfl
  simp[hl]
 .cases hr
def Th(P:fV)(fn:Func)(k:Nat)(r:T)(x:X)(fr:fU)(H:Hp):Prop:=(x= .normal\/x= .ret)/\∃q,yD P fn fr H=some q/\qJ k H q=some r
end
def rT(f:gV)(spec:List T->Option (T×List Bool))(pd:Hp->FuncId->List T->Option (T×List Bool)):Hp->FuncId->List T->Option (T×List Bool):=λH g ts=>if g=f then spec ts else pd H g ts
theorem qN{P:fV}{gl:fY}{f:gV}{spec:List T->Option (T×List Bool)}{pd:Hp->FuncId->List T->Option (T×List Bool)}(h:vP P gl (Ed.env ⟨gl,pd⟩).pe)
  (hs:∀ts r cs,spec ts=some (r,cs)->qA cs=true->pW P gl f ts r):vP P gl (Ed.env ⟨gl,rT f spec pd⟩).pe:=by
 intro H k ts r hr;simp only[Ed.env,rT]at hr;by_cases e:k=f
 .subst e;simp only[if_true]at hr;split at hr
  .rename_i q cs hq;split at hr
   .rename_i hc;simp only[aC]at hr;subst hr;have:=hs ts _ cs hq hc;exact⟨this.1,λg vs hg hst=>this.2 g vs hg ⟨H.next,hst.new⟩⟩
   .cases hr
  .cases hr
 .rw[if_neg e]at hr;exact h H k ts r hr
theorem rR{P:fV}{gl:fY}:vP P gl (Ed.env ⟨gl,λ_ _ _ =>none⟩).pe:=λH f ts r h=>by simp[Ed.env]at h
theorem rG{P:fV}{gl:fY}:tX P gl (λ_ _ _ =>none):=λf ts H r H' h=>by cases h
def ovl(kn:iM)(fr:fU):Nat->Nat->List T
 |_,0=>[]|k,n+1=>(match kn.lookup k with|some v=>v|none=>qR fr k)::ovl kn fr (k+1) n
theorem aKx(kn:iM)(fr:fU)(hk:∀k v,kn.lookup k=some v->qR fr k=v):∀(n k:Nat),k+n=fr.length->ovl kn fr k n=fr.drop k
 |0,k,h=>by simp[ovl];omega
 |n+1,k,h=>by
  simp only[ovl];rw[aKx kn fr hk n (k+1) (by omega),eT (show k<fr.length by omega)];congr 1;split
  .rename_i v hv;have:=hk k v hv;rw[<-this];rw[uR];rw[aW,aB (by omega)];rfl
  .rw[uR];rw[aW,aB (by omega)];rfl
def BI:T->Bool
 | .int .. | .bool _ | .str _ | .nilp| .nils| .nilf| .nili| .nilm=>true|_ =>false
def Fv:T->Bool
 | .agg ts=>ts.all BI|t=>BI t
def Ra:T->Bool
 | .tup ts=>ts.all Fv| .agg ts=>ts.all Fv|t=>BI t
abbrev gG:=FuncId->List T->Option T
def uH(k:Nat)(pe:gG)(H:Hp)(f:gV)(ts:fU):Option T:=
 match mapO (qJ k ⟨0,.nl⟩) ts with
 |some ts'=>pe f ts'
 |none=>match mapO (qJ k H) ts with
  |some ts'=>match pe f ts' with
   |some r=>if Ra r then some r else none
   |none=>none
  |none=>none
def BU(own:hD)(e:gB):Fc:=⟨own,λf ts H=>aEy (e f ts H)⟩
theorem NZ(own:hD)(e:gB):(BU own e).ee=e:=by
 funext f ts H;show(match aEy (e f ts H)with|some (r,H',cs)=>if qA cs then some (r,H')else none|none=>none)=_;cases e f ts H with
 |none=>rfl|some r=>rfl
section
variable{P:fV}
def G.bare(g:G):G:={w:=g.w,S:=g.S,al:=λ_ =>False,loc:=g.loc,cp:=g.cp}
def wR(gl:fY):Prop:=∀k t,gl k=some t->∃n,qJ n ⟨0,.nl⟩ t=some t
theorem HW:∀(n N:Nat) (H:Hp) (t r:T),qJ n ⟨N,.nl⟩ t=some r->qJ n H t=some r:=by
 intro n
 induction n with
 |zero=>intro N H t r h;simp[qJ]at h
 |succ n ih=>
  intro N H;have ihm:∀(ts rs:fU),mapO (qJ n ⟨N,.nl⟩) ts=some rs->mapO (qJ n H) ts=some rs:=by
   intro ts
   induction ts with
   |nil=>intro rs h;exact h
   |cons t ts iht=>
    intro rs h;simp only[mapO]at h⊢;split at h
    .rename_i a ha;split at h
     .rename_i b hb;rw[ih N H _ _ ha,iht _ hb];exact h
     .cases h
    .cases h
  intro t r h;cases t<;>simp only[qJ]at h⊢<;>try exact h
  case ptr l off=>rw[get_nl]at h;cases h
  case osl l sz i len=>rw[get_nl]at h;cases h
  case ref x off=>
   split at h
   .rename_i y hy;rw[ih N H _ _ hy];exact h
   .cases h
  case sl f xs=>
   split at h
   .rename_i y hy;rw[ihm _ _ hy];exact h
   .cases h
  case fn f a c=>
   split at h
   .rename_i x y hx hy;rw[ihm _ _ hx,ihm _ _ hy];exact h
   .cases h
  case iface t x=>
   split at h
   .rename_i y hy;rw[ih N H _ _ hy];exact h
   .cases h
  case agg cs=>
   split at h
   .rename_i y hy;rw[ihm _ _ hy];exact h
   .cases h
  case tup cs=>
   split at h
   .rename_i y hy;rw[ihm _ _ hy];exact h
   .cases h
theorem JW{g g0:G}{H:Hp}(hs:St g H){k:Nat}{ts ts':fU}(h:mapO (qJ k H) ts=some ts'){vs:gM}(hv:RdL g vs ts):RdL (g.frz H g0) vs ts':=by
 obtain⟨a1,a2⟩:=OH h;refine⟨by rw[hv.1,a1],λj v c hvj hc=> ?_⟩;obtain⟨t,ht,hf⟩:=a2 j c hc;exact LO hs k t c v hf (hv.2 j v t hvj ht)
theorem St.bare{g:G}{H:Hp}(hs:St g H):St g ⟨H.next,.nl⟩:=St.nl _ _ (hs.new)
theorem AQ(g g0:G)(N:Nat):g.frz ⟨N,.nl⟩ g0={w:=g.w,S:=g.S,al:=g0.al,loc:=g0.loc,cp:=g0.cp}:=by
 simp only[G.frz,get_nl];congr 1;funext b;simp
theorem GlOk.frz{gl:fY}(hz:wR gl){g g0:G}{H:Hp}(hs:St g H)(h:GlOk gl g):GlOk gl (g.frz H g0):=λj t ht=>by
 obtain⟨n,hn⟩:=hz j t ht;obtain⟨h1,h2,h3⟩:=h j t ht;exact⟨LO hs n t t _ (HW n 0 H t t hn) h1,.inl h2,h3⟩
def PcOk(P:fV)(gl:fY)(pe:gG):Prop:=
 ∀f ts r,pe f ts=some r->vL P f=true/\∀(g:G) (vs:gM),rZ g->(∀l,¬g.al l)->GlOk gl g->RdL g vs ts->
  Calls P f vs.toArray g.w λe w'=>∃v g',e= .returned v/\g'.w=w'/\PStep g g'/\rZ g'/\Rd g' v r
theorem Rc{g g':G}{v:gQ}{t:T}(h:BI t=true)(hr:Rd g v t):Rd g' v t:=by
 cases hr<;>simp[BI]at h<;>constructor
theorem Re{g g':G}{v:gQ}{t:T}(h:Fv t=true)(hr:Rd g v t):Rd g' v t:=by
 cases hr with
 |agg cs vs h1 h2=>
  simp only[Fv,aH]at h;exact .agg cs vs h1 (λj v c hv hc=>Rc (h c (bB hc)) (h2 j v c hv hc))
 |int k n=>exact .int k n|bool b=>exact .bool b|str s=>exact .str s|nilp=>exact .nilp|nils=>exact .nils|nilf=>exact .nilf|nili=>exact .nili|nilm=>exact .nilm|_ =>simp[Fv,BI]at h
theorem aSe{g g':G}{v:gQ}{t:T}(h:Ra t=true)(hr:Rd g v t):Rd g' v t:=by
 cases hr with
 |agg cs vs h1 h2=>
  simp only[Ra,aH]at h;exact .agg cs vs h1 (λj v c hv hc=>Re (h c (bB hc)) (h2 j v c hv hc))
 |tup cs vs h1 h2=>
  simp only[Ra,aH]at h;exact .tup cs vs h1 (λj v c hv hc=>Re (h c (bB hc)) (h2 j v c hv hc))
 |int k n=>exact .int k n|bool b=>exact .bool b|str s=>exact .str s|nilp=>exact .nilp|nils=>exact .nils|nilf=>exact .nilf|nili=>exact .nili|nilm=>exact .nilm|_ =>simp[Ra,BI]at h
theorem aDx{g g':G}(hw:g.w=g'.w)(hS:∀b,g.S b->g'.S b)(hal:∀l,¬g.al l):∀{v:gQ} {t:T},Rd g v t->Rd g' v t:=by
 intro v t hr;have hc:∀(a:Addr) (v:gQ),g.w.cell? a=some v->g'.w.cell? a=some v:=λa v h=>by rw[<-hw];exact h
 induction hr with
 |int k n=>exact .int k n|bool b=>exact .bool b|str s=>exact .str s|nilp=>exact .nilp|ptr l off hl=>exact absurd hl (hal l)|ref x off b o vs h1 hlen hcc _ ih=>exact .ref x off b o vs (hS b h1) hlen (λj v hv=>hc _ _ (hcc j v hv)) ih|nils=>exact .nils|slfn full f p=>exact .slfn full f p|sl full xs sz b o cap vs h1 hsz h2 h3 h4 hlen hcc _ ih=>exact .sl full xs sz b o cap vs (λhx=>hS b (h1 hx)) hsz h2 h3 h4 hlen (λj v hv=>hc _ _ (hcc j v hv)) ih|slf full n f sz b o cap vs h1 h2 h3 h4 h5 h6 h7 h8=>exact Rd.slf_keep hS (λ_ _ _ _ q=>hc _ _ q) h1 h2 h3 h4 h5 h6 h7 h8|osl l sz i len b o cap hl=>exact absurd hl (hal l)|nilf=>exact .nilf|fn f a c vs us h1 _ h3 _ ih1 ih2=>exact .fn f a c vs us h1 ih1 h3 ih2|nili=>exact .nili|iface t v x _ ih=>exact .iface t v x ih|nilm=>exact .nilm|mp l hl=>exact absurd hl (hal l)|yl l hl=>exact absurd hl (hal l)|agg cs vs h1 _ ih=>exact .agg cs vs h1 ih|tup cs vs h1 _ ih=>exact .tup cs vs h1 ih
theorem UT{gl:fY}{pe:gG}{k:Nat}(hz:wR gl)(h:PcOk P gl pe):vP P gl (uH k pe):=by
 intro H f ts r hr;unfold uH at hr;split at hr
 .rename_i ts' hts;obtain⟨h1,h2⟩:=h f ts' r hr;refine⟨h1,λg vs hg hs hgl hv=> ?_⟩;have hts1:mapO (qJ k ⟨H.next,.nl⟩) ts=some ts':=by
   have:∀(ts ts':fU),mapO (qJ k ⟨0,.nl⟩) ts=some ts'->mapO (qJ k ⟨H.next,.nl⟩) ts=some ts':=by
    intro ts
    induction ts with
    |nil=>intro rs h;exact h
    |cons t ts iht=>
     intro rs h;simp only[mapO]at h⊢;split at h
     .rename_i a ha;split at h
      .rename_i b hb;rw[HW k 0 _ _ _ ha,iht _ hb];exact h
      .cases h
     .cases h
   exact this ts ts' hts
  have hv':RdL g.bare vs ts':=by
   have:=JW (g0:=g.bare) hs.bare hts1 hv;rw[AQ]at this;exact this
  have hgl':GlOk gl g.bare:=by
   have:=GlOk.frz (g0:=g.bare) hz hs.bare hgl;rw[AQ]at this;exact this
  refine(h2 g.bare vs hg (λ_ q=>q) hgl' hv').mono λe w' ⟨v,g',e1,e2,e3,e4,e5⟩=> ?_;refine⟨v,{w:=g'.w,S:=g'.S,al:=g.al,loc:=g.loc,cp:=g.cp},e1,e2,⟨e3.os,e3.tape,e3.output,e3.size,e3.block,e3.sub,e3.fresh,rfl,rfl,rfl⟩,e4,?_⟩;exact aDx (g:=g') (g':={w:=g'.w,S:=g'.S,al:=g.al,loc:=g.loc,cp:=g.cp}) rfl (λ_ q=>q) (by rw[e3.al];exactλ_ q=>q) e5
 .split at hr
  .rename_i ts' hts;split at hr
   .rename_i r' hr';split at hr
    .rename_i hsc;cases hr;obtain⟨h1,h2⟩:=h f ts' r hr';refine⟨h1,λg vs hg hs hgl hv=> ?_⟩;have hv':RdL (g.frz H g.bare) vs ts':=JW hs hts hv;have hgl':GlOk gl (g.frz H g.bare):=GlOk.frz hz hs hgl;have hg':rZ (g.frz H g.bare):=by
      intro b hb;rcases hb with hb|⟨l,o,ho,rfl⟩
      .exact hg b hb
      .exact hs.lt (qP ho).1
     refine(h2 (g.frz H g.bare) vs hg' (λ_ q=>q) hgl' hv').mono λe w' ⟨v,g',e1,e2,e3,e4,e5⟩=> ?_;refine⟨v,{w:=g'.w,S:=g.S,al:=g.al,loc:=g.loc,cp:=g.cp},e1,e2,⟨e3.os,e3.tape,e3.output,e3.size,e3.block,λ_ q=>q,λ_ q=> .inl q,rfl,rfl,rfl⟩,λb hb=>bT (hg b hb) e3.size,aSe hsc e5⟩
    .cases hr
   .cases hr
  .cases hr
end
def Ng:Nat->Nat->List UInt8->List UInt8
 |0,_,acc=>acc|k+1,u,acc=>if u<10 then UInt8.ofNat (48+u)::acc else Ng k (u/10) (UInt8.ofNat (48+u%10)::acc)
def vS(n:Int):List UInt8:=if n<0 then 45::Ng 20 n.natAbs []else Ng 20 n.toNat []
def Zg:List T->Option T
 |[.int .i64 n]=>if-9223372036854775808<=n/\n<=9223372036854775807 then some (.str (vS n))else none
 |_ =>none
def LF:List T->Option (List UInt8)
 |[]=>some []
 | .int .u8 n::r=>match LF r with
  |some l=>if 0<=n/\n<256 then some (UInt8.ofNat n.toNat::l)else none
  |none=>none
 |_ =>none
def NR(tB:fS):List T->Hp->Option (T×Hp)
 |[.ptr l 0],H=>match H.get l with
  |some o=>match o.cells with
   |[.nilp,v]=>if o.elem=tB/\o.sz=0 then some (.tup [],H.put l {o with cells:=[.ptr l 0,v]})else none
   |[.ptr l' 0,_]=>if l'=l/\o.elem=tB/\o.sz=0 then some (.tup [],H)else none
   |_ =>none
  |none=>none
 |_,_ =>none
def Cb(tB tE:fS):List T->Hp->Option (T×Hp)
 |[.ptr l 0],H=>match H.get l with
  |some o=>if o.elem=tB/\o.sz=0 then match o.cells with
   |[_,.nils]=>some (.str [],H)
   |[_,.osl l2 1 0 len]=>match H.get l2 with
    |some o2=>if o2.elem=tE/\o2.sz=1/\o2.cells.length=len/\len≠0 then match LF o2.cells with
     |some bs=>some (.str bs,H.drop l2)|none=>none
     else none
    |none=>none
   |_ =>none
   else none
  |none=>none
 |_,_ =>none
end
open Go.Shelf Go.RowKit Go.Sort Go.Proofs
theorem yN{g:G}{w':iK}(h:Below g.w.heap.size g.w w'):PStep g {g with w:=w'}:=⟨h.os,h.tape,h.output,h.size,h.block,λ_ q=>q,λ_ q=> .inl q,rfl,rfl,rfl⟩
theorem EV{g:G}{w':iK}(hg:rZ g)(h:g.w.heap.size<=w'.heap.size):rZ {g with w:=w'}:=λb hb=>bT (hg b hb) h
theorem WF(w:iK)(k:Nat)(os:Array Obj):Below w.heap.size w (grow (w.drewN k) os):=by
 have h:(w.drewN k).heap=w.heap/\(w.drewN k).os=w.os/\(w.drewN k).tape=w.tape/\(w.drewN k).output=w.output:=by
  refine⟨?_,?_,?_,?_⟩<;>simp[World.drewN]
 refine⟨h.2.1,h.2.2.1,h.2.2.2,by simp[grow],λb hb=> ?_⟩;simp only[grow,h.1];rw[Array.getElem?_append_left hb]
theorem Ij:∀(k u:Nat) (acc:gU),u<10^k->0<k->Ng k u acc=Lib.decDigits u++acc
 |0,_,_,_,h=>absurd h (by decide)
 |k+1,u,acc,hu,_ =>by
  rw[Ng,Lib.decDigits];by_cases h:u<10
  .simp[h]
  .rw[if_neg h,dif_neg h];have hk:0<k:=by
    rcases Nat.eq_zero_or_pos k with rfl|q
    .simp at hu;omega
    .exact q
   rw[Ij k (u/10) _ (by rw[Nat.pow_succ]at hu;omega) hk];simp
theorem aJq(n:Int)(h0:-9223372036854775808<=n)(h1:n<=9223372036854775807):vS n=Lib.itoa n:=by
 unfold vS Lib.itoa;have e:(10:Nat)^20=100000000000000000000:=by decide
 split
 .rw[Ij 20 _ _ (by rw[e];omega) (by decide)];simp
 .rw[Ij 20 _ _ (by rw[e];omega) (by decide)];simp
section
variable{P:fV}{U:Ren}{gl:fY}
theorem CE{g:G}{v:gQ}{s:gU}(h:Rd g v (.str s)):v= .string ⟨s.toArray⟩:=by
 generalize ht:T.str s=t at h;cases h<;>cases ht;simp
theorem Zh(hok:vL P (U.f 171)=true)
  (hc:∀(g:G),GlOk gl g->∀(n:Int),-9223372036854775808<=n->n<=9223372036854775807->Calls P (U.f 171) #[.int .i64 n] g.w λe w'=>e= .returned (.string ⟨(Lib.itoa n).toArray⟩)/\∃k os,w'=grow (g.w.drewN k) os)
  (ts:fU) (r:T) (h:Zg ts=some r):pW P gl (U.f 171) ts r:=by
 refine⟨hok,λg vs hg _ hgl hv=> ?_⟩;unfold Zg at h;split at h
 .rename_i n;split at h
  .rename_i hb;cases h
   match vs,hv with
   |[v],hv=>
    have h1:=(hv.inv_cons).1;cases h1;refine(hc g hgl n hb.1 hb.2).mono λe w' ⟨he,k,os,hw⟩=> ?_;subst hw;refine⟨_,{g with w:=grow (g.w.drewN k) os},he,rfl,yN (WF _ _ _),EV hg (WF _ _ _).size,?_⟩;rw[aJq n hb.1 hb.2];have:=Rd.str (g:={g with w:=grow (g.w.drewN k) os}) ⟨(Lib.itoa n).toArray⟩;simpa using this
   |[],hv=>simp[RdL]at hv|_ ::_ ::_,hv=>simp[RdL]at hv
  .cases h
 .cases h
end
section
variable{P:fV}{U:Ren}{gl:fY}
theorem Rk(w:iK)(b o:Nat)(v:gQ)(cs:gX)(e:fS)(fz:Nat×Nat)(h:w.heap[b]? =some (.cells cs e fz)):w.setCell ⟨b,o,none⟩ v=w.setRow b (cs.setIfInBounds o v):=by
 simp only[World.setCell,World.setRow];congr 1;apply Array.ext_getElem?;intro i;rw[Array.getElem?_modify,Array.getElem?_modify];split
 .rename_i e;subst e;rw[h];simp
 .rfl
theorem Kh{g:G}{v:gQ}{l off:Nat}(h:Rd g v (.ptr l off)):v= .pointer (some ⟨g.loc l,off,none⟩)/\g.al l:=by
 generalize ht:T.ptr l off=t at h;cases h<;>cases ht;exact⟨rfl,by assumption⟩
def UB(P:fV)(gl:fY)(f:gV)(ts:fU)(H:Hp)(r:T)(H':Hp):Prop:=
 vL P f=true/\∀(g:G) (vs:gM),rZ g->St g H->GlOk gl g->RdL g vs ts->
  Calls P f vs.toArray g.w λe w'=>∃v g',e= .returned v/\g'.w=w'/\qF H g H' g'/\rZ g'/\St g' H'/\Rd g' v r
theorem aOs(L:Lays.n240 P U)(X:Builder.X72 P U)(hok:vL P (U.f 240)=true){ts:fU}{H H':Hp}{r:T}(h:NR (U.t 72) ts H=some (r,H')):UB P gl (U.f 240) ts H r H':=by
 .refine⟨hok,λg vs hg hs hgl hv=> ?_⟩;unfold NR at h;split at h
  .rename_i l
   match vs,hv with
   |[v],hv=>
    obtain⟨rfl,hal⟩:=Kh (hv.inv_cons).1;split at h
    .rename_i ob hob;obtain⟨elem,sz,cells,meob⟩:=ob;obtain rfl:meob=none:=(qP hob).2;obtain⟨_,hS,cs,hb,q1,q2,q3,q4⟩:=hs.own l _ hob;simp only at h hb q1 q2 q3 q4;split at h
     .rename_i x;split at h
      .rename_i hc;obtain⟨rfl,rfl⟩:=hc;cases h;have hsz:cs.size=2:=q2 rfl;have hl:cs.toList.length=2:=by simpa using hsz
       match hcs:cs.toList,hl with
       |[c0,c1],_ =>
        have e0:cs= #[c0,c1]:=by rw[<-Array.toArray_toList (xs:=cs),hcs]
        subst e0;have hc0:=q4.2 0 c0 .nilp (by simp) rfl;have hc1:=q4.2 1 c1 x (by simp) rfl;cases hc0;refine(Any.Builder_copyCheck_fresh L X (g.loc l) g.w (by simp[World.cell?,hb]) (by simp[World.shape?,hb]) (by simp[World.frozen?,hb])).mono λe w' ⟨he,hw⟩=> ?_;have hset:=Rk g.w (g.loc l) 0 (.pointer (some ⟨g.loc l,0,none⟩)) _ _ _ hb;rw[hset]at hw;subst hw;refine⟨_,g.setRow (g.loc l) (#[Value.pointer none,c1].setIfInBounds 0 (.pointer (some ⟨g.loc l,0,none⟩))),he,rfl,Aa (qP hob).1 _ _,?_,?_,Rd.mk_tup RdL.nil⟩
        .intro b hb';have:=hg b hb';simpa [G.setRow,World.setRow]using this
        .refine aLz (o:={elem:=U.t 72,sz:=0,cells:=[.nilp,x]}) hs hob hb (by simp) (by simp) ?_;exact RdL.cons (.ptr l 0 hal) (RdL.cons hc1 RdL.nil)
      .cases h
     .rename_i l' x;split at h
      .rename_i hc;obtain⟨rfl,rfl,rfl⟩:=hc;cases h;have hsz:cs.size=2:=q2 rfl;have hl:cs.toList.length=2:=by simpa using hsz
       match hcs:cs.toList,hl with
       |[c0,c1],_ =>
        have e0:cs= #[c0,c1]:=by rw[<-Array.toArray_toList (xs:=cs),hcs]
        subst e0;have hc0:=(Kh (q4.2 0 c0 _ (by simp) rfl)).1;subst hc0;refine(Any.Builder_copyCheck_used L X (g.loc l') g.w (by simp[World.cell?,hb])).mono λe w' ⟨he,hw⟩=> ?_;subst hw;exact⟨_,g,he,rfl,qF.refl _ _,hg,hs,Rd.mk_tup RdL.nil⟩
      .cases h
     .cases h
    .cases h
   |[],hv=>simp[RdL]at hv|_ ::_ ::_,hv=>simp[RdL]at hv
  .cases h
theorem TB{g:G}:∀{cs:fU} {bs:gU},LF cs=some bs->cs.length=bs.length/\∀(j:Nat) (c:T) (v:gQ),cs[j]? =some c->Rd g v c->∃x,bs[j]? =some x/\v= .int .u8 x.toNat
 |[],bs,h=>by simp[LF]at h;subst h;simp
 |c::r,bs,h=>by
  unfold LF at h;split at h
  .rename_i e;cases e
  .rename_i n r' e;cases e;split at h
   .rename_i l hl;split at h
    .rename_i hn;cases h;obtain⟨h1,h2⟩:=TB (g:=g) hl;refine⟨by simp[h1],λj c v hc hr=> ?_⟩;cases j with
     |zero=>
      simp at hc;subst hc;refine⟨UInt8.ofNat n.toNat,by simp,?_⟩;cases hr;have:(UInt8.ofNat n.toNat).toNat=n.toNat:=by
       rw[UInt8.toNat_ofNat'];omega
      rw[this];congr 1;omega
     |succ j=>simp at hc;obtain⟨x,e1,e2⟩:=h2 j c v hc hr;exact⟨x,by simpa using e1,e2⟩
    .cases h
   .cases h
  .cases h
theorem aSl(L:Lays.n169 P U)(X:Builder.Extra P U)(b gg cap:Nat)(p:gQ)(cur:gX)(l:gU)(w:iK)(h0:l≠[])
  (hbk:w.heap[b]? =some (.cells #[p,.slice (some ⟨gg,0,none⟩) l.length cap] (U.t 72) (0,0))) (hg:w.heap[gg]? =some (.cells cur (U.t 5) (0,0))) (hnc:l.length<=cap) (hcm:cap<=maxLen) (hcs:cur.size=cap)
  (hcells:∀(j:Nat) (x:UInt8),l[j]? =some x->w.cell? ⟨gg,j,none⟩=some (.int .u8 x.toNat)):
  Calls P (U.f 169) #[.pointer (some ⟨b,0,none⟩)] w λe w'=>e= .returned (.string ⟨l.toArray⟩)/\w'=w.drew.freeze ⟨gg,0,none⟩ l.length:=by
 have hl0:l.length≠0:=by simpa using h0
 have c1:w.drew.cell? ⟨b,1,none⟩=some (.slice (some ⟨gg,0,none⟩) l.length cap):=by
  have:w.drew.heap[b]? =some (.cells #[p,.slice (some ⟨gg,0,none⟩) l.length cap] (U.t 72) (0,0)):=hbk;rw[Lib.cell_of_heap this];rfl
 have hSD:(Builtin.unsafeSliceData_ #[(U.t 37)] (U.t 127) #[.slice (some ⟨gg,0,none⟩) l.length cap]).run P w.drew= .ok (.pointer (some ⟨gg,0,none⟩)) w.drew:=
  Lib.run_unsafeSliceData_row _ _ _ _ _ _ (by omega)
 have hUS:(Builtin.unsafeString_ #[(U.t 127),(U.t 3)] (U.t 9) #[.pointer (some ⟨gg,0,none⟩),.int .i64 l.length]).run P w.drew= .ok (.string ⟨l.toArray⟩) (w.drew.freeze ⟨gg,0,none⟩ l.length):=
  Lib.run_unsafeString_row w.drew (U.t 127) (U.t 3) (U.t 9) (U.t 5) L.t127 X.cellsByte gg cur.size (by have hg':w.drew.heap[gg]? =some (.cells cur (U.t 5) (0,0)):=hg;simp[World.shape?,hg']) l h0 (by omega) (by unfold maxLen at hcm;omega) (λj x hx=>by
   have:=hcells j x hx;by_cases hj:j=0
   .subst hj;simpa [Addr.add]using this
   .simpa [Addr.add,hj]using this)
 have mixed:=L.mixed;have t72:=L.t72;have a72:=L.a72;have z72:=L.z72;have v72:=L.v72;have u72:=run_underlying L.t72;have t70:=L.t70;have a70:=L.a70;have z70:=L.z70;have v70:=L.v70;have u70:=run_underlying L.t70;have t37:=L.t37;have a37:=L.a37;have z37:=L.z37;have v37:=L.v37;have u37:=run_underlying L.t37;have t127:=L.t127;have a127:=L.a127;have z127:=L.z127;have v127:=L.v127;have u127:=run_underlying L.t127;have t3:=L.t3;have a3:=L.a3;have z3:=L.z3;have v3:=L.v3;have u3:=run_underlying L.t3;have t9:=L.t9;have a9:=L.a9;have z9:=L.z9;have v9:=L.v9;have u9:=run_underlying L.t9;have t5:=X.t5;have a5:=X.a5;have z5:=X.z5;have v5:=X.v5;have u5:=run_underlying X.t5
 go_enter L.f169,Body.n169_ntmps U
 go_wp2
 go_region_o
 all_goals(go_wp2;go_ret;exact⟨rfl,rfl⟩)
theorem Oa(w:iK)(gg n:Nat):(w.drew.freeze ⟨gg,0,none⟩ n).os=w.os/\(w.drew.freeze ⟨gg,0,none⟩ n).tape=w.tape/\(w.drew.freeze ⟨gg,0,none⟩ n).output=w.output/\(w.drew.freeze ⟨gg,0,none⟩ n).heap.size=w.heap.size:=by
 simp only[World.freeze];split
 .exact⟨rfl,rfl,rfl,rfl⟩
 .refine⟨rfl,rfl,rfl,?_⟩;show(w.heap.modify gg _).size=_;rw[Array.size_modify]
theorem OC(w:iK)(gg n k:Nat)(h:k≠gg):(w.drew.freeze ⟨gg,0,none⟩ n).heap[k]? =w.heap[k]? :=by
 simp only[World.freeze,World.drew];split
 .rfl
 .show(w.heap.modify gg _)[k]? =_;rw[Array.getElem?_modify,if_neg (λe=>h e.symm)]
theorem aRq{g:G}{v:gQ}{l sz i len:Nat}(h:Rd g v (.osl l sz i len)):∃b o cap,v= .slice (some ⟨b,o,none⟩) len cap/\g.al l/\len<=cap/\i+cap<=g.cp l/\(0<len\/i=0->b=g.loc l/\o=i*sz)/\(i=0->cap=g.cp l):=by
 generalize ht:T.osl l sz i len=t at h;cases h<;>cases ht;rename_i b o cap _ _ _ _ _;exact⟨b,o,cap,rfl,by assumption,by assumption,by assumption,by assumption,by assumption⟩
theorem aZd(L:Lays.n169 P U)(X:Builder.Extra P U)(hok:vL P (U.f 169)=true){ts:fU}{H H':Hp}{r:T}(h:Cb (U.t 72) (U.t 5) ts H=some (r,H')):UB P gl (U.f 169) ts H r H':=by
 refine⟨hok,λg vs hg hs hgl hv=> ?_⟩;unfold Cb at h;split at h
 .rename_i l
  match vs,hv with
  |[v],hv=>
   obtain⟨rfl,hal⟩:=Kh (hv.inv_cons).1;split at h
   .rename_i ob hob;split at h
    .rename_i hc;obtain⟨elem,sz,cells,meob⟩:=ob;obtain rfl:meob=none:=(qP hob).2;obtain⟨rfl,rfl⟩:=hc;obtain⟨_,hS,cs,hb,q1,q2,q3,q4⟩:=hs.own l _ hob;simp only at h hb q1 q2 q3 q4;split at h
     .rename_i x;cases h;have hsz:cs.size=2:=q2 (by simp);have hl:cs.toList.length=2:=by simpa using hsz
      match hcs:cs.toList,hl with
      |[c0,c1],_ =>
       have e0:cs= #[c0,c1]:=by rw[<-Array.toArray_toList (xs:=cs),hcs]
       subst e0;have hc1:=q4.2 1 c1 .nils (by simp) rfl;cases hc1;refine(Any.Builder_String_nil L X g.w.heap.size (g.loc l) c0 g.w hb).mono λe w' ⟨he,hw⟩=> ?_;exact⟨_,{g with w:=w'},he,rfl,(yN hw).toS,EV hg hw.size,hs.pstep (yN hw),by simpa using Rd.str (g:={g with w:=w'}) ⟨#[]⟩⟩
     .rename_i x l2 len;split at h
      .rename_i o2 ho2;split at h
       .rename_i hc2;split at h
        .rename_i bs hbs;cases h;obtain⟨elem2,sz2,cells2⟩:=o2;obtain⟨rfl,rfl,rfl,hne⟩:=hc2;obtain⟨al2,hS2,cs2,hb2,p1,p2,p3,p4⟩:=hs.own l2 _ ho2;simp only at hb2 p1 p2 p3 p4 hbs hne;have hsz:cs.size=2:=q2 (by simp);have hl:cs.toList.length=2:=by simpa using hsz
         match hcs:cs.toList,hl with
         |[c0,c1],_ =>
          have e0:cs= #[c0,c1]:=by rw[<-Array.toArray_toList (xs:=cs),hcs]
          subst e0;have hc1:=q4.2 1 c1 _ (by simp) rfl;obtain⟨hlen,hby⟩:=TB (g:=g) hbs;obtain⟨p31,p32⟩:=p3 (by simp);obtain⟨b2,o2,cap2,rfl,z1,z2,z3,z4,z5⟩:=aRq hc1;obtain⟨rfl,rfl⟩:=z4 (.inr rfl);have z5':=z5 rfl;subst z5';rw[hlen]at hb;have hcells:∀(j:Nat) (x:UInt8),bs[j]? =some x->g.w.cell? ⟨g.loc l2,j,none⟩=some (.int .u8 x.toNat):=by
           intro j x hx;have hj:j<bs.length:=(aO.1 hx).1;have hj2:j<cs2.size:=by omega
           have hc2:cs2.toList[j]? =some cs2[j]:=by simp[hj2]
           have hv2:(cs2.toList.take cells2.length)[j]? =some cs2[j]:=by rw[bD,if_pos (by omega)];exact hc2
           obtain⟨c,hc⟩:∃c,cells2[j]? =some c:=⟨_,aB (by omega)⟩;obtain⟨y,hy,hvy⟩:=hby j c _ hc (p4.2 j _ c hv2 hc);rw[hx]at hy;cases hy;rw[Lib.cell_of_heap hb2];simp[hj2,hvy]
          refine(aSl L X (g.loc l) (g.loc l2) (g.cp l2) c0 cs2 bs g.w (λe=>hne (by rw[hlen,e];rfl)) (by simpa using hb) hb2 (by rw[<-hlen];simpa using z2) p32 (by simpa using p31) hcells).mono λe w' ⟨he,hw⟩=> ?_;subst hw;have hfr:=Oa g.w (g.loc l2) bs.length;have hst:qF H g (H.drop l2) {g with w:=g.w.drew.freeze ⟨g.loc l2,0,none⟩ bs.length}:=by
           refine⟨hfr.1,hfr.2.1,hfr.2.2.1,Nat.le_of_eq hfr.2.2.2.symm,λk hk hn=>OC _ _ _ _ (λe=>hn l2 _ (qP ho2).1 e.symm),λ_ q=>q,λ_ q=> .inl q,λ_ q=>q,λ_ _ =>rfl,λ_ _ =>rfl,λm q hq=> ?_⟩;rw[sA]at hq;split at hq
           .cases hq
           .exact .inl ⟨m,q,hq,rfl⟩
          refine⟨_,{g with w:=g.w.drew.freeze ⟨g.loc l2,0,none⟩ bs.length},he,rfl,hst,?_,?_,?_⟩
          .intro k hk;have:=hg k hk;show k<(g.w.drew.freeze ⟨g.loc l2,0,none⟩ bs.length).heap.size;rw[hfr.2.2.2];exact this
          .have hoth:∀m q,m≠l2->H.any m=some q->(g.w.drew.freeze ⟨g.loc l2,0,none⟩ bs.length).heap[g.loc m]? =g.w.heap[g.loc m]? :=λm q hne hq=>OC _ _ _ _ (λe=>hne (hs.sep m l2 q _ hq (qP ho2).1 e));refine⟨λm q hq=> ?_,λm q kc hq hme=> ?_,λm m' q q' h1 h2 e=> ?_,λm hm=>hs.new m hm⟩
           .rw[XO]at hq;split at hq
            .cases hq
            .rename_i hm;obtain⟨ha,hSS,c0',hb',r1,r2,r3,r4⟩:=hs.own m q hq;refine⟨ha,hSS,c0',?_,r1,r2,r3,r4.sstep hs hst⟩;show(g.w.drew.freeze ⟨g.loc l2,0,none⟩ bs.length).heap[g.loc m]? =_;rw[hoth m q hm (qP hq).1];exact hb'
           .rw[sA]at hq;split at hq
            .cases hq
            .rename_i hm;obtain⟨ha,hSS,ms,hb',r1⟩:=hs.ownM m q kc hq hme;refine⟨ha,hSS,ms,?_,r1.mono (λ_ _ z=>z.sstep hs hst) (λl hl=>⟨hst.al l hl,hst.loc l hl⟩)⟩;show(g.w.drew.freeze ⟨g.loc l2,0,none⟩ bs.length).heap[g.loc m]? =_;rw[hoth m q hm hq];exact hb'
           .rw[sA]at h1 h2;split at h1
            .cases h1
            .split at h2
             .cases h2
             .exact hs.sep m m' q q' h1 h2 e
          .have:=Rd.str (g:={g with w:=g.w.drew.freeze ⟨g.loc l2,0,none⟩ bs.length}) ⟨bs.toArray⟩;simpa using this
        .cases h
       .cases h
      .cases h
     .cases h
    .cases h
   .cases h
  |[],hv=>simp[RdL]at hv|_ ::_ ::_,hv=>simp[RdL]at hv
 .cases h
abbrev gJ:=List Int
theorem aZh{g:G}{k:Nat}{ik:iE}{zs:gJ}(h:PQ g k (.ref (.agg (zs.map (T.int ik))) 0)):∃e fz,g.w.heap[k]? =some (.cells (zs.map λz=>Value.int ik z).toArray e fz):=by
 obtain⟨h1,_,cs,e,fz,h3,h4⟩:=h;refine⟨e,fz,?_⟩;rw[h3];congr 2;apply Array.ext_getElem?;intro j;simp only[T.refLen,T.cells,dV]at h4;generalize ha:(Value.pointer (some ⟨k,0,none⟩))=v at h1;generalize ht:(T.ref (.agg (zs.map (T.int ik))) 0)=t at h1;cases h1<;>cases ht;rename_i b o vs hS hc hl hr;simp only[Value.pointer.injEq,aC,Addr.mk.injEq]at ha;obtain⟨rfl,ho,_⟩:=ha;have ho0:o=0:=by omega
 subst ho0;simp only[T.cells,dV]at hl hr;by_cases hj:j<zs.length
 .have hvj:vs[j]? =some (vs[j]'(by omega)):=aB _;have hcell:=hc j _ hvj;rw[bP,Lib.cell_of_heap h3]at hcell;have hz:(zs.map (T.int ik))[j]? =some (T.int ik zs[j]):=by simp[hj]
  have hrd:=hr j _ (T.int ik zs[j]) hvj hz;have hint:vs[j]'(by omega)=Value.int ik zs[j]:=by
   generalize vs[j]'(by omega)=u at hrd;cases hrd;rfl
  rw[hint]at hcell;simp only[List.getElem?_toArray,bA,aB hj,cH];simpa using hcell
 .rw[dI (by omega),dI (by simp;omega)]
end
end Go.Ps
namespace Go.Ps
noncomputable section
inductive Ki where
 |seq (d:Code)
 |blk (id:Nat)
 |lp
abbrev kE:=List Ki
inductive Lu where
 |again (j:Nat) (fr:fU) (H:Hp)
 |done (x:X) (fr:fU) (H:Hp)
 |loop (j:Nat) (c:Code) (ks:kE) (fr:fU) (H:Hp)
inductive Md where
 |code (c:Code)
 |out (x:X)
def rH(P:fV)(E:Ed)(F:Fc):Nat->Md->List Ki->Nat->List T->Hp->List Bool->List Bool->RD Lu
 |0,_,_,_,_,_,_,_ => .fail 40|_ +1,.out x,[],_,fr,H,ds,log=> .ok (.done x fr H) ds log|n+1,.out .normal,.seq d::ks,j,fr,H,ds,log=>rH P E F n (.code d) ks j fr H ds log|n+1,.out .normal,.blk _ ::ks,j,fr,H,ds,log=>rH P E F n (.out .normal) ks j fr H ds log|_ +1,.out .normal,.lp::_,j,fr,H,ds,log=> .ok (.again j fr H) ds log|n+1,.out (.exit id),.seq _ ::ks,j,fr,H,ds,log=>rH P E F n (.out (.exit id)) ks j fr H ds log|n+1,.out (.exit id),.blk id'::ks,j,fr,H,ds,log=>if id=id' then rH P E F n (.out .normal) ks j fr H ds log else rH P E F n (.out (.exit id)) ks j fr H ds log
 |n+1,.out (.exit id),.lp::ks,j,fr,H,ds,log=>rH P E F n (.out (.exit id)) ks (j+1) fr H ds log|n+1,.out .ret,.lp::ks,j,fr,H,ds,log=>rH P E F n (.out .ret) ks (j+1) fr H ds log|n+1,.out .ret,.seq _ ::ks,j,fr,H,ds,log=>rH P E F n (.out .ret) ks j fr H ds log|n+1,.out .ret,.blk _ ::ks,j,fr,H,ds,log=>rH P E F n (.out .ret) ks j fr H ds log
 |n+1,.code c,ks,j,fr,H,ds,log=>match c with
  | .seq a b=>rH P E F n (.code a) (.seq b::ks) j fr H ds log| .block id c=>rH P E F n (.code c) (.blk id::ks) j fr H ds log| .scope c=>rH P E F n (.code c) ks j fr H ds log| .loop c=> .ok (.loop j c ks fr H) ds log
  | .cond o a b=>match qG E.gl fr o with
   |some (.bool t)=>match ds with
    |[]=> .need t log|d::ds'=>if d then rH P E F n (.code a) ks j fr H ds' (t::log)else rH P E F n (.code b) ks j fr H ds' ((!t)::log)
   |_ => .fail 41
  |c=>match qE P E F c fr H ds log with
   | .ok (x,fr',H') ds' log'=>rH P E F n (.out x) ks j fr' H' ds' log'| .need t l=> .need t l| .fail m=> .fail m
def DX:Code->List Ki->List (Code×List Ki)
 | .seq a b,ks=>DX a (.seq b::ks)++DX b ks| .block id c,ks=>DX c (.blk id::ks)| .scope c,ks=>DX c ks| .cond _ a b,ks=>DX a ks++DX b ks| .loop c,ks=>(c,ks)::DX c (.lp::ks)|_,_ =>[]
def sZ(P:fV)(E:tY)(Q:gR):List Ki->List (List T->Hp->Prop)->X->List T->Hp->Prop
 |[],_ =>Q| .seq d::ks,As=>wV (λfr H=>Good P E d fr H (sZ P E Q ks As)) (sZ P E Q ks As)| .blk id::ks,As=>xH id (sZ P E Q ks As)| .lp::ks,A::As=>wV A (sZ P E Q ks As)| .lp::ks,[]=>wV (λ_ _ =>False) (sZ P E Q ks [])
def aKi:Md->Bool
 | .code c=>codeOk c| .out _ =>true
def DD:List Ki->Bool
 |[]=>true| .seq d::ks=>codeOk d&&DD ks|_ ::ks=>DD ks
abbrev iZ:=List (List T->Hp->Prop)
def aSx(P:fV)(E:tY)(Q:gR)(As:iZ):Lu->Prop
 | .again j fr H=>∃A,As[j]? =some A/\A fr H| .done x fr H=>Q x fr H| .loop j c ks fr H=>Good P E (.loop c) fr H (sZ P E Q ks (As.drop j))
def mdGood(P:fV)(E:tY)(fr:fU)(H:Hp)(R:gR):Md->Prop
 | .code c=>Good P E c fr H R| .out x=>R x fr H
section
variable{P:fV}{D:Ed}{F:Fc}{Q:gR}{As:iZ}
theorem Kg(ks:kE)(j:Nat):sZ P D.env Q (.lp::ks) (As.drop j)=wV (λfr H=>∃A,As[j]? =some A/\A fr H) (sZ P D.env Q ks (As.drop (j+1))):=by
 by_cases h:j<As.length
 .rw[eT h];simp only[sZ];have e:(λfr H=>∃A,As[j]? =some A/\A fr H)=As[j]:=by
   funext fr H;rw[aB h];simp
  rw[e]
 .rw[eN (by omega),eN (by omega)];simp only[sZ];congr 1;funext fr H;rw[bU (by omega)];simp
theorem aCp(hm:P.follows .mixedOrders=true)(hE:vP P D.gl D.env.pe)(hF:tX P D.gl F.ee){c:Code}(hok:codeOk c=true){fr fr':fU}{H H':Hp}{x:X}{ds log ds' log':gH}
  (h:qE P D F c fr H ds log= .ok (x,fr',H') ds' log') (hl:qA log'=true) {R:gR} (hR:R x fr' H'):Good P D.env c fr H R:=by
 intro g0 g H0 a hc K hK;exact Ii hm hE hF 0 c fr H x fr' H' hok (AZ 0 h hl).1 g0 g H0 a hc K (λa' g' hc'=>hK x fr' H' a' g' hR hc')
theorem Kr(hm:P.follows .mixedOrders=true)(hE:vP P D.gl D.env.pe)(hF:tX P D.gl F.ee):∀(n:Nat) (m:Md) (ks:kE) (j:Nat) (fr:fU) (H:Hp) (ds log:gH) (o:Lu) (ds' log':gH),
  rH P D F n m ks j fr H ds log= .ok o ds' log'->qA log'=true->aKi m=true->DD ks=true->qA log=true/\(aSx P D.env Q As o->mdGood P D.env fr H (sZ P D.env Q ks (As.drop j)) m):=by
 intro n
 induction n with
 |zero=>intro m ks j fr H ds log o ds' log' h;simp[rH]at h
 |succ n ih=>
  intro m ks j fr H ds log o ds' log' h hl hmo hko;cases m with
  |out x=>
   cases ks with
   |nil=>simp only[rH]at h;cases h;exact⟨hl,λq=>q⟩
   |cons k ks=>
    cases x with
    |normal=>cases k with
     |seq d=>
      simp only[rH]at h;simp only[DD,aA]at hko;obtain⟨a,b⟩:=ih _ _ _ _ _ _ _ _ _ _ h hl hko.1 hko.2;exact⟨a,λq=>b q⟩
     |blk id=>
      simp only[rH]at h;obtain⟨a,b⟩:=ih _ _ _ _ _ _ _ _ _ _ h hl rfl hko;exact⟨a,λq=>b q⟩
     |lp=>
      simp only[rH]at h;cases h;refine⟨hl,λq=> ?_⟩;simp only[mdGood,Kg];exact q
    |exit id=>cases k with
     |seq d=>
      simp only[rH]at h;simp only[DD,aA]at hko;obtain⟨a,b⟩:=ih _ _ _ _ _ _ _ _ _ _ h hl rfl hko.2;exact⟨a,λq=>b q⟩
     |blk id'=>
      simp only[rH]at h;split at h
      .rename_i e;obtain⟨a,b⟩:=ih _ _ _ _ _ _ _ _ _ _ h hl rfl hko;refine⟨a,λq=> ?_⟩;simp only[mdGood,sZ,xH,if_pos e];exact b q
      .rename_i e;obtain⟨a,b⟩:=ih _ _ _ _ _ _ _ _ _ _ h hl rfl hko;refine⟨a,λq=> ?_⟩;simp only[mdGood,sZ,xH,if_neg e];exact b q
     |lp=>
      simp only[rH]at h;obtain⟨a,b⟩:=ih _ _ _ _ _ _ _ _ _ _ h hl rfl hko;refine⟨a,λq=> ?_⟩;simp only[mdGood,Kg];exact b q
    |ret=>cases k with
     |seq d=>
      simp only[rH]at h;simp only[DD,aA]at hko;obtain⟨a,b⟩:=ih _ _ _ _ _ _ _ _ _ _ h hl rfl hko.2;exact⟨a,λq=>b q⟩
     |blk id'=>
      simp only[rH]at h;obtain⟨a,b⟩:=ih _ _ _ _ _ _ _ _ _ _ h hl rfl hko;exact⟨a,λq=>b q⟩
     |lp=>
      simp only[rH]at h;obtain⟨a,b⟩:=ih _ _ _ _ _ _ _ _ _ _ h hl rfl hko;refine⟨a,λq=> ?_⟩;simp only[mdGood,Kg];exact b q
  |code c=>
   simp only[aKi]at hmo
   have leaf:∀{c:Code},codeOk c=true->(match qE P D F c fr H ds log with
     | .ok (x,fr',H') ds' log'=>rH P D F n (.out x) ks j fr' H' ds' log'| .need t l=> .need t l| .fail m=> .fail m)=RD.ok o ds' log'->qA log=true/\(aSx P D.env Q As o->Good P D.env c fr H (sZ P D.env Q ks (As.drop j))):=by
    intro c hc h;split at h
    .rename_i x fr1 H1 ds1 log1 hr;obtain⟨a,b⟩:=ih _ _ _ _ _ _ _ _ _ _ h hl rfl hko;exact⟨(AZ 0 hr a).2,λq=>aCp hm hE hF hc hr a (b q)⟩
    .cases h
    .cases h
   cases c with
   |seq a b=>
    simp only[rH]at h;simp only[codeOk,aA]at hmo;obtain⟨p,q⟩:=ih _ _ _ _ _ _ _ _ _ _ h hl (by exact hmo.1) (by simp only[DD,aA];exact⟨hmo.2,hko⟩);exact⟨p,λr=>aJg (q r)⟩
   |block id c=>
    simp only[rH]at h;obtain⟨p,q⟩:=ih _ _ _ _ _ _ _ _ _ _ h hl (by exact hmo) (by exact hko);exact⟨p,λr=>Vc (q r)⟩
   |scope c=>
    simp only[rH]at h;obtain⟨p,q⟩:=ih _ _ _ _ _ _ _ _ _ _ h hl (by exact hmo) hko;exact⟨p,λr=>Vd (q r)⟩
   |loop c=>
    simp only[rH]at h;cases h;exact⟨hl,λq=>q⟩
   |cond t a b=>
    simp only[rH]at h;simp only[codeOk,aA]at hmo;split at h
    .rename_i t' ht;split at h
     .cases h
     .rename_i d ds1;split at h
      .obtain⟨p,q⟩:=ih _ _ _ _ _ _ _ _ _ _ h hl (by exact hmo.1) hko;simp only[qA,aA]at p;exact⟨p.2,λr=>Eg (E:=D.env) ht (λ_ =>q r) (λe=>by rw[p.1]at e;cases e)⟩
      .obtain⟨p,q⟩:=ih _ _ _ _ _ _ _ _ _ _ h hl (by exact hmo.2) hko;simp only[qA,aA,bW]at p;exact⟨p.2,λr=>Eg (E:=D.env) ht (λe=>by rw[p.1]at e;cases e) (λ_ =>q r)⟩
    .cases h
   |skip=>simp only[rH]at h;exact leaf hmo h|label l=>simp only[rH]at h;exact leaf hmo h|region id ops draw=>simp only[rH]at h;exact leaf hmo h|exit id=>simp only[rH]at h;exact leaf hmo h|ret=>simp only[rH]at h;exact leaf hmo h|_ =>simp only[rH]at h;exact leaf hmo h
end
def qD(f:Func):Code:=
 match f.body with
 |some c=>c|none=> .skip
def qS(f:Func)(i:Nat):Code×List Ki:=(DX (qD f) []).getD i (.skip,[])
inductive LC where
 |again (j:Nat)
 |done (r:jJ)
 |loop (j:Nat) (c:Code) (ks:kE)
def aLn(P:fV)(fr:fU)(H:Hp):List ResultVar->Option (List T×Bool)
 |[]=>some ([],true)
 |r::rs=>match aLn P fr H rs with
  |some (ts,b)=>match r with
   | .tmp t=>some (qR fr t::ts,b)
   | .cell a t=>match qR fr a with
    | .ptr l off=>match KP P t with
     |some true=>match vZ P t with
      |some n=>some (.agg (Ih H l off n)::ts,UD H l (off+n)&&b)|none=>none
     |some false=>some ((UY H l).cells.getD off pV::ts,UD H l (off+1)&&b)|none=>none
    |x=>match wZ P H t x with
     |some v=>some (v::ts,b)|none=>none
  |none=>none
theorem Km{P:fV}{fr:fU}{H:Hp}:∀{rs:jH} {ts:fU} {b:Bool},aLn P fr H rs=some (ts,b)->b=true->sS P fr H rs=some ts
 |[],ts,b,h,hb=>by simp only[aLn,aC,aU]at h;rw[<-h.1];rfl
 |r::rs,ts,b,h,hb=>by
  simp only[aLn]at h;split at h
  .rename_i ts1 b1 hr;have key:∀x,Qo P fr H r=some x->ts=x::ts1->b1=true->sS P fr H (r::rs)=some ts:=by
    intro x hx e h1;simp only[sS,hx,Km hr h1,e]
   split at h
   .simp only[aC,aU]at h;exact key _ rfl h.1.symm (h.2.trans hb)
   .rename_i a t;split at h
    .rename_i l off hp;split at h
     .rename_i hag;split at h
      .rename_i n hn;simp only[aC,aU]at h;obtain⟨e1,e2⟩:=h;rw[hb,aA]at e2;refine key _ ?_ e1.symm e2.2;simp only[Qo,hp,wZ,wI];have hc:= @Dp H l off n;have h1:=e2.1;unfold UD at h1;unfold UY at hc;split at h1
       .rename_i ob hob;rw[hob]at hc⊢;simp only[aJ]at h1;simp only[wN,hag,hn];rw[if_pos h1,hc h1]
       .cases h1
      .cases h
     .rename_i hag;simp only[aC,aU]at h;obtain⟨e1,e2⟩:=h;rw[hb,aA]at e2;refine key _ ?_ e1.symm e2.2;simp only[Qo,hp,wZ,wI];have h1:=e2.1;unfold UD at h1;unfold UY;split at h1
      .rename_i ob hob;rw[hob];simp only[aJ]at h1;simp only[wN,hag];rw[aW,aB (by omega)];rfl
      .cases h1
     .cases h
    .split at h
     .rename_i v hv;simp only[aC,aU]at h;exact key _ hv h.1.symm (h.2.trans hb)
     .cases h
  .cases h
def Qn(P:fV)(fn:Func)(k:Nat)(fr:fU)(H:Hp):Option T:=
 match aLn P fr H fn.results.toList with
 |some ([t],b)=>if b then qJ k H t else none
 |some (ts,b)=>if b then qJ k H (.tup ts)else none
 |none=>none
theorem aLl{P:fV}{fn:Func}{k:Nat}{fr:fU}{H:Hp}{r:T}(h:Qn P fn k fr H=some r):∃q,yD P fn fr H=some q/\qJ k H q=some r:=by
 unfold Qn at h;unfold yD;split at h
 .rename_i t b hr;cases b with
  |true=>rw[Km hr rfl];exact⟨t,rfl,h⟩|false=>cases h
 .rename_i ts b hne hr;cases b with
  |true=>
   rw[Km hr rfl];refine⟨.tup ts,?_,h⟩
   match ts,hne with
   |[],_ =>rfl|[x],hne=>exact absurd rfl (hne x)|_ ::_ ::_,_ =>rfl
  |false=>cases h
 .cases h
def sR(P:fV)(fn:Func)(k:Nat)(keep:gI):RD Lu->Option (LC×List Bool×Hp×List T×Nat)
 | .ok (.again j fr H) _ log=>some (.again j,log,H,keep.map (qR fr),fr.length)| .ok (.done .normal fr H) _ log=>some (.done (Qn P fn k fr H),log,⟨0,.nl⟩,[],0)| .ok (.done .ret fr H) _ log=>some (.done (Qn P fn k fr H),log,⟨0,.nl⟩,[],0)| .ok (.loop j c ks fr H) _ log=>some (.loop j c ks,log,H,keep.map (qR fr),fr.length)|_ =>none
def frK(keep:gI)(vs:fU)(fr:fU)(len:Nat):List T:=ovl (keep.zip vs) fr 0 len
theorem Au{fr:fU}:∀(keep:gI) (vs:fU),keep.map (qR fr)=vs->∀k v,(keep.zip vs).lookup k=some v->qR fr k=v
 |[],_,_,k,v,h=>by simp at h|x::xs,[],e,k,v,h=>by simp at h
 |x::xs,y::ys,e,k,v,h=>by
  simp only[cB,eP]at e;simp only[List.zip_cons_cons,List.lookup_cons]at h;split at h
  .rename_i hk;have:k=x:=by simpa using hk
   cases h;rw[this];exact e.1
  .exact Au xs ys e.2 k v h
theorem aWt{keep:gI}{vs fr:fU}{len:Nat}(h1:keep.map (qR fr)=vs)(h2:fr.length=len):frK keep vs fr len=fr:=by
 unfold frK;rw[aKx (keep.zip vs) fr (Au keep vs h1) len 0 (by omega)];rfl
section
variable{P:fV}{D:Ed}{F:Fc}{As:iZ}{fn:Func}{k:Nat}{res:T}{keep:gI}{N:Nat}{m:Md}{ks:kE}{fr:fU}{H H':Hp}{ds log:gH}{vs:fU}{len:Nat}
theorem way_done{r:jJ}(hm:P.follows .mixedOrders=true)(hE:vP P D.gl D.env.pe)(hF:tX P D.gl F.ee)(hmo:aKi m=true)(hko:DD ks=true)
  (h:sR P fn k keep (rH P D F N m ks 0 fr H ds [])=some (.done r,log,H',vs,len)) (hr:r=some res) (hl:qA log=true):mdGood P D.env fr H (sZ P D.env (Th P fn k res) ks As) m:=by
 subst hr;have key:∀(x:X) (fr1:fU) (H1:Hp) (ds1:gH),(x= .normal\/x= .ret)->rH P D F N m ks 0 fr H ds []= .ok (.done x fr1 H1) ds1 log->Qn P fn k fr1 H1=some res->mdGood P D.env fr H (sZ P D.env (Th P fn k res) ks As) m:=by
  intro x fr1 H1 ds1 hx hr1 hres;refine(Kr hm hE hF _ _ _ _ _ _ _ _ _ _ _ hr1 hl hmo hko).2 ⟨hx,?_⟩;exact aLl hres
 unfold sR at h;split at h<;>try cases h
 .rename_i fr1 H1 ds1 log1 hr1;simp only[aC,aU,LC.done.injEq]at h;obtain⟨e1,rfl,_⟩:=h;exact key _ fr1 H1 ds1 (.inl rfl) hr1 e1
 .rename_i fr1 H1 ds1 log1 hr1;simp only[aC,aU,LC.done.injEq]at h;obtain⟨e1,rfl,_⟩:=h;exact key _ fr1 H1 ds1 (.inr rfl) hr1 e1
theorem way_again(hm:P.follows .mixedOrders=true)(hE:vP P D.gl D.env.pe)(hF:tX P D.gl F.ee)(hmo:aKi m=true)(hko:DD ks=true){Q:gR}{j:Nat}
  (h:sR P fn k keep (rH P D F N m ks 0 fr H ds [])=some (.again j,log,H',vs,len)) (hl:qA log=true) {A:List T->Hp->Prop} (hA:As[j]? =some A) (hq:∀fr',keep.map (qR fr')=vs->fr'.length=len->A fr' H'):
  mdGood P D.env fr H (sZ P D.env Q ks As) m:=by
 unfold sR at h;split at h<;>cases h;rename_i fr1 ds1 hr1;exact(Kr hm hE hF _ _ _ _ _ _ _ _ _ _ _ hr1 hl hmo hko).2 ⟨A,hA,hq fr1 rfl rfl⟩
theorem way_loop(hm:P.follows .mixedOrders=true)(hE:vP P D.gl D.env.pe)(hF:tX P D.gl F.ee)(hmo:aKi m=true)(hko:DD ks=true){Q:gR}{j:Nat}{c:Code}{ks':kE}
  (h:sR P fn k keep (rH P D F N m ks 0 fr H ds [])=some (.loop j c ks',log,H',vs,len)) (hl:qA log=true) (hq:∀fr',keep.map (qR fr')=vs->fr'.length=len->Good P D.env (.loop c) fr' H' (sZ P D.env Q ks' (As.drop j))):
  mdGood P D.env fr H (sZ P D.env Q ks As) m:=by
 unfold sR at h;split at h<;>cases h;rename_i fr1 ds1 hr1;exact(Kr hm hE hF _ _ _ _ _ _ _ _ _ _ _ hr1 hl hmo hko).2 (hq fr1 rfl rfl)
theorem Vw{E:tY}{c:Code}{f:gV}{fn:Func}(hz:wR E.gl)(h1:vL P f=true)(hfn:P.funcs[f]? =some fn)(hb:fn.body=some c){ts:fU}{r:T}{d:Nat}(hts:mapO (qJ d ⟨0,.nl⟩) ts=some ts)
  (h:Good P E c (ts++List.replicate (fn.ntmps-ts.length) pV) ⟨0,.nl⟩ (Th P fn k r)):pW P E.gl f ts r:=by
 refine⟨h1,λg vs hg ⟨N,hN⟩ hgl hv=> ?_⟩;have hsN:St g ⟨N,.nl⟩:=St.nl _ _ (hN);have hts1:mapO (qJ d ⟨N,.nl⟩) ts=some ts:=by
  have:∀(ts ts':fU),mapO (qJ d ⟨0,.nl⟩) ts=some ts'->mapO (qJ d ⟨N,.nl⟩) ts=some ts':=by
   intro ts
   induction ts with
   |nil=>intro rs h;exact h
   |cons t ts iht=>
    intro rs h;simp only[mapO]at h⊢;split at h
    .rename_i a ha;split at h
     .rename_i b hb;rw[HW d 0 _ _ _ ha,iht _ hb];exact h
     .cases h
    .cases h
  exact this ts ts hts
 have hv':RdL g.bare vs ts:=by
  have:=JW (g0:=g.bare) hsN hts1 hv;rw[AQ]at this;exact this
 have hgl':GlOk E.gl g.bare:=by
  have:=GlOk.frz (g0:=g.bare) hz hsN hgl;rw[AQ]at this;exact this
 have hs:St g.bare ⟨0,.nl⟩:=St.nl _ _ (λl _ q=>q);have hframe:RdL g.bare (vs.toArray++Array.replicate (fn.ntmps-vs.toArray.size) undef).toList (ts++List.replicate (fn.ntmps-ts.length) pV):=by
  have:(vs.toArray++Array.replicate (fn.ntmps-vs.toArray.size) undef).toList=vs++List.replicate (fn.ntmps-ts.length) undef:=by simp[hv.1]
  rw[this];exact hv'.append (RdL.replicate _ Rd.undef)
 have hinv:qT E g.bare ⟨0,.nl⟩ g.bare {tmps:=vs.toArray++Array.replicate (fn.ntmps-vs.toArray.size) undef,defers:=[]} (ts++List.replicate (fn.ntmps-ts.length) pV) ⟨0,.nl⟩:=⟨hg,hs,hgl',rfl,hframe,qF.refl _ _⟩;refine calls_of_wp hfn hb (h g.bare g.bare ⟨0,.nl⟩ _ hinv _ (λx fr' H' a' g' hQ hc=> ?_));obtain⟨hx,q,hq,hz⟩:=hQ;obtain⟨v,hv1,hv2⟩:=aEa (fn:=fn) hc hq;have e3:=hc.step;have fin:∃v' g'',Ending.returned v= .returned v'/\g''.w=g'.w/\PStep g g''/\rZ g''/\Rd g'' v' r:=by
  refine⟨v,g'.frz H' g,rfl,rfl,?_,?_,LO hc.st k q r v hz hv2⟩
  .refine⟨e3.os,e3.tape,e3.output,e3.size,λb hb=>e3.block b hb (λl o ho=>(by rw[uI]at ho;cases ho)),λb hb=> .inl (e3.sub b hb),λb hb=> ?_,rfl,rfl,rfl⟩;rcases hb with hb|⟨l,o,ho,rfl⟩
   .rcases e3.fresh b hb with q|q|⟨l,o,ho,_⟩
    .exact .inl q
    .exact .inr q
    .rw[uI]at ho;cases ho
   .rcases e3.live l o (qP ho).1 with⟨l0,o0,q,_⟩|q
    .rw[uI]at q;cases q
    .exact .inr q
  .intro b hb;rcases hb with hb|⟨l,o,ho,rfl⟩
   .exact hc.ok b hb
   .exact hc.st.lt (qP ho).1
 rcases hx with rfl|rfl
 .exact⟨hc.df,v,hv1,fin⟩
 .exact⟨hc.df,v,hv1,fin⟩
end
end
structure Cx(P:fV)(D:Ed)(F:Fc):Prop where
 hm:P.follows .mixedOrders=true
 hE:vP P D.gl D.env.pe
 hF:tX P D.gl F.ee
section
variable{P:fV}{D:Ed}{F:Fc}{As:iZ}{fn:Func}{k:Nat}{res:T}{keep:gI}{N:Nat}{c:Code}{ks:kE}{fr:fU}{H H':Hp}{ds log:gH}{vs:fU}{len:Nat}
theorem Cx.done{r:jJ}(x:Cx P D F)(hc:codeOk c=true)(hk:DD ks=true)
  (h:sR P fn k keep (rH P D F N (.code c) ks 0 fr H ds [])=some (.done r,log,H',vs,len)) (hr:r=some res) (hl:qA log=true):Good P D.env c fr H (sZ P D.env (Th P fn k res) ks As):=
 way_done (m:= .code c) x.hm x.hE x.hF hc hk h hr hl
theorem Cx.again(x:Cx P D F)(hc:codeOk c=true)(hk:DD ks=true){Q:gR}{j:Nat}
  (h:sR P fn k keep (rH P D F N (.code c) ks 0 fr H ds [])=some (.again j,log,H',vs,len)) (hl:qA log=true) {A:List T->Hp->Prop} (hA:As[j]? =some A) (hq:∀fr',keep.map (qR fr')=vs->fr'.length=len->A fr' H'):
  Good P D.env c fr H (sZ P D.env Q ks As):=
 way_again (m:= .code c) x.hm x.hE x.hF hc hk h hl hA hq
theorem Cx.loop(x:Cx P D F)(hc:codeOk c=true)(hk:DD ks=true){Q:gR}{j:Nat}{c':Code}{ks':kE}
  (h:sR P fn k keep (rH P D F N (.code c) ks 0 fr H ds [])=some (.loop j c' ks',log,H',vs,len)) (hl:qA log=true) (hq:∀fr',keep.map (qR fr')=vs->fr'.length=len->Good P D.env (.loop c') fr' H' (sZ P D.env Q ks' (As.drop j))):
  Good P D.env c fr H (sZ P D.env Q ks As):=
 way_loop (m:= .code c) x.hm x.hE x.hF hc hk h hl hq
end
theorem aLh{g:G}{v:gQ}{c:T}(hs:BI c=true)(h:Rd g v c):HH g v c:=by
 cases h with
 |int k n=>exact .int k n|bool b=>exact .bool b|str s=>exact .str s|nilp=>exact .nilp|nils=>exact .nils|nilf=>exact .nilf|nili=>exact .nili|nilm=>exact .nilm|_ =>simp[BI]at hs
theorem Rb{c:T}(hs:BI c=true):c.cells=[c]:=by cases c<;>simp[BI]at hs<;>rfl
theorem aYh{g:G}{v:gQ}{full:Bool}{xs:fU}{n:Nat}{f:gZ}(h:Rd g v (.sl full xs))(hs:∀x∈xs,BI x=true)(hn:xs.length=n)(hf:∀i,i<n->xs[i]? =some (f i)):Rd g v (.slf full n f):=by
 subst hn;cases h with
 |sl _ _ sz b o cap vs h1 h2 h3 h4 h5 h6 h7 h8=>
  refine .slf full xs.length f sz b o cap vs (λq=>h1 (λe=>q (by simp[e]))) (λi hi=>h2 _ (bB (hf i hi))) h3 h4 h5 h6 h7 (λi j u c hi hj hu hc=> ?_);have hm:=bB (hf i hi);have hr:=h8 _ u c hu (GP h2 (hf i hi) j c hc);rw[Rb (hs _ hm)]at hc;cases j with
  |zero=>simp at hc;subst hc;exact aLh (hs _ hm) hr|succ j=>simp at hc
theorem aAo{g:G}{v:gQ}(full:Bool)(f:gZ)(h:Rd g v .nils):Rd g v (.slf full 0 f):=by
 cases h;exact .slfn full f _
theorem pW.mono{P:fV}{gl:fY}{f:gV}{ts:fU}{r r':T}(h:pW P gl f ts r)(k:∀g v,Rd g v r->Rd g v r'):pW P gl f ts r':=
 ⟨h.1,λg vs hg hN hgl hv=>(h.2 g vs hg hN hgl hv).mono λ_ _ ⟨v,g',e1,e2,e3,e4,e5⟩=>⟨v,g',e1,e2,e3,e4,k _ _ e5⟩⟩
def G.start(W:iK):G:={w:=W,S:=λb=>b<W.heap.size,al:=λ_ =>False,loc:=λ_ =>0,cp:=λ_ =>0}
theorem aMf(W:iK):rZ (G.start W):=λ_ h=>h
theorem aCo{P:fV}{W:iK}{name:String}{k:Nat}{ik:iE}{zs:gJ}(hn:P.globalNamed name=some k)(h:Lib.TabIs P W name ik zs):PQ (G.start W) k (.ref (.agg (zs.map (T.int ik))) 0):=by
 unfold Lib.TabIs World.var? at h;rw[hn,eL]at h;split at h
 .rename_i cs e fz hb;cases h;have hlt:k<W.heap.size:=(aK.1 hb).1;refine⟨?_,hlt,_,e,fz,hb,by simp[T.refLen,T.cells]⟩;have key:=Rd.ref (g:=G.start W) (.agg (zs.map (T.int ik))) 0 k 0 (zs.map λz=>Value.int ik z) hlt (by simp[T.cells]) (λj v hv=> ?_) (λj v c hv hc=> ?_)
  .exact key
  .unfold World.cell?;show(match W.heap[k]? with|some (.cells c _ _)=>if(none:Option _).isSome then none else c[0+j]? |_ =>none)=some v;rw[hb];simpa using hv
  .simp only[T.cells,bA]at hv hc;cases hz:zs[j]? with
   |none=>rw[hz]at hv;simp at hv|some z=>rw[hz]at hv hc;simp at hv hc;subst hv;subst hc;exact .int ik z
 .cases h
theorem kept_of{g g':G}(h:PStep g g')(may:MemPlace->Prop):g.w.keptBut g'.w may:=by
 refine⟨h.os,h.output,λi hi=> ?_⟩;rw[h.block i hi];cases ho:g.w.heap[i]? with
 |none=>simp|some o=>cases o<;>simp
theorem run_start{P:fV}{gl:fY}{f:gV}{ts:fU}{r:T}(h:pW P gl f ts r){W:iK}(hgl:GlOk gl (G.start W)){vs:gM}(hv:RdL (G.start W) vs ts):
  Calls P f vs.toArray W λe w'=>∃v g',e= .returned v/\g'.w=w'/\PStep (G.start W) g'/\Rd g' v r:=
 (h.2 (G.start W) vs (aMf W) ⟨0,λ_ _ q=>q⟩ hgl hv).mono λ_ _ ⟨v,g',e1,e2,e3,_,e5⟩=>⟨v,g',e1,e2,e3,e5⟩
def wS(g:G)(vs:gM)(ts:fU):Prop:=vs.length=ts.length/\∀(j:Nat) (v:gQ) (c:T),vs[j]? =some v->ts[j]? =some c->HH g v c
section
variable{g:G}
theorem wS.nil:wS g [] []:=⟨rfl,λj v c h=>by simp at h⟩
theorem wS.one{v:gQ}{t:T}(h:HH g v t):wS g [v] [t]:=by
 refine⟨rfl,λj u c hu hc=> ?_⟩;cases j with
 |zero=>simp at hu hc;subst hu;subst hc;exact h|succ j=>simp at hu
theorem wS.append{vs us:gM}{ts ss:fU}(h:wS g vs ts)(k:wS g us ss):wS g (vs++us) (ts++ss):=by
 refine⟨by simp[h.1,k.1],λj u c hu hc=> ?_⟩;rw[dT]at hu hc;by_cases hj:j<vs.length
 .rw[if_pos hj]at hu;rw[if_pos (h.1▸hj)]at hc;exact h.2 j u c hu hc
 .rw[if_neg hj]at hu;rw[if_neg (h.1▸hj),<-h.1]at hc;exact k.2 _ u c hu hc
end
def fieldAt(P:fV)(t:fS)(i:Nat):Option (TypeId×Nat×Nat):=
 match P.underlying t with
 |some (.struct fs)=>(fs[i]?).map λf=>(f.type,f.offset,P.cellsOf f.type)|_ =>none
section
variable{H:Type}(enc:TypeId×Value->H)(P:fV)(W:iK)
def sU(t:fS){A:Type}(mk:A->List T)(ok:A->Prop):Prop:=
 ∀(n:Nat) (cs:gM) (y:DataW H×List MemPlace),DataW.trod enc P W 0 (λ_ =>true) true n t cs=some y->∃a:A,wS (G.start W) cs (mk a)/\ok a
variable{enc P W}
theorem sU.int{t:fS}{k:iE}(ht:P.underlying t=some (.int k)):sU enc P W t (λn:Int=>[.int k n]) (λn=>k.has n):=by
 intro n cs y h;obtain⟨m,rfl,_,hw⟩:=DataW.trod_int ht h;refine⟨m,wS.one (.int k m),?_⟩;simp[Lit.wf]at hw;exact hw
theorem sU.bool{t:fS}(ht:P.underlying t=some .bool):sU enc P W t (λb:Bool=>[.bool b]) (λ_ =>True):=by
 intro n cs y h;obtain⟨b,rfl,_⟩:=DataW.trod_bool ht h;exact⟨b,wS.one (.bool b),trivial⟩
theorem sU.str{t:fS}(ht:P.underlying t=some .string):sU enc P W t (λs:List UInt8=>[.str s]) (λs=>s.length<=maxLen):=by
 intro n cs y h;obtain⟨s,rfl,_,hs⟩:=DataW.trod_string ht h;exact⟨s.data.toList,wS.one (.str s),by simpa using hs⟩
theorem zZ{w:iK}{a:Addr}{n:Nat}{cs:gM}(h:w.cells? 0 a n=some cs):cs.length=n/\∀(j:Nat) (v:gQ),cs[j]? =some v->w.cell? (a.add j)=some v:=by
 obtain⟨_,hl,hc⟩:=World.cells?_some h;refine⟨hl,λj v hv=> ?_⟩;have hj:j<n:=by rw[<-hl];exact(aO.1 hv).1
 rw[hc j hj];exact hv
theorem PJ{w:iK}{a:Addr}{v:gQ}(h:w.cell? a=some v):a.spot=none:=by
 unfold World.cell? at h;split at h
 .split at h
  .cases h
  .rename_i hs;simpa using hs
 .cases h
theorem sU.sliceN{N:Nat}{t e:fS}{sz:Nat}{A:Type}[Inhabited A]{mk:A->List T}{ok:A->Prop}(toT:A->T)(ht:P.underlying t=some (.slice e))(hsz:P.cellsOf e=sz)(hpos:0<sz)(hmk:∀a,(mk a).length=sz)
  (htoT:∀a,(toT a).cells=mk a) (he:∀(n:Nat),n<N->∀(cs:gM) (y:DataW H×List MemPlace),DataW.trod enc P W 0 (λ_ =>true) true n e cs=some y->∃a:A,wS (G.start W) cs (mk a)/\ok a)
  (n:Nat) (hn:n<=N) (cs:gM) (y:DataW H×List MemPlace) (h:DataW.trod enc P W 0 (λ_ =>true) true n t cs=some y):
  ∃x:Nat×(Nat->A),wS (G.start W) cs [.slf false x.1 (λi=>toT (x.2 i))]/\x.1<=maxLen/\∀i,i<x.1->ok (x.2 i):=by
 rcases DataW.trod_slice ht h with⟨rfl,_⟩|⟨a,len,cap,elems,rest,n',hfu,rfl,_,_,hl,hm,hlen,hel,hsp,_⟩
 .exact⟨(0,default),wS.one (.slfn false _ none),by simp,λi hi=>by simp at hi⟩
 .rw[hsz]at hel hsp;have one:∀i,i<len->∃c x,W.cells? 0 (a.add (i*sz)) sz=some c/\wS (G.start W) c (mk x)/\ok x:=by
   intro i hi;have h1:=hel i hi;have h2:elems[i]? =some (elems[i]'(by omega)):=aB (by omega);rw[h2,Option.bind_eq_some_iff]at h1;obtain⟨c,hc,hy⟩:=h1;obtain⟨x,hx,hk⟩:=he _ (by omega) _ _ hy;exact⟨c,x,hc,hx,hk⟩
  have hspot:0<cap->a.spot=none:=by
   intro hc;by_cases hl0:0<len
   .obtain⟨c,x,h1,_,_⟩:=one 0 hl0;obtain⟨h2,h3⟩:=zZ h1;have h4:c[0]? =some (c[0]'(by omega)):=aB (by omega);have:=PJ (h3 0 _ h4);simpa [Addr.add]using this
   .obtain⟨h1,h2⟩:=hsp rfl;have h3:=h2 0 (by omega);have h4:rest[0]? =some (rest[0]'(by omega)):=aB (by omega);rw[h4,Option.bind_eq_some_iff]at h3;obtain⟨c,hc,_⟩:=h3;have l0:len=0:=by omega
    subst l0;obtain⟨h5,h6⟩:=zZ hc;have h7:c[0]? =some (c[0]'(by omega)):=aB (by omega);have:=PJ (h6 0 _ h7);simpa [Addr.add]using this
  classical
  let cel:Nat->List Value:=λi=>if hi:i<len then Classical.choose (one i hi)else []
  let xs:Nat->A:=λi=>if hi:i<len then Classical.choose (dF (one i hi))else default
  have hcx:∀i,i<len->W.cells? 0 (a.add (i*sz)) sz=some (cel i)/\wS (G.start W) (cel i) (mk (xs i))/\ok (xs i):=by
   intro i hi;simp only[cel,xs,dif_pos hi];exact dF (dF (one i hi))
  refine⟨(len,xs),wS.one ?_,by show len<=maxLen;omega,λi hi=>(hcx i hi).2.2⟩;by_cases hcap:cap=0
  .have l0:len=0:=by omega
   subst l0;subst hcap;exact .slfn false _ (some a)
  .obtain⟨b,o,sp⟩:=a;have hs:=hspot (by omega);simp only at hs;subst hs;have hlenAll:∀x∈(List.range len).map cel,x.length=sz:=λx hx=>by
    obtain⟨i,hi,rfl⟩:=bQ.1 hx;exact(zZ (hcx i (by simpa using hi)).1).1
   have hflat:∀(m:Nat),m<=len->(((List.range m).map cel).flatten).length=m*sz:=by
    intro m
    induction m with
    |zero=>intro _;simp
    |succ m ih=>
     intro hm;rw[fG,eQ,List.flatten_append,bI,ih (by omega),cW];simp[(zZ (hcx m (by omega)).1).1]
   have hat:∀(m:Nat),m<=len->∀i j,i<m->j<sz->(((List.range m).map cel).flatten)[i*sz+j]? =(cel i)[j]? :=by
    intro m
    induction m with
    |zero=>intro _ i j hi;omega
    |succ m ih=>
     intro hm i j hi hj;rw[fG,eQ,List.flatten_append,dT,hflat m (by omega)];by_cases him:i<m
     .have:i*sz+j<m*sz:=by
       have:(i+1)*sz<=m*sz:=cU _ him;rw[cW]at this;omega
      rw[if_pos this];exact ih (by omega) i j him hj
     .have:i=m:=by omega
      subst this;rw[if_neg (by omega)];simp
   refine .slf false len (λi=>toT (xs i)) sz b o cap (((List.range len).map cel).flatten) (λhn=> ?_) (λi hi=>by rw[htoT,hmk]) hl hm (λq=>by cases q) (hflat len (aZ _)) (λj v hv=> ?_) (λi j v c hi hj hv hc=> ?_)
   .obtain⟨h1,_,_⟩:=hcx 0 (by omega);obtain⟨h2,h3⟩:=zZ h1;have h4:(cel 0)[0]? =some ((cel 0)[0]'(by omega)):=aB (by omega);have:=LW (h3 0 _ h4);show b<W.heap.size;simpa [Addr.add]using this
   .have hj:j<len*sz:=by
     rw[<-hflat len (aZ _)];exact(aO.1 hv).1
    have hd:j=j/sz*sz+j%sz:=by rw[Nat.mul_comm];exact(Nat.div_add_mod j sz).symm
    have hq:j/sz<len:=by rw[Nat.div_lt_iff_lt_mul hpos];exact hj
    have hr:j%sz<sz:=Nat.mod_lt _ hpos;rw[hd,hat len (aZ _) _ _ hq hr]at hv;have h1:=(zZ (hcx _ hq).1).2 _ v hv;show W.cell? ⟨b,o+j,none⟩=some v;have e:(Addr.add (Addr.add ⟨b,o,none⟩ (j/sz*sz)) (j%sz))=⟨b,o+j,none⟩:=by
     rw[Addr.add_lit,Addr.add_lit];congr 1;omega
    rw[<-e];exact h1
   .rw[hat len (aZ _) i j hi hj]at hv;rw[htoT]at hc;exact(hcx i hi).2.1.2 j v c hv hc
theorem sU.slice{t e:fS}{sz:Nat}{A:Type}[Inhabited A]{mk:A->List T}{ok:A->Prop}(toT:A->T)(ht:P.underlying t=some (.slice e))(hsz:P.cellsOf e=sz)(hpos:0<sz)(hmk:∀a,(mk a).length=sz)
  (htoT:∀a,(toT a).cells=mk a) (he:sU enc P W e mk ok):sU enc P W t (λx:Nat×(Nat->A)=>[.slf false x.1 (λi=>toT (x.2 i))]) (λx=>x.1<=maxLen/\∀i,i<x.1->ok (x.2 i)):=
 λn cs y h=>sU.sliceN toT ht hsz hpos hmk htoT (λn' _ =>he n') n (aZ n) cs y h
theorem Rq{t:fS}{fuel:Nat}{cs:gM}{x:DataW H×List MemPlace}(h:DataW.trod enc P W 0 (λ_ =>true) true fuel t cs=some x){i:Nat}{u:fS}{o s:Nat}(hf:fieldAt P t i=some (u,o,s)):
  cs.length=P.cellsOf t/\∃n y,DataW.trod enc P W 0 (λ_ =>true) true n u ((cs.drop o).take s)=some y:=by
 unfold fieldAt at hf;split at hf
 .rename_i fs ht;simp only[aD]at hf;obtain⟨f,hf,he⟩:=hf;cases he;obtain⟨xs,n,_,_,hl,hlen,hx⟩:=DataW.trod_struct ht h;refine⟨hl,n,?_⟩;have hi:i<xs.length:=by rw[hlen];exact(aK.1 hf).1
  exact⟨xs[i],by rw[hx i f hf,aB hi]⟩
 .cases hf
theorem FH{t:fS}{fuel:Nat}{cs:gM}{x:DataW H×List MemPlace}(h:DataW.trod enc P W 0 (λ_ =>true) true fuel t cs=some x){i:Nat}{u:fS}{o s:Nat}(hf:fieldAt P t i=some (u,o,s)):
  cs.length=P.cellsOf t/\∃n y,n<fuel/\DataW.trod enc P W 0 (λ_ =>true) true n u ((cs.drop o).take s)=some y:=by
 unfold fieldAt at hf;split at hf
 .rename_i fs ht;simp only[aD]at hf;obtain⟨f,hf,he⟩:=hf;cases he;obtain⟨xs,n,hn,_,hl,hlen,hx⟩:=DataW.trod_struct ht h;have hi:i<xs.length:=by rw[hlen];exact(aK.1 hf).1
  exact⟨hl,n,xs[i],by omega,by rw[hx i f hf,aB hi]⟩
 .cases hf
theorem sU.field{t u:fS}{A:Type}{mk:A->List T}{ok:A->Prop}(hu:sU enc P W u mk ok){fuel:Nat}{cs:gM}{x:DataW H×List MemPlace}(h:DataW.trod enc P W 0 (λ_ =>true) true fuel t cs=some x){i o s:Nat}(hf:fieldAt P t i=some (u,o,s)):
  ∃a:A,wS (G.start W) ((cs.drop o).take s) (mk a)/\ok a:=by
 obtain⟨_,n,y,hy⟩:=Rq h hf;exact hu _ _ _ hy
theorem wS.cut{g:G}{cs:gM}{o s:Nat}{ts us:fU}(h:wS g ((cs.drop o).take s) ts)(k:wS g (cs.drop (o+s)) us):wS g (cs.drop o) (ts++us):=by
 have:=h.append k
 rwa [<-List.drop_drop,List.take_append_drop]at this
theorem wS.end_ {g:G}{cs:gM}{o:Nat}(h:cs.length=o):wS g (cs.drop o) []:=by
 rw[List.drop_eq_nil_of_le (by omega)];exact wS.nil
theorem aDy{t:fS}{v:gQ}{r:Reach}{base:Nat}{fs:Array Field}(ht:P.underlying t=some (.struct fs))(hval:Value.okWide P W r base t v):∃cs:Array Value,v= .agg cs/\v.cells.toList=cs.toList:=by
 unfold Value.okWide at hval;rw[ht]at hval;obtain⟨cs,rfl,_⟩:=hval;exact⟨cs,rfl,rfl⟩
theorem aYf{g:G}{cs:gX}{ts:fU}(h:wS g cs.toList ts):Rd g (.agg cs) (.agg ts):=by
 have:=(HH.agg (g:=g) ts cs.toList h.1 h.2).rd;simpa using this
end
def bt:Nat->Nat->List Bool
 |0,_ =>[]|n+1,k=>(k%2==1)::bt n (k/2)
theorem VJ{Y:Type}{a:Bool}{A B:Option Y}{x y:Y}{k l:Bool}(h1:k=true->A=some x)(h2:l=true->B=some y)(h:(if a=true then k else l)=true):(if a=true then A else B)=some (if a=true then x else y):=by
 cases a
 .exact h2 h
 .exact h1 h
theorem FJ{Y:Type}{k:Bool}{x:Y}(h:k=true):(if k=true then some x else none)=some x:=if_pos h
theorem VK{Y:Type}{a:Bool}{A B:Option Y}{Q:Y->Prop}(h1:∀o,A=some o->Q o)(h2:∀o,B=some o->Q o)(o:Y)(h:(if a=true then A else B)=some o):Q o:=by
 cases a
 .exact h2 o h
 .exact h1 o h
theorem FK{Y:Type}{k:Bool}{x:Y}{Q:Y->Prop}(h1:k=true->Q x)(o:Y)(h:(if k=true then some x else none)=some o):Q o:=by
 cases hk:k
 .rw[hk]at h;simp at h
 .rw[hk]at h;simp at h;subst h;exact h1 hk
structure vO(S:Type)where
 lp:S->Nat
 keep:Nat->List Nat
 par:Nat->List Nat
 vs:S->List T
 hp:S->Hp
 len:Nat
 step:S->Option (S⊕T)
def vO.run{S:Type}(M:vO S):Nat->S->Option T
 |0,_ =>none
 |n+1,s=>match M.step s with
  |some (.inl s')=>M.run n s'|some (.inr r)=>some r|none=>none
def vO.fin{S:Type}(M:vO S)(n:Nat):S⊕T->Option T
 | .inl s=>M.run n s| .inr r=>some r
@[simp]theorem vO.fin_inr{S:Type}(M:vO S)(n:Nat)(r:T):M.fin n (.inr r)=some r:=rfl
@[simp]theorem vO.fin_inl{S:Type}(M:vO S)(n:Nat)(s:S):M.fin n (.inl s)=M.run n s:=rfl
theorem vO.run_succ{S:Type}(M:vO S)(n:Nat)(s:S):M.run (n+1) s=(M.step s).bind (M.fin n):=by
 simp only[vO.run];cases M.step s with
 |none=>rfl|some o=>cases o<;>rfl
def vO.At{S:Type}(M:vO S)(s:S)(fr:fU)(H:Hp):Prop:=(M.keep (M.lp s)).map (qR fr)=M.vs s/\fr.length=M.len/\H=M.hp s
def vO.Leads{S:Type}(M:vO S)(P:fV)(D:Ed)(F:Fc)(fn:Func)(k:Nat)(cur:gI)(c:Code)(ks:kE)(fr:fU)(H:Hp):S⊕T->Prop
 | .inr r=>∃N ds log kp H' vs len,sR P fn k kp (rH P D F N (.code c) ks 0 fr H ds [])=some (.done (some r),log,H',vs,len)/\qA log=true
 | .inl s=>(∃N ds log j,sR P fn k (M.keep (M.lp s)) (rH P D F N (.code c) ks 0 fr H ds [])=some (.again j,log,M.hp s,M.vs s,M.len)/\qA log=true/\cur[j]? =some (M.lp s))\/
  (∃N ds log j,sR P fn k (M.keep (M.lp s)) (rH P D F N (.code c) ks 0 fr H ds [])=some (.loop j (qS fn (M.lp s)).1 (qS fn (M.lp s)).2,log,M.hp s,M.vs s,M.len)/\qA log=true/\cur.drop j=M.par (M.lp s))
def vO.Ways{S:Type}(M:vO S)(P:fV)(D:Ed)(F:Fc)(fn:Func)(k:Nat):Prop:=
 ∀s o fr,M.step s=some o->M.Leads P D F fn k (M.lp s::M.par (M.lp s)) (qS fn (M.lp s)).1 (.lp::(qS fn (M.lp s)).2) (frK (M.keep (M.lp s)) (M.vs s) fr M.len) (M.hp s) o
abbrev MQ(r:T)(g:gH):Option (LC×List Bool×Hp×List T×Nat):=some (.done (some r),g,⟨0,.nl⟩,[],0)
noncomputable def vO.rk{S:Type}(M:vO S)(P:fV)(D:Ed)(F:Fc)(fn:Func)(s:S)(fr:fU)(ds:gH):RD Lu:=
 rH P D F 2000 (.code (qS fn (M.lp s)).1) (.lp::(qS fn (M.lp s)).2) 0 (frK (M.keep (M.lp s)) (M.vs s) fr M.len) (M.hp s) ds []
def vO.wa{S:Type}(M:vO S)(P:fV)(fn:Func)(r:RD Lu)(j:Nat)(g:gH)(s:S):Prop:=sR P fn 20 (M.keep (M.lp s)) r=some (.again j,g,M.hp s,M.vs s,M.len)
def vO.wl{S:Type}(M:vO S)(P:fV)(fn:Func)(r:RD Lu)(j:Nat)(g:gH)(s:S):Prop:=sR P fn 20 (M.keep (M.lp s)) r=some (.loop j (qS fn (M.lp s)).1 (qS fn (M.lp s)).2,g,M.hp s,M.vs s,M.len)
theorem Jp{Y:Type}{K:Bool}{V o:Y}(h:(if K=true then some V else none)=some o):K=true/\V=o:=by
 cases hk:K
 .rw[hk]at h;simp at h
 .rw[hk]at h;simp at h;exact⟨rfl,h⟩
theorem EA{Y:Type}{a k l:Bool}{x y:Y}{Q:Y->Prop}(h1:k=true->∀o,x=o->Q o)(h2:l=true->∀o,y=o->Q o)(hk:(if a=true then k else l)=true)(o:Y)(h:(if a=true then x else y)=o):Q o:=by
 cases a
 .exact h2 hk o h
 .exact h1 hk o h
section
variable{S:Type}{M:vO S}{P:fV}{D:Ed}{F:Fc}{fn:Func}{cur:gI}{c:Code}{ks:kE}{fr:fU}{H:Hp}{N j:Nat}{ds g:gH}
theorem kA{s:S}(w:M.wa P fn (rH P D F N (.code c) ks 0 fr H ds []) j g s)(hj:cur[j]? =some (M.lp s))(hk:qA g=true)(o:S⊕T)(h: .inl s=o):M.Leads P D F fn 20 cur c ks fr H o:=h▸ .inl ⟨N,ds,g,j,w,hk,hj⟩
theorem kD{r:T}{kp:gI}(w:sR P fn 20 kp (rH P D F N (.code c) ks 0 fr H ds [])=MQ r g)(hk:qA g=true)(o:S⊕T)(h: .inr r=o):M.Leads P D F fn 20 cur c ks fr H o:=h▸⟨N,ds,g,kp,_,_,_,w,hk⟩
theorem aKp{lp:S->Nat}(n:Nat)(hn:((List.range n).all λj=>codeOk (qS fn j).1&&DD (.lp::(qS fn j).2))=true)(hl:∀Z,lp Z<n)(Z:S):codeOk (qS fn (lp Z)).1=true/\DD (.lp::(qS fn (lp Z)).2)=true:=by
 have:=aH.1 hn _ (dJ.2 (hl Z))
 rwa [aA]at this
end
def vO.LeadsF{S:Type}(M:vO S)(P:fV)(D:Ed)(F:Fc)(fn:Func)(k:Nat)(cur:gI)(c:Code)(ks:kE)(fr:fU)(H:Hp)(o:S⊕T):Prop:=
 M.Leads P D F fn k cur c ks fr H o\/∃s,o= .inl s/\∃N ds log j H' vs' p d k' t0 t,sR P fn k (M.keep (M.lp s)) (rH P D F N (.code c) ks 0 fr H ds [])=some (.loop j (qS fn (M.lp s)).1 (qS fn (M.lp s)).2,log,H',vs',M.len)/\qA log=true/\cur.drop j=M.par (M.lp s)/\
  qJ k' H' (vs'.getD p pV)=some t0/\(∀g v,Rd g v t0->Rd g v t)/\(M.keep (M.lp s))[p]? =some d/\d<M.len/\(M.keep (M.lp s)).Nodup/\M.vs s=vs'.set p t/\M.hp s=⟨H'.next,.nl⟩
def vO.WaysF{S:Type}(M:vO S)(P:fV)(D:Ed)(F:Fc)(fn:Func)(k:Nat):Prop:=
 ∀s o fr,M.step s=some o->M.LeadsF P D F fn k (M.lp s::M.par (M.lp s)) (qS fn (M.lp s)).1 (.lp::(qS fn (M.lp s)).2) (frK (M.keep (M.lp s)) (M.vs s) fr M.len) (M.hp s) o
theorem Rd.grow{g g':G}(hw:g'.w=g.w)(hS:∀b,g.S b->g'.S b)(ha:g'.al=g.al)(hl:g'.loc=g.loc)(hcp:g'.cp=g.cp){v:gQ}{t:T}(hr:Rd g v t):Rd g' v t:=by
 have hc:∀(a:Addr) (v:gQ),g.w.cell? a=some v->g'.w.cell? a=some v:=λa v h=>by rw[hw];exact h
 induction hr with
 |int k n=>exact .int k n|bool b=>exact .bool b|str s=>exact .str s|nilp=>exact .nilp|ptr l off h=>rw[<-hl];exact .ptr l off (ha▸h)|ref x off b o vs h1 hlen hcc _ ih=>exact .ref x off b o vs (hS b h1) hlen (λj v hv=>hc _ _ (hcc j v hv)) ih|nils=>exact .nils|slfn full f p=>exact .slfn full f p|sl full xs sz b o cap vs h1 hsz h2 h3 h4 hlen hcc _ ih=>exact .sl full xs sz b o cap vs (λhx=>hS b (h1 hx)) hsz h2 h3 h4 hlen (λj v hv=>hc _ _ (hcc j v hv)) ih|slf full n f sz b o cap vs h1 h2 h3 h4 h5 h6 h7 h8=>exact Rd.slf_keep hS (λ_ _ _ _ q=>hc _ _ q) h1 h2 h3 h4 h5 h6 h7 h8|osl l sz i len b o cap h h1 h2 h3 h4=>exact .osl l sz i len b o cap (ha▸h) h1 (hcp▸h2) (λq=>hl▸h3 q) (λq=>hcp▸h4 q)|nilf=>exact .nilf|fn f a c vs us h1 _ h3 _ ih1 ih2=>exact .fn f a c vs us h1 ih1 h3 ih2|nili=>exact .nili|iface t v x _ ih=>exact .iface t v x ih|nilm=>exact .nilm|mp l h=>rw[<-hl];exact .mp l (ha▸h)|yl l h=>rw[<-hl];exact .yl l (ha▸h)|agg cs vs h1 _ ih=>exact .agg cs vs h1 ih|tup cs vs h1 _ ih=>exact .tup cs vs h1 ih
theorem qT.freeze{E:tY}{g0 g:G}{H0 H:Hp}{a:Act}{fr:fU}(hz:wR E.gl)(hc:qT E g0 H0 g a fr H){d k:Nat}{t0 t:T}(hd:d<fr.length)(h:qJ k H (qR fr d)=some t0)(hcv:∀g v,Rd g v t0->Rd g v t):qT E g0 H0 (g.frz H g) a (fr.set d t) ⟨H.next,.nl⟩:=by
 refine⟨λb hb=> ?_,St.nl _ _ hc.st.new,GlOk.frz hz hc.st hc.gl,hc.df,⟨by simp[hc.fr.1],λj v c hv hcj=> ?_⟩,?_⟩
 .rcases hb with hb|⟨l,o,ho,rfl⟩
  .exact hc.ok b hb
  .exact hc.st.lt (qP ho).1
 .rw[eC]at hcj;by_cases e:d=j
  .subst e;rw[if_pos rfl,if_pos hd]at hcj;cases hcj;rw[uR,aW,aB hd]at h;exact hcv _ _ <|LO hc.st k _ _ _ h (hc.fr.2 d v _ hv (aB hd))
  .rw[if_neg e]at hcj;exact Rd.grow (g:=g) (g':=g.frz H g) rfl (λ_ q=>Or.inl q) rfl rfl rfl (hc.fr.2 j v c hv hcj)
 .have e3:=hc.step;refine⟨e3.os,e3.tape,e3.output,e3.size,e3.block,λb hb=> .inl (e3.sub b hb),λb hb=> ?_,e3.al,e3.loc,e3.cp,λl o ho=>(by rw[uI]at ho;cases ho)⟩;rcases hb with hb|⟨l,o,ho,rfl⟩
  .exact e3.fresh b hb
  .rcases e3.live l o (qP ho).1 with⟨l0,o0,q1,q2⟩|q
   .exact .inr (.inr ⟨l0,o0,q1,q2⟩)
   .exact .inr (.inl q)
theorem Oi{P:fV}{E:tY}{c:Code}{fr:fU}{H:Hp}{Q:gR}(hz:wR E.gl){d k:Nat}{t0 t:T}(hd:d<fr.length)(h:qJ k H (qR fr d)=some t0)(hcv:∀g v,Rd g v t0->Rd g v t)(hG:Good P E c (fr.set d t) ⟨H.next,.nl⟩ Q):Good P E c fr H Q:=
 λg0 g H0 a hc R hR=>hG g0 (g.frz H g) H0 a (hc.freeze hz hd h hcv) R hR
theorem aJs{keep:gI}{fr vs:fU}{p d:Nat}{t:T}(h1:keep.map (qR fr)=vs)(h2:keep[p]? =some d)(h3:d<fr.length)(h4:keep.Nodup):qR fr d=vs.getD p pV/\keep.map (qR (fr.set d t))=vs.set p t:=by
 have hp:p<keep.length:=(aO.1 h2).1;subst h1;refine⟨by rw[aW,bA,h2];rfl,?_⟩;apply fI;intro q;rw[bA,eC];by_cases e:p=q
 .subst e;rw[h2,if_pos rfl,if_pos (by simpa using hp)];simp only[cH,uR];rw[aW,List.getElem?_set_self h3];rfl
 .rw[if_neg e,bA];cases hq:keep[q]? with
  |none=>rfl
  |some d'=>
   simp only[cH,uR];have hne:d≠d':=by
    intro e';subst e';have h5:=(aO.1 h2).2;obtain⟨hq1,hq2⟩:=aO.1 hq;have hpw:=List.pairwise_iff_getElem.1 h4;rcases Nat.lt_or_gt_of_ne e with q1|q1
    .exact hpw p q hp hq1 q1 (h5.trans hq2.symm)
    .exact hpw q p hq1 hp q1 (hq2.trans h5.symm)
   rw[aW,aW,dN hne]
def vO.Inv{S:Type}(M:vO S)(r:T)(n j:Nat)(fr:fU)(H:Hp):Prop:=∃m s,m<n/\M.lp s=j/\M.run m s=some r/\M.At s fr H
def Imp:List (List T->Hp->Prop)->List (List T->Hp->Prop)->Prop
 |[],_ =>True|_ ::_,[]=>False|A::As,B::Bs=>(∀fr H,A fr H->B fr H)/\Imp As Bs
section
variable{P:fV}{D:Ed}{F:Fc}{fn:Func}{k:Nat}{S:Type}{M:vO S}
theorem rV{E:tY}{Q:gR}:∀(ks:kE) (As Bs:iZ),Imp As Bs->∀x fr H,sZ P E Q ks As x fr H->sZ P E Q ks Bs x fr H
 |[],_,_,_,x,fr,H,h=>h
 | .seq d::ks,As,Bs,hi,x,fr,H,h=>by
  simp only[sZ]at h⊢;cases x with
  |normal=>exact Good.mono h (rV ks As Bs hi)|exit id=>exact rV ks As Bs hi _ fr H h|ret=>exact rV ks As Bs hi _ fr H h
 | .blk id::ks,As,Bs,hi,x,fr,H,h=>by
  simp only[sZ]at h⊢;cases x with
  |normal=>exact rV ks As Bs hi _ fr H h
  |exit id'=>
   simp only[xH]at h⊢;split
   .rename_i e;rw[if_pos e]at h;exact rV ks As Bs hi _ fr H h
   .rename_i e;rw[if_neg e]at h;exact rV ks As Bs hi _ fr H h
  |ret=>exact rV ks As Bs hi _ fr H h
 | .lp::ks,[],Bs,hi,x,fr,H,h=>by
  simp only[sZ]at h;cases Bs with
  |nil=>
   simp only[sZ];cases x with
   |normal=>exact h.elim|exit id=>exact rV ks [] [] hi _ fr H h|ret=>exact rV ks [] [] hi _ fr H h
  |cons B Bs=>
   simp only[sZ];cases x with
   |normal=>exact h.elim|exit id=>exact rV ks [] Bs trivial _ fr H h|ret=>exact rV ks [] Bs trivial _ fr H h
 | .lp::ks,A::As,[],hi,x,fr,H,h=>hi.elim
 | .lp::ks,A::As,B::Bs,hi,x,fr,H,h=>by
  simp only[sZ]at h⊢;cases x with
  |normal=>exact hi.1 fr H h|exit id=>exact rV ks As Bs hi.2 _ fr H h|ret=>exact rV ks As Bs hi.2 _ fr H h
theorem Ji{Y:Type}(f g:Y->List T->Hp->Prop):∀(l:List Y),(∀a∈l,∀fr H,f a fr H->g a fr H)->Imp (l.map f) (l.map g)
 |[],_ =>trivial|a::l,h=>⟨h a (by simp),Ji f g l λb hb=>h b (by simp[hb])⟩
theorem Imp.drop:∀(j:Nat) (As Bs:iZ),Imp As Bs->Imp (As.drop j) (Bs.drop j)
 |0,As,Bs,h=>h|j+1,[],Bs,_ =>by simp[Imp]|j+1,A::As,[],h=>h.elim|j+1,A::As,B::Bs,h=>Imp.drop j As Bs h.2
theorem Vo(x:Cx P D F)(hz:wR D.gl)(hw:M.WaysF P D F fn k)(hc:∀s,codeOk (qS fn (M.lp s)).1=true/\DD (.lp::(qS fn (M.lp s)).2)=true)(r:T):∀(n:Nat) (s:S) (fr:fU) (H:Hp),M.run n s=some r->M.At s fr H->
  Good P D.env (.loop (qS fn (M.lp s)).1) fr H (sZ P D.env (Th P fn k r) (qS fn (M.lp s)).2 ((M.par (M.lp s)).map (M.Inv r n))):=by
 intro n
 induction n using Nat.strongRecOn with
 |ind n ih=>
  intro s fr H hr hat;refine aCq (λm fr H=>∃s',M.lp s'=M.lp s/\m<=n/\M.run m s'=some r/\M.At s' fr H) (λm fr H ⟨s1,e1,hm,hr1,hat1⟩=> ?_) n fr H ⟨s,rfl,aZ _,hr,hat⟩;cases m with
  |zero=>simp[vO.run]at hr1
  |succ m=>
   simp only[vO.run]at hr1;cases hst:M.step s1 with
   |none=>rw[hst]at hr1;cases hr1
   |some o=>
    rw[hst]at hr1;have hl:=hw s1 o fr hst;obtain⟨q1,q2,q3⟩:=hat1;rw[aWt q1 q2,<-q3,e1]at hl;obtain⟨c1,c2⟩:=hc s1;rw[e1]at c1 c2;show Good P D.env (qS fn (M.lp s)).1 fr H (sZ P D.env (Th P fn k r) (.lp::(qS fn (M.lp s)).2) ((λfr' H'=>∃m'<m+1,∃s',M.lp s'=M.lp s/\m'<=n/\M.run m' s'=some r/\M.At s' fr' H')::(M.par (M.lp s)).map (M.Inv r n)));have hi:∀m',m'=m->Imp ((M.lp s::M.par (M.lp s)).map (M.Inv r m)) ((λfr' H'=>∃m'<m+1,∃s',M.lp s'=M.lp s/\m'<=n/\M.run m' s'=some r/\M.At s' fr' H')::(M.par (M.lp s)).map (M.Inv r n)):=λ_ _ =>
     ⟨λfr H ⟨m',s',a1,a2,a3,a4⟩=>⟨m',by omega,s',a2,by omega,a3,a4⟩,Ji _ _ _ λi _ fr H ⟨m',s',a1,a2,a3,a4⟩=>⟨m',s',by omega,a2,a3,a4⟩⟩
    rcases hl with hl|⟨s2,rfl,N,ds,log,j,H',vs',p,d,k',t0,t,h1,h2,h3,f1,f1c,f2,f3,f4,f5,f6⟩
    rotate_left
    .simp only at hr1;refine x.loop c1 c2 h1 h2 (λfr' k1 k2=> ?_);obtain⟨z1,z2⟩:=aJs (t:=t) k1 f2 (by omega) f4;refine Oi (d:=d) (k:=k') (t:=t) hz (by omega) (by rw[z1];exact f1) f1c ?_;have:=ih m (by omega) s2 (fr'.set d t) (M.hp s2) hr1 ⟨by rw[z2,f5],by simpa using k2,rfl⟩;rw[f6]at this;refine this.mono (rV _ _ _ ?_);rw[<-h3];have:=Imp.drop j _ _ (hi m rfl)
     rwa [<-List.map_drop]at this
    cases o with
    |inr r'=>
     simp only[aC]at hr1;subst hr1;obtain⟨N,ds,log,kp,H',vs,len,h1,h2⟩:=hl;exact x.done c1 c2 h1 rfl h2
    |inl s2=>
     simp only at hr1;rcases hl with⟨N,ds,log,j,h1,h2,h3⟩|⟨N,ds,log,j,h1,h2,h3⟩
     .cases j with
      |zero=>
       simp only[cQ,aC]at h3;exact x.again c1 c2 h1 h2 rfl (λfr' k1 k2=>⟨m,by omega,s2,h3.symm,by omega,hr1,k1,k2,rfl⟩)
      |succ j=>
       simp only[eD]at h3;refine x.again c1 c2 h1 h2 (A:=M.Inv r n (M.lp s2)) ?_ (λfr' k1 k2=>⟨m,s2,by omega,rfl,hr1,k1,k2,rfl⟩);simp only[eD,bA,h3,cH]
     .refine x.loop c1 c2 h1 h2 (λfr' k1 k2=> ?_);have:=ih m (by omega) s2 fr' (M.hp s2) hr1 ⟨k1,k2,rfl⟩;refine this.mono (rV _ _ _ ?_);rw[<-h3];have hi:Imp ((M.lp s::M.par (M.lp s)).map (M.Inv r m)) ((λfr' H'=>∃m'<m+1,∃s',M.lp s'=M.lp s/\m'<=n/\M.run m' s'=some r/\M.At s' fr' H')::(M.par (M.lp s)).map (M.Inv r n)):=
       ⟨λfr H ⟨m',s',a1,a2,a3,a4⟩=>⟨m',by omega,s',a2,by omega,a3,a4⟩,Ji _ _ _ λi _ fr H ⟨m',s',a1,a2,a3,a4⟩=>⟨m',s',by omega,a2,a3,a4⟩⟩
      have:=Imp.drop j _ _ hi
      rwa [<-List.map_drop]at this
theorem Vx{c:Code}{f:gV}{d:Nat}(x:Cx P D F)(hz:wR D.gl)(h1:vL P f=true)(hfn:P.funcs[f]? =some fn)(hb:fn.body=some c)(hcb:qD fn=c)(hco:codeOk c=true){ts:fU}(hts:mapO (qJ d ⟨0,.nl⟩) ts=some ts){L:Nat}(hL:fn.ntmps-ts.length=L)
  (hw:M.WaysF P D F fn k) (hc:∀s,codeOk (qS fn (M.lp s)).1=true/\DD (.lp::(qS fn (M.lp s)).2)=true) {o:S⊕T}
  (hl:M.Leads P D F fn k [] (qD fn) [] (ts++List.replicate L pV) ⟨0,.nl⟩ o) {n:Nat} {r:T} (hr:M.fin n o=some r):pW P D.gl f ts r:=by
 subst hcb;subst hL;refine Vw (E:=D.env) (k:=k) (d:=d) (fn:=fn) (c:=qD fn) hz h1 hfn hb hts ?_;show Good P D.env (qD fn) (ts++List.replicate (fn.ntmps-ts.length) pV) ⟨0,.nl⟩ (sZ P D.env (Th P fn k r) [] []);cases o with
 |inr r'=>
  simp only[vO.fin,aC]at hr;subst hr;obtain⟨N,ds,log,kp,H',vs,len,h1,h2⟩:=hl;exact x.done hco rfl h1 rfl h2
 |inl s=>
  rcases hl with⟨N,ds,log,j,h1,h2,h3⟩|⟨N,ds,log,j,h1,h2,h3⟩
  .simp at h3
  .refine x.loop hco rfl h1 h2 (λfr' k1 k2=> ?_);have:=Vo x hz hw hc r n s fr' (M.hp s) hr ⟨k1,k2,rfl⟩;rw[<-h3]at this;simpa using this
theorem pure_mach{c:Code}{f:gV}{d:Nat}(x:Cx P D F)(hz:wR D.gl)(h1:vL P f=true)(hfn:P.funcs[f]? =some fn)(hb:fn.body=some c)(hcb:qD fn=c)(hco:codeOk c=true){ts:fU}(hts:mapO (qJ d ⟨0,.nl⟩) ts=some ts){L:Nat}(hL:fn.ntmps-ts.length=L)
  (hw:M.Ways P D F fn k) (hc:∀s,codeOk (qS fn (M.lp s)).1=true/\DD (.lp::(qS fn (M.lp s)).2)=true) {o:S⊕T}
  (hl:M.Leads P D F fn k [] (qD fn) [] (ts++List.replicate L pV) ⟨0,.nl⟩ o) {n:Nat} {r:T} (hr:M.fin n o=some r):pW P D.gl f ts r:=
 Vx x hz h1 hfn hb hcb hco hts hL (λs o fr h=> .inl (hw s o fr h)) hc hl hr
def yM:vO Empty:={lp:=λ_ =>0,keep:=λ_ =>[],par:=λ_ =>[],vs:=λ_ =>[],hp:=λ_ =>⟨0,.nl⟩,len:=0,step:=λ_ =>none}
theorem sK:yM.Ways P D F fn k:=λs=>s.elim
end
def slN:T->Nat
 | .slf _ n _ =>n|_ =>0
def slF:T->Nat->T
 | .slf _ _ f=>f|_ =>λ_ =>pV
def strv:T->List UInt8
 | .str s=>s|_ =>[]
structure Vl where
 kind:Int
 int:Int
 scale:Int
 text:List UInt8
 n:Nat
 list:Nat->T
 m:Nat
 fld:Nat->T
structure Fd where
 name:List UInt8
 val:Vl
structure Ex where
 op:Int
 int:Int
 text:List UInt8
 nv:Nat
 val:Nat->T
 na:Nat
 arg:Nat->T
def vlC(v:Vl):List T:=[.int .i64 v.kind,.int .i64 v.int,.int .i64 v.scale,.str v.text,.slf false v.n v.list,.slf false v.m v.fld]
def Ly(v:Vl):T:= .agg (vlC v)
def fdT(f:Fd):T:= .agg [.str f.name,.int .i64 f.val.kind,.int .i64 f.val.int,.int .i64 f.val.scale,.str f.val.text,.slf false f.val.n f.val.list,.slf false f.val.m f.val.fld]
def exT(e:Ex):T:= .agg [.int .i64 e.op,.int .i64 e.int,.str e.text,.slf false e.nv e.val,.slf false e.na e.arg]
def fdv:T->Fd
 | .agg [a,k,i,s,t,l,f]=>⟨strv a,⟨aPy k,aPy i,aPy s,strv t,slN l,slF l,slN f,slF f⟩⟩|_ =>⟨[],⟨0,0,0,[],0,λ_ =>pV,0,λ_ =>pV⟩⟩
inductive WfV:T->Prop
 |mk (v:Vl) (hl:∀i,i<v.n->WfV (v.list i)) (hf:∀i,i<v.m->v.fld i=fdT (fdv (v.fld i))) (hw:∀i,i<v.m->WfV (Ly (fdv (v.fld i)).val)):WfV (Ly v)
inductive WfE:T->Prop
 |mk (e:Ex) (hv:∀i,i<e.nv->WfV (e.val i)) (ha:∀i,i<e.na->WfE (e.arg i)):WfE (exT e)
section
variable{H:Type}{enc:TypeId×Value->H}{P:fV}{W:iK}
instance:Inhabited Vl:=⟨⟨0,0,0,[],0,λ_ =>pV,0,λ_ =>pV⟩⟩
instance:Inhabited Fd:=⟨⟨[],default⟩⟩
instance:Inhabited Ex:=⟨⟨0,0,[],0,λ_ =>pV,0,λ_ =>pV⟩⟩
structure aVf(P:fV)(tV tI tS tLV tF tLF:fS):Prop where
 i:P.underlying tI=some (.int .i64)
 s:P.underlying tS=some .string
 lv:P.underlying tLV=some (.slice tV)
 lf:P.underlying tLF=some (.slice tF)
 cV:P.cellsOf tV=6
 cF:P.cellsOf tF=7
 v0:fieldAt P tV 0=some (tI,0,1)
 v1:fieldAt P tV 1=some (tI,1,1)
 v2:fieldAt P tV 2=some (tI,2,1)
 v3:fieldAt P tV 3=some (tS,3,1)
 v4:fieldAt P tV 4=some (tLV,4,1)
 v5:fieldAt P tV 5=some (tLF,5,1)
 f0:fieldAt P tF 0=some (tS,0,1)
 f1:fieldAt P tF 1=some (tV,1,6)
theorem aUi{tV tI tS tLV tF tLF:fS}(h:aVf P tV tI tS tLV tF tLF):∀(n:Nat) (cs:gM) (y:DataW H×List MemPlace),DataW.trod enc P W 0 (λ_ =>true) true n tV cs=some y->∃v:Vl,wS (G.start W) cs (vlC v)/\WfV (Ly v):=by
 intro n
 induction n using Nat.strongRecOn with
 |ind n ih=>
  intro cs y hy;have hI:sU enc P W tI (λn:Int=>[T.int .i64 n]) (λn=>IntKind.i64.has n):=sU.int h.i;have hS:sU enc P W tS (λs:List UInt8=>[T.str s]) (λs=>s.length<=maxLen):=sU.str h.s;obtain⟨a0,h0,_⟩:=hI.field hy h.v0;obtain⟨a1,h1,_⟩:=hI.field hy h.v1;obtain⟨a2,h2,_⟩:=hI.field hy h.v2;obtain⟨a3,h3,_⟩:=hS.field hy h.v3;obtain⟨hl,n4,y4,hn4,e4⟩:=FH hy h.v4;obtain⟨_,n5,y5,hn5,e5⟩:=FH hy h.v5;obtain⟨x4,h4,_,k4⟩:=sU.sliceN (N:=n4) (A:=Vl) (mk:=vlC) (ok:=λv=>WfV (Ly v)) Ly h.lv h.cV (by decide) (λ_ =>rfl) (λ_ =>rfl)
   (λn' hn' cs y hy=>ih n' (by omega) cs y hy) n4 (aZ _) _ _ e4
  obtain⟨x5,h5,_,k5⟩:=sU.sliceN (N:=n5) (A:=Fd) (mk:=λf=>(fdT f).cells) (ok:=λf=>WfV (Ly f.val)) fdT h.lf h.cF (by decide) (λ_ =>rfl) (λ_ =>rfl)
   (λn' hn' cs y hy=>by
    obtain⟨b0,g0,_⟩:=hS.field hy h.f0;obtain⟨hlf,m1,y1,hm1,e1⟩:=FH hy h.f1;obtain⟨v,g1,w⟩:=ih m1 (by omega) _ _ e1
    exact⟨⟨b0,v⟩,by have:=g0.cut (g1.cut (wS.end_ (hlf.trans h.cF)));rw[fK]at this;exact this,w⟩) n5 (aZ _) _ _ e5
  refine⟨⟨a0,a1,a2,a3,x4.1,λi=>Ly (x4.2 i),x5.1,λi=>fdT (x5.2 i)⟩,?_,?_⟩
  .have:=h0.cut (h1.cut (h2.cut (h3.cut (h4.cut (h5.cut (wS.end_ (hl.trans h.cV)))))));rw[fK]at this;exact this
  .exact .mk _ k4 (λi _ =>rfl) k5
structure bAl(P:fV)(tE tI tS tLV tLE:fS):Prop where
 le:P.underlying tLE=some (.slice tE)
 cE:P.cellsOf tE=5
 e0:fieldAt P tE 0=some (tI,0,1)
 e1:fieldAt P tE 1=some (tI,1,1)
 e2:fieldAt P tE 2=some (tS,2,1)
 e3:fieldAt P tE 3=some (tLV,3,1)
 e4:fieldAt P tE 4=some (tLE,4,1)
theorem bGm{tV tI tS tLV tF tLF tE tLE:fS}(h:aVf P tV tI tS tLV tF tLF)(k:bAl P tE tI tS tLV tLE):∀(n:Nat) (cs:gM) (y:DataW H×List MemPlace),DataW.trod enc P W 0 (λ_ =>true) true n tE cs=some y->∃e:Ex,wS (G.start W) cs (exT e).cells/\WfE (exT e):=by
 intro n
 induction n using Nat.strongRecOn with
 |ind n ih=>
  intro cs y hy;have hI:sU enc P W tI (λn:Int=>[T.int .i64 n]) (λn=>IntKind.i64.has n):=sU.int h.i;have hS:sU enc P W tS (λs:List UInt8=>[T.str s]) (λs=>s.length<=maxLen):=sU.str h.s;obtain⟨a0,h0,_⟩:=hI.field hy k.e0;obtain⟨a1,h1,_⟩:=hI.field hy k.e1;obtain⟨a2,h2,_⟩:=hS.field hy k.e2;obtain⟨hl,n3,y3,hn3,e3⟩:=FH hy k.e3;obtain⟨_,n4,y4,hn4,e4⟩:=FH hy k.e4;obtain⟨x3,h3,_,k3⟩:=sU.sliceN (N:=n3) (A:=Vl) (mk:=vlC) (ok:=λv=>WfV (Ly v)) Ly h.lv h.cV (by decide) (λ_ =>rfl) (λ_ =>rfl)
   (λn' _ cs y hy=>aUi h n' cs y hy) n3 (aZ _) _ _ e3
  obtain⟨x4,h4,_,k4⟩:=sU.sliceN (N:=n4) (A:=Ex) (mk:=λe=>(exT e).cells) (ok:=λe=>WfE (exT e)) exT k.le k.cE (by decide) (λ_ =>rfl) (λ_ =>rfl)
   (λn' hn' cs y hy=>ih n' (by omega) cs y hy) n4 (aZ _) _ _ e4
  refine⟨⟨a0,a1,a2,x3.1,λi=>Ly (x3.2 i),x4.1,λi=>exT (x4.2 i)⟩,?_,?_⟩
  .have:=h0.cut (h1.cut (h2.cut (h3.cut (h4.cut (wS.end_ (hl.trans k.cE))))));rw[fK]at this;exact this
  .exact .mk _ k3 k4
end
noncomputable section
abbrev iB:=Option Nat
def Fw(ro:iB):Fence:={Fence.wide with round:=ro}
abbrev iI:=List Deferred
def DS(ds:iI)(a:Act):Act:={a with defers:=a.defers++ds}
abbrev jW:=Ending->World->Prop
theorem uY{ro:iB}{n:Nat}{P:fV}{f:gV}{args:gX}{w:iK}{R:jW}:CallsIn (Fw ro) n P f args w R↔Calls P f args w R:=
 (callsIn_wide (n:=n) (P:=P) (f:=f) (args:=args) (w:=w) (R:=R))
theorem aEe{ro:iB}{n:Nat}{P:fV}{row:String}{args:gX}{w:iK}{R:Value->World->Prop}(h:Rows P row args w R):RowsIn (Fw ro) n P row args w R:=
 λc cs _ =>let⟨v,w',r,s⟩:=h c cs;⟨v,w',r,(stepsIn_wide (P:=P)).2 s⟩
section
variable{P:fV}{ops:fZ}{Q:gC}{ro:iB}{n:Nat}{ds:iI}
theorem LK(a:Act)(d:jA)(v:gQ):DS ds (a.put d v)=(DS ds a).put d v:=by cases d<;>rfl
theorem aRo{o:Oper}(hd:∀c,o.op≠ .defer c){K K':iP}(hno:∀a w,¬Q .outgrown a w)(hK:∀a w,K a w->K' (DS ds a) w){a:Act}{w:iK}(h:o.wp P a w K (λe a w=>Q e (DS ds a) w)):
  o.wpIn (Fw ro) n P (DS ds a) w K' Q:=by
 refine⟨λ_ _ =>trivial,?_⟩;have e:o.semAt (Fw ro).round (DS ds a).eval=execOp a.eval o:=Oper.semAt_eq _ _ _ hd;rw[e];unfold Oper.wp at h;have hl:¬LetsOut (λe a w=>Q e (DS ds a) w):=λ⟨a,w,h⟩=>hno _ _ h;generalize (execOp a.eval o).run P w=r at h;cases r with
 |ok x w'=>
  cases x with
  |value v=>simp only[Oper.upon,Oper.uponIn]at h⊢;rw[<-LK];exact hK _ _ h|skip=>simp only[Oper.upon,Oper.uponIn]at h⊢;rw[<-LK];exact hK _ _ h
  |enter f args=>
   simp only[Oper.upon,Oper.uponIn]at h⊢;refine⟨λq=>(by cases q),uY.2 (h.mono ?_)⟩;intro e w'' he;cases e with
   |returned v=>simp only at he⊢;rw[<-LK];exact hK _ _ he|panicked chain=>exact he|outgrown=>exact absurd he hl
  |row r args=>
   simp only[Oper.upon,Oper.uponIn]at h⊢;refine⟨λq=>(by cases q),aEe (h.mono ?_)⟩;intro v w'' he;rw[<-LK];exact hK _ _ he
  |defer d=>
   simp only[Oper.upon,Oper.uponIn]at h⊢;have:=hK _ _ h
   rwa [LK]at this
  |_ =>simp only[Oper.upon]at h
 |halt x w'=>cases x<;>simp only[Oper.upon,Oper.uponIn]at h⊢<;>exact h
theorem Hh(o:Oper)(a:Act):Region.wanted o (yielded ops (DS ds a).tmps)=Region.wanted o (yielded ops a.tmps):=rfl
def uD(ops:fZ):Bool:=ops.toList.all λo=>match o.op with
  | .defer _ =>false|_ =>true
theorem JA(h:uD ops=true){i:Nat}{o:Oper}(ho:ops[i]? =some o):∀c,o.op≠ .defer c:=by
 intro c hc;unfold uD at h;rw[aH]at h;have:=h o (by rw[Array.mem_toList_iff];exact Array.mem_of_getElem? ho);rw[hc]at this;cases this
theorem VL(hp:uD ops=true){i:Nat}{K K':iP}(hno:∀a w,¬Q .outgrown a w)(hK:∀a w,K a w->K' (DS ds a) w){a:Act}{w:iK}(h:wpOp P ops (λe a w=>Q e (DS ds a) w) i K a w):
  wpOpIn (Fw ro) n P ops Q i K' (DS ds a) w:=by
 unfold wpOp at h;unfold wpOpIn;split
 .rename_i ho;rw[ho]at h;exact hK _ _ h
 .rename_i o ho;rw[ho]at h;simp only at h;rw[Hh];split
  .rename_i hw;rw[if_pos hw]at h;rcases h with h|⟨_,a',w',h⟩
   .exact aRo (JA hp ho) hno hK h
   .exact absurd h (hno _ _)
  .rename_i hw;rw[if_neg hw]at h;refine⟨λ_ _ =>trivial,?_⟩;rw[<-LK];exact hK _ _ h
theorem PN(hp:uD ops=true)(hno:∀a w,¬Q .outgrown a w):∀(l:gI) (a:Act) (w:iK),wpOps P ops (λe a w=>Q e (DS ds a) w) l a w->wpOpsIn (Fw ro) n P ops Q l (DS ds a) w
 |[],a,w,h=>h
 |i::l,a,w,h=>by
  rw[wpOps_cons]at h;rw[wpOpsIn_cons];exact VL hp hno (λa w h=>PN hp hno l a w h) h
theorem Ar(hp:uD ops=true){md:Region.Mode}(hno:∀a w,¬Q .outgrown a w):∀(fuel:Nat) (listed:iQ) (a:Act) (w:iK),wpAny P md ops (λe a w=>Q e (DS ds a) w) fuel listed a w->wpAnyIn (Fw ro) n P md ops Q fuel listed (DS ds a) w
 |0,listed,a,w,h=>h|fuel+1,listed,a,w,h=>⟨h.1,λi hi=>VL hp hno (λa w h=>Ar hp hno fuel _ a w h) (h.2 i hi)⟩
variable{E:tY}{F:Fc}
theorem Fp(hm:P.follows .mixedOrders=true)(hE:vP P E.gl E.pe)(hF:tX P E.gl F.ee){id:Nat}{draw:Bool}(hp:uD ops=true)(hok:draw=true->BM ops=true){fr fr':fU}{H H':Hp}
  (he:(if draw then rW P E F ops fr H else qL P E F ops ops.toList ⟨fr,H,none⟩)=some ⟨fr',H',none⟩) {g0 g:G} {H0:Hp} {a:Act} (hc:qT E g0 H0 g a fr H)
  (hno:∀a w,¬Q .outgrown a w) (hQ:∀a' g',qT E g0 H0 g' a' fr' H'->Q .normal (DS ds a') g'.w):(Code.region id ops draw).wpIn (Fw ro) n P Q (DS ds a) g.w:=by
 have:=TU (Q:=λe a w=>Q e (DS ds a) w) hE hF hok he hc hQ;cases draw with
 |false=>exact wpIn_region (PN hp hno _ _ _ this)|true=>exact wpIn_region_any hm (Ar hp hno _ _ _ _ this)
def tR:Code->Bool
 | .region _ ops _ =>uD ops| .seq a b| .cond _ a b=>tR a&&tR b| .block _ c| .loop c=>tR c| .skip| .label _ | .exit _ | .ret=>true|_ =>false
theorem uV{K:iP}(hno:∀a w,¬Q .outgrown a w):∀a w,¬Exit.then K Q .outgrown a w:=λa w h=>hno a w h
theorem NP(hm:P.follows .mixedOrders=true)(hE:vP P E.gl E.pe)(hF:tX P E.gl F.ee)(m:Nat):∀(c:Code) (fr:fU) (H:Hp) (x:X) (fr':fU) (H':Hp),codeOk c=true->tR c=true->pU P E F m c fr H=some (x,fr',H')->
  ∀(g0 g:G) (H0:Hp) (a:Act),qT E g0 H0 g a fr H->∀(Q:gC),(∀a w,¬Q .outgrown a w)->(∀a' g',qT E g0 H0 g' a' fr' H'->Q x.exit_ (DS ds a') g'.w)->c.wpIn (Fw ro) n P Q (DS ds a) g.w:=by
 intro c
 induction c with
 |skip=>
  intro fr H x fr' H' _ _ he g0 g H0 a hc Q hno hQ;simp only[pU,aC,aU]at he;obtain⟨rfl,rfl,rfl⟩:=he;exact wpIn_skip (hQ a g hc)
 |label l=>
  intro fr H x fr' H' _ _ he g0 g H0 a hc Q hno hQ;simp only[pU,aC,aU]at he;obtain⟨rfl,rfl,rfl⟩:=he;exact wpIn_label (hQ a g hc)
 |region id ops draw=>
  intro fr H x fr' H' hok hin he g0 g H0 a hc Q hno hQ;simp only[pU]at he;split at he
  .rename_i f1 h1 hr;cases he;exact Fp hm hE hF hin (λq=>by subst q;simpa [codeOk]using hok) hr hc hno hQ
  .cases he
 |seq c1 c2 ih1 ih2=>
  intro fr H x fr' H' hok hin he g0 g H0 a hc Q hno hQ;simp only[codeOk,aA]at hok;simp only[tR,aA]at hin;simp only[pU]at he;refine wpIn_seq ?_;split at he
  .rename_i f1 h1 hr;exact ih1 _ _ _ _ _ hok.1 hin.1 hr g0 g H0 a hc _ (uV hno) (λa' g' hc'=>ih2 _ _ _ _ _ hok.2 hin.2 he g0 g' H0 a' hc' Q hno hQ)
  .rename_i hr;refine ih1 _ _ _ _ _ hok.1 hin.1 he g0 g H0 a hc _ (uV hno) (λa' g' hc'=> ?_);cases x with
   |normal=>exact absurd he (hr _ _)|exit id=>exact hQ a' g' hc'|ret=>exact hQ a' g' hc'
 |cond o c1 c2 ih1 ih2=>
  intro fr H x fr' H' hok hin he g0 g H0 a hc Q hno hQ;simp only[codeOk,aA]at hok;simp only[tR,aA]at hin;simp only[pU]at he;split at he
  .rename_i b hb;have hr:=(EB.of hc.fr none).eval hc.gl (λ_ _ =>by simp) hb;refine wpIn_cond (t:=b) (show(DS ds a).eval o= .bool b from hr.inv_bool) ?_;cases b with
   |true=>exact ih1 _ _ _ _ _ hok.1 hin.1 (by simpa using he) g0 g H0 a hc Q hno hQ|false=>exact ih2 _ _ _ _ _ hok.2 hin.2 (by simpa using he) g0 g H0 a hc Q hno hQ
  .cases he
 |block id c ih=>
  intro fr H x fr' H' hok hin he g0 g H0 a hc Q hno hQ;simp only[codeOk]at hok;simp only[tR]at hin;simp only[pU]at he;refine wpIn_block ?_;have hnb:∀a w,¬Exit.inBlock id Q .outgrown a w:=λa w h=>hno a w h;split at he
  .rename_i id' f1 h1 hr;refine ih _ _ _ _ _ hok hin hr g0 g H0 a hc _ hnb (λa' g' hc'=> ?_);simp only[X.exit_,Exit.inBlock];split at he
   .rename_i e;cases he;rw[if_pos e];exact hQ a' g' hc'
   .rename_i e;cases he;rw[if_neg e];exact hQ a' g' hc'
  .rename_i hr;refine ih _ _ _ _ _ hok hin he g0 g H0 a hc _ hnb (λa' g' hc'=> ?_);cases x with
   |normal=>exact hQ a' g' hc'|exit id'=>exact absurd he (hr _ _ _)|ret=>exact hQ a' g' hc'
 |loop c ih=>
  intro fr H x fr' H' hok hin he g0 g H0 a hc Q hno hQ;simp only[codeOk]at hok;simp only[tR]at hin;simp only[pU]at he;refine wpIn_loop_rounds m ?_;have key:∀(k:Nat) (fr:fU) (H:Hp) (a:Act) (g:G),pU.loopN (λfr H=>pU P E F m c fr H) k fr H=some (x,fr',H')->qT E g0 H0 g a fr H->Code.roundsIn (Fw ro) n P c Q k (DS ds a) g.w:=by
   intro k
   induction k with
   |zero=>intro fr H a g h;simp[pU.loopN]at h
   |succ k ihk=>
    intro fr H a g h hcc;simp only[pU.loopN]at h;rw[roundsIn_succ];split at h
    .rename_i f1 h1 hr;exact ih _ _ _ _ _ hok hin hr g0 g H0 a hcc _ (uV hno) (λa' g' hc'=>ihk f1 h1 a' g' h hc')
    .rename_i hr;refine ih _ _ _ _ _ hok hin h g0 g H0 a hcc _ (uV hno) (λa' g' hc'=> ?_);cases x with
     |normal=>exact absurd h (hr _ _)|exit id=>exact hQ a' g' hc'|ret=>exact hQ a' g' hc'
  exact key m fr H a g he hc
 |exit id=>
  intro fr H x fr' H' _ _ he g0 g H0 a hc Q hno hQ;simp only[pU,aC,aU]at he;obtain⟨rfl,rfl,rfl⟩:=he;exact wpIn_exit (hQ a g hc)
 |ret=>
  intro fr H x fr' H' _ _ he g0 g H0 a hc Q hno hQ;simp only[pU,aC,aU]at he;obtain⟨rfl,rfl,rfl⟩:=he;exact wpIn_ret (hQ a g hc)
 |_ =>
  intro fr H x fr' H' _ hin;simp[tR]at hin
end
theorem bPj{a b:Nat}:Nat.beq a b=true↔a=b:=⟨aF,λh=>by subst h;exact Nat.beq_refl a⟩
section
variable(P:fV)(E:tY)(F:Fc)(ops:fZ)
end
section
variable{P:fV}{E:tY}{F:Fc}{ops:fZ}
structure ETr(P:fV)(E:tY)(F:Fc)(ops:fZ)(S:jG)(K:Nat)(ep:Nat->Nat)(Hc:Nat->Hp):Prop where
 at_ :∀i,i<ops.size->∃o,ops[i]? =some o/\(∀d,o.dst=some d->d<(S i).length)/\
  ((∃k v,k<K/\ep k=i/\qH ops (S i) o=true/\xF P E F (Hc k) (S i) o=some (v,Hc (k+1))/\S (i+1)=qU (S i) o.dst v)\/
   ((∀k,k<K->ep k≠i)/\((qH ops (S i) o=true/\∃v,(∀c,c<=K->(∀k,k<K->vQ (tL ops.toList []) i (ep k)=true->k<c)->(∀k,k<K->vQ (tL ops.toList []) (ep k) i=true->c<=k)->qK P E (zO F o) (Hc c) (S i) o=some v)/\S (i+1)=qU (S i) o.dst v)\/
    (qH ops (S i) o=false/\S (i+1)=qU (S i) o.dst pV))))
 lt:∀k,k<K->ep k<ops.size
 ch:∀k k',k'<k->k<K->vQ (tL ops.toList []) (ep k) (ep k')=true
variable{S:jG}{K:Nat}{ep:Nat->Nat}{Hc:Nat->Hp}
theorem ETr.next(h:ETr P E F ops S K ep Hc){i:Nat}(hi:i<ops.size):∃o v,ops[i]? =some o/\S (i+1)=qU (S i) o.dst v:=by
 obtain⟨o,ho,_,h1|h1⟩:=h.at_ i hi
 .obtain⟨k,v,_,_,_,_,e⟩:=h1;exact⟨o,v,ho,e⟩
 .rcases h1.2 with⟨_,v,_,e⟩|⟨_,e⟩
  .exact⟨o,v,ho,e⟩
  .exact⟨o,_,ho,e⟩
theorem ETr.len1(h:ETr P E F ops S K ep Hc){i:Nat}(hi:i<ops.size):(S (i+1)).length=(S i).length:=by
 obtain⟨o,v,_,e⟩:=h.next hi;rw[e];cases o.dst<;>simp[qU]
theorem ETr.other(h:ETr P E F ops S K ep Hc){i:Nat}(hi:i<ops.size){t:Tmp}(ht:∀o,ops[i]? =some o->o.dst≠some t):(S (i+1))[t]? =(S i)[t]? :=by
 obtain⟨o,v,ho,e⟩:=h.next hi;have:=ht o ho;rw[e];cases hd:o.dst with
 |none=>rfl
 | some d => have hne:d≠t:=λe=>this (by rw[hd,e])
             simp[qU,dN hne]
theorem ETr.same(h:ETr P E F ops S K ep Hc){t:Tmp}:∀(k q:Nat),q+k<=ops.size->(∀j o,q<=j->j<q+k->ops[j]? =some o->o.dst≠some t)->(S (q+k))[t]? =(S q)[t]? :=by
 intro k
 induction k with
 |zero=>intro q _ _;rfl
 |succ k ih=>
  intro q hq hn;rw[show q+(k+1)=q+k+1 by omega,h.other (by omega) (λo ho=>hn (q+k) o (by omega) (by omega) ho)];exact ih q (by omega) (λj o' h1 h2=>hn j o' h1 (by omega))
theorem ETr.len(h:ETr P E F ops S K ep Hc):∀i,i<=ops.size->(S i).length=(S 0).length:=by
 intro i
 induction i with
 |zero=>intro _;rfl|succ i ih=>intro hi;rw[h.len1 (by omega)];exact ih (by omega)
structure bAk(P:fV)(E:tY)(ops:fZ)(S:jG)(K:Nat)(ep:Nat->Nat)(Hc:Nat->Hp)(g0:G)(H0:Hp)(listed:iQ)(g:G)(a:Act)(c:Nat):Prop where
 sz:listed.size=ops.size
 down:Lz ops listed
 ok:rZ g
 ck:c<=K
 ld:∀k,k<K->(Ld listed (ep k)↔k<c)
 st:St g (Hc c)
 ss:qF H0 g0 (Hc c) g
 gl:GlOk E.gl g
 df:a.defers=[]
 len:a.tmps.size=(S 0).length
 sl:∀(t:Tmp) (i:Nat) (v:gQ) (c:T),i<=ops.size->(∀j o,j<i->ops[j]? =some o->o.dst=some t->Ld listed j)->(∀j o,i<=j->j<ops.size->ops[j]? =some o->o.dst=some t->¬Ld listed j)->
  a.tmps[t]? =some v->(S i)[t]? =some c->Rd g v c
theorem aIb(hE:vP P E.gl E.pe)(hF:tX P E.gl F.ee)(hdr:BM ops=true){g0:G}{H0:Hp}(htr:ETr P E F ops S K ep Hc){Q:gC}
  (hfin:∀a' g',Inv P E g0 H0 g' a' ⟨S ops.size,Hc K,none⟩->Q .normal a' g'.w):
  ∀(fuel:Nat) (listed:iQ) (a:Act) (g:G) (c:Nat),bAk P E ops S K ep Hc g0 H0 listed g a c->cnt listed=fuel->wpAny P .any ops Q fuel listed a g.w:=by
 simp only[BM,aA]at hdr;obtain⟨⟨hb,_⟩,htm⟩:=hdr;intro fuel
 induction fuel with
 |zero=>
  intro listed a g c h hc;have hall:∀i,i<ops.size->Ld listed i:=λi hi=>LE hc (by rw[h.sz];exact hi);have hcK:c=K:=by
   rcases eO c K with q|q
   .have:=(h.ld c q).1 (hall _ (htr.lt c q));omega
   .exact Nat.le_antisymm h.ck q
  have hlen:=htr.len ops.size (aZ _);have hi:Inv P E g0 H0 g a ⟨S ops.size,Hc K,none⟩:=by
   refine⟨h.ok,by rw[<-hcK];exact h.st,h.gl,h.df,⟨by show a.tmps.size=(S ops.size).length;rw[hlen];exact h.len,λj v cc _ hv hcc=> ?_⟩,λd t q=>(by cases q),by rw[<-hcK];exact h.ss⟩;exact h.sl j ops.size v cc (aZ _) (λk o hk _ _ =>hall k hk) (λk o h1 h2=>by omega) hv hcc
  refine⟨?_,hfin a g hi⟩;rcases hr:Region.ready .any ops listed with _ |⟨x,xs⟩
  .rfl
  .have hx:x∈Region.ready .any ops listed:=by rw[hr];simp
   obtain⟨h1,o,h2,_⟩:=mem_ready.1 hx;exact absurd (hall x (aK.1 h2).1) (AF.1 h1).2
 |succ fuel ih=>
  intro listed a g c h hc;refine⟨λhr=>absurd hr (ML hb h.sz (by omega)),λi hi=> ?_⟩;obtain⟨h1,o,h2,h3⟩:=mem_ready.1 hi;have hni:=(AF.1 h1).2;have hio:i<ops.size:=(aK.1 h2).1;have hcl:∀j,vQ (tL ops.toList []) i j=true->Ld listed j:=wD h.down h.sz i o h2 h3;obtain⟨o',ho',hdl,hps⟩:=htr.at_ i hio;rw[h2]at ho';cases ho';have before:∀t,t∈zN ops o->∀j oj,j<i->ops[j]? =some oj->oj.dst=some t->Ld listed j:=λt ht j oj hj hoj hd=>
   hcl j ((xC htm h2 hoj (by omega) hd ht).1 hj)
  have behind:∀t,t∈zN ops o->∀j oj,i<j->ops[j]? =some oj->oj.dst=some t->¬Ld listed j:=λt ht j oj hj hoj hd hl=>
   hni (wD h.down h.sz j oj hoj (h.down j oj hoj hl) i ((xC htm h2 hoj (by omega) hd ht).2 hj))
  have notself:∀t,t∈zN ops o->∀j oj,i<=j->ops[j]? =some oj->oj.dst=some t->¬Ld listed j:=λt ht j oj hj hoj hd=>by
   rcases eE hj with rfl|hj
   .exact hni
   .exact behind t ht j oj hj hoj hd
  have hleni:=htr.len i (by omega);have slot:∀t,t∈o.looksAt ops->∀v c,a.tmps[t]? =some v->(S i)[t]? =some c->Rd g v c:=λt ht v c hv hcc=>by
   have hn:t∈zN ops o:=bH.2 (.inr ht);exact h.sl t i v c (by omega) (λj oj hj hoj hd=>before t hn j oj hj hoj hd) (λj oj hj _ hoj hd=>notself t hn j oj hj hoj hd) hv hcc
  have getfr:∀t,t∈o.looksAt ops->Rd g (a.tmps.getD t undef) (qR (S i) t):=λt ht=>by
   rw[uR];by_cases hlt:t<(S i).length
   .have hlt':t<a.tmps.size:=by rw[h.len,<-hleni];exact hlt
    have:=slot t ht a.tmps[t] (S i)[t] (by simp[hlt']) (by simp[hlt]);simpa [hlt,hlt']using this
   .have hlt':¬t<a.tmps.size:=by rw[h.len,<-hleni];exact hlt
    have e1:a.tmps.getD t undef=undef:=by simp[dI (cJ hlt')]
    have e2:(S i).getD t pV=pV:=by simp[bU (cJ hlt)]
    rw[e1,e2];exact Rd.undef
  have hop:∀x∈o.op.operands,∀r,qG E.gl (S i) x=some r->Rd g (a.eval x) r:=λx hx r hr=>by
   cases x with
   |tmp t=>simp only[qG,aC]at hr;subst hr;exact getfr t (zJ hx)|const v=>exact FC g hr|global k=>exact(h.gl k r hr).1|func f=>simp only[qG,aC]at hr;subst hr;exact Rd.mk_fn RdL.nil RdL.nil
  have hwant:Region.wanted o (yielded ops a.tmps)=qH ops (S i) o:=by
   unfold Region.wanted qH;cases hg:o.guard with
   |none=>rfl
   |some p=>
    obtain⟨j,w⟩:=p;simp only;congr 1;unfold yielded BJ;cases hd:(ops[j]?).bind (·.dst)with
    |none=>rfl
    |some d=>
     simp only[eL];have hl:=wM hg hd;by_cases hlt:d<(S i).length
     .have hlt':d<a.tmps.size:=by rw[h.len,<-hleni];exact hlt
      have hv:a.tmps[d]? =some a.tmps[d]:=by simp[hlt']
      have hcc:(S i)[d]? =some (S i)[d]:=by simp[hlt]
      have:=slot d hl _ _ hv hcc;rw[hv,hcc];generalize a.tmps[d]=u at this;generalize (S i)[d]=c at this;cases this<;>rfl
     .have hlt':¬d<a.tmps.size:=by rw[h.len,<-hleni];exact hlt
      rw[dI (cJ hlt'),bU (cJ hlt)]
  have hcnt:cnt (listed.setIfInBounds i true)=fuel:=by have:=NN h1;omega
  have hld:∀j,Ld (listed.setIfInBounds i true) j↔Ld listed j\/j=i:=λj=>IU (by rw[h.sz];exact hio)
  have hdown':Lz ops (listed.setIfInBounds i true):=λk ok hk hl e he hbd=>(hld e.on).2 (.inl (by
   rcases(hld k).1 hl with q|rfl
   .exact h.down k ok hk q e he hbd
   .rw[h2]at hk;cases hk;exact h3 e he hbd))
  have slots:∀(g':G) (v:gQ) (c:T),(∀u t,Rd g u t->Rd g' u t)->Rd g' v c->(∀d,o.dst=some d->(S (i+1))[d]? =some c)->
    ∀(t:Tmp) (k:Nat) (u:gQ) (cc:T),k<=ops.size->(∀j o',j<k->ops[j]? =some o'->o'.dst=some t->Ld (listed.setIfInBounds i true) j)->(∀j o',k<=j->j<ops.size->ops[j]? =some o'->o'.dst=some t->¬Ld (listed.setIfInBounds i true) j)->
     (a.put o.dst v).tmps[t]? =some u->(S k)[t]? =some cc->Rd g' u cc:=by
   intro g' v c hkeep hv hset t k u cc hk hw1 hw2 hu hcc;by_cases htd:o.dst=some t
   .have hik:i<k:=by
     rcases eO i k with q|q
     .exact q
     .exact absurd ((hld i).2 (.inr rfl)) (hw2 i o q hio h2 htd)
    have hnow:∀j oj,i+1<=j->j<k->ops[j]? =some oj->oj.dst≠some t:=λj oj hj1 hj2 hoj hd=>by
     have hl:=hw1 j oj hj2 hoj hd;rcases(hld j).1 hl with q|q
     .exact behind t (bH.2 (.inl (by rw[htd];simp))) j oj (by omega) hoj hd q
     .omega
    have hsame:=htr.same (t:=t) (k-(i+1)) (i+1) (by omega) (λj oj q1 q2=>hnow j oj q1 (by omega));rw[show i+1+(k-(i+1))=k by omega]at hsame;rw[hsame,hset t htd]at hcc;cases hcc;rw[htd]at hu;simp only[Act.put,dK]at hu;split at hu
    .cases hu;exact hv
    .cases hu
   .have hu':a.tmps[t]? =some u:=by
     cases hd:o.dst with
     |none=>rw[hd]at hu;exact hu
     |some d=>
      rw[hd]at hu;have:d≠t:=λe=>htd (by rw[hd,e]);simpa [Act.put,bJ this]using hu
    refine hkeep _ _ (h.sl t k u cc hk (λj oj hj hoj hd=> ?_) (λj oj hj1 hj2 hoj hd hl=>hw2 j oj hj1 hj2 hoj hd ((hld j).2 (.inl hl))) hu' hcc);rcases(hld j).1 (hw1 j oj hj hoj hd)with q|rfl
    .exact q
    .rw[h2]at hoj;cases hoj;exact absurd hd htd
  have lens:∀v,(a.put o.dst v).tmps.size=(S 0).length:=λv=>by cases o.dst<;>simp[Act.put,h.len]
  unfold wpOp;rw[h2];simp only;rw[hwant];rcases hps with⟨k,v,hk,hki,hw,he,hS⟩|⟨hnk,hA⟩
  .
   have hkc:k=c:=by
    rcases Nat.lt_trichotomy k c with q|q|q
    .exact absurd ((h.ld k hk).2 q) (by rw[hki];exact hni)
    .exact q
    .have hpr:=htr.ch k c q hk;rw[hki]at hpr;have:=(h.ld c (by omega)).1 (hcl _ hpr);omega
   subst hkc;rw[if_pos hw];left;refine Im hF h.gl h.st h.ok he hop _ _ (λu g' hsst hok hst' hr=>ih _ _ g' (k+1) ?_ hcnt);refine⟨by simpa using h.sz,hdown',hok,by omega,λj hj=> ?_,hst',h.ss.trans hsst,h.gl.sstep h.st hsst,by rw[tJ];exact h.df,lens u,?_⟩
   .rw[hld,h.ld j hj];constructor
    .rintro(q|q)
     .omega
     .rcases Nat.lt_trichotomy j k with q'|q'|q'
      .omega
      .omega
      .have hpr:=htr.ch j k q' hj;rw[q,hki]at hpr;exact absurd (hcl i hpr) hni
    .intro q;rcases eE (Nat.le_of_lt_succ q)with q|q
     .right;rw[q,hki]
     .exact .inl q
   .exact slots g' u v (λ_ _ q=>q.sstep h.st hsst) hr (λd hd=>by rw[hS,hd];simp[qU,hdl d hd])
  .
   have pnext:∀(g':G) (v:gQ) (cc:T),PStep g g'->rZ g'->Rd g' v cc->(∀d,o.dst=some d->(S (i+1))[d]? =some cc)->bAk P E ops S K ep Hc g0 H0 (listed.setIfInBounds i true) g' (a.put o.dst v) c:=by
    intro g' v cc hst hok hv hset;refine⟨by simpa using h.sz,hdown',hok,h.ck,λj hj=> ?_,h.st.pstep hst,h.ss.trans hst.toS,h.gl.pstep hst,by rw[tJ];exact h.df,lens v,slots g' v cc (λ_ _ q=>q.pstep hst) hv hset⟩;rw[hld,h.ld j hj];exact⟨λq=>q.elim id λe=>absurd e (hnk j hj),.inl⟩
   rcases hA with⟨hw,v,hv,hS⟩|⟨hw,hS⟩
   .rw[if_pos hw];left
    have hv':=hv c h.ck (λk hk hpr=>(h.ld k hk).1 (hcl _ hpr)) (λk hk hpr=>by
     rcases eO k c with q|q
     .obtain⟨ok,hok',_⟩:=htr.at_ (ep k) (htr.lt k hk);have hlk:=(h.ld k hk).2 q;exact absurd (wD h.down h.sz (ep k) ok hok' (h.down (ep k) ok hok' hlk) i hpr) hni
     .exact q)
    exact HT hE h.gl h.st h.ok hv' hop _ _ (λu g' hst hok hr=>ih _ _ g' c (pnext g' u v hst hok hr (λd hd=>by rw[hS,hd];simp[qU,hdl d hd])) hcnt)
   .rw[hw];simp only[aY,if_false];exact ih _ _ g c (pnext g undef pV (PStep.refl g) h.ok Rd.undef (λd hd=>by rw[hS,hd];simp[qU,hdl d hd])) hcnt
end
def FT.of(l:fU):Nat->FT->FT:=List.rec (motive:=λ_ =>Nat->FT->FT) (λ_ f=>f) (λt _ ih i f=>ih (Nat.succ i) (FT.st t (toP i) f)) l
section
abbrev gF:=Nat->List T->Hp->Option (Bool×Hp)
variable{Y:Type}(P:fV)(gl:fY)(ee:gB)(yd:gF)
def okO{J:Type}(o:Option J)(k:J->Option Y):Option Y:=Option.rec (motive:=λ_ =>Option Y) none k o
section
variable(tr:FT)(H:Hp)(k:T->Hp->Option Y)
end
end
abbrev RX:=Option (List (X×FT×Hp))
def ZE(P:fV)(H:Hp)(t:fS)(x:T):Option (T×Hp):=match x with
 | .mp m=>match P.underlying t,H.any m with
  |some (.map ..),some o=>match o.me with
   |some (.map c _)=>some (.ptr H.next 0,H.new {elem:=0,sz:=0,cells:=[],me:=some (.mit m c [] c)})|_ =>none
  |_,_ =>none
 | .str s=>match P.underlying t with
  |some .string=>some (.ptr H.next 0,H.new {elem:=0,sz:=0,cells:=[],me:=some (.sit s 0)})|_ =>none
 |_ =>none
def KR(m:Mo):Ob:={elem:=0,sz:=0,cells:=[],me:=some m}
def wC(seen:gI)(es:gS):List (Nat×T×T):=es.filter λe=> !seen.contains e.1
def Er(H:Hp)(isS:Bool)(x:T):Option (List (T×Hp)):=match x with
 | .ptr l 0=>match H.any l with
  |some o=>match o.me with
   |some (.mit m since seen last)=>if isS then none else match H.any m with
    |some om=>match om.me with
     | some (.map c es)=>if(es.all λe=>Nat.ble (Nat.succ e.1) since)&&Nat.ble since last then
       match wC seen es with
       |[]=>some [(.tup [.bool false],H.drop l)]|left=>some (left.map λe=>(.tup [.bool true,e.2.1,e.2.2],H.put l (KR (.mit m since (seen++[e.1]) c))))
      else none
     |_ =>none
    |none=>none
   | some (.sit s pos)=>if isS then match s[pos]? with
     |some b=>if Nat.ble (Nat.succ b.toNat) 128 then some [(.tup [.bool true,.int .i64 pos,.int .i32 b.toNat],H.put l (KR (.sit s (pos+1))))]else none
     |none=>some [(.tup [.bool false],H.drop l)]
    else none
   |_ =>none
  |none=>none
 |_ =>none
def stepT(H:Hp)(x:T):Option (List (T×Hp)):=match x with
 | .ptr l 0=>match H.any l with
  |some o=>match o.me with
   |some (.mit m _ seen last)=>match seen.getLast?,H.any m with
    |some b,some om=>match om.me with
     | some (.map c es)=>if Nat.beq c last then match es.find? λe=>Nat.beq e.1 b with
       |some e=>some [(.tup [e.2.1,e.2.2],H)]|none=>none
      else none
     |_ =>none
    |_,_ =>none
   |_ =>none
  |none=>none
 |_ =>none
def aQa(H:Hp)(l:Nat):Bool:=match H.any l with
 |some o=>match o.me with
  |some (.loop _)=>true|_ =>false
 |none=>false
def Qp(H:Hp)(ro:iB):Bool:=match ro with
 |none=>true|some l=>aQa H l
def DE(r:Lr):Ob:={elem:=0,sz:=0,cells:=[],me:=some (.loop r)}
def RM{Y:Type}(H:Hp)(l:Nat)(k:Lr->Option Y):Option Y:=okO (H.any l) λo=>okO o.me λm=>match m with
 | .loop r=>k r|_ =>none
def aPc(l:Nat)(tr:FT)(H:Hp):RX:=RM H l λr=>match r.st with
 | .busy=>none
 |_ =>match r.pe with
  |none=>some [(.normal,tr,H.drop l)]|some (.exit id)=>some [(.exit id,tr,H.drop l)]|some .ret=>some [(.ret,tr,H.drop l)]|_ =>none
section
variable(P:fV)(gl:fY)(ee:gB)(yd:gF)(pc:gG)(N n:Nat)(ro:iB)
def MI(l:Nat)(H:Hp)(x:X):Option (Bool×Hp):=RM H l λr=>
 X.rec (motive:=λ_ =>Option (Bool×Hp)) (some (true,H.put l (DE {r with st:= .ready,pe:=none}))) (λid=>some (false,H.put l (DE {r with st:= .done,pe:=some (.exit id)}))) (some (false,H.put l (DE {r with st:= .done,pe:=some .ret}))) x
end
open Go.IntWalk
theorem FT.gt_nl(p:gH):FT.gt p .nl=pV:=by
 induction p with
 |nil=>rfl|cons b p ih=>cases b<;>exact ih
theorem FT.gt_st(v:T):∀(p q:gH) (t:FT),FT.gt q (FT.st v p t)=if q=p then v else FT.gt q t
 |[],[],t=>rfl
 |[],b::q,t=>by
  rw[if_neg (by simp)];show FT.gt (b::q) (.nd v t.lf t.rt)=_;cases b<;>rfl
 |b::p,[],t=>by
  rw[if_neg (by simp)];cases b<;>rfl
 |b::p,c::q,t=>by
  cases b<;>cases c
  .show FT.gt q (FT.st v p t.lf)=_;rw[FT.gt_st v p q];by_cases e:q=p
   .rw[if_pos e,if_pos (by rw[e])]
   .rw[if_neg e,if_neg (by simpa using e)];rfl
  .rw[if_neg (by simp)];rfl
  .rw[if_neg (by simp)];rfl
  .show FT.gt q (FT.st v p t.rt)=_;rw[FT.gt_st v p q];by_cases e:q=p
   .rw[if_pos e,if_pos (by rw[e])]
   .rw[if_neg e,if_neg (by simpa using e)];rfl
theorem FT.gt_put(v:T)(d m:Nat)(t:FT):FT.gt (toP m) (FT.st v (toP d) t)=if m=d then v else FT.gt (toP m) t:=by
 rw[FT.gt_st];by_cases e:m=d
 .rw[if_pos (by rw[e]),if_pos e]
 .rw[if_neg (λh=>e (aBj h)),if_neg e]
section
variable{n:Nat}{tr:FT}
theorem aMs:(tr.view n).length=n:=by simp[FT.view]
theorem aSv{i:Nat}(h:i<n):(tr.view n)[i]? =some (FT.gt (toP i) tr):=by simp[FT.view,h]
theorem FT.of_gt:∀(l:fU) (i:Nat) (f:FT) (m:Nat),FT.gt (toP m) (FT.of l i f)=if i<=m/\m<i+l.length then l.getD (m-i) pV else FT.gt (toP m) f
 |[],i,f,m=>by
  show FT.gt (toP m) f=_;rw[if_neg (by simp)]
 |t::l,i,f,m=>by
  show FT.gt (toP m) (FT.of l (i+1) (FT.st t (toP i) f))=_;rw[FT.of_gt l (i+1)];by_cases h1:i+1<=m/\m<i+1+l.length
  .rw[if_pos h1,if_pos (by simp;omega),show m-i=(m-(i+1))+1 by omega];rfl
  .rw[if_neg h1,FT.gt_put];by_cases e:m=i
   .subst e;rw[if_pos rfl,if_pos (by simp)];simp
   .rw[if_neg e,if_neg (by simp;omega)]
theorem aRi{l:fU}(h:l.length<=n):(FT.of l 0 .nl).view n=l++List.replicate (n-l.length) pV/\(FT.of l 0 .nl).Wf n:=by
 refine⟨?_,λm hm=>by rw[FT.of_gt,if_neg (by omega),FT.gt_nl]⟩;apply fI;intro i;by_cases hi:i<n
 .rw[aSv hi,FT.of_gt,FT.gt_nl,dT];by_cases h2:i<l.length
  .rw[if_pos (by omega),if_pos h2];simp[h2]
  .rw[if_neg (by omega),if_neg h2,List.getElem?_replicate,if_pos (by omega)]
 .rw[bU (by rw[aMs];omega),bU (by simp;omega)]
end
section
variable{Y J:Type}
theorem aAa{o:Option J}{k:J->Option Y}{r:Y}(h:okO o k=some r):∃t,o=some t/\k t=some r:=by
 cases o with
 |none=>cases h|some t=>exact⟨t,rfl,h⟩
theorem aXu{a b:Nat}:Nat.ble a b=true↔a<=b:=⟨Nat.le_of_ble_eq_true,Nat.ble_eq_true_of_le⟩
end
section
variable{Y:Type}{P:fV}{gl:fY}{tr:FT}{n:Nat}
end
def AL(gl:fY)(fr:fU)(o:Oper):Option (Nat×List T):=
 match o.op with
 | .call c=>match c.callee with
  | .value f=>match qG gl fr f with
   |some (.yl l)=>match uO gl fr c.args.toList with
    |some ars=>some (l,ars)|none=>none
   |_ =>none
  |_ =>none
 |_ =>none
section
variable{Y:Type}{P:fV}{gl:fY}{ee:gB}{yd:gF}{tr:FT}{n:Nat}{H:Hp}
abbrev Xb(gl:fY):tY:=⟨gl,λ_ _ _ =>none⟩
end
end
end Go.Ps
