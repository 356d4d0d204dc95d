/- Lemmas for the card; no conditions. -/
import Derived.Test.YthfdachbgpjafaaGreatDoorXb0
import Derived.LoopN
import Derived.Scope
import Derived.Shelf.Strings.OnBuilder
import Derived.Shelf.LaysM
import Derived.Shelf.Strconv.Itoa3
import Derived.Lib.LaidTab
import Derived.ChangeArms
import Derived.Carry
import Derived.OrdersIn
import Derived.LoopNIn
import Derived.TacticsIn
set_option linter.unusedSimpArgs false
set_option linter.unusedVariables false
set_option linter.unusedSectionVars false
namespace Go.Ps
abbrev gL:=Array Bool
def Ld(listed:gL)(i:Nat):Prop:=listed.getD i false=true
theorem GR{listed:gL}{i j:Nat}(hi:i<listed.size):Ld (listed.setIfInBounds i true) j↔Ld listed j\/j=i:=by
 unfold Ld;by_cases h:i=j
 .subst h;simp[hi]
 .rw[getD_set_ne false h];simp[Ne.symm h]
theorem yM{listed:gL}{i:Nat}:listed.getD i true=false↔i<listed.size/\¬Ld listed i:=by
 unfold Ld;by_cases h:i<listed.size
 .simp[h]
 .simp[h]
theorem QW(acc:fN)(j:Nat):∀(l:List Edge) (s:Nat),(l.foldl (fun s e=>if Region.binds .any e then s|||(2^e.on|||acc.getD e.on 0)else s) s).testBit j=true->
  s.testBit j=true\/∃e∈l,Region.binds .any e=true/\(j=e.on\/(acc.getD e.on 0).testBit j=true)
 |[],s,h=> .inl h
 |e::l,s,h=>by
  rw[List.foldl_cons]at h;rcases QW acc j l _ h with h|⟨e',he',h'⟩
  .split at h
   .rename_i hb;rw[Nat.testBit_or,Nat.testBit_or,bG,bG]at h;rcases h with h|h|h
    .exact .inl h
    .refine .inr ⟨e,by simp,hb,.inl ?_⟩;rw[Nat.testBit_two_pow]at h;exact(of_decide_eq_true h).symm
    .exact .inr ⟨e,by simp,hb,.inr h⟩
   .exact .inl h
  .exact .inr ⟨e',by simp[he'],h'⟩
theorem NR:∀(l:fS) (acc:fN),(rF l acc).take acc.length=acc/\(rF l acc).length=acc.length+l.length
 |[],acc=>by simp[rF]
 |o::l,acc=>by
  have ih:=NR l (acc++[wP acc o]);simp only[rF];refine⟨?_,by rw[ih.2];simp;omega⟩;have h1:=ih.1;have:((rF l (acc++[wP acc o])).take (acc++[wP acc o]).length).take acc.length=acc:=by rw[h1];simp
  rw[List.take_take]at this
  rwa [show min acc.length (acc++[wP acc o]).length=acc.length by simp]at this
theorem Uj:∀(l:fS) (acc:fN) (i:Nat) (o:Oper),l[i]? =some o->(rF l acc)[acc.length+i]? =some (wP ((rF l acc).take (acc.length+i)) o)
 |[],acc,i,o,h=>by simp at h
 |x::l,acc,0,o,h=>by
  simp at h;subst h;have ht:=NR l (acc++[wP acc x]);have ht0:=NR (x::l) acc;simp only[rF]at ht0⊢;simp only[Nat.add_zero];rw[ht0.1];have:((rF l (acc++[wP acc x])).take (acc++[wP acc x]).length)[acc.length]? =some (wP acc x):=by rw[ht.1];simp
  rw[bD]at this;split at this
  .exact this
  .cases this
 |x::l,acc,i+1,o,h=>by
  simp at h;have:=Uj l (acc++[wP acc x]) i o h;simp only[rF];simp only[bK,bL,List.length_nil,bN]at this;rw[show acc.length+(i+1)=acc.length+1+i by omega];exact this
theorem aAq{ops:fC}{i j:Nat}{o:Oper}(ho:ops[i]? =some o)(h:tG (rF ops.toList []) i j=true):
  ∃e∈o.after,Region.binds .any e=true/\(j=e.on\/(e.on<i/\tG (rF ops.toList []) e.on j=true)):=by
 have ha:=Uj ops.toList [] i o (by simpa using ho);simp only[List.length_nil,bN]at ha;unfold tG at h;rw[aX,ha]at h;simp only[eR]at h;unfold wP at h;rcases QW _ j _ 0 h with h|⟨e,he,hb,h⟩
 .simp at h
 .refine⟨e,by simpa using he,hb,h.imp id fun h=> ?_⟩;rw[aX,bD]at h;split at h
  .rename_i hlt;exact⟨hlt,by unfold tG;rw[aX];exact h⟩
  .simp at h
def Iv(ops:fC)(listed:gL):Prop:=∀i o,ops[i]? =some o->Ld listed i->∀e∈o.after,Region.binds .any e=true->Ld listed e.on
theorem uQ{ops:fC}{listed:gL}(hd:Iv ops listed)(hsz:listed.size=ops.size):∀(i:Nat) (o:Oper),ops[i]? =some o->(∀e∈o.after,Region.binds .any e=true->Ld listed e.on)->∀j,tG (rF ops.toList []) i j=true->Ld listed j:=by
 intro i
 induction i using Nat.strongRecOn with
 |_ i ih=>
  intro o ho hall j hp;obtain⟨e,he,hb,h⟩:=aAq ho hp;have hl:=hall e he hb;rcases h with rfl|⟨hlt,h⟩
  .exact hl
  .have hlt':e.on<ops.size:=by
    have:e.on<listed.size:=by
     unfold Ld at hl;by_cases q:e.on<listed.size
     .exact q
     .simp[q]at hl
    omega
   exact ih e.on hlt (ops[e.on]) (by simp[hlt']) (hd e.on _ (by simp[hlt']) hl) j h
theorem AW{ops:fC}(h:CS ops=true){i:Nat}{o:Oper}(ho:ops[i]? =some o):∀e∈o.after,Region.binds .any e=true->e.on<i:=by
 intro e he hb;unfold CS at h;rw[aG]at h;have hm:(o,i)∈ops.toList.zipIdx:=by
  rw[List.mem_iff_getElem?];exact⟨i,by simp[ho]⟩
 have:=h _ hm;rw[aG]at this;have:=this e (by simpa using he);simp[hb]at this;exact this
theorem vV{ops:fC}{A:fN}(h:Tk ops A=true){i j:Nat}{oi oj:Oper}(hi:ops[i]? =some oi)(hj:ops[j]? =some oj)(hne:i≠j){d:Tmp}(hd:oj.dst=some d)(hn:d∈xU ops oi):
  (j<i->tG A i j=true)/\(i<j->tG A j i=true):=by
 unfold Tk at h;rw[aG]at h;have hm:∀{k:Nat} {o:Oper},ops[k]? =some o->(o,k)∈ops.toList.zipIdx:=fun{k o} ho=>by
  rw[List.mem_iff_getElem?];exact⟨k,by simp[ho]⟩
 have:=h _ (hm hi);rw[aG]at this;have:=this _ (hm hj);simp only[hd,bG,beq_iff_eq,bM]at this;rcases this with h|h|h
 .exact absurd h hne
 .exact absurd (List.contains_iff_mem.2 hn) (by rw[h];simp)
 .constructor
  .intro hlt;rw[if_pos hlt]at h;exact h
  .intro hlt;rw[if_neg (by omega)]at h;exact h
theorem EB{A:fN}{m n:Nat}(h:qA A m n=true){i j:Nat}(h1:m<=i)(h2:i<n)(h3:j<i):tG A i j=true:=by
 unfold qA at h;rw[aG]at h;have:=h i (by rw[List.mem_range'_1];omega);rw[aG]at this;exact this j (by simpa using h3)
def RZ(listed:gL):Nat:=listed.toList.count false
theorem LL{listed:gL}{i:Nat}(h:listed.getD i true=false):RZ (listed.setIfInBounds i true)+1=RZ listed:=by
 obtain⟨hi,hn⟩:=yM.1 h;have hi':i<listed.toList.length:=by simpa using hi
 have he:listed.toList[i]=false:=by simpa [hi]using h
 unfold RZ;rw[Array.toList_setIfInBounds,List.count_set hi'];have hpos:0<listed.toList.count false:=List.count_pos_iff.2 (by rw[<-he];exact bV hi');rw[he];simp only[beq_self_eq_true,if_true];have:(true==false)=false:=rfl;rw[this];simp only[bA,if_false];omega
theorem JK{listed:gL}(h:RZ listed=0){i:Nat}(hi:i<listed.size):Ld listed i:=by
 unfold RZ at h;rw[List.count_eq_zero]at h;unfold Ld;have:listed.toList[i]'(by simpa using hi)≠false:=fun q=>h (by rw[<-q];exact bV _);simpa [hi]using this
theorem JN{listed:gL}(h:∀i,i<listed.size->Ld listed i):RZ listed=0:=by
 unfold RZ;rw[List.count_eq_zero];intro hm;obtain⟨i,hi,he⟩:=bX hm;have hi':i<listed.size:=by simpa using hi
 have:=h i hi';unfold Ld at this;simp[hi']at this he;rw[this]at he;cases he
theorem bCo(p:Nat->Prop):∀n,(∃i,i<n/\p i)->∃i,i<n/\p i/\∀j,j<i->¬p j:=by
 intro n
 induction n with
 |zero=>rintro⟨i,hi,_⟩;omega
 |succ n ih=>
  rintro⟨i,hi,hp⟩;rcases Classical.em (∃i,i<n/\p i)with h|h
  .obtain⟨i,h1,h2,h3⟩:=ih h;exact⟨i,by omega,h2,h3⟩
  .have:i=n:=by
    rcases dV i n with q|q
    .exact absurd ⟨i,q,hp⟩ h
    .omega
   subst this;exact⟨i,by omega,hp,fun j hj hpj=>h ⟨j,hj,hpj⟩⟩
theorem KN{ops:fC}{listed:gL}(hb:CS ops=true)(hsz:listed.size=ops.size)(h:0<RZ listed):Region.ready .any ops listed≠[]:=by
 have hex:∃i,i<ops.size/\¬Ld listed i:=by
  rcases Classical.em (∃i,i<ops.size/\¬Ld listed i)with q|q
  .exact q
  .have:RZ listed=0:=JN fun i hi=>cW fun hn=>q ⟨i,by omega,hn⟩;omega
 obtain⟨i,h1,h2,h3⟩:=bCo (fun i=>¬Ld listed i) ops.size hex;have:i∈Region.ready .any ops listed:=by
  refine mem_ready.2 ⟨yM.2 ⟨by omega,h2⟩,ops[i],by simp[h1],fun e he hbd=> ?_⟩;have:=AW hb (i:=i) (o:=ops[i]) (by simp[h1]) e he hbd;exact cW fun q=>h3 e.on this q
 intro e;rw[e]at this;cases this
section
variable{P:fA}{ops:fC}{Q:fF}
theorem Oo(hb:CS ops=true){m:Nat}(hch:qA (rF ops.toList []) m ops.size=true):∀(r i:Nat) (listed:gL) (a:Act) (w:gI),i+r=ops.size->m<=i->listed.size=ops.size->
  (∀j,Ld listed j↔j<i)->wpOps P ops Q (List.range' i r) a w->wpAny P .any ops Q r listed a w:=by
 intro r
 induction r with
 |zero=>
  intro i listed a w hir _ hsz hl h;refine⟨?_,h⟩;rcases hr:Region.ready .any ops listed with _ |⟨x,xs⟩
  .rfl
  .have hx:x∈Region.ready .any ops listed:=by rw[hr];simp
   obtain⟨h1,o,h2,_⟩:=mem_ready.1 hx;have hlt:x<ops.size:=(aL.1 h2).1;exact absurd ((hl x).2 (by omega)) (yM.1 h1).2
 |succ r ih=>
  intro i listed a w hir hmi hsz hl h;have hdown:Iv ops listed:=fun k o ho hk e he hbd=>(hl e.on).2 (by have:=AW hb ho e he hbd;have:=(hl k).1 hk;omega);refine⟨fun hr=> ?_,fun k hk=> ?_⟩
  .have hi:i∈Region.ready .any ops listed:=by
    refine mem_ready.2 ⟨yM.2 ⟨by omega,fun q=>by have:=(hl i).1 q;omega⟩,ops[i]'(by omega),by simp,fun e he hbd=> ?_⟩;exact(hl e.on).2 (AW hb (i:=i) (o:=ops[i]'(by omega)) (by simp) e he hbd)
   rw[hr]at hi;cases hi
  .obtain⟨h1,o,h2,h3⟩:=mem_ready.1 hk;have hlt:k<ops.size:=(aL.1 h2).1;have hge:i<=k:=by
    rcases dV k i with q|q
    .exact absurd ((hl k).2 q) (yM.1 h1).2
    .exact q
   have:k=i:=by
    rcases dT hge with q|q
    .exact q.symm
    .have hp:=EB hch (i:=k) (j:=i) (by omega) hlt q;have:=uQ hdown hsz k o h2 h3 i hp;have:=(hl i).1 this;omega
   subst this;rw[eJ,wpOps_cons]at h;refine wpOp_mono (fun a w hh=>ih (k+1) (listed.setIfInBounds k true) a w (by omega) (by omega) (by simpa using hsz) (fun j=> ?_) hh) h;rw[GR (by omega),hl j];omega
end
section
variable(P:fA)(E:tW)(F:Fc)(ops:fC)
def xH(s:Fx)(o:Oper)(s':Fx):Prop:=
 (∀d t,s.pend=some (d,t)->sT ops o d=false)/\(∀d,o.dst=some d->d<s.fr.length)/\
 ((oW ops s.fr o=true/\∃v,oV P E (uW F o) s.H s.fr o=some v/\s'={s with fr:=pP s.fr o.dst v})\/
  (oW ops s.fr o=true/\∃t d n z,o.op= .alloc t/\o.dst=some d/\s.pend=none/\tT P t=some n/\wN P t=some z/\z.cells.length=n/\s'={s with fr:=s.fr.set d oL,pend:=some (d,t)})\/
  (oW ops s.fr o=false/\s'={s with fr:=pP s.fr o.dst oL}))
def QQ(m:Nat)(S:Nat->Fx):Prop:=∀i,i<m->∃o,ops[i]? =some o/\xH P E F ops (S i) o (S (i+1))
end
section
variable{P:fA}{E:tW}{F:Fc}{ops:fC}
theorem Ou:∀(l:fS) (m:Nat) (s s':Fx),(∀j,l[j]? =ops[m+j]?)->pK P E F ops l m s=some s'->
  ∃(k:Nat) (S:Nat->Fx),k<=l.length/\S 0=s/\(∀i,i<k->∃o,l[i]? =some o/\xH P E F ops (S i) o (S (i+1)))/\
   ((k=l.length/\(S k).pend=none/\s'=S k)\/(k<l.length/\qA (rF ops.toList []) (m+k) ops.size=true/\pL P E F ops (l.drop k) (S k)=some s'))
 |[],m,s,s',_,h=>by
  simp only[pK]at h;split at h
  .rename_i hp;cases h;exact⟨0,fun _ =>s,by simp,rfl,fun i hi=>by omega,.inl ⟨rfl,hp,rfl⟩⟩
  .cases h
 |o::l,m,s,s',hl,h=>by
  have h0:ops[m]? =some o:=by simpa using(hl 0).symm
  have hl':∀j,l[j]? =ops[m+1+j]? :=fun j=>by have:=hl (j+1);simpa [dG,Nat.add_comm 1 j]using this
  have stop:qA (rF ops.toList []) m ops.size=true->pL P E F ops (o::l) s=some s'->_ :=fun h1 h2=>
   (⟨0,fun _ =>s,by simp,rfl,fun i hi=>by omega,.inr ⟨by simp,h1,h2⟩⟩:∃(k:Nat) (S:Nat->Fx),k<=(o::l).length/\S 0=s/\(∀i,i<k->∃o',(o::l)[i]? =some o'/\xH P E F ops (S i) o' (S (i+1)))/\
   ((k=(o::l).length/\(S k).pend=none/\s'=S k)\/(k<(o::l).length/\qA (rF ops.toList []) (m+k) ops.size=true/\pL P E F ops ((o::l).drop k) (S k)=some s')))
  have go:∀s1,xH P E F ops s o s1->pK P E F ops l (m+1) s1=some s'->∃(k:Nat) (S:Nat->Fx),k<=(o::l).length/\S 0=s/\(∀i,i<k->∃o',(o::l)[i]? =some o'/\xH P E F ops (S i) o' (S (i+1)))/\
   ((k=(o::l).length/\(S k).pend=none/\s'=S k)\/(k<(o::l).length/\qA (rF ops.toList []) (m+k) ops.size=true/\pL P E F ops ((o::l).drop k) (S k)=some s')):=by
   intro s1 hpre hev;obtain⟨k,S,h1,h2,h3,h4⟩:=Ou l (m+1) s1 s' hl' hev;refine⟨k+1,fun i=>match i with|0=>s|i+1=>S i,by simp;omega,rfl,fun i hi=> ?_,?_⟩
   .cases i with
    |zero=>exact⟨o,rfl,by simpa [h2]using hpre⟩|succ i=>obtain⟨o',ho',hp'⟩:=h3 i (by omega);exact⟨o',by simpa using ho',hp'⟩
   .rcases h4 with⟨e1,e2,e3⟩|⟨e1,e2,e3⟩
    .exact .inl ⟨by simp;omega,e2,e3⟩
    .exact .inr ⟨by simp;omega,by rw[show m+(k+1)=m+1+k by omega];exact e2,by simpa using e3⟩
  simp only[pK]at h;split at h
  .split at h
   .rename_i hc;exact stop hc h
   .cases h
  .rename_i htouch;have hpt:∀d t,s.pend=some (d,t)->sT ops o d=false:=fun d t hp=>by
    simp only[yU,hp,Bool.not_eq_true]at htouch;exact htouch
   split at h
   .cases h
   .rename_i hdst;have hdl:∀d,o.dst=some d->d<s.fr.length:=fun d hd=>by simpa [uM,hd]using hdst
    split at h
    .rename_i hw;split at h
     .rename_i v hv;exact go _ ⟨hpt,hdl,.inl ⟨hw,v,hv,rfl⟩⟩ h
     .split at h
      .rename_i d t hal;obtain⟨hop,hd⟩:=LC hal;split at h
       .cases h
       .rename_i hpn;have hpn':s.pend=none:=by simpa using hpn
        split at h
        .rename_i n z hn hz;split at h
         .rename_i hzl;exact go _ ⟨hpt,hdl,.inr (.inl ⟨hw,t,d,n,z,hop,hd,hpn',hn,hz,hzl,rfl⟩)⟩ h
         .cases h
        .cases h
      .split at h
       .rename_i hc;exact stop hc h
       .cases h
    .rename_i hw;exact go _ ⟨hpt,hdl,.inr (.inr ⟨by simpa using hw,rfl⟩)⟩ h
theorem xH.len{s s':Fx}{o:Oper}(h:xH P E F ops s o s'):s'.fr.length=s.fr.length/\s'.H=s.H:=by
 rcases h.2.2 with⟨_,v,_,rfl⟩|⟨_,t,d,n,z,_,_,_,_,_,_,rfl⟩|⟨_,rfl⟩
 .exact⟨by cases o.dst<;>simp[pP],rfl⟩
 .exact⟨by simp,rfl⟩
 .exact⟨by cases o.dst<;>simp[pP],rfl⟩
theorem xH.other{s s':Fx}{o:Oper}(h:xH P E F ops s o s'){t:Tmp}(ht:o.dst≠some t):s'.fr[t]? =s.fr[t]? :=by
 rcases h.2.2 with⟨_,v,_,rfl⟩|⟨_,ty,d,n,z,_,hd,_,_,_,_,rfl⟩|⟨_,rfl⟩
 .cases hd:o.dst with
  |none=>rfl|some d=>have:d≠t:=fun e=>ht (by rw[hd,e]);simp[pP,cX this]
 .have:d≠t:=fun e=>ht (by rw[hd,e]);simp[cX this]
 .cases hd:o.dst with
  |none=>rfl|some d=>have:d≠t:=fun e=>ht (by rw[hd,e]);simp[pP,cX this]
theorem xH.pend{s s':Fx}{o:Oper}(h:xH P E F ops s o s'):s'.pend=s.pend\/(s.pend=none/\∃d t,s'.pend=some (d,t)/\o.dst=some d/\o.op= .alloc t):=by
 rcases h.2.2 with⟨_,v,_,rfl⟩|⟨_,ty,d,n,z,hop,hd,hp,_,_,_,rfl⟩|⟨_,rfl⟩
 .exact .inl rfl
 .exact .inr ⟨hp,d,ty,rfl,hd,hop⟩
 .exact .inl rfl
variable{m:Nat}{S:Nat->Fx}
theorem QQ.same(h:QQ P E F ops m S){t:Tmp}:∀(k p:Nat),p+k<=m->(∀j o,p<=j->j<p+k->ops[j]? =some o->o.dst≠some t)->(S (p+k)).fr[t]? =(S p).fr[t]? :=by
 intro k
 induction k with
 |zero=>intro p _ _;rfl
 |succ k ih=>
  intro p hp hn;obtain⟨o,ho,hs⟩:=h (p+k) (by omega);rw[show p+(k+1)=p+k+1 by omega,hs.other (hn (p+k) o (by omega) (by omega) ho)];exact ih p (by omega) (fun j o' h1 h2=>hn j o' h1 (by omega))
theorem QQ.len(h:QQ P E F ops m S):∀i,i<=m->(S i).fr.length=(S 0).fr.length/\(S i).H=(S 0).H:=by
 intro i
 induction i with
 |zero=>intro _;exact⟨rfl,rfl⟩
 |succ i ih=>
  intro hi;obtain⟨o,_,hs⟩:=h i (by omega);have:=hs.len;have:=ih (by omega);exact⟨by omega,by simp_all⟩
theorem QQ.pend(h:QQ P E F ops m S){d:Tmp}{t:eX}:∀(k i:Nat),i+k<=m->(S i).pend=some (d,t)->(S (i+k)).pend=some (d,t):=by
 intro k
 induction k with
 |zero=>intro i _ hp;exact hp
 |succ k ih=>
  intro i hi hp;obtain⟨o,_,hs⟩:=h (i+k) (by omega);have h1:=ih i (by omega) hp;rcases hs.pend with e|⟨e,_⟩
  .rw[show i+(k+1)=i+k+1 by omega,e];exact h1
  .rw[h1]at e;cases e
structure DInv(P:fA)(E:tW)(ops:fC)(m:Nat)(S:Nat->Fx)(g0:G)(H0:Hp)(listed:gL)(g:G)(a:Act):Prop where
 sz:listed.size=ops.size
 down:Iv ops listed
 lt:∀i,Ld listed i->i<m
 ok:qP g
 st:St g (S 0).H
 gl:GlOk E.gl g
 df:a.defers=[]
 len:a.tmps.size=(S 0).fr.length
 sl:∀(t:Tmp) (i:Nat) (v:fP) (c:T),i<=m->(∀j o,j<i->ops[j]? =some o->o.dst=some t->Ld listed j)->(∀j o,i<=j->j<m->ops[j]? =some o->o.dst=some t->¬Ld listed j)->
  (S i).pend.map (·.1)≠some t->a.tmps[t]? =some v->(S i).fr[t]? =some c->Rd g v c
 pd:∀(p:Nat) (d:Tmp) (t:eX),p<m->(S p).pend=none->(S (p+1)).pend=some (d,t)->Ld listed p->TN P g0 g (S 0).H a d t
 step:oX H0 g0 (S 0).H g
theorem aEx(hE:tP P E.gl E.pe)(hdr:uU ops=true){g0:G}{H0:Hp}(htr:QQ P E F ops m S)(hp0:(S 0).pend=none)(hm:m<=ops.size)(hch:m<ops.size->qA (rF ops.toList []) m ops.size=true){Q:fF}
  (hfin:∀a' g',Inv P E g0 H0 g' a' (S m)->wpOps P ops Q (List.range' m (ops.size-m)) a' g'.w):
  ∀(fuel:Nat) (listed:gL) (a:Act) (g:G),DInv P E ops m S g0 H0 listed g a->RZ listed=fuel->wpAny P .any ops Q fuel listed a g.w:=by
 simp only[uU,aA]at hdr;obtain⟨⟨hb,_⟩,htm⟩:=hdr;have full:∀(listed:gL) (a:Act) (g:G),DInv P E ops m S g0 H0 listed g a->(∀i,i<m->Ld listed i)->Inv P E g0 H0 g a (S m):=by
  intro listed a g h hall;have hlen:=htr.len m (aZ _);refine⟨h.ok,by rw[hlen.2];exact h.st,h.gl,h.df,⟨by rw[hlen.1];exact h.len,fun j v c hj hv hc=> ?_⟩,fun d t hpd=> ?_,by rw[hlen.2];exact h.step⟩
  .exact h.sl j m v c (aZ _) (fun k o hk _ _ =>hall k hk) (fun k o h1 h2=>by omega) hj hv hc
  .
   have:∃p,p<m/\(S p).pend=none/\(S (p+1)).pend=some (d,t):=by
    have key:∀i,i<=m->(S i).pend=some (d,t)->∃p,p<i/\(S p).pend=none/\(S (p+1)).pend=some (d,t):=by
     intro i
     induction i with
     |zero=>intro _ q;rw[hp0]at q;cases q
     |succ i ih=>
      intro hi q;obtain⟨o,_,hs⟩:=htr i (by omega);rcases hs.pend with e|⟨e,_⟩
      .obtain⟨p,h1,h2,h3⟩:=ih (by omega) (by rw[<-e];exact q);exact⟨p,by omega,h2,h3⟩
      .exact⟨i,by omega,e,q⟩
    exact key m (aZ _) hpd
   obtain⟨p,h1,h2,h3⟩:=this;have:=h.pd p d t h1 h2 h3 (hall p h1);rw[hlen.2];exact this
 intro fuel
 induction fuel with
 |zero=>
  intro listed a g h hc;have hall:∀i,i<ops.size->Ld listed i:=fun i hi=>JK hc (by rw[h.sz];exact hi);have hme:m=ops.size:=by
   rcases dV m ops.size with q|q
   .have:=h.lt m (hall m q);omega
   .omega
  have hi:=full listed a g h (fun i hi=>hall i (by omega));have hq:=hfin a g hi;rw[hme,Nat.sub_self]at hq;refine⟨?_,hq⟩;rcases hr:Region.ready .any ops listed with _ |⟨x,xs⟩
  .rfl
  .have hx:x∈Region.ready .any ops listed:=by rw[hr];simp
   obtain⟨h1,o,h2,_⟩:=mem_ready.1 hx;exact absurd (hall x (aL.1 h2).1) (yM.1 h1).2
 |succ fuel ih=>
  intro listed a g h hc;refine⟨fun hr=>absurd hr (KN hb h.sz (by omega)),fun i hi=> ?_⟩;obtain⟨h1,o,h2,h3⟩:=mem_ready.1 hi;have hni:=(yM.1 h1).2;have hio:i<ops.size:=(aL.1 h2).1;have hcl:∀j,tG (rF ops.toList []) i j=true->Ld listed j:=uQ h.down h.sz i o h2 h3;by_cases him:i<m
  .
   obtain⟨o',ho',hps⟩:=htr i him;rw[h2]at ho';cases ho';have before:∀t,t∈xU ops o->∀j oj,j<i->ops[j]? =some oj->oj.dst=some t->Ld listed j:=fun t ht j oj hj hoj hd=>
    hcl j ((vV htm h2 hoj (by omega) hd ht).1 hj)
   have behind:∀t,t∈xU ops o->∀j oj,i<j->ops[j]? =some oj->oj.dst=some t->¬Ld listed j:=fun t ht j oj hj hoj hd hl=>
    hni (uQ h.down h.sz j oj hoj (h.down j oj hoj hl) i ((vV htm h2 hoj (by omega) hd ht).2 hj))
   have notself:∀t,t∈xU ops o->∀j oj,i<=j->ops[j]? =some oj->oj.dst=some t->¬Ld listed j:=fun t ht j oj hj hoj hd=>by
    rcases dT hj with rfl|hj
    .exact hni
    .exact behind t ht j oj hj hoj hd
   have hleni:=htr.len i (by omega);have slot:∀t,t∈o.looksAt ops->(S i).pend.map (·.1)≠some t->∀v c,a.tmps[t]? =some v->(S i).fr[t]? =some c->Rd g v c:=fun t ht hpn v c hv hcc=>by
    have hn:t∈xU ops o:=bZ.2 (.inr ht);exact h.sl t i v c (by omega) (fun j oj hj hoj hd=>before t hn j oj hj hoj hd) (fun j oj hj _ hoj hd=>notself t hn j oj hj hoj hd) hpn hv hcc
   have hnp:∀t,t∈o.looksAt ops->(S i).pend.map (·.1)≠some t:=fun t ht q=>by
    cases hp:(S i).pend with
    |none=>rw[hp]at q;cases q
    |some dt=>
     obtain⟨d,ty⟩:=dt;rw[hp]at q;cases q;exact(KR (hps.1 d ty hp)).1 ht
   have getfr:∀t,t∈o.looksAt ops->Rd g (a.tmps.getD t undef) (qW (S i).fr t):=fun t ht=>by
    rw[sG];by_cases hlt:t<(S i).fr.length
    .have hlt':t<a.tmps.size:=by rw[h.len,<-hleni.1];exact hlt
     have:=slot t ht (hnp t ht) a.tmps[t] (S i).fr[t] (by simp[hlt']) (by simp[hlt]);simpa [hlt,hlt']using this
    .have hlt':¬t<a.tmps.size:=by rw[h.len,<-hleni.1];exact hlt
     have e1:a.tmps.getD t undef=undef:=by simp[cT (bT hlt')]
     have e2:(S i).fr.getD t oL=oL:=by simp[bH (bT hlt)]
     rw[e1,e2];exact Rd.undef
   have hop:∀x∈o.op.operands,∀r,pE E.gl (S i).fr x=some r->Rd g (a.eval x) r:=fun x hx r hr=>by
    cases x with
    |tmp t=>simp only[pE,aD]at hr;subst hr;exact getfr t (xS hx)|const v=>exact DK g hr|global k=>exact(h.gl k r hr).1|func f=>simp only[pE,aD]at hr;subst hr;exact Rd.mk_fn RdL.nil RdL.nil
   have hwant:Region.wanted o (yielded ops a.tmps)=oW ops (S i).fr o:=by
    unfold Region.wanted oW;cases hg:o.guard with
    |none=>rfl
    |some p=>
     obtain⟨j,w⟩:=p;simp only;congr 1;unfold yielded xW;cases hd:(ops[j]?).bind (·.dst)with
     |none=>rfl
     |some d=>
      simp only[dN];have hl:=vG hg hd;by_cases hlt:d<(S i).fr.length
      .have hlt':d<a.tmps.size:=by rw[h.len,<-hleni.1];exact hlt
       have hv:a.tmps[d]? =some a.tmps[d]:=by simp[hlt']
       have hcc:(S i).fr[d]? =some (S i).fr[d]:=by simp[hlt]
       have:=slot d hl (hnp d hl) _ _ hv hcc;rw[hv,hcc];generalize a.tmps[d]=u at this;generalize (S i).fr[d]=c at this;cases this<;>rfl
      .have hlt':¬d<a.tmps.size:=by rw[h.len,<-hleni.1];exact hlt
       rw[cT (bT hlt'),bH (bT hlt)]
   have hcnt:RZ (listed.setIfInBounds i true)=fuel:=by have:=LL h1;omega
   have hld:∀j,Ld (listed.setIfInBounds i true) j↔Ld listed j\/j=i:=fun j=>GR (by rw[h.sz];exact hio)
   have hdown':Iv ops (listed.setIfInBounds i true):=fun k ok hk hl e he hbd=>(hld e.on).2 (.inl (by
    rcases(hld k).1 hl with q|rfl
    .exact h.down k ok hk q e he hbd
    .rw[h2]at hk;cases hk;exact h3 e he hbd))
   have pendkeep:∀(p:Nat) (d:Tmp) (t:eX),p<m->(S p).pend=none->(S (p+1)).pend=some (d,t)->Ld listed p->o.dst≠some d:=fun p d t hp hn hsm hlp hd=>by
    obtain⟨op,hop',hpp⟩:=htr p hp;have hdst:op.dst=some d:=by
     rcases hpp.pend with e|⟨_,d',t',e1,e2,_⟩
     .rw[e,hn]at hsm;cases hsm
     .rw[hsm]at e1;cases e1;exact e2
    have hip:i≠p:=fun q=>hni (q▸hlp);rcases dV i p with q|q
    .
     have:=vV htm h2 hop' hip hdst (bZ.2 (.inl (by rw[hd];simp)));exact hni (uQ h.down h.sz p op hop' (h.down p op hop' hlp) i (this.2 q))
    .have hpi:(S i).pend=some (d,t):=by
      have:=htr.pend (i-(p+1)) (p+1) (by omega) hsm
      rwa [show p+1+(i-(p+1))=i by omega]at this
     exact(KR (hps.1 d t hpi)).2 hd
   have next:∀(g':G) (v:fP) (c:T),PStep g g'->qP g'->Rd g' v c->(∀d,o.dst=some d->(S (i+1)).fr[d]? =some c/\(S (i+1)).pend=(S i).pend)->(o.dst=none->(S (i+1)).pend=(S i).pend)->
     DInv P E ops m S g0 H0 (listed.setIfInBounds i true) g' (a.put o.dst v):=by
    intro g' v c hst hok hv hset hset';have hpe:(S (i+1)).pend=(S i).pend:=by
     cases hd:o.dst with
     |none=>exact hset' hd|some d=>exact(hset d hd).2
    refine⟨by simpa using h.sz,hdown',fun j hj=>((hld j).1 hj).elim (h.lt j) (fun e=>e▸him),hok,h.st.pstep hst,h.gl.pstep hst,by rw[rQ];exact h.df,?_,?_,?_,h.step.trans hst.toS⟩
    .cases o.dst<;>simp[Act.put,h.len]
    .intro t k u cc hk hw1 hw2 hpn hu hcc;by_cases htd:o.dst=some t
     .
      have hik:i<k:=by
       rcases dV i k with q|q
       .exact q
       .exact absurd ((hld i).2 (.inr rfl)) (hw2 i o q him h2 htd)
      have hnow:∀j oj,i+1<=j->j<k->ops[j]? =some oj->oj.dst≠some t:=fun j oj hj1 hj2 hoj hd=>by
       have hl:=hw1 j oj hj2 hoj hd;rcases(hld j).1 hl with q|q
       .exact behind t (bZ.2 (.inl (by rw[htd];simp))) j oj (by omega) hoj hd q
       .omega
      have hsame:=htr.same (t:=t) (k-(i+1)) (i+1) (by omega) (fun j oj q1 q2=>hnow j oj q1 (by omega));rw[show i+1+(k-(i+1))=k by omega]at hsame;rw[hsame,(hset t htd).1]at hcc;cases hcc;rw[htd]at hu;simp only[Act.put,cU]at hu;split at hu
      .cases hu;exact hv
      .cases hu
     .have hu':a.tmps[t]? =some u:=by
       cases hd:o.dst with
       |none=>rw[hd]at hu;exact hu
       |some d=>
        rw[hd]at hu;have:d≠t:=fun e=>htd (by rw[hd,e]);simpa [Act.put,bJ this]using hu
      refine(h.sl t k u cc hk (fun j oj hj hoj hd=> ?_) (fun j oj hj1 hj2 hoj hd hl=>hw2 j oj hj1 hj2 hoj hd ((hld j).2 (.inl hl))) hpn hu' hcc).pstep hst;rcases(hld j).1 (hw1 j oj hj hoj hd)with q|rfl
      .exact q
      .rw[h2]at hoj;cases hoj;exact absurd hd htd
    .intro p d t hp hn hsm hl;rcases(hld p).1 hl with q|rfl
     .exact((h.pd p d t hp hn hsm q).pstep hst).put (pendkeep p d t hp hn hsm q) v
     .rw[hpe,hn]at hsm;cases hsm
   unfold wpOp;rw[h2];simp only;rw[hwant];rcases hps.2.2 with⟨hw,v,hv,hS⟩|⟨hw,t,d,n,z,hopa,hd,hpn,hn,hz,hzl,hS⟩|⟨hw,hS⟩
   .rw[if_pos hw];left;have hst':St g (S i).H:=by rw[hleni.2];exact h.st
    refine FX hE h.gl hst' h.ok hv hop _ _ (fun u g' hst hok hr=>ih _ _ g' (next g' u v hst hok hr (fun d hd=> ?_) (fun _ =>by rw[hS])) hcnt);refine⟨?_,by rw[hS]⟩;rw[hS,hd];simp[pP,hps.2.1 d hd]
   .rw[if_pos hw];left;obtain⟨zv,hzv,hzr⟩:=EZ (g:=g) hz
    let g':G:={g with w:={g.w with heap:=g.w.heap.push (.cells zv.cells t)}}
    have hst:PStep g g':=⟨rfl,rfl,rfl,by simp[g'],fun b hb=>by simp only[g'];rw[eO,if_neg (by omega)],fun _ q=>q,fun _ q=> .inl q,rfl,rfl,rfl⟩;have hok:qP g':=fun b hb=>by have:=h.ok b hb;simp only[g',Array.size_push];omega
    have hrun:(execOp a.eval o).run P g.w= .ok (.value (.pointer (some ⟨g.w.heap.size,0,none⟩))) g'.w:=by
     simp only[execOp,hopa,Instr.alloc,aO,hzv,aH,newVar,newRow,run_newObj,aW];rfl
    unfold Oper.wp;rw[hrun];refine ih _ _ g' ?_ hcnt;have hdl:=hps.2.1 d hd;have hdl':d<a.tmps.size:=by rw[h.len,<-hleni.1];exact hdl
    refine⟨by simpa using h.sz,hdown',fun j hj=>((hld j).1 hj).elim (h.lt j) (fun e=>e▸him),hok,h.st.pstep hst,h.gl.pstep hst,by rw[rQ];exact h.df,by simp[hd,Act.put,h.len],?_,?_,h.step.trans hst.toS⟩
    .intro t' k u cc hk hw1 hw2 hpn' hu hcc;by_cases htd:d=t'
     .subst htd;have hik:i<k:=by
       rcases dV i k with q|q
       .exact q
       .exact absurd ((hld i).2 (.inr rfl)) (hw2 i o q him h2 hd)
      have hpk:(S k).pend=some (d,t):=by
       have h0:(S (i+1)).pend=some (d,t):=by rw[hS]
       have:=htr.pend (k-(i+1)) (i+1) (by omega) h0
       rwa [show i+1+(k-(i+1))=k by omega]at this
      rw[hpk]at hpn';exact absurd rfl hpn'
     .have hu':a.tmps[t']? =some u:=by
       rw[hd]at hu;simpa [Act.put,bJ htd]using hu
      refine(h.sl t' k u cc hk (fun j oj hj hoj hdj=> ?_) (fun j oj hj1 hj2 hoj hdj hl=>hw2 j oj hj1 hj2 hoj hdj ((hld j).2 (.inl hl))) hpn' hu' hcc).pstep hst;rcases(hld j).1 (hw1 j oj hj hoj hdj)with q|rfl
      .exact q
      .rw[h2]at hoj;cases hoj;rw[hd]at hdj;exact absurd (by injection hdj) htd
    .intro p d' t' hp hnn hsm hl;rcases(hld p).1 hl with q|rfl
     .exact((h.pd p d' t' hp hnn hsm q).pstep hst).put (pendkeep p d' t' hp hnn hsm q) _
     .rw[hS]at hsm;simp only[aD,aQ]at hsm;obtain⟨rfl,rfl⟩:=hsm;have hcz:=hzr.cells;refine⟨g.w.heap.size,zv.cells,?_,h.step.size,fun q=> ?_,fun l ob hl=> ?_,?_,?_⟩
      .simp only[hd,Act.put];rw[cU,if_pos hdl']
      .exact absurd (h.ok _ q) (by omega)
      .have:=h.st.lt hl;show g.loc l≠_;omega
      .simp only[g'];exact Array.getElem?_push_size
      .rw[hn,<-hzl,<-hcz.1];simp
   .rw[hw];simp only[bA,if_false];refine ih _ _ g (next g undef oL (PStep.refl g) h.ok Rd.undef (fun d hd=> ?_) (fun _ =>by rw[hS])) hcnt;refine⟨?_,by rw[hS]⟩;rw[hS,hd];simp[pP,hps.2.1 d hd]
  .
   have hlt:m<ops.size:=by omega
   have hchn:=hch hlt;have hallj:∀j,j<i->Ld listed j:=fun j hj=>hcl j (EB hchn (by omega) hio hj);have hie:i=m:=by
    rcases dT (bT him)with q|q
    .exact q.symm
    .have:=h.lt m (hallj m q);omega
   subst hie;have hinv:=full listed a g h hallj;have hq:=hfin a g hinv;have hexact:∀j,Ld listed j↔j<i:=fun j=>⟨h.lt j,hallj j⟩;have hc':RZ listed=ops.size-i:=by
    have key:∀(r k:Nat) (L:gL),L.size=ops.size->(∀j,Ld L j↔j<k)->k+r=ops.size->RZ L=r:=by
     intro r
     induction r with
     |zero=>intro k L hs hl hk;exact JN fun j hj=>(hl j).2 (by omega)
     |succ r ihr=>
      intro k L hs hl hk;have hun:L.getD k true=false:=yM.2 ⟨by omega,fun q=>by have:=(hl k).1 q;omega⟩;have:=ihr (k+1) (L.setIfInBounds k true) (by simpa using hs) (fun j=>by rw[GR (by omega),hl j];omega) (by omega);have:=LL hun;omega
    exact key (ops.size-i) i listed h.sz hexact (by omega)
   rw[show ops.size-i=(ops.size-(i+1))+1 by omega,eJ,wpOps_cons]at hq;have hf:fuel=ops.size-(i+1):=by omega
   rw[hf];refine wpOp_mono (fun a w hh=>Oo hb hchn (ops.size-(i+1)) (i+1) (listed.setIfInBounds i true) a w (by omega) (by omega) (by simpa using h.sz) (fun j=> ?_) hh) hq;rw[GR (by rw[h.sz];exact hio),hexact j];omega
end
end Go.Ps
namespace Go.Ps
section
variable{P:fA}{E:tW}{F:Fc}{ops:fC}
theorem aGj{l:Nat}{fr:eY}{o:Oper}{H H':Hp}{own:Bool}(h:hOk E.gl l fr o=true)(hh:∀l',l'≠l->H'.get l'=H.get l'):oV P E own H fr o=oV P E own H' fr o:=by
 obtain⟨dst,op,ty,pos,after,guard⟩:=o;cases op<;>simp only[hOk]at h<;>try first|rfl|(cases h;done)
 case load t a=>
  simp only[oV];split at h
  .rename_i x off ha;rw[ha];rfl
  .rename_i l' off ha;rw[ha];have:l'≠l:=by simpa using h
   simp only[tX,tR,hh l' this]
  .cases h
 case call c=>
  simp only[oV,uN];split at h
  .rename_i hb;rw[hb];simp only;rw[aG]at h;split
   .rename_i x t ts hx ht;have hx':=h x (by rw[hx];simp);split
    .rename_i a ha;rw[ha]at hx';cases a<;>first|rfl|(simp at hx')
    .rfl
   .rfl
  .rename_i b hb hne;rw[hne];cases b<;>first|rfl|exact absurd rfl hb
  .cases h
structure Pr(P:fA)(E:tW)(F:Fc)(ops:fC)(H H':Hp)(a b:Prop)(fr:eY)(o:Oper)(fr':eY):Prop where
 dl:∀d,o.dst=some d->d<fr.length
 cs:(oW ops fr o=true/\∃v,(a\/oV P E (uW F o) H fr o=some v)/\(b\/oV P E (uW F o) H' fr o=some v)/\fr'=pP fr o.dst v)\/(oW ops fr o=false/\fr'=pP fr o.dst oL)
structure aSc(P:fA)(E:tW)(H H':Hp)(fr:eY)(o:Oper)(fr':eY):Prop where
 gd:o.guard=none
 ds:o.dst=none
 sf:fr'=fr
 st:∃t x y q v,o.op= .store t x y/\pE E.gl fr x=some q/\pE E.gl fr y=some v/\tK P H t q v=some H'
theorem zA{s:Fx}{o:Oper}(h:¬uM s o=false):∀d,o.dst=some d->d<s.fr.length:=fun d hd=>by simpa [uM,hd]using h
theorem Ga{o:Oper}(h:MC o=true):o.dst=none/\o.guard=none:=by
 unfold MC at h;split at h
 .exact⟨‹_›,‹_›⟩
 .cases h
abbrev gW:=Nat->List T
theorem Oc{A:fN}{p l:Nat}{H H':Hp}(hh:∀l',l'≠l->H'.get l'=H.get l'):∀(os:fS) (m:Nat) (fr:eY) (s':Fx),rP P E F ops A p l os m true ⟨fr,H',none⟩=some s'->
  ∃(n:Nat) (S:gW),n<=os.length/\S 0=fr/\(∀i,i<n->∃o,os[i]? =some o/\Pr P E F ops H H' (tG A (m+i) p=true) False (S i) o (S (i+1)))/\
   ((n=os.length/\s'=⟨S n,H',none⟩)\/(n<os.length/\qA A (m+n) ops.size=true/\pL P E F ops (os.drop n) ⟨S n,H',none⟩=some s'))
 |[],m,fr,s',h=>by
  simp only[rP,if_true]at h;cases h;exact⟨0,fun _ =>fr,by simp,rfl,fun i hi=>by omega,.inl ⟨rfl,rfl⟩⟩
 |o::os,m,fr,s',h=>by
  have go:∀fr1,Pr P E F ops H H' (tG A m p=true) False fr o fr1->rP P E F ops A p l os (m+1) true ⟨fr1,H',none⟩=some s'->∃(n:Nat) (S:gW),n<=(o::os).length/\S 0=fr/\(∀i,i<n->∃o',(o::os)[i]? =some o'/\Pr P E F ops H H' (tG A (m+i) p=true) False (S i) o' (S (i+1)))/\
   ((n=(o::os).length/\s'=⟨S n,H',none⟩)\/(n<(o::os).length/\qA A (m+n) ops.size=true/\pL P E F ops ((o::os).drop n) ⟨S n,H',none⟩=some s')):=by
   intro fr1 hp he;obtain⟨n,S,h1,h2,h3,h4⟩:=Oc hh os (m+1) fr1 s' he;refine⟨n+1,fun i=>match i with|0=>fr|i+1=>S i,by simp;omega,rfl,fun i hi=> ?_,?_⟩
   .cases i with
    |zero=>exact⟨o,rfl,by simpa [h2]using hp⟩|succ i=>obtain⟨o',ho',hp'⟩:=h3 i (by omega);exact⟨o',by simpa using ho',by rw[show m+(i+1)=m+1+i by omega];exact hp'⟩
   .rcases h4 with⟨e1,e2⟩|⟨e1,e2,e3⟩
    .exact .inl ⟨by simp;omega,e2⟩
    .exact .inr ⟨by simp;omega,by rw[show m+(n+1)=m+1+n by omega];exact e2,by simpa using e3⟩
  simp only[rP,Bool.true_and,if_true]at h;split at h
  .rename_i hc;exact⟨0,fun _ =>fr,by simp,rfl,fun i hi=>by omega,.inr ⟨by simp,hc,h⟩⟩
  .split at h
   .cases h
   .rename_i hd;split at h
    .simp at h
    .split at h
     .rename_i hw;split at h
      .rename_i ho;split at h
       .rename_i v hv;rcases bG _ _ |>.mp ho with ho|ho
        .exact go _ ⟨zA hd,.inl ⟨hw,v,.inl ho,.inr hv,rfl⟩⟩ h
        .exact go _ ⟨zA hd,.inl ⟨hw,v,.inr ((aGj ho hh).trans hv),.inr hv,rfl⟩⟩ h
       .cases h
      .cases h
     .rename_i hw;exact go _ ⟨zA hd,.inr ⟨by simpa using hw,rfl⟩⟩ h
theorem Ol{t:eX}{l off:Nat}{v:T}{H H':Hp}(h:tK P H t (.ptr l off) v=some H'):∀l',l'≠l->H'.get l'=H.get l':=by
 simp only[tK]at h;split at h
 .rename_i o n ho hn;split at h
  .cases h;intro l' hl;rw[vN,uH,if_neg hl,<-vN]
  .cases h
 .cases h
theorem Dn{A:fN}{p l:Nat}{H:Hp}:∀(os:fS) (m:Nat) (fr:eY) (s':Fx),sZ os m=some p->rP P E F ops A p l os m false ⟨fr,H,none⟩=some s'->
  ∃(n:Nat) (S:gW) (H':Hp),p<m+n/\m<=p/\n<=os.length/\S 0=fr/\(∀l',l'≠l->H'.get l'=H.get l')/\
   (∀i,i<n->∃o,os[i]? =some o/\((m+i=p/\aSc P E H H' (S i) o (S (i+1)))\/(m+i≠p/\Pr P E F ops H H' (p<m+i/\tG A (m+i) p=true) (m+i<p/\tG A p (m+i)=true) (S i) o (S (i+1)))))/\
   ((n=os.length/\s'=⟨S n,H',none⟩)\/(n<os.length/\qA A (m+n) ops.size=true/\pL P E F ops (os.drop n) ⟨S n,H',none⟩=some s'))
 |[],m,fr,s',hf,h=>by simp[rP]at h
 |o::os,m,fr,s',hf,h=>by
  have go:∀fr1,sZ os (m+1)=some p->(∀H',(∀l',l'≠l->H'.get l'=H.get l')->Pr P E F ops H H' False (tG A p m=true) fr o fr1)->rP P E F ops A p l os (m+1) false ⟨fr1,H,none⟩=some s'->
    ∃(n:Nat) (S:gW) (H':Hp),p<m+n/\m<=p/\n<=(o::os).length/\S 0=fr/\(∀l',l'≠l->H'.get l'=H.get l')/\
   (∀i,i<n->∃o',(o::os)[i]? =some o'/\((m+i=p/\aSc P E H H' (S i) o' (S (i+1)))\/(m+i≠p/\Pr P E F ops H H' (p<m+i/\tG A (m+i) p=true) (m+i<p/\tG A p (m+i)=true) (S i) o' (S (i+1)))))/\
   ((n=(o::os).length/\s'=⟨S n,H',none⟩)\/(n<(o::os).length/\qA A (m+n) ops.size=true/\pL P E F ops ((o::os).drop n) ⟨S n,H',none⟩=some s')):=by
   intro fr1 hfs hp he;obtain⟨n,S,H',h0,h0',h1,h2,hh,h3,h4⟩:=Dn os (m+1) fr1 s' hfs he;refine⟨n+1,fun i=>match i with|0=>fr|i+1=>S i,H',by omega,by omega,by simp;omega,rfl,hh,fun i hi=> ?_,?_⟩
   .cases i with
    |zero=>
     have hq:=hp H' hh;refine⟨o,rfl,.inr ⟨by omega,hq.dl,?_⟩⟩;simp only[h2];rcases hq.cs with⟨w,v,v1,v2,v3⟩|q
     .exact .inl ⟨w,v,v1.imp False.elim id,v2.imp (fun z=>⟨by omega,by simpa using z⟩) id,v3⟩
     .exact .inr q
    |succ i=>
     obtain⟨o',ho',hp'⟩:=h3 i (by omega);refine⟨o',by simpa using ho',?_⟩;rcases hp' with⟨e,q⟩|⟨e,q⟩
     .exact .inl ⟨by omega,q⟩
     .refine .inr ⟨by omega,?_⟩;rw[show m+(i+1)=m+1+i by omega];exact q
   .rcases h4 with⟨e1,e2⟩|⟨e1,e2,e3⟩
    .exact .inl ⟨by simp;omega,e2⟩
    .exact .inr ⟨by simp;omega,by rw[show m+(n+1)=m+1+n by omega];exact e2,by simpa using e3⟩
  simp only[rP,Bool.false_and,bA,if_false]at h;split at h
  .cases h
  .rename_i hd;split at h
   .rename_i hst;have hpm:m=p:=by simpa [sZ,hst]using hf
    obtain⟨s1,s2⟩:=Ga hst;split at h
    .rename_i t x y hop;split at h
     .rename_i l' off v hx hy;split at h
      .rename_i hl;split at h
       .rename_i H' hs;subst hl;have hh:=Ol hs;obtain⟨n,S,h1,h2,h3,h4⟩:=Oc (A:=A) (p:=p) (l:=l') hh os (m+1) fr s' h;refine⟨n+1,fun i=>match i with|0=>fr|i+1=>S i,H',by omega,by omega,by simp;omega,rfl,hh,fun i hi=> ?_,?_⟩
        .cases i with
         |zero=>exact⟨o,rfl,.inl ⟨by omega,⟨s2,s1,h2,t,x,y,_,v,hop,hx,hy,hs⟩⟩⟩
         |succ i=>
          obtain⟨o',ho',hp'⟩:=h3 i (by omega);refine⟨o',by simpa using ho',.inr ⟨by omega,hp'.dl,?_⟩⟩;rcases hp'.cs with⟨w,v,v1,v2,v3⟩|q
          .exact .inl ⟨w,v,v1.imp (fun z=>⟨by omega,by rw[show m+(i+1)=m+1+i by omega];exact z⟩) id,v2.imp False.elim id,v3⟩
          .exact .inr q
        .rcases h4 with⟨e1,e2⟩|⟨e1,e2,e3⟩
         .exact .inl ⟨by simp;omega,e2⟩
         .exact .inr ⟨by simp;omega,by rw[show m+(n+1)=m+1+n by omega];exact e2,by simpa using e3⟩
       .cases h
      .cases h
     .cases h
    .cases h
   .rename_i hns;have hfs:sZ os (m+1)=some p:=by simpa [sZ,hns]using hf
    split at h
    .rename_i hw;split at h
     .rename_i ho;split at h
      .rename_i v hv;rcases bG _ _ |>.mp ho with ho|ho
       .exact go _ hfs (fun H' hh=>⟨zA hd,.inl ⟨hw,v,.inr hv,.inl ho,rfl⟩⟩) h
       .exact go _ hfs (fun H' hh=>⟨zA hd,.inl ⟨hw,v,.inr hv,.inr ((aGj ho hh).symm.trans hv),rfl⟩⟩) h
      .cases h
     .cases h
    .rename_i hw;exact go _ hfs (fun H' hh=>⟨zA hd,.inr ⟨by simpa using hw,rfl⟩⟩) h
structure FTr(P:fA)(E:tW)(F:Fc)(ops:fC)(m p:Nat)(S:gW)(H H':Hp):Prop where
 lt:p<m
 at_ :∀i,i<m->∃o,ops[i]? =some o/\((i=p/\aSc P E H H' (S i) o (S (i+1)))\/(i≠p/\Pr P E F ops H H' (p<i/\tG (rF ops.toList []) i p=true) (i<p/\tG (rF ops.toList []) p i=true) (S i) o (S (i+1))))
variable{m p:Nat}{S:gW}{H H':Hp}
theorem FTr.len1(h:FTr P E F ops m p S H H'){i:Nat}(hi:i<m):(S (i+1)).length=(S i).length:=by
 obtain⟨o,_,h1|h1⟩:=h.at_ i hi
 .rw[h1.2.sf]
 .rcases h1.2.cs with⟨_,v,_,_,e⟩|⟨_,e⟩<;>rw[e]<;>cases o.dst<;>simp[pP]
theorem FTr.other(h:FTr P E F ops m p S H H'){i:Nat}(hi:i<m){t:Tmp}(ht:∀o,ops[i]? =some o->o.dst≠some t):(S (i+1))[t]? =(S i)[t]? :=by
 obtain⟨o,ho,h1|h1⟩:=h.at_ i hi
 .rw[h1.2.sf]
 .have:=ht o ho;rcases h1.2.cs with⟨_,v,_,_,e⟩|⟨_,e⟩<;>rw[e]
  all_goals
   cases hd:o.dst with
   |none=>rfl
   | some d => have hne:d≠t:=fun e=>this (by rw[hd,e])
               simp[pP,cX hne]
theorem FTr.same(h:FTr P E F ops m p S H H'){t:Tmp}:∀(k q:Nat),q+k<=m->(∀j o,q<=j->j<q+k->ops[j]? =some o->o.dst≠some t)->(S (q+k))[t]? =(S q)[t]? :=by
 intro k
 induction k with
 |zero=>intro q _ _;rfl
 |succ k ih=>
  intro q hq hn;rw[show q+(k+1)=q+k+1 by omega,h.other (by omega) (fun o ho=>hn (q+k) o (by omega) (by omega) ho)];exact ih q (by omega) (fun j o' h1 h2=>hn j o' h1 (by omega))
theorem FTr.len(h:FTr P E F ops m p S H H'):∀i,i<=m->(S i).length=(S 0).length:=by
 intro i
 induction i with
 |zero=>intro _;rfl|succ i ih=>intro hi;rw[h.len1 (by omega)];exact ih (by omega)
structure aKz(P:fA)(E:tW)(ops:fC)(m p:Nat)(S:gW)(H H':Hp)(g0:G)(H0:Hp)(listed:gL)(g:G)(a:Act):Prop where
 sz:listed.size=ops.size
 down:Iv ops listed
 lt:∀i,Ld listed i->i<m
 ok:qP g
 st1:¬Ld listed p->St g H/\oX H0 g0 H g
 st2:Ld listed p->St g H'/\oX H0 g0 H' g
 gl:GlOk E.gl g
 df:a.defers=[]
 len:a.tmps.size=(S 0).length
 sl:∀(t:Tmp) (i:Nat) (v:fP) (c:T),i<=m->(∀j o,j<i->ops[j]? =some o->o.dst=some t->Ld listed j)->(∀j o,i<=j->j<m->ops[j]? =some o->o.dst=some t->¬Ld listed j)->
  a.tmps[t]? =some v->(S i)[t]? =some c->Rd g v c
theorem Qp(hE:tP P E.gl E.pe)(hF:rG P E.gl F.ee)(hdr:uU ops=true){g0:G}{H0:Hp}(htr:FTr P E F ops m p S H H')(hm:m<=ops.size)(hch:m<ops.size->qA (rF ops.toList []) m ops.size=true){Q:fF}
  (hfin:∀a' g',Inv P E g0 H0 g' a' ⟨S m,H',none⟩->wpOps P ops Q (List.range' m (ops.size-m)) a' g'.w):
  ∀(fuel:Nat) (listed:gL) (a:Act) (g:G),aKz P E ops m p S H H' g0 H0 listed g a->RZ listed=fuel->wpAny P .any ops Q fuel listed a g.w:=by
 simp only[uU,aA]at hdr;obtain⟨⟨hb,_⟩,htm⟩:=hdr;have full:∀(listed:gL) (a:Act) (g:G),aKz P E ops m p S H H' g0 H0 listed g a->(∀i,i<m->Ld listed i)->Inv P E g0 H0 g a ⟨S m,H',none⟩:=by
  intro listed a g h hall;have hlen:=htr.len m (aZ _);have hp:=h.st2 (hall p htr.lt);refine⟨h.ok,hp.1,h.gl,h.df,⟨by show a.tmps.size=(S m).length;rw[hlen];exact h.len,fun j v c _ hv hc=> ?_⟩,fun d t q=>(by cases q),hp.2⟩;exact h.sl j m v c (aZ _) (fun k o hk _ _ =>hall k hk) (fun k o h1 h2=>by omega) hv hc
 intro fuel
 induction fuel with
 |zero=>
  intro listed a g h hc;have hall:∀i,i<ops.size->Ld listed i:=fun i hi=>JK hc (by rw[h.sz];exact hi);have hme:m=ops.size:=by
   rcases dV m ops.size with q|q
   .have:=h.lt m (hall m q);omega
   .omega
  have hi:=full listed a g h (fun i hi=>hall i (by omega));have hq:=hfin a g hi;rw[hme,Nat.sub_self]at hq;refine⟨?_,hq⟩;rcases hr:Region.ready .any ops listed with _ |⟨x,xs⟩
  .rfl
  .have hx:x∈Region.ready .any ops listed:=by rw[hr];simp
   obtain⟨h1,o,h2,_⟩:=mem_ready.1 hx;exact absurd (hall x (aL.1 h2).1) (yM.1 h1).2
 |succ fuel ih=>
  intro listed a g h hc;refine⟨fun hr=>absurd hr (KN hb h.sz (by omega)),fun i hi=> ?_⟩;obtain⟨h1,o,h2,h3⟩:=mem_ready.1 hi;have hni:=(yM.1 h1).2;have hio:i<ops.size:=(aL.1 h2).1;have hcl:∀j,tG (rF ops.toList []) i j=true->Ld listed j:=uQ h.down h.sz i o h2 h3;by_cases him:i<m
  .obtain⟨o',ho',hps⟩:=htr.at_ i him;rw[h2]at ho';cases ho';have before:∀t,t∈xU ops o->∀j oj,j<i->ops[j]? =some oj->oj.dst=some t->Ld listed j:=fun t ht j oj hj hoj hd=>
    hcl j ((vV htm h2 hoj (by omega) hd ht).1 hj)
   have behind:∀t,t∈xU ops o->∀j oj,i<j->ops[j]? =some oj->oj.dst=some t->¬Ld listed j:=fun t ht j oj hj hoj hd hl=>
    hni (uQ h.down h.sz j oj hoj (h.down j oj hoj hl) i ((vV htm h2 hoj (by omega) hd ht).2 hj))
   have notself:∀t,t∈xU ops o->∀j oj,i<=j->ops[j]? =some oj->oj.dst=some t->¬Ld listed j:=fun t ht j oj hj hoj hd=>by
    rcases dT hj with rfl|hj
    .exact hni
    .exact behind t ht j oj hj hoj hd
   have hleni:=htr.len i (by omega);have slot:∀t,t∈o.looksAt ops->∀v c,a.tmps[t]? =some v->(S i)[t]? =some c->Rd g v c:=fun t ht v c hv hcc=>by
    have hn:t∈xU ops o:=bZ.2 (.inr ht);exact h.sl t i v c (by omega) (fun j oj hj hoj hd=>before t hn j oj hj hoj hd) (fun j oj hj _ hoj hd=>notself t hn j oj hj hoj hd) hv hcc
   have getfr:∀t,t∈o.looksAt ops->Rd g (a.tmps.getD t undef) (qW (S i) t):=fun t ht=>by
    rw[sG];by_cases hlt:t<(S i).length
    .have hlt':t<a.tmps.size:=by rw[h.len,<-hleni];exact hlt
     have:=slot t ht a.tmps[t] (S i)[t] (by simp[hlt']) (by simp[hlt]);simpa [hlt,hlt']using this
    .have hlt':¬t<a.tmps.size:=by rw[h.len,<-hleni];exact hlt
     have e1:a.tmps.getD t undef=undef:=by simp[cT (bT hlt')]
     have e2:(S i).getD t oL=oL:=by simp[bH (bT hlt)]
     rw[e1,e2];exact Rd.undef
   have hop:∀x∈o.op.operands,∀r,pE E.gl (S i) x=some r->Rd g (a.eval x) r:=fun x hx r hr=>by
    cases x with
    |tmp t=>simp only[pE,aD]at hr;subst hr;exact getfr t (xS hx)|const v=>exact DK g hr|global k=>exact(h.gl k r hr).1|func f=>simp only[pE,aD]at hr;subst hr;exact Rd.mk_fn RdL.nil RdL.nil
   have hwant:Region.wanted o (yielded ops a.tmps)=oW ops (S i) o:=by
    unfold Region.wanted oW;cases hg:o.guard with
    |none=>rfl
    |some p=>
     obtain⟨j,w⟩:=p;simp only;congr 1;unfold yielded xW;cases hd:(ops[j]?).bind (·.dst)with
     |none=>rfl
     |some d=>
      simp only[dN];have hl:=vG hg hd;by_cases hlt:d<(S i).length
      .have hlt':d<a.tmps.size:=by rw[h.len,<-hleni];exact hlt
       have hv:a.tmps[d]? =some a.tmps[d]:=by simp[hlt']
       have hcc:(S i)[d]? =some (S i)[d]:=by simp[hlt]
       have:=slot d hl _ _ hv hcc;rw[hv,hcc];generalize a.tmps[d]=u at this;generalize (S i)[d]=c at this;cases this<;>rfl
      .have hlt':¬d<a.tmps.size:=by rw[h.len,<-hleni];exact hlt
       rw[cT (bT hlt'),bH (bT hlt)]
   have hcnt:RZ (listed.setIfInBounds i true)=fuel:=by have:=LL h1;omega
   have hld:∀j,Ld (listed.setIfInBounds i true) j↔Ld listed j\/j=i:=fun j=>GR (by rw[h.sz];exact hio)
   have hdown':Iv ops (listed.setIfInBounds i true):=fun k ok hk hl e he hbd=>(hld e.on).2 (.inl (by
    rcases(hld k).1 hl with q|rfl
    .exact h.down k ok hk q e he hbd
    .rw[h2]at hk;cases hk;exact h3 e he hbd))
   have slots:∀(g':G) (v:fP) (c:T),(∀u t,Rd g u t->Rd g' u t)->Rd g' v c->(∀d,o.dst=some d->(S (i+1))[d]? =some c)->
     ∀(t:Tmp) (k:Nat) (u:fP) (cc:T),k<=m->(∀j o',j<k->ops[j]? =some o'->o'.dst=some t->Ld (listed.setIfInBounds i true) j)->(∀j o',k<=j->j<m->ops[j]? =some o'->o'.dst=some t->¬Ld (listed.setIfInBounds i true) j)->
      (a.put o.dst v).tmps[t]? =some u->(S k)[t]? =some cc->Rd g' u cc:=by
    intro g' v c hkeep hv hset t k u cc hk hw1 hw2 hu hcc;by_cases htd:o.dst=some t
    .have hik:i<k:=by
      rcases dV i k with q|q
      .exact q
      .exact absurd ((hld i).2 (.inr rfl)) (hw2 i o q him h2 htd)
     have hnow:∀j oj,i+1<=j->j<k->ops[j]? =some oj->oj.dst≠some t:=fun j oj hj1 hj2 hoj hd=>by
      have hl:=hw1 j oj hj2 hoj hd;rcases(hld j).1 hl with q|q
      .exact behind t (bZ.2 (.inl (by rw[htd];simp))) j oj (by omega) hoj hd q
      .omega
     have hsame:=htr.same (t:=t) (k-(i+1)) (i+1) (by omega) (fun j oj q1 q2=>hnow j oj q1 (by omega));rw[show i+1+(k-(i+1))=k by omega]at hsame;rw[hsame,hset t htd]at hcc;cases hcc;rw[htd]at hu;simp only[Act.put,cU]at hu;split at hu
     .cases hu;exact hv
     .cases hu
    .have hu':a.tmps[t]? =some u:=by
      cases hd:o.dst with
      |none=>rw[hd]at hu;exact hu
      |some d=>
       rw[hd]at hu;have:d≠t:=fun e=>htd (by rw[hd,e]);simpa [Act.put,bJ this]using hu
     refine hkeep _ _ (h.sl t k u cc hk (fun j oj hj hoj hd=> ?_) (fun j oj hj1 hj2 hoj hd hl=>hw2 j oj hj1 hj2 hoj hd ((hld j).2 (.inl hl))) hu' hcc);rcases(hld j).1 (hw1 j oj hj hoj hd)with q|rfl
     .exact q
     .rw[h2]at hoj;cases hoj;exact absurd hd htd
   have lens:∀v,(a.put o.dst v).tmps.size=(S 0).length:=fun v=>by cases o.dst<;>simp[Act.put,h.len]
   have lts:∀j,Ld (listed.setIfInBounds i true) j->j<m:=fun j hj=>((hld j).1 hj).elim (h.lt j) (fun e=>e▸him);unfold wpOp;rw[h2];simp only;rw[hwant];rcases hps with⟨hip,hB⟩|⟨hip,hA⟩
   .
    subst hip;obtain⟨hst,hss⟩:=h.st1 hni;obtain⟨t,x,y,q,v,ho,hx,hy,hs⟩:=hB.st;have hw:oW ops (S i) o=true:=by unfold oW;rw[hB.gd]
    rw[if_pos hw];left;have he:rO P E F H (S i) o=some (oL,H'):=by simp only[rO,ho,hx,hy,hs]
    refine Ew hF h.gl hst h.ok he hop _ _ (fun u g' hsst hok hst' hr=>ih _ _ g' ?_ hcnt);refine⟨by simpa using h.sz,hdown',lts,hok,fun q=>absurd ((hld i).2 (.inr rfl)) q,fun _ =>⟨hst',hss.trans hsst⟩,h.gl.sstep hst hsst,by rw[rQ];exact h.df,lens u,?_⟩;exact slots g' u oL (fun _ _ q=>q.sstep hst hsst) hr (fun d hd=>by rw[hB.ds]at hd;cases hd)
   .
    have pnext:∀(g':G) (v:fP) (c:T),PStep g g'->qP g'->Rd g' v c->(∀d,o.dst=some d->(S (i+1))[d]? =some c)->aKz P E ops m p S H H' g0 H0 (listed.setIfInBounds i true) g' (a.put o.dst v):=by
     intro g' v c hst hok hv hset;have hpi:Ld (listed.setIfInBounds i true) p↔Ld listed p:=⟨fun q=>((hld p).1 q).elim id fun e=>absurd e.symm hip,fun q=>(hld p).2 (.inl q)⟩
     exact⟨by simpa using h.sz,hdown',lts,hok,fun q=>by have:=h.st1 (fun r=>q (hpi.2 r));exact⟨this.1.pstep hst,this.2.trans hst.toS⟩,
      fun q=>by have:=h.st2 (hpi.1 q);exact⟨this.1.pstep hst,this.2.trans hst.toS⟩,h.gl.pstep hst,by rw[rQ];exact h.df,lens v,slots g' v c (fun _ _ q=>q.pstep hst) hv hset⟩
    rcases hA.cs with⟨hw,v,hv,hv',hS⟩|⟨hw,hS⟩
    .rw[if_pos hw];left;have fin:∀u g',PStep g g'->qP g'->Rd g' u v->wpAny P .any ops Q fuel (listed.setIfInBounds i true) (a.put o.dst u) g'.w:=fun u g' hst hok hr=>
      ih _ _ g' (pnext g' u v hst hok hr (fun d hd=>by rw[hS,hd];simp[pP,hA.dl d hd])) hcnt
     by_cases hlp:Ld listed p
     .rcases hv' with⟨_,hpr⟩|hv'
      .obtain⟨op,hop',_⟩:=htr.at_ p htr.lt;exact absurd (uQ h.down h.sz p op hop' (h.down p op hop' hlp) i hpr) hni
      .exact FX hE h.gl (h.st2 hlp).1 h.ok hv' hop _ _ fin
     .rcases hv with⟨_,hpr⟩|hv
      .exact absurd (hcl p hpr) hlp
      .exact FX hE h.gl (h.st1 hlp).1 h.ok hv hop _ _ fin
    .rw[hw];simp only[bA,if_false];exact ih _ _ g (pnext g undef oL (PStep.refl g) h.ok Rd.undef (fun d hd=>by rw[hS,hd];simp[pP,hA.dl d hd])) hcnt
  .have hlt:m<ops.size:=by omega
   have hchn:=hch hlt;have hallj:∀j,j<i->Ld listed j:=fun j hj=>hcl j (EB hchn (by omega) hio hj);have hie:i=m:=by
    rcases dT (bT him)with q|q
    .exact q.symm
    .have:=h.lt m (hallj m q);omega
   subst hie;have hinv:=full listed a g h hallj;have hq:=hfin a g hinv;have hexact:∀j,Ld listed j↔j<i:=fun j=>⟨h.lt j,hallj j⟩;have hc':RZ listed=ops.size-i:=by
    have key:∀(r k:Nat) (L:gL),L.size=ops.size->(∀j,Ld L j↔j<k)->k+r=ops.size->RZ L=r:=by
     intro r
     induction r with
     |zero=>intro k L hs hl hk;exact JN fun j hj=>(hl j).2 (by omega)
     |succ r ihr=>
      intro k L hs hl hk;have hun:L.getD k true=false:=yM.2 ⟨by omega,fun q=>by have:=(hl k).1 q;omega⟩;have:=ihr (k+1) (L.setIfInBounds k true) (by simpa using hs) (fun j=>by rw[GR (by omega),hl j];omega) (by omega);have:=LL hun;omega
    exact key (ops.size-i) i listed h.sz hexact (by omega)
   rw[show ops.size-i=(ops.size-(i+1))+1 by omega,eJ,wpOps_cons]at hq;have hf:fuel=ops.size-(i+1):=by omega
   rw[hf];refine wpOp_mono (fun a w hh=>Oo hb hchn (ops.size-(i+1)) (i+1) (listed.setIfInBounds i true) a w (by omega) (by omega) (by simpa using h.sz) (fun j=> ?_) hh) hq;rw[GR (by rw[h.sz];exact hio),hexact j];omega
end
end Go.Ps
namespace Go.Ps
noncomputable section
structure pN(E:tW)(g0:G)(H0:Hp)(g:G)(a:Act)(fr:eY)(H:Hp):Prop where
 ok:qP g
 st:St g H
 gl:GlOk E.gl g
 df:a.defers=[]
 fr:RdL g a.tmps.toList fr
 step:oX H0 g0 H g
def X.exit_ :X->Exit
 | .normal=> .normal| .exit id=> .exit id| .ret=> .ret
section
variable{P:fA}{E:tW}{F:Fc}
theorem pN.toInv{g0 g:G}{H0 H:Hp}{a:Act}{fr:eY}(h:pN E g0 H0 g a fr H):Inv P E g H g a ⟨fr,H,none⟩:=
 ⟨h.ok,h.st,h.gl,h.df,CJ.of h.fr none,fun d t q=>(by cases q),oX.refl H g⟩
theorem Inv.toC{g0 g1 g:G}{H0 H1:Hp}{a:Act}{s:Fx}(hs:oX H0 g0 H1 g1)(h:Inv P E g1 H1 g a s)(hp:s.pend=none):pN E g0 H0 g a s.fr s.H:=
 ⟨h.ok,h.st,h.gl,h.df,CJ.all (by have:=h.fr;rw[hp]at this;exact this),hs.trans h.step⟩
theorem RO(hE:tP P E.gl E.pe)(hF:rG P E.gl F.ee){ops:fC}{draw:Bool}(hok:draw=true->uU ops=true){fr fr':eY}{H H':Hp}
  (he:(if draw then qK P E F ops fr H else pL P E F ops ops.toList ⟨fr,H,none⟩)=some ⟨fr',H',none⟩) {g0 g:G} {H0:Hp} {a:Act} (hc:pN E g0 H0 g a fr H)
  {Q:fF} (hQ:∀a' g',pN E g0 H0 g' a' fr' H'->Q .normal a' g'.w):
  (if draw then wpAny P .any ops Q ops.size (Array.replicate ops.size false) a {g.w with drawn:=g.w.drawn+1}else wpOps P ops Q (List.range ops.size) a g.w):=by
 cases draw with
 |false=>
  simp only[bA,if_false]at he⊢;have:=XQ (P:=P) (E:=E) (F:=F) (g0:=g) (H0:=H) hE hF ops.toList 0 _ _ a g (fun j=>by simp) hc.toInv he (fun a' g' hi=>hQ a' g' (hi.toC hc.step rfl))
  rwa [cQ,<-List.range_eq_range']at this
 |true=>
  simp only[if_true]at he⊢
  let gd:G:={g with w:={g.w with drawn:=g.w.drawn+1}}
  have hp:PStep g gd:=⟨rfl,rfl,rfl,aZ _,fun _ _ =>rfl,fun _ h=>h,fun _ h=> .inl h,rfl,rfl,rfl⟩;have hd:=hok rfl;have hcd:pN E g0 H0 gd a fr H:=⟨hc.ok,hc.st.pstep hp,hc.gl.pstep hp,hc.df,hc.fr.pstep hp,hc.step.trans hp.toS⟩;have hcnt:RZ (Array.replicate ops.size false)=ops.size:=by simp[RZ]
  have nold:∀i,¬Ld (Array.replicate ops.size false) i:=fun i hl=>by
   unfold Ld at hl;by_cases q:i<ops.size<;>simp[q]at hl
  unfold qK at he;split at he
  .
   split at he
   .rename_i b p hb hfs;split at he
    .rename_i l hgt;obtain⟨m,S,H1,hpm,_,hml,hS0,hh,htr,hend⟩:=Dn (P:=P) (E:=E) (F:=F) (ops:=ops) ops.toList 0 fr _ hfs he;simp only[bN]at hpm htr hend;have hml':m<=ops.size:=by simpa using hml
     have htrace:FTr P E F ops m p S H H1:=⟨hpm,fun i hi=>by
      obtain⟨o,ho,hps⟩:=htr i hi
      exact⟨o,by simpa using ho,hps⟩⟩
     have hinv:aKz P E ops m p S H H1 gd H (Array.replicate ops.size false) gd a:=by
      refine⟨by simp,fun i o ho hl=>absurd hl (nold i),fun i hl=>absurd hl (nold i),hcd.ok,fun _ =>⟨hcd.st,oX.refl H gd⟩,fun hl=>absurd hl (nold p),hcd.gl,hcd.df,by rw[hS0];have:=hcd.fr.1;simpa using this,?_⟩;intro t i v c hi h1 h2 hv hcc;have hno:∀j o,j<i->ops[j]? =some o->o.dst≠some t:=fun j o hj ho hdd=>absurd (h1 j o hj ho hdd) (nold j);have:=htrace.same (t:=t) i 0 (by omega) (fun j o _ hj ho=>hno j o (by omega) ho);rw[bN]at this;rw[this,hS0]at hcc;exact hcd.fr.2 t v c (by simpa using hv) hcc
     refine Qp hE hF hd htrace hml' (fun hlt=> ?_) (fun a' g' hi=> ?_) ops.size _ a gd hinv hcnt
     .rcases hend with⟨e,_⟩|⟨_,e,_⟩
      .simp at e;omega
      .simpa using e
     .rcases hend with⟨e1,e3⟩|⟨e1,_,e3⟩
      .have:m=ops.size:=by simpa using e1
       rw[this,Nat.sub_self];show Q .normal a' g'.w;cases e3;exact hQ a' g' (hi.toC (P:=P) hcd.step rfl)
      .have:=XQ (P:=P) (E:=E) (F:=F) (g0:=gd) (H0:=H) hE hF (ops.toList.drop m) m _ _ a' g' (fun j=>by simp) hi e3 (fun a'' g'' hi'=>hQ a'' g'' (hi'.toC hcd.step rfl))
       rwa [cK,cQ]at this
    .cases he
   .cases he
  obtain⟨m,S,hml,hS0,htr,hend⟩:=Ou (P:=P) (E:=E) (F:=F) (ops:=ops) ops.toList 0 _ _ (fun j=>by simp) he;have hml':m<=ops.size:=by simpa using hml
  have htrace:QQ P E F ops m S:=fun i hi=>by
   obtain⟨o,ho,hps⟩:=htr i hi;exact⟨o,by simpa using ho,hps⟩
  have hinv:DInv P E ops m S gd H (Array.replicate ops.size false) gd a:=by
   refine⟨by simp,fun i o ho hl=> ?_,fun i hl=> ?_,hcd.ok,by rw[hS0];exact hcd.st,hcd.gl,hcd.df,by rw[hS0];have:=hcd.fr.1;simpa using this,?_,?_,by rw[hS0];exact oX.refl H gd⟩
   .unfold Ld at hl;by_cases q:i<ops.size<;>simp[q]at hl
   .unfold Ld at hl;by_cases q:i<ops.size<;>simp[q]at hl
   .intro t i v c hi h1 h2 hpn hv hcc;have hno:∀j o,j<i->ops[j]? =some o->o.dst≠some t:=fun j o hj ho hdd=>by
     have:=h1 j o hj ho hdd;unfold Ld at this;by_cases q:j<ops.size<;>simp[q]at this
    have:=htrace.same (t:=t) i 0 (by omega) (fun j o _ hj ho=>hno j o (by omega) ho);rw[bN]at this;rw[this,hS0]at hcc;exact hcd.fr.2 t v c (by simpa using hv) hcc
   .intro p d t _ _ _ hl;unfold Ld at hl;by_cases q:p<ops.size<;>simp[q]at hl
  refine aEx hE hd htrace (by rw[hS0]) hml' (fun hlt=> ?_) (fun a' g' hi=> ?_) ops.size _ a gd hinv hcnt
  .rcases hend with⟨e,_⟩|⟨_,e,_⟩
   .simp at e;omega
   .simpa using e
  .rcases hend with⟨e1,e2,e3⟩|⟨e1,_,e3⟩
   .have:m=ops.size:=by simpa using e1
    rw[this,Nat.sub_self];show Q .normal a' g'.w;have:=hi.toC (P:=P) hcd.step e2;rw[<-e3]at this;exact hQ a' g' this
   .have:=XQ (P:=P) (E:=E) (F:=F) (g0:=gd) (H0:=H) hE hF (ops.toList.drop m) m _ _ a' g' (fun j=>by simp) hi e3 (fun a'' g'' hi'=>hQ a'' g'' (hi'.toC hcd.step rfl))
    rwa [cK,cQ]at this
theorem aAx(hm:P.follows .mixedOrders=true)(hE:tP P E.gl E.pe)(hF:rG P E.gl F.ee){id:Nat}{ops:fC}{draw:Bool}(hok:draw=true->uU ops=true){fr fr':eY}{H H':Hp}
  (he:(if draw then qK P E F ops fr H else pL P E F ops ops.toList ⟨fr,H,none⟩)=some ⟨fr',H',none⟩) {g0 g:G} {H0:Hp} {a:Act} (hc:pN E g0 H0 g a fr H)
  {Q:fF} (hQ:∀a' g',pN E g0 H0 g' a' fr' H'->Q .normal a' g'.w):(Code.region id ops draw).wp P Q a g.w:=by
 have:=RO hE hF hok he hc hQ;cases draw with
 |false=>exact wp_region this|true=>exact wp_region_any hm this
theorem aMg(hm:P.follows .mixedOrders=true)(hE:tP P E.gl E.pe)(hF:rG P E.gl F.ee)(n:Nat):∀(c:Code) (fr:eY) (H:Hp) (x:X) (fr':eY) (H':Hp),codeOk c=true->oP P E F n c fr H=some (x,fr',H')->
  ∀(g0 g:G) (H0:Hp) (a:Act),pN E g0 H0 g a fr H->∀(Q:fF),(∀a' g',pN E g0 H0 g' a' fr' H'->Q x.exit_ a' g'.w)->c.wp P Q a g.w:=by
 intro c
 induction c with
 |skip=>
  intro fr H x fr' H' _ he g0 g H0 a hc Q hQ;simp only[oP,aD,aQ]at he;obtain⟨rfl,rfl,rfl⟩:=he;exact wp_skip (hQ a g hc)
 |label l=>
  intro fr H x fr' H' _ he g0 g H0 a hc Q hQ;simp only[oP,aD,aQ]at he;obtain⟨rfl,rfl,rfl⟩:=he;exact wp_label (hQ a g hc)
 |region id ops draw=>
  intro fr H x fr' H' hok he g0 g H0 a hc Q hQ;simp only[oP]at he;split at he
  .rename_i f1 h1 hr;cases he;exact aAx hm hE hF (fun q=>by subst q;simpa [codeOk]using hok) hr hc hQ
  .cases he
 |seq c1 c2 ih1 ih2=>
  intro fr H x fr' H' hok he g0 g H0 a hc Q hQ;simp only[codeOk,aA]at hok;simp only[oP]at he;refine wp_seq ?_;split at he
  .rename_i f1 h1 hr;exact ih1 _ _ _ _ _ hok.1 hr g0 g H0 a hc _ (fun a' g' hc'=>ih2 _ _ _ _ _ hok.2 he g0 g' H0 a' hc' Q hQ)
  .rename_i hr;refine ih1 _ _ _ _ _ hok.1 he g0 g H0 a hc _ (fun a' g' hc'=> ?_);cases x with
   |normal=>exact absurd he (hr _ _)|exit id=>exact hQ a' g' hc'|ret=>exact hQ a' g' hc'
 |cond o c1 c2 ih1 ih2=>
  intro fr H x fr' H' hok he g0 g H0 a hc Q hQ;simp only[codeOk,aA]at hok;simp only[oP]at he;split at he
  .rename_i b hb;have hr:=(CJ.of hc.fr none).eval hc.gl (fun _ _ =>by simp) hb;refine wp_cond hr.inv_bool ?_;cases b with
   |true=>exact ih1 _ _ _ _ _ hok.1 (by simpa using he) g0 g H0 a hc Q hQ|false=>exact ih2 _ _ _ _ _ hok.2 (by simpa using he) g0 g H0 a hc Q hQ
  .cases he
 |block id c ih=>
  intro fr H x fr' H' hok he g0 g H0 a hc Q hQ;simp only[codeOk]at hok;simp only[oP]at he;refine wp_block ?_;split at he
  .rename_i id' f1 h1 hr;refine ih _ _ _ _ _ hok hr g0 g H0 a hc _ (fun a' g' hc'=> ?_);simp only[X.exit_,Exit.inBlock];split at he
   .rename_i e;cases he;rw[if_pos e];exact hQ a' g' hc'
   .rename_i e;cases he;rw[if_neg e];exact hQ a' g' hc'
  .rename_i hr;refine ih _ _ _ _ _ hok he g0 g H0 a hc _ (fun a' g' hc'=> ?_);cases x with
   |normal=>exact hQ a' g' hc'|exit id'=>exact absurd he (hr _ _ _)|ret=>exact hQ a' g' hc'
 |loop c ih=>
  intro fr H x fr' H' hok he g0 g H0 a hc Q hQ;simp only[codeOk]at hok;simp only[oP]at he;refine wp_loop_rounds n ?_;have key:∀(k:Nat) (fr:eY) (H:Hp) (a:Act) (g:G),oP.loopN (fun fr H=>oP P E F n c fr H) k fr H=some (x,fr',H')->pN E g0 H0 g a fr H->Code.rounds P c Q k a g.w:=by
   intro k
   induction k with
   |zero=>intro fr H a g h;simp[oP.loopN]at h
   |succ k ihk=>
    intro fr H a g h hcc;simp only[oP.loopN]at h;rw[rounds_succ];split at h
    .rename_i f1 h1 hr;exact ih _ _ _ _ _ hok hr g0 g H0 a hcc _ (fun a' g' hc'=>ihk f1 h1 a' g' h hc')
    .rename_i hr;refine ih _ _ _ _ _ hok h g0 g H0 a hcc _ (fun a' g' hc'=> ?_);cases x with
     |normal=>exact absurd h (hr _ _)|exit id=>exact hQ a' g' hc'|ret=>exact hQ a' g' hc'
  exact key n fr H a g he hc
 |scope c ih=>
  intro fr H x fr' H' hok he g0 g H0 a hc Q hQ;simp only[codeOk]at hok;simp only[oP]at he;refine wp_scope_straight (ih _ _ _ _ _ hok he g0 g H0 a hc _ (fun a' g' hc'=> ?_));cases x with
  |normal=>exact hQ a' g' hc'|exit id=>exact hQ a' g' hc'|ret=>exact hQ a' g' hc'
 |exit id=>
  intro fr H x fr' H' _ he g0 g H0 a hc Q hQ;simp only[oP,aD,aQ]at he;obtain⟨rfl,rfl,rfl⟩:=he;exact wp_exit (hQ a g hc)
 |ret=>
  intro fr H x fr' H' _ he g0 g H0 a hc Q hQ;simp only[oP,aD,aQ]at he;obtain⟨rfl,rfl,rfl⟩:=he;exact wp_ret (hQ a g hc)
 |_ =>
  intro fr H x fr' H' _ he;simp[oP]at he
def aIv(tmps:fU):ResultVar->Sem Value
 | .tmp t=>pure (tmps.getD t undef)| .cell x t=>do loadVar t (<-asAddr (tmps.getD x undef))
theorem tH(fn:Func)(tmps:fU):results fn tmps=(do
  let vs<-fn.results.mapM (aIv tmps)
  pure (if h:vs.size=1 then vs[0]else .tuple vs)):=by
 unfold results;congr 1
abbrev gU:=List ResultVar
theorem uR{g:G}{H:Hp}{a:Act}{fr:eY}(hs:St g H)(hf:RdL g a.tmps.toList fr):∀{rs:gU} {ts:eY},rL P fr H rs=some ts->
  ∃vs,(rs.mapM (aIv a.tmps)).run P g.w= .ok vs g.w/\RdL g vs ts
 |[],ts,h=>by simp[rL]at h;subst h;exact⟨[],by simp,RdL.nil⟩
 |r::rs,ts,h=>by
  simp only[rL]at h;split at h
  .rename_i t ht;split at h
   .rename_i ts' hts;cases h;obtain⟨vs,h1,h2⟩:=uR hs hf hts;have hx:=CJ.of hf none;cases r with
    |tmp k=>
     simp only[ZO,aD]at ht;subst ht;exact⟨_ ::vs,by rw[List.mapM_cons];simp only[aIv,aO,aW,aH,h1],RdL.cons (hx.get (by simp)) h2⟩
    |cell k ty=>
     simp only[ZO]at ht;have hk:=hx.get (t:=k) (by simp);obtain⟨u,h3,h4⟩:=Wm (P:=P) hs ht hk;refine⟨u::vs,?_,RdL.cons h4 h2⟩;unfold Instr.loadAt at h3;have:∃A,a.tmps.getD k undef= .pointer (some A):=by
      unfold tX at ht;split at ht
      .rename_i cs off hc;obtain⟨b,o,_,e,_⟩:=UI hs hc hk;exact⟨_,e⟩
      .cases ht
     obtain⟨A,hA⟩:=this;rw[hA]at h3;simp only[Instr.sureAddr,aO,aW,aH]at h3;have h5:(aIv a.tmps (.cell k ty)).run P g.w= .ok u g.w:=by
      simp only[aIv,hA,asAddr,aO,aW,aH,h3]
     rw[List.mapM_cons];simp only[aO,h5,aW,aH,h1]
   .cases h
  .cases h
end
end
end Go.Ps
namespace Go.Ps
noncomputable section
abbrev iU:=T->Option T
def mapO(f:iU):List T->Option (List T)
 |[]=>some []
 |t::ts=>match f t with
  |some r=>match mapO f ts with
   |some rs=>some (r::rs)|none=>none
  |none=>none
def BO(sz:Nat):Nat->List T->List T
 |0,_ =>[]|n+1,cs=> .agg (cs.take sz)::BO sz n (cs.drop sz)
def pF:Nat->Hp->T->Option T
 |0,_,_ =>none
 |n+1,H,t=>match t with
  | .int k i=>some (.int k i)| .bool b=>some (.bool b)| .str s=>some (.str s)| .nilp=>some .nilp| .nils=>some .nils| .nilf=>some .nilf| .nili=>some .nili| .nilm=>some .nilm| .mp _ =>none| .yl _ =>none
  | .ptr l off=>match H.get l with
   |some o=>match mapO (pF n H) o.cells with
    |some cs=>some (.ref (.agg cs) off)|none=>none
   |none=>none
  | .ref x off=>match pF n H x with
   |some y=>if y.cells.length=x.cells.length/\y.isAgg=x.isAgg then some (.ref y off)else none
   |none=>none
  | .sl f xs=>match mapO (pF n H) xs with
   |some ys=>if(xs.map fun x=>(x.isAgg,x.cells.length))=(ys.map fun x=>(x.isAgg,x.cells.length))then some (.sl f ys)else none
   |none=>none
  | .slf f n h=>some (.slf f n h)
  | .osl l sz i len=>match H.get l with
   | some o=>if sz≠0/\o.sz=sz/\(i+len)*sz<=o.cells.length then
     match mapO (pF n H) ((o.cells.drop (i*sz)).take (len*sz))with
     |some cs=>if sz=1 then(if(cs.all fun c=> !c.isAgg)then some (.sl false cs)else none)else some (.sl false (BO sz len cs))
     |none=>none
    else none
   |none=>none
  | .fn f a c=>match mapO (pF n H) a,mapO (pF n H) c with
   |some a',some c'=>some (.fn f a' c')|_,_ =>none
  | .iface t x=>match pF n H x with
   |some y=>some (.iface t y)|none=>none
  | .agg cs=>match mapO (pF n H) cs with
   |some ds=>some (.agg ds)|none=>none
  | .tup cs=>match mapO (pF n H) cs with
   |some ds=>some (.tup ds)|none=>none
theorem MH{f:iU}:∀{ts rs:eY},mapO f ts=some rs->rs.length=ts.length/\∀(j:Nat) (r:T),rs[j]? =some r->∃t,ts[j]? =some t/\f t=some r
 |[],rs,h=>by simp[mapO]at h;subst h;simp
 |t::ts,rs,h=>by
  simp only[mapO]at h;split at h
  .rename_i r hr;split at h
   .rename_i rs' hrs;cases h;obtain⟨h1,h2⟩:=MH hrs;refine⟨by simp[h1],fun j q hq=> ?_⟩;cases j with
    |zero=>simp at hq;subst hq;exact⟨t,rfl,hr⟩|succ j=>simp at hq;obtain⟨t',a,b⟩:=h2 j q hq;exact⟨t',by simpa using a,b⟩
   .cases h
  .cases h
def G.frz(g:G)(H:Hp)(g0:G):G:={w:=g.w,S:=fun b=>g.S b\/∃l o,H.get l=some o/\g.loc l=b,al:=g0.al,loc:=g0.loc,cp:=g0.cp}
theorem JM(sz:Nat):∀(n:Nat) (cs:eY),cs.length=n*sz->(BO sz n cs).flatMap T.cells=cs/\(∀x∈BO sz n cs,x.cells.length=sz)/\(BO sz n cs).length=n
 |0,cs,h=>by simp at h;subst h;simp[BO]
 |n+1,cs,h=>by
  have hl:sz<=cs.length:=by rw[h,cJ];omega
  obtain⟨h1,h2,h3⟩:=JM sz n (cs.drop sz) (by rw[cK,h,cJ];omega);refine⟨?_,?_,by simp[BO,h3]⟩
  .simp only[BO,bI,T.cells,h1,List.take_append_drop]
  .intro x hx;simp only[BO,aU]at hx;rcases hx with rfl|hx
   .simp[T.cells];omega
   .exact h2 x hx
theorem zL{t:T}(h:t.isAgg=false):t.cells=[t]:=by cases t<;>simp_all [T.isAgg,T.cells]
theorem RC:∀(cs:eY),(cs.all fun c=> !c.isAgg)=true->cs.flatMap T.cells=cs/\∀x∈cs,x.cells.length=1
 |[],_ =>by simp
 |c::cs,h=>by
  simp only[List.all_cons,aA,bM]at h;have hc:=zL h.1;obtain⟨h1,h2⟩:=RC cs h.2;refine⟨by simp[bI,hc,h1],fun x hx=> ?_⟩;rcases aU.1 hx with rfl|hx
  .simp[hc]
  .exact h2 x hx
theorem Zi{n:Nat}{H:Hp}{x y:T}(h:pF (n+1) H x=some y)(hl:y.cells.length=x.cells.length)(ha:y.isAgg=x.isAgg):∀(j:Nat) (c:T),y.cells[j]? =some c->∃b,x.cells[j]? =some b/\(pF n H b=some c\/pF (n+1) H b=some c):=by
 intro j c hc;cases hx:x.isAgg with
 |false=>
  rw[hx]at ha;rw[zL ha]at hc;rw[zL hx];cases j with
  |zero=>simp at hc;subst hc;exact⟨x,rfl,.inr h⟩|succ j=>simp at hc
 |true=>
  cases x<;>simp[T.isAgg]at hx;rename_i cs;simp only[pF]at h;split at h
  .rename_i ds hds;cases h;obtain⟨_,h2⟩:=MH hds;obtain⟨b,hb,hf⟩:=h2 j c (by simpa [T.cells]using hc);exact⟨b,by simpa [T.cells]using hb,.inl hf⟩
  .cases h
theorem VI:∀{xs ys:eY} {sz:Nat},(xs.map fun x=>(x.isAgg,x.cells.length))=(ys.map fun x=>(x.isAgg,x.cells.length))->(∀x∈xs,x.cells.length=sz)->(∀y∈ys,y.cells.length=sz)/\
  ∀(j:Nat) (c:T),(ys.flatMap T.cells)[j]? =some c->∃(i k:Nat) (x y:T),xs[i]? =some x/\ys[i]? =some y/\x.isAgg=y.isAgg/\x.cells.length=y.cells.length/\y.cells[k]? =some c/\j=i*sz+k
 |[],[],sz,_,_ =>by simp|[],y::ys,sz,h,_ =>by simp at h|x::xs,[],sz,h,_ =>by simp at h
 |x::xs,y::ys,sz,h,hs=>by
  simp only[cG,dW,aQ]at h;obtain⟨⟨ha,hl⟩,hr⟩:=h;have hx:=hs x (by simp);obtain⟨h1,h2⟩:=VI hr (fun z hz=>hs z (by simp[hz]));refine⟨fun z hz=> ?_,fun j c hc=> ?_⟩
  .rcases aU.1 hz with rfl|hz
   .omega
   .exact h1 z hz
  .rw[bI,dC]at hc;split at hc
   .exact⟨0,j,x,y,rfl,rfl,ha,hl,hc,by simp⟩
   .rename_i hj;obtain⟨i,k,x',y',e1,e2,e3,e4,e5,e6⟩:=h2 _ c hc;refine⟨i+1,k,x',y',by simpa using e1,by simpa using e2,e3,e4,e5,?_⟩;rw[cJ];omega
theorem JU{g g0:G}{H:Hp}(hs:St g H):∀(n:Nat) (t r:T) (v:fP),pF n H t=some r->Rd g v t->Rd (g.frz H g0) v r:=by
 intro n
 induction n using Nat.strongRecOn with
 |_ n ih=>
 cases n with
 |zero=>intro t r v h;simp[pF]at h
 |succ n=>
  have ih1:∀(t r:T) (v:fP),pF n H t=some r->Rd g v t->Rd (g.frz H g0) v r:=ih n (by omega);have lst:∀{ts rs:eY} {vs:fM},mapO (pF n H) ts=some rs->RdL g vs ts->RdL (g.frz H g0) vs rs:=by
   intro ts rs vs hm hv;obtain⟨h1,h2⟩:=MH hm;refine⟨by rw[hv.1,h1],fun j v c hvj hc=> ?_⟩;obtain⟨t,ht,hf⟩:=h2 j c hc;exact ih1 t c v hf (hv.2 j v t hvj ht)
  have cel:∀{x y:T},pF n H x=some y->y.cells.length=x.cells.length->y.isAgg=x.isAgg->∀(j:Nat) (c:T),y.cells[j]? =some c->∃b,x.cells[j]? =some b/\∀u,Rd g u b->Rd (g.frz H g0) u c:=by
   intro x y hy hl ha j c hc;cases n with
   |zero=>simp[pF]at hy
   |succ n=>
    obtain⟨b',hb',hf⟩:=Zi hy hl ha j c hc;refine⟨b',hb',fun u hu=> ?_⟩;rcases hf with hf|hf
    .exact ih n (by omega) b' c u hf hu
    .exact ih1 b' c u hf hu
  intro t r v h hr;cases hr with
  |int k i=>simp only[pF]at h;cases h;exact .int k i|bool b=>simp only[pF]at h;cases h;exact .bool b|str s=>simp only[pF]at h;cases h;exact .str s|nilp=>simp only[pF]at h;cases h;exact .nilp|nils=>simp only[pF]at h;cases h;exact .nils|nilf=>simp only[pF]at h;cases h;exact .nilf|nili=>simp only[pF]at h;cases h;exact .nili|nilm=>simp only[pF]at h;cases h;exact .nilm|mp l hl=>simp only[pF]at h;cases h|yl l hl=>simp only[pF]at h;cases h
  |ptr l off hl=>
   simp only[pF]at h;split at h
   .rename_i o ho;split at h
    .rename_i cs hcs;cases h;obtain⟨_,_,c0,hb,q1,_,_,q4⟩:=hs.own l o ho;have hrd:=lst hcs q4;have e0:(⟨g.loc l,off,none⟩:Addr)=⟨g.loc l,0+off,none⟩:=by simp
     rw[e0];refine .ref (.agg cs) off (g.loc l) 0 (c0.toList.take o.cells.length) (.inr ⟨l,o,ho,rfl⟩) hrd.1 (fun j u hu=> ?_) hrd.2;rw[bD]at hu;split at hu
     .show g.w.cell? _ =_;simp[World.cell?,hb]at hu⊢;exact hu
     .cases hu
    .cases h
   .cases h
  |ref x off b o vs hS hlen hc hx=>
   simp only[pF]at h;split at h
   .rename_i y hy;split at h
    .rename_i hsh;cases h;refine .ref y off b o vs (.inl hS) (by rw[hsh.1];exact hlen) hc (fun j u c hu hcc=> ?_);obtain⟨b',hb',hf⟩:=cel hy hsh.1 hsh.2 j c hcc;exact hf u (hx j u b' hu hb')
    .cases h
   .cases h
  |sl full xs sz b o cap vs h1 h2 h3 h4 h5 h6 h7 h8=>
   simp only[pF]at h;split at h
   .rename_i ys hys;split at h
    .rename_i hsh;cases h;obtain⟨hl,hat⟩:=MH hys;obtain⟨s1,s2⟩:=VI hsh h2;rw[<-hl];refine .sl full ys sz b o cap vs (fun hy=> .inl (h1 (fun e=>hy (by subst e;simpa using hl)))) s1 (by omega) h4 (fun q=>by rw[h5 q,hl]) (by rw[hl];exact h6) h7 (fun j u c hu hc=> ?_);obtain⟨i,k,x,y,e1,e2,e3,e4,e5,e6⟩:=s2 j c hc;obtain⟨x',hx',hf⟩:=hat i y e2;rw[e1]at hx';cases hx';obtain⟨b',hb',hff⟩:=cel hf e4.symm e3.symm k c e5;exact hff u (h8 j u b' hu (by rw[e6];exact EX h2 e1 k b' hb'))
    .cases h
   .cases h
  |slfn full f p=>
   simp only[pF]at h;cases h;exact .slfn _ _ p
  |slf full m f sz b o cap vs h1 h2 h3 h4 h5 h6 h7 h8=>
   simp only[pF]at h;cases h;exact Rd.slf_keep (g:=g) (g':=g.frz H g0) (fun _ q=>Or.inl q) (fun _ _ _ _ q=>q) h1 h2 h3 h4 h5 h6 h7 h8
  |osl l sz i len b o cap p1 p2 p3 p4 p5=>
   simp only[pF]at h;split at h
   .rename_i ob ho;split at h
    .rename_i hc;obtain⟨c1,c2,c3⟩:=hc;split at h
     .rename_i cs hcs;obtain⟨_,_,c0,hb,q1,_,q3,q4⟩:=hs.own l ob ho;have q3':=q3 (by omega);have hrd:RdL (g.frz H g0) (((c0.toList.take ob.cells.length).drop (i*sz)).take (len*sz)) cs:=lst hcs ((q4.drop _).take _);have hmul:(i+len)*sz=i*sz+len*sz:=eS _ _ _;have hvl:(((c0.toList.take ob.cells.length).drop (i*sz)).take (len*sz)).length=len*sz:=by
       simp only[dH,cK,cQ];omega
      have hcl:cs.length=len*sz:=by rw[<-hrd.1];exact hvl
      have fin:∀(xs:eY),xs.length=len->xs.flatMap T.cells=cs->(∀x∈xs,x.cells.length=sz)->Rd (g.frz H g0) (.slice (some ⟨b,o,none⟩) len cap) (.sl false xs):=by
       intro xs e1 e2 e3;subst e1;refine .sl false xs sz b o cap _ (fun hx=> ?_) e3 p2 (by omega) (fun q=>by cases q) hvl (fun j u hu=> ?_) (fun j u c hu hcc=>hrd.2 j u c hu (by rw[<-e2];exact hcc))
       .obtain⟨rfl,_⟩:=p4 (.inl (by cases xs with|nil=>exact absurd rfl hx|cons y ys=>simp));exact .inr ⟨l,ob,ho,rfl⟩
       .have hpos:0<xs.length:=by
         rcases Nat.eq_zero_or_pos xs.length with q|q
         .have hz:(((c0.toList.take ob.cells.length).drop (i*sz)).take (xs.length*sz)).length=0:=by rw[hvl,q,Nat.zero_mul]
          rw[bR hz]at hu;simp at hu
         .exact q
        obtain⟨rfl,rfl⟩:=p4 (.inl hpos);rw[bD]at hu;split at hu
        .rw[bO,bD]at hu;split at hu
         .show g.w.cell? _ =_;simp[World.cell?,hb]at hu⊢;exact hu
         .cases hu
        .cases hu
      split at h
      .rename_i hs1;split at h
       .rename_i hag;cases h;subst hs1;obtain⟨f1,f2⟩:=RC cs hag;exact fin cs (by simpa using hcl) f1 f2
       .cases h
      .cases h;obtain⟨f1,f2,f3⟩:=JM sz len cs hcl;exact fin _ f3 f1 f2
     .cases h
    .cases h
   .cases h
  |fn f a c vs us h1 h2 h3 h4=>
   simp only[pF]at h;split at h
   .rename_i a' c' ha hc;cases h;exact Rd.mk_fn (lst ha ⟨h1,h2⟩) (lst hc ⟨h3,h4⟩)
   .cases h
  |iface t v x hx=>
   simp only[pF]at h;split at h
   .rename_i y hy;cases h;exact .iface t v y (ih1 x y v hy hx)
   .cases h
  |agg cs vs h1 h2=>
   simp only[pF]at h;split at h
   .rename_i ds hds;cases h;exact Rd.mk_agg (lst hds ⟨h1,h2⟩)
   .cases h
  |tup cs vs h1 h2=>
   simp only[pF]at h;split at h
   .rename_i ds hds;cases h;exact Rd.mk_tup (lst hds ⟨h1,h2⟩)
   .cases h
section
variable{P:fA}{E:tW}{F:Fc}
def oK(P:fA)(gl:fD)(f:fT)(ts:eY)(r:T):Prop:=
 tY P f=true/\∀(g:G) (vs:fM),qP g->(∃N,∀l,N<=l->¬g.al l)->GlOk gl g->RdL g vs ts->
  Calls P f vs.toArray g.w fun e w'=>∃v g',e= .returned v/\g'.w=w'/\PStep g g'/\qP g'/\Rd g' v r
end
end
end Go.Ps
namespace Go.Ps
noncomputable section
inductive RD(α:Type)where
 |ok (a:α) (ds log:fL)
 |need (c:Bool) (log:fL)
 |fail (why:Nat)
structure Ed where
 gl:Nat->Option T
 pd:Hp->FuncId->List T->Option (T×List Bool)
def Om:Option T->Option (T×List Bool)
 |some r=>some (r,[])|none=>none
def JY(P:fA)(t:eX)(x i:T):Option (T×List Bool):=
 match i with
 | .int _ n=>
  match P.underlying t,x with
  |some (.slice e),.sl _ xs=>match tT P e with
   |some s=>some (.ref (xs.getD n.toNat oL) 0,[decide (0<=n),decide (n<xs.length),decide ((xs.getD n.toNat oL).cells.length=s)])|none=>none
  |some (.slice e),.slf _ len f=>match tT P e with
   |some s=>some (.ref (f n.toNat) 0,[decide (0<=n),decide (n<len),decide ((f n.toNat).cells.length=s)])|none=>none
  |some (.slice e),.osl l sz j len=>match tT P e with
   |some s=>if sz=s then some (.ptr l ((j+n.toNat)*sz),[decide (0<=n),decide (n<len)])else none
   |none=>none
  |some (.array len e),x=>match tT P e with
   |some s=>match Jc x (n.toNat*s)with
    |some y=>some (y,[decide (0<=n),decide (n<len)])|none=>none
   |none=>none
  |_,_ =>none
 |_ =>none
def Ri(P:fA)(t:eX)(x i:T):Option (T×List Bool):=
 match i with
 | .int _ n=>
  match P.underlying t,x with
  |some (.array len e),.agg cs=>match tT P e with
   |some s=>match uB P e cs (n.toNat*s)with
    |some y=>some (y,[decide (0<=n),decide (n<len)])|none=>none
   |none=>none
  |some .string,.str s=>some (.int .u8 (s.getD n.toNat 0).toNat,[decide (0<=n),decide (n<s.length)])|_,_ =>none
 |_ =>none
def FQ(x:iB)(dflt top:Nat):Option (Nat×List Bool):=
 match x with
 |none=>some (dflt,[])|some (.int _ n)=>some (n.toNat,[decide (0<=n),decide (n<=top)])|some _ =>none
def Td(P:fA)(t:eX)(x:T)(lo hi:iB):Option (T×List Bool):=
 match P.underlying t,x with
 |some .string,.str s=>
  match FQ hi s.length s.length with
  |some (h,c1)=>match FQ lo 0 h with
   |some (l,c2)=>some (.str ((s.take h).drop l),c1++c2)|none=>none
  |none=>none
 |some (.slice e),.sl full xs=>
  match FQ hi xs.length xs.length with
  |some (h,c1)=>match FQ lo 0 h with
   |some (l,c2)=>match tT P e with
    |some s=>some (.sl (full&&h==xs.length) ((xs.take h).drop l),c1++c2++[GL s xs])|none=>none
   |none=>none
  |none=>none
 |some (.slice e),.slf full n f=>
  match FQ hi n n with
  |some (h,c1)=>match FQ lo 0 h with
   |some (l,c2)=>match tT P e with
    |some s=>some (.slf (full&&h==n) (h-l) (fun i=>f (l+i)),c1++c2++[decide ((f l).cells.length=s)])|none=>none
   |none=>none
  |none=>none
 |_,_ =>none
def Zs:T->Bool
 | .nili=>true|_ =>false
def aNr:T->Bool
 | .nili=>true| .iface .. =>true|_ =>false
def SU(P:fA)(t:eX):Bool:=match P.underlying t with
 |some (.interface _)=>true|_ =>false
def aSp(P:fA)(op:iI)(t:eX)(x y:T):Option (T×List Bool):=
 match op,x,y with
 | .quo,.int k a,.int k' b=>if k=k' then some (.int k (k.wrap (a.tdiv b)),[b !=0])else none
 | .rem,.int k a,.int k' b=>if k=k' then some (.int k (a.tmod b),[b !=0])else none
 | .add,.str a,.str b=>some (.str (a++b),[decide (a.length+b.length<=vP)])| .eql,x,.nili=>if SU P t then some (.bool (Zs x),[aNr x])else none
 | .neq,x,.nili=>if SU P t then some (.bool (!Zs x),[aNr x])else none
 |op,x,y=>Om (xX P op t x y)
def BK:T->Int
 | .int _ n=>n|_ =>0
def aQw(k:gB):T->Bool
 | .int k' _ =>decide (k'=k)|_ =>false
def aHe(P:fA)(H:Hp)(t:eX)(p:T):Option (T×List Bool):=
 match p with
 | .ptr l off=>match H.get l with
  |some o=>if o.sz=0 then Om (tX P H t p)else match P.underlying t with
   |some (.int k)=>some (.int k (BK (o.cells.getD off oL)),[aQw k (o.cells.getD off oL),decide (off<o.cells.length),decide (FL P t=some false)])|_ =>Om (tX P H t p)
  |none=>none
 |p=>Om (tX P H t p)
def NZ(P:fA)(E:Ed)(own:Bool)(H:Hp)(fr:eY)(o:Oper):Option (T×List Bool):=
 let ev:=pE E.gl fr
 match o.op with
 | .indexAddr t x i=>match ev x,ev i with
  |some a,some b=>JY P t a b|_,_ =>none
 | .index t x i=>match ev x,ev i with
  |some a,some b=>Ri P t a b|_,_ =>none
 | .load t a=>match ev a with
  |some p=>aHe P H t p|none=>none
 | .binOp op t x y _ =>match ev x,ev y with
  |some a,some b=>if GU x y a b then aSp P op t a b else none
  |_,_ =>none
 | .slice t x lo hi mx=>match mx with
  |some _ =>none
  |none=>match ev x with
   |some a=>match IX ev lo,IX ev hi with
    |some l,some h=>Td P t a l h|_,_ =>none
   |none=>none
 | .call c=>match c.callee with
  | .value f=>match ev f with
   |some (.fn (.func g) first cap)=>match pW E.gl fr c.args.toList with
    |some ars=>E.pd H g (first++ars++cap)
    |none=>none
   |_ =>none
  | .invoke _ _ =>none| .builtin _ =>Om (uN P ⟨E.gl,fun _ _ _ =>none⟩ H fr c)
 |_ =>Om (oV P ⟨E.gl,fun _ _ _ =>none⟩ own H fr o)
def ZK(H:Hp)(l:Nat):Ob:=match H.get l with
 |some o=>o|none=>{elem:=0,sz:=0,cells:=[]}
def SB(H:Hp)(l k:Nat):Bool:=match H.get l with
 |some o=>decide (k<=o.cells.length)|none=>false
def aRf(H:Hp)(l:Nat)(e:eX)(sz len:Nat):Bool:=match H.get l with
 |some o=>if o.sz=sz/\o.elem=e then decide (o.cells.length=len*sz)else false
 |none=>false
def Rk:T->Bool
 | .nils=>true|_ =>false
def aGp:T->Bool
 | .osl _ 1 0 _ =>true|_ =>false
def aGq(sz:Nat)(t:T):Bool:=match sz with
 |1=>aGp t
 |_ =>match t with
  | .osl _ s i _ =>s==sz&&i==0|_ =>false
def aZd(P:fA)(t:eX):Nat:=match P.underlying t with
 |some (.slice e)=>(tT P e).getD 0|_ =>0
def En(H:Hp)(l off n:Nat):List T:=(List.range n).map fun i=>(ZK H l).cells.getD (off+i) oL
theorem Bc{H:Hp}{l off n:Nat}(h:off+n<=(ZK H l).cells.length):En H l off n=((ZK H l).cells.drop off).take n:=by
 unfold En;apply List.ext_getElem
 .simp;omega
 .intro i h1 h2;simp at h1;simp only[List.getElem_map,List.getElem_range,List.getElem_take,List.getElem_drop];rw[aX,aC (by omega)];rfl
def bLu:T->Nat
 | .osl l _ _ _ =>l|_ =>0
def bLv:T->Nat
 | .osl _ _ _ n=>n|_ =>0
def Ef(P:fA)(H:Hp)(t tx:eX)(s x:T):Option (T×Hp×List Bool):=
 match P.underlying t with
 |some (.slice e)=>
  match P.info? e,rA H x,wV x with
  |some i,some new,some m=>
   if i.size=0\/(i.zero.map fun z=>z.cells.size)≠some i.size\/yC P tx i.size x=false then none else
   match s with
   | .nils=>if m=0 then some (.nils,H,[decide (new.length=m*i.size),pY new])else
     some (.osl H.next i.size 0 m,H.new {elem:=e,sz:=i.size,cells:=new},[decide (new.length=m*i.size),pY new,zP m i.bytes])
   | .sl true xs=>if m=0 then some (.sl true xs,H,[decide (new.length=m*i.size),pY new])else
     some (.osl H.next i.size 0 (xs.length+m),H.new {elem:=e,sz:=i.size,cells:=xs.flatMap T.cells++new},[decide (new.length=m*i.size),pY new,zP (xs.length+m) i.bytes,GL i.size xs])
   | .osl l sz' 0 len=>if m=0 then some (.osl l sz' 0 len,H,[decide (new.length=m*i.size),pY new])else if sz'=i.size then
      some (.osl H.next i.size 0 (len+m),(H.drop l).new {elem:=e,sz:=i.size,cells:=(ZK H l).cells++new},[decide (new.length=m*i.size),pY new,aRf H l e i.size len,zP (len+m) i.bytes])else none
   |_ =>none
  |_,_,_ =>none
 |_ =>none
def KE(P:fA)(H:Hp)(t:eX)(l c:T):Option (T×Hp×List Bool):=
 match P.underlying t,l,c with
 |some (.slice e),.int .i64 n,.int .i64 m=>
  match tT P e,(P.info? e).map (·.bytes),wN P e with
  | some sz,some bytes,some z=>if 0<sz/\z.cells.length=sz then
    some (.osl H.next sz 0 n.toNat,H.new {elem:=e,sz:=sz,cells:=(List.replicate n.toNat z).flatMap T.cells},[decide (0<=n),decide (n=m),decide (n.toNat*bytes<=70368744177664),decide (n<=70368744177664)])else none
  |_,_,_ =>none
 |_,_,_ =>none
def Th(P:fA)(H:Hp)(t:eX)(p x:T):Option (Hp×List Bool):=
 match p with
 | .ptr l off=>match tT P t with
  |some n=>some (H.put l {ZK H l with cells:=qT (ZK H l).cells off x.cells},[decide (x.cells.length=n),SB H l (off+n),pY x.cells])
  |none=>none
 |_ =>none
def aTf(P:fA)(E:Ed)(F:Fc)(H:Hp)(fr:eY)(o:Oper):Option (T×Hp×List Bool):=
 let ev:=pE E.gl fr
 match o.op with
 | .store t p x=>match ev p,ev x with
  |some q,some y=>match Th P H t q y with
   |some (H',c)=>some (oL,H',c)|none=>none
  |_,_ =>none
 | .makeSlice t l c=>match ev l,ev c with
  |some n,some m=>KE P H t n m|_,_ =>none
 | .call c=>match c.callee with
  | .builtin .append=>match c.args.toList,c.argTypes.toList with
   |[s,x],[t,t']=>match ev s,ev x with
    |some a,some b=>if EW F.own o.dst then none else Ef P H t t' a b
    |_,_ =>none
   |_,_ =>none
  | .value f=>match ev f with
   |some (.fn (.func g) first cap)=>match pW E.gl fr c.args.toList with
    |some ars=>F.ed g (first++ars++cap) H
    |none=>none
   |_ =>none
  |_ =>aBw (rO P ⟨E.gl,fun _ _ _ =>none⟩ F H fr o)
 |_ =>aBw (rO P ⟨E.gl,fun _ _ _ =>none⟩ F H fr o)
def SN(own:Bool)(o:Oper):Bool:=
 match o.op with
 | .alloc _ | .store .. | .makeSlice .. =>true| .box .. | .buildSlice .. =>own
 | .call c=>match c.callee with
  | .builtin .append=>true| .value _ =>true|_ =>false
 |_ =>false
def Ed.env(D:Ed):tW:={gl:=D.gl,pe:=fun H f ts=>match D.pd H f ts with
 |some (r,cs)=>if oQ cs then some r else none
 |none=>none}
def JW(ops:fC)(fr:eY)(o:Oper)(ds log:fL):RD Bool:=
 match o.guard with
 |none=> .ok true ds log
 |some (j,want)=>
  match((ops[j]?).bind (·.dst)).bind (fun d=>bCu fr d)with
  |some (.bool b)=>match ds with
   |[]=> .need b log|d::ds'=> .ok (d==want) ds' ((if d then b else !b)::log)
  |_ => .ok false ds log
def Cr(P:fA)(E:Ed)(own:Bool)(H:Hp)(fr:eY)(o:Oper)(ds log:fL):RD (Option T):=
 match o.op with
 | .pick c a b=>match pE E.gl fr c with
  |some (.bool t)=>match ds with
   |[]=> .need t log
   |d::ds'=>match pE E.gl fr (if d then a else b)with
    |some v=> .ok (some v) ds' ((if d then t else !t)::log)
    |none=> .fail 30
  |_ => .fail 31
 | .load t a=>match own,pE E.gl fr a with
  |true,some (.ptr l off)=>match FL P t with
   |some true=>match tT P t with
    |some n=> .ok (some (.agg (En H l off n))) ds (SB H l (off+n)::log)|none=> .fail 9
   |_ =>match ds with
    |[]=> .need (Rk ((ZK H l).cells.getD off oL)) log
    | d::ds'=>if d then .ok (some .nils) ds' (Rk ((ZK H l).cells.getD off oL)::SB H l (off+1)::decide (FL P t=some false)::log)
      else .ok (some (.osl (bLu ((ZK H l).cells.getD off oL)) (aZd P t) 0 (bLv ((ZK H l).cells.getD off oL)))) ds' (aGq (aZd P t) ((ZK H l).cells.getD off oL)::SB H l (off+1)::decide (FL P t=some false)::log)
  |_,_ =>match NZ P E own H fr o with
   |some (v,c)=> .ok (some v) ds (c++log)|none=>if SN own o then .ok none ds log else .fail 9
 |_ =>match NZ P E own H fr o with
  |some (v,c)=> .ok (some v) ds (c++log)|none=>if SN own o then .ok none ds log else .fail 9
def XA(P:fA)(E:Ed)(F:Fc)(ops:fC)(s:Fx)(o:Oper)(ds log:fL):RD Fx:=
 match JW ops s.fr o ds log with
 | .ok true ds log=>
  match Cr P E (uW F o) s.H s.fr o ds log with
  | .ok (some v) ds log=> .ok {s with fr:=ZL s.fr o.dst v} ds log
  | .need c l=> .need c l| .fail n=> .fail n
  | .ok none ds log=>
   match rS F o with
   |some (d,t)=>if s.pend.isSome then .fail 3 else match tT P t,wN P t with
    |some n,some z=>if z.cells.length=n/\d<s.fr.length then .ok {s with fr:=Ta oL s.fr d,pend:=some (d,t)} ds log else .fail 1
    |_,_ => .fail 2
   |none=>match aTf P E F s.H s.fr o with
    |some (v,H',c)=> .ok {s with fr:=ZL s.fr o.dst v,H:=H'} ds (c++log)
    |none=> .fail 4
 | .ok false ds log=> .ok {s with fr:=ZL s.fr o.dst oL} ds log
 | .need c log=> .need c log| .fail n=> .fail n
def Xx(P:fA)(E:Ed)(F:Fc)(ops:fC)(s:Fx)(o:Oper)(ds log:fL):RD Fx:=
 match s.pend with
 |none=>XA P E F ops s o ds log
 |some (d,t)=>
  match o.op,o.dst,o.guard with
  | .store t' (.tmp d') x,none,none=>
   if d'=d then
    if t'=t/\ER x d=true then
     match pE E.gl s.fr x,tT P t with
     |some y,some n=> .ok (if F.own (d+1000)then{fr:=Ta (.ptr s.H.next 0) s.fr d,H:=s.H.new {elem:=t,sz:=0,cells:=y.cells},pend:=none}else{s with fr:=Ta (.ref y 0) s.fr d,pend:=none}) ds (decide (y.cells.length=n)::pY y.cells::log)
     |_,_ => .fail 5
    else .fail 6
   else if sT ops o d then .fail 7 else XA P E F ops s o ds log
  |_,_,_ =>if sT ops o d then .fail 8 else XA P E F ops s o ds log
def zB(P:fA)(E:Ed)(F:Fc)(ops:fC):List Oper->Fx->List Bool->List Bool->RD Fx
 |[],s,ds,log=> .ok s ds log
 |o::rest,s,ds,log=>match Xx P E F ops s o ds log with
  | .ok s' ds' log'=>zB P E F ops rest s' ds' log'| .need c l=> .need c l| .fail n=> .fail n
def yI(P:fA)(E:Ed)(F:Fc)(ops:fC):List Oper->Nat->Fx->List Bool->List Bool->RD Fx
 |[],_,s,ds,log=>match s.pend with
  |none=> .ok s ds log|some _ => .fail 10
 |o::rest,m,s,ds,log=>
  if yU ops s o then
   if qA (rF ops.toList []) m ops.size then zB P E F ops (o::rest) s ds log else .fail 11
  else if uM s o=false then .fail 12
  else match JW ops s.fr o ds log with
   | .ok true ds' log'=>
    match Cr P E (uW F o) s.H s.fr o ds' log' with
    | .ok (some v) ds' log'=>yI P E F ops rest (m+1) {s with fr:=ZL s.fr o.dst v} ds' log'
    | .need c l=> .need c l| .fail n=> .fail n
    | .ok none ds' log'=>match rS F o with
     |some (d,t)=>if s.pend.isSome then .fail 17 else match tT P t,wN P t with
      |some n,some z=>if z.cells.length=n then yI P E F ops rest (m+1) {s with fr:=Ta oL s.fr d,pend:=some (d,t)} ds' log' else .fail 13
      |_,_ => .fail 14
     |none=>if o.guard.isNone&&qA (rF ops.toList []) m ops.size then zB P E F ops (o::rest) s ds log else .fail 15
   | .ok false ds' log'=>yI P E F ops rest (m+1) {s with fr:=ZL s.fr o.dst oL} ds' log'
   | .need c l=> .need c l| .fail n=> .fail n
def pR(P:fA)(E:Ed)(F:Fc):Code->List T->Hp->List Bool->List Bool->RD (X×List T×Hp)
 | .skip,fr,H,ds,log| .label _,fr,H,ds,log=> .ok (.normal,fr,H) ds log
 | .region _ ops draw,fr,H,ds,log=>
  match(if draw then(if Rn ops then .fail 99 else yI P E F ops ops.toList 0 ⟨fr,H,none⟩ ds log)else zB P E F ops ops.toList ⟨fr,H,none⟩ ds log)with
  | .ok ⟨fr',H',none⟩ ds' log'=> .ok (.normal,fr',H') ds' log'| .ok _ _ _ => .fail 20| .need c l=> .need c l| .fail n=> .fail n
 | .seq a b,fr,H,ds,log=>match pR P E F a fr H ds log with
  | .ok (.normal,fr',H') ds' log'=>pR P E F b fr' H' ds' log'|r=>r
 | .cond c a b,fr,H,ds,log=>match pE E.gl fr c with
  |some (.bool t)=>match ds with
   |[]=> .need t log|d::ds'=>if d then pR P E F a fr H ds' (t::log)else pR P E F b fr H ds' ((!t)::log)
  |_ => .fail 21
 | .block id c,fr,H,ds,log=>match pR P E F c fr H ds log with
  | .ok (.exit id',fr',H') ds' log'=>if id'=id then .ok (.normal,fr',H') ds' log' else .ok (.exit id',fr',H') ds' log'
  |r=>r
 | .scope c,fr,H,ds,log=>pR P E F c fr H ds log| .exit id,fr,H,ds,log=> .ok (.exit id,fr,H) ds log| .ret,fr,H,ds,log=> .ok (.ret,fr,H) ds log|_,_,_,_,_ => .fail 22
end
end Go.Ps
namespace Go.Ps
theorem sH{a b:fL}:oQ (a++b)=(oQ a&&oQ b):=by
 induction a with
 |nil=>simp[oQ]|cons x a ih=>simp[oQ,ih,Bool.and_assoc]
section
variable{P:fA}{D:Ed}{F:Fc}
theorem ZF{t:eX}{x i v:T}{c:fL}(h:JY P t x i=some (v,c))(hc:oQ c=true):qM P t x i=some v:=by
 unfold JY at h;unfold qM;split at h
 .rename_i k n;split at h
  .rename_i e full xs hd;split at h
   .rename_i s hs;simp only[aD,aQ]at h;obtain⟨rfl,rfl⟩:=h;simp only[oQ,bC,aA,aI]at hc;obtain⟨h1,h2,h3⟩:=hc;have hlt:n.toNat<xs.length:=by omega
    have e:xs.getD n.toNat oL=xs[n.toNat]:=by simp[hlt]
    rw[e]at h3⊢;simp[hd,h1,hlt,hs,h3]
   .cases h
  .rename_i e full len f hd;split at h
   .rename_i s hs;simp only[aD,aQ]at h;obtain⟨rfl,rfl⟩:=h;simp only[oQ,bC,aA,aI]at hc;obtain⟨h1,h2,h3⟩:=hc;simp[hd,h1,h2,hs,h3]
   .cases h
  .rename_i e l sz j len hd;split at h
   .rename_i s hs;split at h
    .rename_i hsz;simp only[aD,aQ]at h;obtain⟨rfl,rfl⟩:=h;simp only[oQ,bC,aA,aI]at hc;simp[hd,hc.1,hc.2,hs,hsz]
    .cases h
   .cases h
  .rename_i len e hd;split at h
   .rename_i s hs;split at h
    .rename_i y hy;simp only[aD,aQ]at h;obtain⟨rfl,rfl⟩:=h;simp only[oQ,bC,aA,aI]at hc;simp[hd,hc.1,hc.2,hs,hy]
    .cases h
   .cases h
  .cases h
 .cases h
theorem Zp{t:eX}{x i v:T}{c:fL}(h:Ri P t x i=some (v,c))(hc:oQ c=true):zM P t x i=some v:=by
 unfold Ri at h;unfold zM;split at h
 .rename_i k n;split at h
  .rename_i len e cs hd;split at h
   .rename_i s hs;split at h
    .rename_i y hy;simp only[aD,aQ]at h;obtain⟨rfl,rfl⟩:=h;simp only[oQ,bC,aA,aI]at hc;simp[hd,hc.1,hc.2,hs,hy]
    .cases h
   .cases h
  .rename_i s hd;simp only[aD,aQ]at h;obtain⟨rfl,rfl⟩:=h;simp only[oQ,bC,aA,aI]at hc;have hlt:n.toNat<s.length:=by omega
   simp[hd,hc.1,hlt]
  .cases h
 .cases h
theorem AH{x:iB}{dflt top r:Nat}{c:fL}(h:FQ x dflt top=some (r,c))(hc:oQ c=true):uI x dflt top=some r:=by
 unfold FQ at h;unfold uI;split at h
 .simp only[aD,aQ]at h;simp[h.1]
 .simp only[aD,aQ]at h;obtain⟨rfl,rfl⟩:=h;simp only[oQ,bC,aA,aI]at hc;simp[hc.1,hc.2]
 .cases h
theorem aBj{t:eX}{x v:T}{lo hi:iB}{c:fL}(h:Td P t x lo hi=some (v,c))(hc:oQ c=true):wY P t x lo hi=some v:=by
 unfold Td at h;unfold wY;split at h
 .rename_i s hd;split at h
  .rename_i hh c1 eh;split at h
   .rename_i l c2 el;simp only[aD,aQ]at h;obtain⟨rfl,rfl⟩:=h;rw[sH,aA]at hc;simp[hd,AH eh hc.1,AH el hc.2]
   .cases h
  .cases h
 .rename_i e full xs hd;split at h
  .rename_i hh c1 eh;split at h
   .rename_i l c2 el;split at h
    .rename_i s hs;simp only[aD,aQ]at h;obtain⟨rfl,rfl⟩:=h;rw[sH,sH,aA,aA]at hc;obtain⟨⟨h1,h2⟩,h3⟩:=hc;simp only[oQ,bC]at h3;simp[hd,AH eh h1,AH el h2,hs,h3]
    .cases h
   .cases h
  .cases h
 .rename_i e full n f hd;split at h
  .rename_i hh c1 eh;split at h
   .rename_i l c2 el;split at h
    .rename_i s hs;simp only[aD,aQ]at h;obtain⟨rfl,rfl⟩:=h;rw[sH,sH,aA,aA]at hc;obtain⟨⟨h1,h2⟩,h3⟩:=hc;simp only[oQ,bC,aI]at h3;simp[hd,AH eh h1,AH el h2,hs,h3]
    .cases h
   .cases h
  .cases h
 .cases h
theorem IP{q:iB}{v:T}{c:fL}(h:Om q=some (v,c)):q=some v:=by
 cases q with
 |none=>cases h|some r=>simp only[Om,aD,aQ]at h;rw[h.1]
theorem Ya{q:Option (T×Hp)}{v:T}{H:Hp}{c:fL}(h:aBw q=some (v,H,c)):q=some (v,H):=by
 cases q with
 |none=>cases h|some r=>simp only[aBw,aD,aQ]at h;rw[<-h.1,<-h.2.1]
theorem aLq{op:iI}{t:eX}{x y v:T}{c:fL}(h:aSp P op t x y=some (v,c))(hc:oQ c=true):xX P op t x y=some v:=by
 unfold aSp at h;split at h
 .split at h
  .rename_i hk;simp only[aD,aQ]at h;obtain⟨rfl,rfl⟩:=h;simp only[oQ,bC,bne_iff_ne]at hc;simp[xX,uV,hk,hc]
  .cases h
 .split at h
  .rename_i hk;simp only[aD,aQ]at h;obtain⟨rfl,rfl⟩:=h;simp only[oQ,bC,bne_iff_ne]at hc;simp[xX,uV,hk,hc]
  .cases h
 .simp only[aD,aQ]at h;obtain⟨rfl,rfl⟩:=h;simp only[oQ,bC,aI]at hc;simp[xX,BC,hc]
 .split at h
  .rename_i ht;simp only[aD,aQ]at h;obtain⟨rfl,rfl⟩:=h;simp only[oQ,bC]at hc;unfold SU at ht;split at ht
   .rename_i ms hu;cases x<;>simp[aNr]at hc
    .simp[xX,eqS,NX,hu,Zs]
    .simp[xX,eqS,NX,hu,Zs]
   .cases ht
  .cases h
 .split at h
  .rename_i ht;simp only[aD,aQ]at h;obtain⟨rfl,rfl⟩:=h;simp only[oQ,bC]at hc;unfold SU at ht;split at ht
   .rename_i ms hu;cases x<;>simp[aNr]at hc
    .simp[xX,eqS,NX,hu,Zs]
    .simp[xX,eqS,NX,hu,Zs]
   .cases ht
  .cases h
 .exact IP h
theorem aHf{H:Hp}{t:eX}{p v:T}{c:fL}(h:aHe P H t p=some (v,c))(hc:oQ c=true):tX P H t p=some v:=by
 unfold aHe at h;split at h
 .rename_i l off;split at h
  .rename_i o ho;split at h
   .exact IP h
   .split at h
    .rename_i k hk;simp only[aD,aQ]at h;obtain⟨rfl,rfl⟩:=h;simp only[oQ,aA,bC,aI]at hc;obtain⟨h1,h2,h3⟩:=hc;simp only[tX,tR,ho,uB,h3];rw[aX,aC h2]at h1⊢;simp only[eR]at h1⊢;generalize o.cells[off]=y at h1;cases y<;>simp only[aQw,bA,aI]at h1;subst h1;rfl
    .exact IP h
  .cases h
 .exact IP h
theorem Bn{own:Bool}{H:Hp}{fr:eY}{o:Oper}{v:T}{c:fL}(h:NZ P D own H fr o=some (v,c))(hc:oQ c=true):oV P D.env own H fr o=some v:=by
 obtain⟨dst,op,type,pos,after,guard⟩:=o;cases op<;>simp only[NZ]at h
 case indexAddr t x i=>
  simp only[oV];split at h
  .rename_i p q hp hq;simp only[Ed.env];rw[hp,hq];exact ZF h hc
  .cases h
 case index t x i=>
  simp only[oV];split at h
  .rename_i p q hp hq;simp only[Ed.env];rw[hp,hq];exact Zp h hc
  .cases h
 case binOp op t x y t'=>
  simp only[oV];split at h
  .rename_i p q hp hq;simp only[Ed.env];rw[hp,hq];split at h
   .rename_i hn;simp only;rw[if_pos hn];exact aLq h hc
   .cases h
  .cases h
 case load t a=>
  simp only[oV];split at h
  .rename_i p hp;simp only[Ed.env];rw[hp];exact aHf h hc
  .cases h
 case slice t x lo hi mx=>
  simp only[oV];cases mx with
  |some m=>cases h
  |none=>
   simp only at h⊢;split at h
   .rename_i p hp;simp only[Ed.env];rw[hp];simp only;split at h
    .rename_i l hh hl hhi;rw[hl,hhi];exact aBj h hc
    .cases h
   .cases h
 case call cl=>
  simp only[oV];obtain⟨callee,args,tys⟩:=cl;cases callee with
  |value f=>
   simp only at h;simp only[uN];split at h
   .rename_i k first cap hf
    split at h
    .rename_i ars has;simp only[Ed.env]at*;rw[hf];simp only;rw[has];simp only[h,hc,if_true]
    .cases h
   .cases h
  |invoke r m=>cases h|builtin b=>exact IP h
 all_goals exact IP h
theorem BQ{own:Bool}{H:Hp}{fr:eY}{o:Oper}(h:NZ P D own H fr o=none)(hk:SN own o=true):oV P D.env own H fr o=none:=by
 obtain⟨dst,op,type,pos,after,guard⟩:=o;cases op<;>simp only[SN,bA]at hk<;>simp only[oV]
 case box=>simp[hk]
 case buildSlice=>simp[hk]
 case call cl=>
  obtain⟨callee,args,tys⟩:=cl;cases callee with
  |value f=>
   simp only[NZ]at h;simp only[uN,Ed.env]at*;split at h
   .rename_i k first cap hf
    rw[hf];simp only;split at h
    .rename_i ars has;rw[has];simp only[h]
    .rename_i has;rw[has]
   .rename_i hne;split
    .rename_i k first cap hf;exact absurd hf (hne k first cap)
    .rfl
  |invoke r m=>cases hk
  |builtin b=>
   cases b<;>simp at hk;simp[uN]
theorem Px{H H':Hp}{t tx:eX}{s x v:T}{c:fL}(h:Ef P H t tx s x=some (v,H',c))(hc:oQ c=true):rT P H t tx s x=some (v,H'):=by
 unfold Ef at h;unfold rT;split at h
 .rename_i e hd;split at h
  .rename_i i new m hi hsrc hm;split at h
   .cases h
   .rename_i hn;simp only[not_or]at hn;obtain⟨n1,n2,n3⟩:=hn;rw[hd];simp only;rw[hi,hsrc,hm];simp only;have hcond:new.length=m*i.size/\pY new=true->¬(i.size=0\/new.length≠m*i.size\/pY new=false\/(i.zero.map fun z=>z.cells.size)≠some i.size\/yC P tx i.size x=false):=by
     rintro⟨q1,q2⟩ (q|q|q|q|q)
     .exact n1 q
     .exact q q1
     .rw[q2]at q;cases q
     .exact n2 q
     .exact n3 q
    split at h
    .split at h
     .rename_i hm0;simp only[aD,aQ]at h;obtain⟨rfl,rfl,rfl⟩:=h;simp only[oQ,bC,aA,aI]at hc;rw[if_neg (hcond hc)];simp only;rw[if_pos hm0]
     .rename_i hm0;simp only[aD,aQ]at h;obtain⟨rfl,rfl,rfl⟩:=h;simp only[oQ,bC,aA,aI]at hc;rw[if_neg (hcond ⟨hc.1,hc.2.1⟩)];simp only;rw[if_neg hm0,if_pos hc.2.2]
    .split at h
     .rename_i hm0;simp only[aD,aQ]at h;obtain⟨rfl,rfl,rfl⟩:=h;simp only[oQ,bC,aA,aI]at hc;rw[if_neg (hcond hc)];simp only;rw[if_pos hm0]
     .rename_i hm0;simp only[aD,aQ]at h;obtain⟨rfl,rfl,rfl⟩:=h;simp only[oQ,bC,aA,aI]at hc;rw[if_neg (hcond ⟨hc.1,hc.2.1⟩)];simp only;rw[if_neg hm0,if_pos (by rw[hc.2.2.1,hc.2.2.2];rfl)]
    .split at h
     .rename_i hm0;simp only[aD,aQ]at h;obtain⟨rfl,rfl,rfl⟩:=h;simp only[oQ,bC,aA,aI]at hc;rw[if_neg (hcond hc)];simp only;rw[if_pos hm0]
     .rename_i hm0;split at h
      .rename_i hcc;simp only[aD,aQ]at h;obtain⟨rfl,rfl,rfl⟩:=h;simp only[oQ,bC,aA,aI]at hc;rw[if_neg (hcond ⟨hc.1,hc.2.1⟩)];simp only;rw[if_neg hm0];have hq:=hc.2.2.1;unfold aRf at hq;unfold ZK;split at hq
       .rename_i o ho;split at hq
        .rename_i ho2;rw[ho];simp only;rw[if_pos ⟨hcc,ho2.1,ho2.2,by simpa using hq,hc.2.2.2⟩]
        .cases hq
       .cases hq
      .cases h
    .cases h
  .cases h
 .cases h
theorem ZJ{H H':Hp}{t:eX}{l k v:T}{c:fL}(h:KE P H t l k=some (v,H',c))(hc:oQ c=true):rC P H t l k=some (v,H'):=by
 unfold KE at h;unfold rC;split at h
 .rename_i e n m hd;split at h
  .rename_i sz bytes z hs hb hz;split at h
   .rename_i hcc;simp only[aD,aQ]at h;obtain⟨rfl,rfl,rfl⟩:=h;simp only[oQ,bC,aA,aI]at hc;rw[hd];simp only;rw[hs,hb,hz];simp only;rw[if_pos ⟨hcc.1,hcc.2,hc.1,hc.2.1,hc.2.2.1,hc.2.2.2⟩]
   .cases h
  .cases h
 .cases h
theorem aBp{H H':Hp}{t:eX}{p x:T}{c:fL}(h:Th P H t p x=some (H',c))(hc:oQ c=true):tK P H t p x=some H':=by
 unfold Th at h;unfold tK;split at h
 .split at h
  .rename_i n hn;simp only[aD,aQ]at h;obtain⟨rfl,rfl⟩:=h;simp only[oQ,bC,aA,aI]at hc;have hq:=hc.2.1;unfold SB at hq;unfold ZK;simp only;split at hq
   .rename_i o ho;rw[hn,ho];simp only;rw[if_pos ⟨hc.1,by simpa using hq,hc.2.2⟩]
   .cases hq
  .cases h
 .cases h
theorem aMs{H H':Hp}{fr:eY}{o:Oper}{v:T}{c:fL}(h:aTf P D F H fr o=some (v,H',c))(hc:oQ c=true):rO P D.env F H fr o=some (v,H'):=by
 obtain⟨dst,op,type,pos,after,guard⟩:=o;cases op<;>simp only[aTf]at h
 case store t p x=>
  simp only[rO];split at h
  .rename_i q y hq hy;simp only[Ed.env];rw[hq,hy];simp only;split at h
   .rename_i H1 c1 hs;simp only[aD,aQ]at h;obtain⟨rfl,rfl,rfl⟩:=h;rw[aBp hs hc]
   .cases h
  .cases h
 case makeSlice t l k=>
  simp only[rO];split at h
  .rename_i q y hq hy;simp only[Ed.env];rw[hq,hy];exact ZJ h hc
  .cases h
 case call cl=>
  obtain⟨callee,args,tys⟩:=cl;simp only at h;split at h
  .simp only[rO];split at h
   .rename_i s x t0 t1 hargs htys;split at h
    .rename_i p q hp hq;rw[hargs,htys];simp only[Ed.env];rw[hp,hq];simp only;split at h
     .cases h
     .rename_i hpa;unfold NS;rw[if_neg hpa];exact Px h hc
    .cases h
   .cases h
  .simp only[rO];split at h
   .rename_i g first cap hf
    split at h
    .rename_i ars has;simp only[Ed.env];rw[hf,has];simp only[Fc.ee,h];rw[if_pos hc]
    .cases h
   .cases h
  .have h':=Ya h;simp only[rO]at h'⊢;exact h'
 all_goals exact Ya h
theorem wC{ops:fC}{fr:eY}{o:Oper}{ds log ds' log':fL}{b:Bool}(h:JW ops fr o ds log= .ok b ds' log')(hl:oQ log'=true):oW ops fr o=b/\oQ log=true:=by
 unfold JW at h;simp only[Ww]at h;unfold oW xW;split at h
 .rename_i hg;rw[hg];cases h;exact⟨rfl,hl⟩
 .rename_i j want hg;rw[hg];simp only;split at h
  .rename_i t ht;rw[ht];simp only;split at h
   .cases h
   .rename_i d ds1;cases h;simp only[oQ,aA]at hl;refine⟨?_,hl.2⟩;have h1:=hl.1;cases d<;>cases t<;>simp at h1⊢
  .rename_i hne;cases h;refine⟨?_,hl⟩;split
   .rename_i t ht;exact absurd ht (hne t)
   .rfl
theorem GZ{own:Bool}{H:Hp}{fr:eY}{o:Oper}{ds log ds' log':fL}{q:iB}(h:Cr P D own H fr o ds log= .ok q ds' log')(hl:oQ log'=true):oV P D.env own H fr o=q/\oQ log=true:=by
 unfold Cr at h;split at h
 .rename_i c a b ho;split at h
  .rename_i t ht;split at h
   .cases h
   .rename_i d ds1;split at h
    .rename_i v hv;cases h;simp only[oQ,aA]at hl;refine⟨?_,hl.2⟩;simp only[oV,ho,Ed.env];rw[ht];simp only;have h1:=hl.1;cases d with
     |true=>simp only[if_true]at h1 hv;rw[h1];simpa using hv
     |false=>
      simp only[bA,if_false,bM]at h1 hv;rw[h1];simpa using hv
    .cases h
  .cases h
 .rename_i t x ho;split at h
  .rename_i l off hx;split at h
   .rename_i hag;split at h
    .rename_i n hn;cases h;simp only[oQ,aA]at hl;refine⟨?_,hl.2⟩;have h1:=hl.1;have hE:oV P D.env true H fr o=tX P H t (.ptr l off):=by
      simp only[oV,ho,Ed.env];rw[hx]
     rw[hE];simp only[tX,tR];have hc:= @Bc H l off n;unfold SB at h1;unfold ZK at hc;split at h1
     .rename_i ob hob;rw[hob]at hc⊢;simp only[aI]at h1;simp only[uB,hag,hn];rw[if_pos h1,hc h1]
     .cases h1
    .cases h
   .split at h
    .cases h
    .rename_i d ds1;have hload:∀y,(ZK H l).cells.getD off oL=y->SB H l (off+1)=true->decide (FL P t=some false)=true->oV P D.env true H fr o=some y:=by
      intro y hy h1 h2;simp only[oV,ho,Ed.env];rw[hx];simp only[aI]at h2;simp only[tX,tR];unfold SB at h1;unfold ZK at hy;split at h1
      .rename_i ob hob;rw[hob]at hy⊢;simp only[aI]at h1;simp only[uB,h2];simp only at hy;rw[<-hy,aX,aC (by omega)];rfl
      .cases h1
     split at h
     .cases h;simp only[oQ,aA]at hl;refine⟨hload _ ?_ hl.2.1 hl.2.2.1,hl.2.2.2⟩;have:=hl.1;generalize (ZK H l).cells.getD off oL=y at this;cases y<;>simp[Rk]at this;rfl
     .cases h;simp only[oQ,aA]at hl;refine⟨hload _ ?_ hl.2.1 hl.2.2.1,hl.2.2.2⟩;have:=hl.1;generalize (ZK H l).cells.getD off oL=y at this⊢;unfold aGq at this;split at this
      .rename_i e1;rw[e1];unfold aGp at this;split at this
       .rfl
       .cases this
      .split at this
       .simp only[aA,beq_iff_eq]at this;obtain⟨rfl,rfl⟩:=this;rfl
       .cases this
  .split at h
   .rename_i v c hv;cases h;rw[sH,aA]at hl;exact⟨Bn hv hl.1,hl.2⟩
   .rename_i hv;split at h
    .rename_i hk;cases h;exact⟨BQ hv hk,hl⟩
    .cases h
 .split at h
  .rename_i v c hv;cases h;rw[sH,aA]at hl;exact⟨Bn hv hl.1,hl.2⟩
  .rename_i hv;split at h
   .rename_i hk;cases h;exact⟨BQ hv hk,hl⟩
   .cases h
theorem Ry{own:Bool}{H:Hp}{fr:eY}{o:Oper}{ds log ds' log':fL}(h:Cr P D own H fr o ds log= .ok none ds' log'):oV P D.env own H fr o=none:=by
 unfold Cr at h;split at h
 .split at h
  .split at h
   .cases h
   .split at h<;>cases h
  .cases h
 .split at h
  .split at h
   .split at h<;>cases h
   .split at h
    .cases h
    .split at h<;>cases h
  .split at h
   .cases h
   .rename_i hv;split at h
    .rename_i hk;exact BQ hv hk
    .cases h
 .split at h
  .cases h
  .rename_i hv;split at h
   .rename_i hk;exact BQ hv hk
   .cases h
end
end Go.Ps
namespace Go.Ps
section
variable{P:fA}{D:Ed}{F:Fc}
theorem QB{ops:fC}{s s':Fx}{o:Oper}{ds log ds' log':fL}(hp:XA P D F ops s o ds log= .ok s' ds' log')(hl:oQ log'=true):rV P D.env F ops s o=some s'/\oQ log=true:=by
 unfold XA at hp;simp only[Gz,IM]at hp;unfold rV;split at hp
 .rename_i ds1 log1 hg;split at hp
  .rename_i v ds2 log2 hv;cases hp;obtain⟨h1,h2⟩:=GZ hv hl;obtain⟨hw,hlog⟩:=wC hg h2;rw[if_pos hw,h1];exact⟨rfl,hlog⟩
  .cases hp
  .cases hp
  .rename_i ds2 log2 hv;split at hp
   .rename_i d t hal;rw[hal];simp only;split at hp
    .cases hp
    .rename_i hpn;split at hp
     .rename_i n z hn hz;split at hp
      .rename_i hcc;cases hp;obtain⟨h1,h2⟩:=GZ hv hl;obtain⟨hw,hlog⟩:=wC hg h2;rw[if_pos hw,h1];simp only;rw[if_neg hpn,hn,hz];simp only;rw[if_pos hcc];exact⟨rfl,hlog⟩
      .cases hp
     .cases hp
   .rename_i hal;rw[hal];simp only;split at hp
    .rename_i v H1 c hef;cases hp;rw[sH,aA]at hl;obtain⟨h1,h2⟩:=GZ hv hl.2;obtain⟨hw,hlog⟩:=wC hg h2;rw[if_pos hw,h1,aMs hef hl.1];exact⟨rfl,hlog⟩
    .cases hp
 .rename_i ds1 log1 hg;cases hp;obtain⟨hw,hlog⟩:=wC hg hl;rw[if_neg (by simp[hw])];exact⟨rfl,hlog⟩
 .cases hp
 .cases hp
theorem Oh{ops:fC}{s s':Fx}{o:Oper}{ds log ds' log':fL}(h:Xx P D F ops s o ds log= .ok s' ds' log')(hl:oQ log'=true):qU P D.env F ops s o=some s'/\oQ log=true:=by
 unfold Xx at h;simp only[IM]at h;unfold qU;split at h
 .rename_i hpn;rw[hpn];exact QB h hl
 .rename_i d t hpn;rw[hpn];simp only;split at h
  .rename_i t' d' x ho hd hgd;rw[ho,hd,hgd];simp only;split at h
   .rename_i e;rw[if_pos e];split at h
    .rename_i hc;rw[if_pos hc];split at h
     .rename_i y n hy hn;cases h;simp only[oQ,aA,aI]at hl;simp only[Ed.env];rw[hy,hn];simp only;rw[if_pos ⟨hl.1,hl.2.1⟩];exact⟨rfl,hl.2.2⟩
     .cases h
    .cases h
   .rename_i e;rw[if_neg e];split at h
    .cases h
    .rename_i ht;rw[if_neg ht];exact QB h hl
  .rename_i q;split at h
   .cases h
   .rename_i ht;have hp:=QB h hl;split
    .rename_i t' d' x ho hd hgd;exact(q t' d' x ho hd hgd).elim
    .rw[if_neg ht];exact hp
theorem NA{ops:fC}:∀{l:fS} {s s':Fx} {ds log ds' log':fL},zB P D F ops l s ds log= .ok s' ds' log'->oQ log'=true->pL P D.env F ops l s=some s'/\oQ log=true
 |[],s,s',ds,log,ds',log',h,hl=>by
  simp only[zB]at h;cases h;exact⟨rfl,hl⟩
 |o::l,s,s',ds,log,ds',log',h,hl=>by
  simp only[zB]at h;split at h
  .rename_i s1 ds1 log1 hs;obtain⟨h1,h2⟩:=NA h hl;obtain⟨h3,h4⟩:=Oh hs h2;exact⟨by simp only[pL,h3,h1],h4⟩
  .cases h
  .cases h
theorem LQ{ops:fC}:∀{l:fS} {m:Nat} {s s':Fx} {ds log ds' log':fL},yI P D F ops l m s ds log= .ok s' ds' log'->oQ log'=true->pK P D.env F ops l m s=some s'/\oQ log=true
 |[],m,s,s',ds,log,ds',log',h,hl=>by
  simp only[yI]at h;split at h
  .rename_i hp;cases h;exact⟨by simp only[pK,hp],hl⟩
  .cases h
 |o::l,m,s,s',ds,log,ds',log',h,hl=>by
  simp only[yI,Gz,IM]at h;simp only[pK];split at h
  .rename_i hhit;rw[if_pos hhit];split at h
   .rename_i hc;rw[if_pos hc];exact NA h hl
   .cases h
  .rename_i hhit;rw[if_neg hhit];split at h
   .cases h
   .rename_i hdst;rw[if_neg hdst];split at h
    .rename_i ds1 log1 hg;split at h
     .rename_i v ds2 log2 hv;obtain⟨h1,h2⟩:=LQ h hl;obtain⟨h3,h4⟩:=GZ hv h2;obtain⟨hw,hlog⟩:=wC hg h4;rw[if_pos hw,h3];exact⟨h1,hlog⟩
     .cases h
     .cases h
     .rename_i ds2 log2 hv;split at h
      .rename_i d t hal;rw[hal];simp only;split at h
       .cases h
       .rename_i hpn;split at h
        .rename_i n z hn hz;split at h
         .rename_i hcc;obtain⟨h1,h2⟩:=LQ h hl;obtain⟨h3,h4⟩:=GZ hv h2;obtain⟨hw,hlog⟩:=wC hg h4;rw[if_pos hw,h3];simp only;rw[if_neg hpn,hn,hz];simp only;rw[if_pos hcc];exact⟨h1,hlog⟩
         .cases h
        .cases h
      .rename_i hal;rw[hal];simp only;split at h
       .rename_i hc;rw[aA]at hc;obtain⟨h1,h2⟩:=NA h hl;refine⟨?_,h2⟩;have hgn:o.guard=none:=by simpa using hc.1
        have hw:oW ops s.fr o=true:=by simp[oW,hgn]
        have hnone:oV P D.env (uW F o) s.H s.fr o=none:=by
         have hg':JW ops s.fr o ds log= .ok true ds log:=by simp[JW,hgn]
         rw[hg']at hg;cases hg;exact Ry hv
        rw[if_pos hw,hnone,if_pos hc.2];exact h1
       .cases h
    .rename_i ds1 log1 hg;obtain⟨h1,h2⟩:=LQ h hl;obtain⟨hw,hlog⟩:=wC hg h2;rw[if_neg (by simp[hw])];exact⟨h1,hlog⟩
    .cases h
    .cases h
theorem CP(n:Nat):∀{c:Code} {fr fr':eY} {H H':Hp} {x:X} {ds log ds' log':fL},pR P D F c fr H ds log= .ok (x,fr',H') ds' log'->oQ log'=true->oP P D.env F n c fr H=some (x,fr',H')/\oQ log=true:=by
 intro c
 induction c with
 |skip=>intro fr fr' H H' x ds log ds' log' h hl;simp only[pR]at h;cases h;exact⟨rfl,hl⟩|label l=>intro fr fr' H H' x ds log ds' log' h hl;simp only[pR]at h;cases h;exact⟨rfl,hl⟩|exit id=>intro fr fr' H H' x ds log ds' log' h hl;simp only[pR]at h;cases h;exact⟨rfl,hl⟩|ret=>intro fr fr' H H' x ds log ds' log' h hl;simp only[pR]at h;cases h;exact⟨rfl,hl⟩
 |region id ops draw=>
  intro fr fr' H H' x ds log ds' log' h hl;simp only[pR]at h;simp only[oP];split at h
  .rename_i f1 h1 ds1 log1 hr;cases h;cases draw with
   |false=>
    simp only[bA,if_false]at hr⊢;obtain⟨a,b⟩:=NA hr hl;rw[a];exact⟨rfl,b⟩
   |true=>
    simp only[if_true]at hr⊢;split at hr
    .cases hr
    .rename_i hlt;obtain⟨a,b⟩:=LQ hr hl;have a':qK P D.env F ops fr H=some ⟨fr',H',none⟩:=by unfold qK;rw[if_neg hlt];exact a
     rw[a'];exact⟨rfl,b⟩
  .cases h
  .cases h
  .cases h
 |seq c1 c2 ih1 ih2=>
  intro fr fr' H H' x ds log ds' log' h hl;simp only[pR]at h;simp only[oP];split at h
  .rename_i f1 h1 ds1 log1 hr;obtain⟨a,b⟩:=ih2 h hl;obtain⟨a1,b1⟩:=ih1 hr b;rw[a1];exact⟨a,b1⟩
  .rename_i hr;obtain⟨a1,b1⟩:=ih1 h hl;rw[a1];cases x with
   |normal=>exact absurd h (hr _ _ _ _)|exit id=>exact⟨rfl,b1⟩|ret=>exact⟨rfl,b1⟩
 |cond o c1 c2 ih1 ih2=>
  intro fr fr' H H' x ds log ds' log' h hl;simp only[pR]at h;simp only[oP,Ed.env];split at h
  .rename_i t ht;rw[ht];simp only;split at h
   .cases h
   .rename_i d ds1;split at h
    .obtain⟨a,b⟩:=ih1 h hl;simp only[oQ,aA]at b;rw[if_pos b.1];exact⟨a,b.2⟩
    .obtain⟨a,b⟩:=ih2 h hl;simp only[oQ,aA,bM]at b;rw[if_neg (by simp[b.1])];exact⟨a,b.2⟩
  .cases h
 |block id c ih=>
  intro fr fr' H H' x ds log ds' log' h hl;simp only[pR]at h;simp only[oP];split at h
  .rename_i id' f1 h1 ds1 log1 hr;split at h
   .rename_i e;cases h;obtain⟨a,b⟩:=ih hr hl;rw[a];simp only;rw[if_pos e];exact⟨rfl,b⟩
   .rename_i e;cases h;obtain⟨a,b⟩:=ih hr hl;rw[a];simp only;rw[if_neg e];exact⟨rfl,b⟩
  .rename_i hr;obtain⟨a,b⟩:=ih h hl;rw[a];cases x with
   |normal=>exact⟨rfl,b⟩|exit id'=>exact absurd h (hr _ _ _ _ _)|ret=>exact⟨rfl,b⟩
 |scope c ih=>
  intro fr fr' H H' x ds log ds' log' h hl;simp only[pR]at h;simp only[oP];exact ih h hl
 |_ =>intro fr fr' H H' x ds log ds' log' h;simp[pR]at h
end
end Go.Ps
namespace Go.Ps
noncomputable section
abbrev fW:=X->List T->Hp->Prop
def Good(P:fA)(E:tW)(c:Code)(fr:eY)(H:Hp)(Q:fW):Prop:=
 ∀(g0 g:G) (H0:Hp) (a:Act),pN E g0 H0 g a fr H->∀(R:fF),(∀x fr' H' a' g',Q x fr' H'->pN E g0 H0 g' a' fr' H'->R x.exit_ a' g'.w)->c.wp P R a g.w
def CV(N:List T->Hp->Prop)(Q:fW):X->List T->Hp->Prop
 | .normal,fr,H=>N fr H|x,fr,H=>Q x fr H
def AJ(id:Nat)(Q:fW):X->List T->Hp->Prop
 | .exit id',fr,H=>if id'=id then Q .normal fr H else Q (.exit id') fr H
 |x,fr,H=>Q x fr H
section
variable{P:fA}{E:tW}{c:Code}{fr:eY}{H:Hp}{Q:fW}
theorem Good.mono{Q':fW}(h:Good P E c fr H Q)(hq:∀x fr' H',Q x fr' H'->Q' x fr' H'):Good P E c fr H Q':=
 fun g0 g H0 a hc R hR=>h g0 g H0 a hc R (fun x fr' H' a' g' hQ=>hR x fr' H' a' g' (hq x fr' H' hQ))
theorem aGg{c1 c2:Code}(h:Good P E c1 fr H (CV (fun fr' H'=>Good P E c2 fr' H' Q) Q)):Good P E (.seq c1 c2) fr H Q:=by
 intro g0 g H0 a hc R hR;refine wp_seq (h g0 g H0 a hc _ (fun x fr' H' a' g' hQ hc'=> ?_));cases x with
 |normal=>exact hQ g0 g' H0 a' hc' R hR|exit id=>exact hR _ _ _ _ _ hQ hc'|ret=>exact hR _ _ _ _ _ hQ hc'
theorem Rc{id:Nat}(h:Good P E c fr H (AJ id Q)):Good P E (.block id c) fr H Q:=by
 intro g0 g H0 a hc R hR;refine wp_block (h g0 g H0 a hc _ (fun x fr' H' a' g' hQ hc'=> ?_));cases x with
 |normal=>exact hR _ _ _ _ _ hQ hc'
 |exit id'=>
  simp only[AJ]at hQ;simp only[X.exit_,Exit.inBlock];split at hQ
  .rename_i e;rw[if_pos e];exact hR _ _ _ _ _ hQ hc'
  .rename_i e;rw[if_neg e];exact hR _ _ _ _ _ hQ hc'
 |ret=>exact hR _ _ _ _ _ hQ hc'
theorem Re(h:Good P E c fr H Q):Good P E (.scope c) fr H Q:=by
 intro g0 g H0 a hc R hR;refine wp_scope_straight (h g0 g H0 a hc _ (fun x fr' H' a' g' hQ hc'=> ?_));cases x with
 |normal=>exact hR _ _ _ _ _ hQ hc'|exit id=>exact hR _ _ _ _ _ hQ hc'|ret=>exact hR _ _ _ _ _ hQ hc'
theorem Bu{o:gF}{c1 c2:Code}{t:Bool}(ho:pE E.gl fr o=some (.bool t))(h1:t=true->Good P E c1 fr H Q)(h2:t=false->Good P E c2 fr H Q):Good P E (.cond o c1 c2) fr H Q:=by
 intro g0 g H0 a hc R hR;have hr:=(CJ.of hc.fr none).eval hc.gl (fun _ _ =>by simp) ho;refine wp_cond hr.inv_bool ?_;cases t with
 |true=>exact h1 rfl g0 g H0 a hc R hR|false=>exact h2 rfl g0 g H0 a hc R hR
theorem RP{R:fF}:∀(k:Nat) (a:Act) (w:gI),Code.rounds P c R k a w->Code.rounds P c R (k+1) a w
 |0,_,_,h=>h.elim
 |k+1,a,w,h=>by
  rw[rounds_succ]at h⊢;refine wp_mono h fun e a' w' q=> ?_;cases e with
  |normal=>exact RP k a' w' q|_ =>exact q
theorem aBb{R:fF}{k m:Nat}(hkm:k<=m){a:Act}{w:gI}(h:Code.rounds P c R k a w):Code.rounds P c R m a w:=by
 induction m with
 | zero => have:k=0:=by omega
           subst this;exact h
 |succ m ih=>
  rcases dT hkm with e|hlt
  .exact e▸h
  .exact RP m a w (ih (by omega))
theorem Zl(I:Nat->List T->Hp->Prop)(hI:∀n fr H,I n fr H->Good P E c fr H (CV (fun fr' H'=>∃m,m<n/\I m fr' H') Q)):∀n fr H,I n fr H->Good P E (.loop c) fr H Q:=by
 intro n fr H hi g0 g H0 a hc R hR;refine wp_loop_rounds (n+1) ?_;have key:∀n fr H a g,I n fr H->pN E g0 H0 g a fr H->Code.rounds P c R (n+1) a g.w:=by
  intro n
  induction n using Nat.strongRecOn with
  |_ n ih=>
   intro fr H a g hi hc;rw[rounds_succ];refine hI n fr H hi g0 g H0 a hc _ (fun x fr' H' a' g' hQ hc'=> ?_);cases x with
   |normal=>
    obtain⟨m,hm,him⟩:=hQ;exact aBb (k:=m+1) (by omega) (ih m hm fr' H' a' g' him hc')
   |exit id=>exact hR _ _ _ _ _ hQ hc'|ret=>exact hR _ _ _ _ _ hQ hc'
 exact key n fr H a g hi hc
def BW(P:fA)(fn:Func)(fr:eY)(H:Hp):Option T:=
 match rL P fr H fn.results.toList with
 |some [t]=>some t|some ts=>some (.tup ts)|none=>none
theorem aAy{fn:Func}{g0 g:G}{H0:Hp}{a:Act}(hc:pN E g0 H0 g a fr H){r:T}(hr:BW P fn fr H=some r):∃v,(results fn a.tmps).run P g.w= .ok v g.w/\Rd g v r:=by
 unfold BW at hr;split at hr
 .rename_i t ht;cases hr;obtain⟨us,h1,h2⟩:=uR (P:=P) hc.st hc.fr ht
  match us,h2 with
  |[u],h2=>
   refine⟨u,?_,(h2.inv_cons).1⟩;have:fn.results=fn.results.toList.toArray:=by simp
   rw[tH,this,dA];simp only[aO,eH];rw[h1];simp
  |[],h2=>simp[RdL]at h2|_ ::_ ::_,h2=>simp[RdL]at h2
 .rename_i ts' hne ht;cases hr;obtain⟨us,h1,h2⟩:=uR (P:=P) hc.st hc.fr ht;refine⟨.tuple us.toArray,?_,Rd.mk_tup h2⟩;have:fn.results=fn.results.toList.toArray:=by simp
  rw[tH,this,dA];simp only[aO,eH];rw[h1];have hl:us.length≠1:=fun q=>by
   rw[h2.1]at q;obtain⟨t,rfl⟩:=eG.1 q;exact hne t rfl
  simp[hl]
 .cases hr
def Pp(P:fA)(fn:Func)(k:Nat)(r:T)(x:X)(fr:eY)(H:Hp):Prop:=(x= .normal\/x= .ret)/\∃q,BW P fn fr H=some q/\pF k H q=some r
end
abbrev gM:=Hp->FuncId->List T->Option (T×List Bool)
def qG(f:fT)(spec:List T->Option (T×List Bool))(pd:gM):Hp->FuncId->List T->Option (T×List Bool):=fun H g ts=>if g=f then spec ts else pd H g ts
theorem pM{P:fA}{gl:fD}{f:fT}{spec:List T->Option (T×List Bool)}{pd:gM}(h:tP P gl (Ed.env ⟨gl,pd⟩).pe)
  (hs:∀ts r cs,spec ts=some (r,cs)->oQ cs=true->oK P gl f ts r):tP P gl (Ed.env ⟨gl,qG f spec pd⟩).pe:=by
 intro H k ts r hr;simp only[Ed.env,qG]at hr;by_cases e:k=f
 .subst e;simp only[if_true]at hr;split at hr
  .rename_i q cs hq;split at hr
   .rename_i hc;simp only[aD]at hr;subst hr;have:=hs ts _ cs hq hc;exact⟨this.1,fun g vs hg hst=>this.2 g vs hg ⟨H.next,hst.new⟩⟩
   .cases hr
  .cases hr
 .rw[if_neg e]at hr;exact h H k ts r hr
theorem rM{P:fA}{gl:fD}:tP P gl (Ed.env ⟨gl,fun _ _ _ =>none⟩).pe:=fun H f ts r h=>by simp[Ed.env]at h
theorem qV{P:fA}{gl:fD}:rG P gl (fun _ _ _ =>none):=fun f ts H r H' h=>by cases h
def ovl(kn:gN)(fr:eY):Nat->Nat->List T
 |_,0=>[]|k,n+1=>(match kn.lookup k with|some v=>v|none=>qW fr k)::ovl kn fr (k+1) n
theorem aIh(kn:gN)(fr:eY)(hk:∀k v,kn.lookup k=some v->qW fr k=v):∀(n k:Nat),k+n=fr.length->ovl kn fr k n=fr.drop k
 |0,k,h=>by simp[ovl];omega
 |n+1,k,h=>by
  simp only[ovl];rw[aIh kn fr hk n (k+1) (by omega),dX (show k<fr.length by omega)];congr 1;split
  .rename_i v hv;have:=hk k v hv;rw[<-this];rw[sG];rw[aX,aC (by omega)];rfl
  .rw[sG];rw[aX,aC (by omega)];rfl
end
end Go.Ps
namespace Go.Ps
noncomputable section
structure Xt where
 gl:Nat->Option T
 pe:FuncId->List T->Option T
 ee:FuncId->List T->Hp->Option (T×Hp)
 own:FuncId->Tmp->Bool
 pu:FuncId->Bool
 ef:FuncId->Bool
 n:Nat
 k:Nat
def DM:T->Bool
 | .int .. | .bool _ | .str _ | .nilp| .nils| .nilf| .nili| .nilm=>true|_ =>false
def Dd:T->Bool
 | .agg ts=>ts.all DM|t=>DM t
def Nn:T->Bool
 | .tup ts=>ts.all Dd| .agg ts=>ts.all Dd|t=>DM t
abbrev fH:=FuncId->List T->Option T
def sB(k:Nat)(pe:fH)(H:Hp)(f:fT)(ts:eY):Option T:=
 match mapO (pF k ⟨0,.nl⟩) ts with
 |some ts'=>pe f ts'
 |none=>match mapO (pF k H) ts with
  |some ts'=>match pe f ts' with
   |some r=>if Nn r then some r else none
   |none=>none
  |none=>none
def xY(own:fX)(e:fE):Fc:=⟨own,fun f ts H=>aBw (e f ts H)⟩
theorem EG(own:fX)(e:fE):(xY own e).ee=e:=by
 funext f ts H;show(match aBw (e f ts H)with|some (r,H',cs)=>if oQ cs then some (r,H')else none|none=>none)=_;cases e f ts H with
 |none=>rfl|some r=>rfl
section
variable{P:fA}
def G.bare(g:G):G:={w:=g.w,S:=g.S,al:=fun _ =>False,loc:=g.loc,cp:=g.cp}
def uD(gl:fD):Prop:=∀k t,gl k=some t->∃n,pF n ⟨0,.nl⟩ t=some t
theorem FZ:∀(n N:Nat) (H:Hp) (t r:T),pF n ⟨N,.nl⟩ t=some r->pF n H t=some r:=by
 intro n
 induction n with
 |zero=>intro N H t r h;simp[pF]at h
 |succ n ih=>
  intro N H;have ihm:∀(ts rs:eY),mapO (pF n ⟨N,.nl⟩) ts=some rs->mapO (pF n H) ts=some rs:=by
   intro ts
   induction ts with
   |nil=>intro rs h;exact h
   |cons t ts iht=>
    intro rs h;simp only[mapO]at h⊢;split at h
    .rename_i a ha;split at h
     .rename_i b hb;rw[ih N H _ _ ha,iht _ hb];exact h
     .cases h
    .cases h
  intro t r h;cases t<;>simp only[pF]at h⊢<;>try exact h
  case ptr l off=>rw[get_nl]at h;cases h
  case osl l sz i len=>rw[get_nl]at h;cases h
  case ref x off=>
   split at h
   .rename_i y hy;rw[ih N H _ _ hy];exact h
   .cases h
  case sl f xs=>
   split at h
   .rename_i y hy;rw[ihm _ _ hy];exact h
   .cases h
  case fn f a c=>
   split at h
   .rename_i x y hx hy;rw[ihm _ _ hx,ihm _ _ hy];exact h
   .cases h
  case iface t x=>
   split at h
   .rename_i y hy;rw[ih N H _ _ hy];exact h
   .cases h
  case agg cs=>
   split at h
   .rename_i y hy;rw[ihm _ _ hy];exact h
   .cases h
  case tup cs=>
   split at h
   .rename_i y hy;rw[ihm _ _ hy];exact h
   .cases h
theorem MB{g g0:G}{H:Hp}(hs:St g H){k:Nat}{ts ts':eY}(h:mapO (pF k H) ts=some ts'){vs:fM}(hv:RdL g vs ts):RdL (g.frz H g0) vs ts':=by
 obtain⟨a1,a2⟩:=MH h;refine⟨by rw[hv.1,a1],fun j v c hvj hc=> ?_⟩;obtain⟨t,ht,hf⟩:=a2 j c hc;exact JU hs k t c v hf (hv.2 j v t hvj ht)
theorem St.bare{g:G}{H:Hp}(hs:St g H):St g ⟨H.next,.nl⟩:=St.nl _ _ (hs.new)
theorem zT(g g0:G)(N:Nat):g.frz ⟨N,.nl⟩ g0={w:=g.w,S:=g.S,al:=g0.al,loc:=g0.loc,cp:=g0.cp}:=by
 simp only[G.frz,get_nl];congr 1;funext b;simp
theorem GlOk.frz{gl:fD}(hz:uD gl){g g0:G}{H:Hp}(hs:St g H)(h:GlOk gl g):GlOk gl (g.frz H g0):=fun j t ht=>by
 obtain⟨n,hn⟩:=hz j t ht;obtain⟨h1,h2,h3⟩:=h j t ht;exact⟨JU hs n t t _ (FZ n 0 H t t hn) h1,.inl h2,h3⟩
def PcOk(P:fA)(gl:fD)(pe:fH):Prop:=
 ∀f ts r,pe f ts=some r->tY P f=true/\∀(g:G) (vs:fM),qP g->(∀l,¬g.al l)->GlOk gl g->RdL g vs ts->
  Calls P f vs.toArray g.w fun e w'=>∃v g',e= .returned v/\g'.w=w'/\PStep g g'/\qP g'/\Rd g' v r
theorem aJf{g g':G}{v:fP}{t:T}(h:DM t=true)(hr:Rd g v t):Rd g' v t:=by
 cases hr<;>simp[DM]at h<;>constructor
theorem Nq{g g':G}{v:fP}{t:T}(h:Dd t=true)(hr:Rd g v t):Rd g' v t:=by
 cases hr with
 |agg cs vs h1 h2=>
  simp only[Dd,aG]at h;exact .agg cs vs h1 (fun j v c hv hc=>aJf (h c (bB hc)) (h2 j v c hv hc))
 |int k n=>exact .int k n|bool b=>exact .bool b|str s=>exact .str s|nilp=>exact .nilp|nils=>exact .nils|nilf=>exact .nilf|nili=>exact .nili|nilm=>exact .nilm|_ =>simp[Dd,DM]at h
theorem aPm{g g':G}{v:fP}{t:T}(h:Nn t=true)(hr:Rd g v t):Rd g' v t:=by
 cases hr with
 |agg cs vs h1 h2=>
  simp only[Nn,aG]at h;exact .agg cs vs h1 (fun j v c hv hc=>Nq (h c (bB hc)) (h2 j v c hv hc))
 |tup cs vs h1 h2=>
  simp only[Nn,aG]at h;exact .tup cs vs h1 (fun j v c hv hc=>Nq (h c (bB hc)) (h2 j v c hv hc))
 |int k n=>exact .int k n|bool b=>exact .bool b|str s=>exact .str s|nilp=>exact .nilp|nils=>exact .nils|nilf=>exact .nilf|nili=>exact .nili|nilm=>exact .nilm|_ =>simp[Nn,DM]at h
theorem Cu{g g':G}(hw:g.w=g'.w)(hS:∀b,g.S b->g'.S b)(hal:∀l,¬g.al l):∀{v:fP} {t:T},Rd g v t->Rd g' v t:=by
 intro v t hr;have hc:∀(a:Addr) (v:fP),g.w.cell? a=some v->g'.w.cell? a=some v:=fun a v h=>by rw[<-hw];exact h
 induction hr with
 |int k n=>exact .int k n|bool b=>exact .bool b|str s=>exact .str s|nilp=>exact .nilp|ptr l off hl=>exact absurd hl (hal l)|ref x off b o vs h1 hlen hcc _ ih=>exact .ref x off b o vs (hS b h1) hlen (fun j v hv=>hc _ _ (hcc j v hv)) ih|nils=>exact .nils|slfn full f p=>exact .slfn full f p|sl full xs sz b o cap vs h1 hsz h2 h3 h4 hlen hcc _ ih=>exact .sl full xs sz b o cap vs (fun hx=>hS b (h1 hx)) hsz h2 h3 h4 hlen (fun j v hv=>hc _ _ (hcc j v hv)) ih|slf full n f sz b o cap vs h1 h2 h3 h4 h5 h6 h7 h8=>exact Rd.slf_keep hS (fun _ _ _ _ q=>hc _ _ q) h1 h2 h3 h4 h5 h6 h7 h8|osl l sz i len b o cap hl=>exact absurd hl (hal l)|nilf=>exact .nilf|fn f a c vs us h1 _ h3 _ ih1 ih2=>exact .fn f a c vs us h1 ih1 h3 ih2|nili=>exact .nili|iface t v x _ ih=>exact .iface t v x ih|nilm=>exact .nilm|mp l hl=>exact absurd hl (hal l)|yl l hl=>exact absurd hl (hal l)|agg cs vs h1 _ ih=>exact .agg cs vs h1 ih|tup cs vs h1 _ ih=>exact .tup cs vs h1 ih
theorem SW{gl:fD}{pe:fH}{k:Nat}(hz:uD gl)(h:PcOk P gl pe):tP P gl (sB k pe):=by
 intro H f ts r hr;unfold sB at hr;split at hr
 .rename_i ts' hts;obtain⟨h1,h2⟩:=h f ts' r hr;refine⟨h1,fun g vs hg hs hgl hv=> ?_⟩;have hts1:mapO (pF k ⟨H.next,.nl⟩) ts=some ts':=by
   have:∀(ts ts':eY),mapO (pF k ⟨0,.nl⟩) ts=some ts'->mapO (pF k ⟨H.next,.nl⟩) ts=some ts':=by
    intro ts
    induction ts with
    |nil=>intro rs h;exact h
    |cons t ts iht=>
     intro rs h;simp only[mapO]at h⊢;split at h
     .rename_i a ha;split at h
      .rename_i b hb;rw[FZ k 0 _ _ _ ha,iht _ hb];exact h
      .cases h
     .cases h
   exact this ts ts' hts
  have hv':RdL g.bare vs ts':=by
   have:=MB (g0:=g.bare) hs.bare hts1 hv;rw[zT]at this;exact this
  have hgl':GlOk gl g.bare:=by
   have:=GlOk.frz (g0:=g.bare) hz hs.bare hgl;rw[zT]at this;exact this
  refine(h2 g.bare vs hg (fun _ q=>q) hgl' hv').mono fun e w' ⟨v,g',e1,e2,e3,e4,e5⟩=> ?_;refine⟨v,{w:=g'.w,S:=g'.S,al:=g.al,loc:=g.loc,cp:=g.cp},e1,e2,⟨e3.os,e3.tape,e3.output,e3.size,e3.block,e3.sub,e3.fresh,rfl,rfl,rfl⟩,e4,?_⟩;exact Cu (g:=g') (g':={w:=g'.w,S:=g'.S,al:=g.al,loc:=g.loc,cp:=g.cp}) rfl (fun _ q=>q) (by rw[e3.al];exact fun _ q=>q) e5
 .split at hr
  .rename_i ts' hts;split at hr
   .rename_i r' hr';split at hr
    .rename_i hsc;cases hr;obtain⟨h1,h2⟩:=h f ts' r hr';refine⟨h1,fun g vs hg hs hgl hv=> ?_⟩;have hv':RdL (g.frz H g.bare) vs ts':=MB hs hts hv;have hgl':GlOk gl (g.frz H g.bare):=GlOk.frz hz hs hgl;have hg':qP (g.frz H g.bare):=by
      intro b hb;rcases hb with hb|⟨l,o,ho,rfl⟩
      .exact hg b hb
      .exact hs.lt (pJ ho).1
     refine(h2 (g.frz H g.bare) vs hg' (fun _ q=>q) hgl' hv').mono fun e w' ⟨v,g',e1,e2,e3,e4,e5⟩=> ?_;refine⟨v,{w:=g'.w,S:=g.S,al:=g.al,loc:=g.loc,cp:=g.cp},e1,e2,⟨e3.os,e3.tape,e3.output,e3.size,e3.block,fun _ q=>q,fun _ q=> .inl q,rfl,rfl,rfl⟩,fun b hb=>bP (hg b hb) e3.size,aPm hsc e5⟩
    .cases hr
   .cases hr
  .cases hr
end
end
end Go.Ps
namespace Go.Ps
noncomputable section
def Jr:Nat->Nat->List UInt8->List UInt8
 |0,_,acc=>acc|k+1,u,acc=>if u<10 then UInt8.ofNat (48+u)::acc else Jr k (u/10) (UInt8.ofNat (48+u%10)::acc)
def oU(n:Int):List UInt8:=if n<0 then 45::Jr 20 n.natAbs []else Jr 20 n.toNat []
def Wa:List T->Option T
 |[.int .i64 n]=>if-9223372036854775808<=n/\n<=9223372036854775807 then some (.str (oU n))else none
 |_ =>none
def JL:List T->Option (List UInt8)
 |[]=>some []
 | .int .u8 n::r=>match JL r with
  |some l=>if 0<=n/\n<256 then some (UInt8.ofNat n.toNat::l)else none
  |none=>none
 |_ =>none
def LN(tB:eX):List T->Hp->Option (T×Hp)
 |[.ptr l 0],H=>match H.get l with
  |some o=>match o.cells with
   |[.nilp,v]=>if o.elem=tB/\o.sz=0 then some (.tup [],H.put l {o with cells:=[.ptr l 0,v]})else none
   |[.ptr l' 0,_]=>if l'=l/\o.elem=tB/\o.sz=0 then some (.tup [],H)else none
   |_ =>none
  |none=>none
 |_,_ =>none
def ZT(tB tE:eX):List T->Hp->Option (T×Hp)
 |[.ptr l 0],H=>match H.get l with
  |some o=>if o.elem=tB/\o.sz=0 then match o.cells with
   |[_,.nils]=>some (.str [],H)
   |[_,.osl l2 1 0 len]=>match H.get l2 with
    |some o2=>if o2.elem=tE/\o2.sz=1/\o2.cells.length=len/\len≠0 then match JL o2.cells with
     |some bs=>some (.str bs,H.drop l2)|none=>none
     else none
    |none=>none
   |_ =>none
   else none
  |none=>none
 |_,_ =>none
end
end Go.Ps
namespace Go.Ps
open Go.Shelf Go.RowKit Go.Sort Go.Proofs
theorem xC{g:G}{w':gI}(h:Below g.w.heap.size g.w w'):PStep g {g with w:=w'}:=⟨h.os,h.tape,h.output,h.size,h.block,fun _ q=>q,fun _ q=> .inl q,rfl,rfl,rfl⟩
theorem CX{g:G}{w':gI}(hg:qP g)(h:g.w.heap.size<=w'.heap.size):qP {g with w:=w'}:=fun b hb=>bP (hg b hb) h
theorem TZ(w:gI)(k:Nat)(os:Array Obj):Below w.heap.size w (grow (w.drewN k) os):=by
 have h:(w.drewN k).heap=w.heap/\(w.drewN k).os=w.os/\(w.drewN k).tape=w.tape/\(w.drewN k).output=w.output:=by
  refine⟨?_,?_,?_,?_⟩<;>simp[World.drewN]
 refine⟨h.2.1,h.2.2.1,h.2.2.2,by simp[grow],fun b hb=> ?_⟩;simp only[grow,h.1];rw[Array.getElem?_append_left hb]
theorem Es:∀(k u:Nat) (acc:fV),u<10^k->0<k->Jr k u acc=Lib.decDigits u++acc
 |0,_,_,_,h=>absurd h (by decide)
 |k+1,u,acc,hu,_ =>by
  rw[Jr,Lib.decDigits];by_cases h:u<10
  .simp[h]
  .rw[if_neg h,dif_neg h];have hk:0<k:=by
    rcases Nat.eq_zero_or_pos k with rfl|q
    .simp at hu;omega
    .exact q
   rw[Es k (u/10) _ (by rw[Nat.pow_succ]at hu;omega) hk];simp
theorem aGr(n:Int)(h0:-9223372036854775808<=n)(h1:n<=9223372036854775807):oU n=Lib.itoa n:=by
 unfold oU Lib.itoa;have e:(10:Nat)^20=100000000000000000000:=by decide
 split
 .rw[Es 20 _ _ (by rw[e];omega) (by decide)];simp
 .rw[Es 20 _ _ (by rw[e];omega) (by decide)];simp
section
variable{P:fA}{ρ:Ren}{gl:fD}
theorem AC{g:G}{v:fP}{s:fV}(h:Rd g v (.str s)):v= .string ⟨s.toArray⟩:=by
 generalize ht:T.str s=t at h;cases h<;>cases ht;simp
theorem Wb(hok:tY P (ρ.f 171)=true)
  (hc:∀(g:G),GlOk gl g->∀(n:Int),-9223372036854775808<=n->n<=9223372036854775807->Calls P (ρ.f 171) #[.int .i64 n] g.w fun e w'=>e= .returned (.string ⟨(Lib.itoa n).toArray⟩)/\∃k os,w'=grow (g.w.drewN k) os)
  (ts:eY) (r:T) (h:Wa ts=some r):oK P gl (ρ.f 171) ts r:=by
 refine⟨hok,fun g vs hg _ hgl hv=> ?_⟩;unfold Wa at h;split at h
 .rename_i n;split at h
  .rename_i hb;cases h
   match vs,hv with
   |[v],hv=>
    have h1:=(hv.inv_cons).1;cases h1;refine(hc g hgl n hb.1 hb.2).mono fun e w' ⟨he,k,os,hw⟩=> ?_;subst hw;refine⟨_,{g with w:=grow (g.w.drewN k) os},he,rfl,xC (TZ _ _ _),CX hg (TZ _ _ _).size,?_⟩;rw[aGr n hb.1 hb.2];have:=Rd.str (g:={g with w:=grow (g.w.drewN k) os}) ⟨(Lib.itoa n).toArray⟩;simpa using this
   |[],hv=>simp[RdL]at hv|_ ::_ ::_,hv=>simp[RdL]at hv
  .cases h
 .cases h
end
end Go.Ps
namespace Go.Ps
open Go.Shelf Go.RowKit Go.Sort Go.Proofs
section
variable{P:fA}{ρ:Ren}{gl:fD}
theorem Nw(w:gI)(b o:Nat)(v:fP)(cs:fU)(e:eX)(fz:Nat×Nat)(h:w.heap[b]? =some (.cells cs e fz)):w.setCell ⟨b,o,none⟩ v=w.setRow b (cs.setIfInBounds o v):=by
 simp only[World.setCell,World.setRow];congr 1;apply Array.ext_getElem?;intro i;rw[Array.getElem?_modify,Array.getElem?_modify];split
 .rename_i e;subst e;rw[h];simp
 .rfl
theorem Gx{g:G}{v:fP}{l off:Nat}(h:Rd g v (.ptr l off)):v= .pointer (some ⟨g.loc l,off,none⟩)/\g.al l:=by
 generalize ht:T.ptr l off=t at h;cases h<;>cases ht;exact⟨rfl,by assumption⟩
def aXi(P:fA)(gl:fD)(f:fT)(ts:eY)(H:Hp)(r:T)(H':Hp):Prop:=
 tY P f=true/\∀(g:G) (vs:fM),qP g->St g H->GlOk gl g->RdL g vs ts->
  Calls P f vs.toArray g.w fun e w'=>∃v g',e= .returned v/\g'.w=w'/\oX H g H' g'/\qP g'/\St g' H'/\Rd g' v r
theorem aMi(L:Lays.n240 P ρ)(X:Builder.X72 P ρ)(hok:tY P (ρ.f 240)=true){ts:eY}{H H':Hp}{r:T}(h:LN (ρ.t 72) ts H=some (r,H')):aXi P gl (ρ.f 240) ts H r H':=by
 .refine⟨hok,fun g vs hg hs hgl hv=> ?_⟩;unfold LN at h;split at h
  .rename_i l
   match vs,hv with
   |[v],hv=>
    obtain⟨rfl,hal⟩:=Gx (hv.inv_cons).1;split at h
    .rename_i ob hob;obtain⟨elem,sz,cells,meob⟩:=ob;obtain rfl:meob=none:=(pJ hob).2;obtain⟨_,hS,cs,hb,q1,q2,q3,q4⟩:=hs.own l _ hob;simp only at h hb q1 q2 q3 q4;split at h
     .rename_i x;split at h
      .rename_i hc;obtain⟨rfl,rfl⟩:=hc;cases h;have hsz:cs.size=2:=q2 rfl;have hl:cs.toList.length=2:=by simpa using hsz
       match hcs:cs.toList,hl with
       |[c0,c1],_ =>
        have e0:cs= #[c0,c1]:=by rw[<-Array.toArray_toList (xs:=cs),hcs]
        subst e0;have hc0:=q4.2 0 c0 .nilp (by simp) rfl;have hc1:=q4.2 1 c1 x (by simp) rfl;cases hc0;refine(Any.Builder_copyCheck_fresh L X (g.loc l) g.w (by simp[World.cell?,hb]) (by simp[World.shape?,hb]) (by simp[World.frozen?,hb])).mono fun e w' ⟨he,hw⟩=> ?_;have hset:=Nw g.w (g.loc l) 0 (.pointer (some ⟨g.loc l,0,none⟩)) _ _ _ hb;rw[hset]at hw;subst hw;refine⟨_,g.setRow (g.loc l) (#[Value.pointer none,c1].setIfInBounds 0 (.pointer (some ⟨g.loc l,0,none⟩))),he,rfl,XV (pJ hob).1 _ _,?_,?_,Rd.mk_tup RdL.nil⟩
        .intro b hb';have:=hg b hb';simpa [G.setRow,World.setRow]using this
        .refine aJm (o:={elem:=ρ.t 72,sz:=0,cells:=[.nilp,x]}) hs hob hb (by simp) (by simp) ?_;exact RdL.cons (.ptr l 0 hal) (RdL.cons hc1 RdL.nil)
      .cases h
     .rename_i l' x;split at h
      .rename_i hc;obtain⟨rfl,rfl,rfl⟩:=hc;cases h;have hsz:cs.size=2:=q2 rfl;have hl:cs.toList.length=2:=by simpa using hsz
       match hcs:cs.toList,hl with
       |[c0,c1],_ =>
        have e0:cs= #[c0,c1]:=by rw[<-Array.toArray_toList (xs:=cs),hcs]
        subst e0;have hc0:=(Gx (q4.2 0 c0 _ (by simp) rfl)).1;subst hc0;refine(Any.Builder_copyCheck_used L X (g.loc l') g.w (by simp[World.cell?,hb])).mono fun e w' ⟨he,hw⟩=> ?_;subst hw;exact⟨_,g,he,rfl,oX.refl _ _,hg,hs,Rd.mk_tup RdL.nil⟩
      .cases h
     .cases h
    .cases h
   |[],hv=>simp[RdL]at hv|_ ::_ ::_,hv=>simp[RdL]at hv
  .cases h
theorem QX{g:G}:∀{cs:eY} {bs:fV},JL cs=some bs->cs.length=bs.length/\∀(j:Nat) (c:T) (v:fP),cs[j]? =some c->Rd g v c->∃x,bs[j]? =some x/\v= .int .u8 x.toNat
 |[],bs,h=>by simp[JL]at h;subst h;simp
 |c::r,bs,h=>by
  unfold JL at h;split at h
  .rename_i e;cases e
  .rename_i n r' e;cases e;split at h
   .rename_i l hl;split at h
    .rename_i hn;cases h;obtain⟨h1,h2⟩:=QX (g:=g) hl;refine⟨by simp[h1],fun j c v hc hr=> ?_⟩;cases j with
     |zero=>
      simp at hc;subst hc;refine⟨UInt8.ofNat n.toNat,by simp,?_⟩;cases hr;have:(UInt8.ofNat n.toNat).toNat=n.toNat:=by
       rw[UInt8.toNat_ofNat'];omega
      rw[this];congr 1;omega
     |succ j=>simp at hc;obtain⟨x,e1,e2⟩:=h2 j c v hc hr;exact⟨x,by simpa using e1,e2⟩
    .cases h
   .cases h
  .cases h
theorem aPu(L:Lays.n169 P ρ)(X:Builder.Extra P ρ)(b gg cap:Nat)(p:fP)(cur:fU)(l:fV)(w:gI)(h0:l≠[])
  (hbk:w.heap[b]? =some (.cells #[p,.slice (some ⟨gg,0,none⟩) l.length cap] (ρ.t 72) (0,0))) (hg:w.heap[gg]? =some (.cells cur (ρ.t 5) (0,0))) (hnc:l.length<=cap) (hcm:cap<=maxLen) (hcs:cur.size=cap)
  (hcells:∀(j:Nat) (x:UInt8),l[j]? =some x->w.cell? ⟨gg,j,none⟩=some (.int .u8 x.toNat)):
  Calls P (ρ.f 169) #[.pointer (some ⟨b,0,none⟩)] w fun e w'=>e= .returned (.string ⟨l.toArray⟩)/\w'=w.drew.freeze ⟨gg,0,none⟩ l.length:=by
 have hl0:l.length≠0:=by simpa using h0
 have c1:w.drew.cell? ⟨b,1,none⟩=some (.slice (some ⟨gg,0,none⟩) l.length cap):=by
  have:w.drew.heap[b]? =some (.cells #[p,.slice (some ⟨gg,0,none⟩) l.length cap] (ρ.t 72) (0,0)):=hbk;rw[Lib.cell_of_heap this];rfl
 have hSD:(Builtin.unsafeSliceData_ #[(ρ.t 37)] (ρ.t 127) #[.slice (some ⟨gg,0,none⟩) l.length cap]).run P w.drew= .ok (.pointer (some ⟨gg,0,none⟩)) w.drew:=
  Lib.run_unsafeSliceData_row _ _ _ _ _ _ (by omega)
 have hUS:(Builtin.unsafeString_ #[(ρ.t 127),(ρ.t 3)] (ρ.t 9) #[.pointer (some ⟨gg,0,none⟩),.int .i64 l.length]).run P w.drew= .ok (.string ⟨l.toArray⟩) (w.drew.freeze ⟨gg,0,none⟩ l.length):=
  Lib.run_unsafeString_row w.drew (ρ.t 127) (ρ.t 3) (ρ.t 9) (ρ.t 5) L.t127 X.cellsByte gg cur.size (by have hg':w.drew.heap[gg]? =some (.cells cur (ρ.t 5) (0,0)):=hg;simp[World.shape?,hg']) l h0 (by omega) (by unfold maxLen at hcm;omega) (fun j x hx=>by
   have:=hcells j x hx;by_cases hj:j=0
   .subst hj;simpa [Addr.add]using this
   .simpa [Addr.add,hj]using this)
 have mixed:=L.mixed;have t72:=L.t72;have a72:=L.a72;have z72:=L.z72;have v72:=L.v72;have u72:=run_underlying L.t72;have t70:=L.t70;have a70:=L.a70;have z70:=L.z70;have v70:=L.v70;have u70:=run_underlying L.t70;have t37:=L.t37;have a37:=L.a37;have z37:=L.z37;have v37:=L.v37;have u37:=run_underlying L.t37;have t127:=L.t127;have a127:=L.a127;have z127:=L.z127;have v127:=L.v127;have u127:=run_underlying L.t127;have t3:=L.t3;have a3:=L.a3;have z3:=L.z3;have v3:=L.v3;have u3:=run_underlying L.t3;have t9:=L.t9;have a9:=L.a9;have z9:=L.z9;have v9:=L.v9;have u9:=run_underlying L.t9;have t5:=X.t5;have a5:=X.a5;have z5:=X.z5;have v5:=X.v5;have u5:=run_underlying X.t5
 go_enter L.f169,Body.n169_ntmps ρ
 go_wp2
 go_region_o
 all_goals(go_wp2;go_ret;exact⟨rfl,rfl⟩)
theorem Kn(w:gI)(gg n:Nat):(w.drew.freeze ⟨gg,0,none⟩ n).os=w.os/\(w.drew.freeze ⟨gg,0,none⟩ n).tape=w.tape/\(w.drew.freeze ⟨gg,0,none⟩ n).output=w.output/\(w.drew.freeze ⟨gg,0,none⟩ n).heap.size=w.heap.size:=by
 simp only[World.freeze];split
 .exact⟨rfl,rfl,rfl,rfl⟩
 .refine⟨rfl,rfl,rfl,?_⟩;show(w.heap.modify gg _).size=_;rw[Array.size_modify]
theorem MA(w:gI)(gg n k:Nat)(h:k≠gg):(w.drew.freeze ⟨gg,0,none⟩ n).heap[k]? =w.heap[k]? :=by
 simp only[World.freeze,World.drew];split
 .rfl
 .show(w.heap.modify gg _)[k]? =_;rw[Array.getElem?_modify,if_neg (fun e=>h e.symm)]
theorem aPd{g:G}{v:fP}{l sz i len:Nat}(h:Rd g v (.osl l sz i len)):∃b o cap,v= .slice (some ⟨b,o,none⟩) len cap/\g.al l/\len<=cap/\i+cap<=g.cp l/\(0<len\/i=0->b=g.loc l/\o=i*sz)/\(i=0->cap=g.cp l):=by
 generalize ht:T.osl l sz i len=t at h;cases h<;>cases ht;rename_i b o cap _ _ _ _ _;exact⟨b,o,cap,rfl,by assumption,by assumption,by assumption,by assumption,by assumption⟩
theorem aWe(L:Lays.n169 P ρ)(X:Builder.Extra P ρ)(hok:tY P (ρ.f 169)=true){ts:eY}{H H':Hp}{r:T}(h:ZT (ρ.t 72) (ρ.t 5) ts H=some (r,H')):aXi P gl (ρ.f 169) ts H r H':=by
 refine⟨hok,fun g vs hg hs hgl hv=> ?_⟩;unfold ZT at h;split at h
 .rename_i l
  match vs,hv with
  |[v],hv=>
   obtain⟨rfl,hal⟩:=Gx (hv.inv_cons).1;split at h
   .rename_i ob hob;split at h
    .rename_i hc;obtain⟨elem,sz,cells,meob⟩:=ob;obtain rfl:meob=none:=(pJ hob).2;obtain⟨rfl,rfl⟩:=hc;obtain⟨_,hS,cs,hb,q1,q2,q3,q4⟩:=hs.own l _ hob;simp only at h hb q1 q2 q3 q4;split at h
     .rename_i x;cases h;have hsz:cs.size=2:=q2 (by simp);have hl:cs.toList.length=2:=by simpa using hsz
      match hcs:cs.toList,hl with
      |[c0,c1],_ =>
       have e0:cs= #[c0,c1]:=by rw[<-Array.toArray_toList (xs:=cs),hcs]
       subst e0;have hc1:=q4.2 1 c1 .nils (by simp) rfl;cases hc1;refine(Any.Builder_String_nil L X g.w.heap.size (g.loc l) c0 g.w hb).mono fun e w' ⟨he,hw⟩=> ?_;exact⟨_,{g with w:=w'},he,rfl,(xC hw).toS,CX hg hw.size,hs.pstep (xC hw),by simpa using Rd.str (g:={g with w:=w'}) ⟨#[]⟩⟩
     .rename_i x l2 len;split at h
      .rename_i o2 ho2;split at h
       .rename_i hc2;split at h
        .rename_i bs hbs;cases h;obtain⟨elem2,sz2,cells2⟩:=o2;obtain⟨rfl,rfl,rfl,hne⟩:=hc2;obtain⟨al2,hS2,cs2,hb2,p1,p2,p3,p4⟩:=hs.own l2 _ ho2;simp only at hb2 p1 p2 p3 p4 hbs hne;have hsz:cs.size=2:=q2 (by simp);have hl:cs.toList.length=2:=by simpa using hsz
         match hcs:cs.toList,hl with
         |[c0,c1],_ =>
          have e0:cs= #[c0,c1]:=by rw[<-Array.toArray_toList (xs:=cs),hcs]
          subst e0;have hc1:=q4.2 1 c1 _ (by simp) rfl;obtain⟨hlen,hby⟩:=QX (g:=g) hbs;obtain⟨p31,p32⟩:=p3 (by simp);obtain⟨b2,o2,cap2,rfl,z1,z2,z3,z4,z5⟩:=aPd hc1;obtain⟨rfl,rfl⟩:=z4 (.inr rfl);have z5':=z5 rfl;subst z5';rw[hlen]at hb;have hcells:∀(j:Nat) (x:UInt8),bs[j]? =some x->g.w.cell? ⟨g.loc l2,j,none⟩=some (.int .u8 x.toNat):=by
           intro j x hx;have hj:j<bs.length:=(aK.1 hx).1;have hj2:j<cs2.size:=by omega
           have hc2:cs2.toList[j]? =some cs2[j]:=by simp[hj2]
           have hv2:(cs2.toList.take cells2.length)[j]? =some cs2[j]:=by rw[bD,if_pos (by omega)];exact hc2
           obtain⟨c,hc⟩:∃c,cells2[j]? =some c:=⟨_,aC (by omega)⟩;obtain⟨y,hy,hvy⟩:=hby j c _ hc (p4.2 j _ c hv2 hc);rw[hx]at hy;cases hy;rw[Lib.cell_of_heap hb2];simp[hj2,hvy]
          refine(aPu L X (g.loc l) (g.loc l2) (g.cp l2) c0 cs2 bs g.w (fun e=>hne (by rw[hlen,e];rfl)) (by simpa using hb) hb2 (by rw[<-hlen];simpa using z2) p32 (by simpa using p31) hcells).mono fun e w' ⟨he,hw⟩=> ?_;subst hw;have hfr:=Kn g.w (g.loc l2) bs.length;have hst:oX H g (H.drop l2) {g with w:=g.w.drew.freeze ⟨g.loc l2,0,none⟩ bs.length}:=by
           refine⟨hfr.1,hfr.2.1,hfr.2.2.1,Nat.le_of_eq hfr.2.2.2.symm,fun k hk hn=>MA _ _ _ _ (fun e=>hn l2 _ (pJ ho2).1 e.symm),fun _ q=>q,fun _ q=> .inl q,fun _ q=>q,fun _ _ =>rfl,fun _ _ =>rfl,fun m q hq=> ?_⟩;rw[sJ]at hq;split at hq
           .cases hq
           .exact .inl ⟨m,q,hq,rfl⟩
          refine⟨_,{g with w:=g.w.drew.freeze ⟨g.loc l2,0,none⟩ bs.length},he,rfl,hst,?_,?_,?_⟩
          .intro k hk;have:=hg k hk;show k<(g.w.drew.freeze ⟨g.loc l2,0,none⟩ bs.length).heap.size;rw[hfr.2.2.2];exact this
          .have hoth:∀m q,m≠l2->H.any m=some q->(g.w.drew.freeze ⟨g.loc l2,0,none⟩ bs.length).heap[g.loc m]? =g.w.heap[g.loc m]? :=fun m q hne hq=>MA _ _ _ _ (fun e=>hne (hs.sep m l2 q _ hq (pJ ho2).1 e));refine⟨fun m q hq=> ?_,fun m q kc hq hme=> ?_,fun m m' q q' h1 h2 e=> ?_,fun m hm=>hs.new m hm⟩
           .rw[aGc]at hq;split at hq
            .cases hq
            .rename_i hm;obtain⟨ha,hSS,c0',hb',r1,r2,r3,r4⟩:=hs.own m q hq;refine⟨ha,hSS,c0',?_,r1,r2,r3,r4.sstep hs hst⟩;show(g.w.drew.freeze ⟨g.loc l2,0,none⟩ bs.length).heap[g.loc m]? =_;rw[hoth m q hm (pJ hq).1];exact hb'
           .rw[sJ]at hq;split at hq
            .cases hq
            .rename_i hm;obtain⟨ha,hSS,ms,hb',r1⟩:=hs.ownM m q kc hq hme;refine⟨ha,hSS,ms,?_,r1.mono (fun _ _ z=>z.sstep hs hst) (fun l hl=>⟨hst.al l hl,hst.loc l hl⟩)⟩;show(g.w.drew.freeze ⟨g.loc l2,0,none⟩ bs.length).heap[g.loc m]? =_;rw[hoth m q hm hq];exact hb'
           .rw[sJ]at h1 h2;split at h1
            .cases h1
            .split at h2
             .cases h2
             .exact hs.sep m m' q q' h1 h2 e
          .have:=Rd.str (g:={g with w:=g.w.drew.freeze ⟨g.loc l2,0,none⟩ bs.length}) ⟨bs.toArray⟩;simpa using this
        .cases h
       .cases h
      .cases h
     .cases h
    .cases h
   .cases h
  |[],hv=>simp[RdL]at hv|_ ::_ ::_,hv=>simp[RdL]at hv
 .cases h
abbrev fI:=List Int
theorem aWh{g:G}{k:Nat}{ik:gB}{zs:fI}(h:NP g k (.ref (.agg (zs.map (T.int ik))) 0)):∃e fz,g.w.heap[k]? =some (.cells (zs.map fun z=>Value.int ik z).toArray e fz):=by
 obtain⟨h1,_,cs,e,fz,h3,h4⟩:=h;refine⟨e,fz,?_⟩;rw[h3];congr 2;apply Array.ext_getElem?;intro j;simp only[T.refLen,T.cells,dM]at h4;generalize ha:(Value.pointer (some ⟨k,0,none⟩))=v at h1;generalize ht:(T.ref (.agg (zs.map (T.int ik))) 0)=t at h1;cases h1<;>cases ht;rename_i b o vs hS hc hl hr;simp only[Value.pointer.injEq,aD,Addr.mk.injEq]at ha;obtain⟨rfl,ho,_⟩:=ha;have ho0:o=0:=by omega
 subst ho0;simp only[T.cells,dM]at hl hr;by_cases hj:j<zs.length
 .have hvj:vs[j]? =some (vs[j]'(by omega)):=aC _;have hcell:=hc j _ hvj;rw[bN,Lib.cell_of_heap h3]at hcell;have hz:(zs.map (T.int ik))[j]? =some (T.int ik zs[j]):=by simp[hj]
  have hrd:=hr j _ (T.int ik zs[j]) hvj hz;have hint:vs[j]'(by omega)=Value.int ik zs[j]:=by
   generalize vs[j]'(by omega)=u at hrd;cases hrd;rfl
  rw[hint]at hcell;simp only[List.getElem?_toArray,aY,aC hj,bW];simpa using hcell
 .rw[cT (by omega),cT (by simp;omega)]
end
end Go.Ps
namespace Go.Ps
noncomputable section
inductive Ki where
 |seq (d:Code)
 |blk (id:Nat)
 |lp
abbrev jF:=List Ki
inductive Iw where
 |again (j:Nat) (fr:eY) (H:Hp)
 |done (x:X) (fr:eY) (H:Hp)
 |loop (j:Nat) (c:Code) (ks:jF) (fr:eY) (H:Hp)
inductive Md where
 |code (c:Code)
 |out (x:X)
def qC(P:fA)(E:Ed)(F:Fc):Nat->Md->List Ki->Nat->List T->Hp->List Bool->List Bool->RD Iw
 |0,_,_,_,_,_,_,_ => .fail 40|_ +1,.out x,[],_,fr,H,ds,log=> .ok (.done x fr H) ds log|n+1,.out .normal,.seq d::ks,j,fr,H,ds,log=>qC P E F n (.code d) ks j fr H ds log|n+1,.out .normal,.blk _ ::ks,j,fr,H,ds,log=>qC P E F n (.out .normal) ks j fr H ds log|_ +1,.out .normal,.lp::_,j,fr,H,ds,log=> .ok (.again j fr H) ds log|n+1,.out (.exit id),.seq _ ::ks,j,fr,H,ds,log=>qC P E F n (.out (.exit id)) ks j fr H ds log|n+1,.out (.exit id),.blk id'::ks,j,fr,H,ds,log=>if id=id' then qC P E F n (.out .normal) ks j fr H ds log else qC P E F n (.out (.exit id)) ks j fr H ds log
 |n+1,.out (.exit id),.lp::ks,j,fr,H,ds,log=>qC P E F n (.out (.exit id)) ks (j+1) fr H ds log|n+1,.out .ret,.lp::ks,j,fr,H,ds,log=>qC P E F n (.out .ret) ks (j+1) fr H ds log|n+1,.out .ret,.seq _ ::ks,j,fr,H,ds,log=>qC P E F n (.out .ret) ks j fr H ds log|n+1,.out .ret,.blk _ ::ks,j,fr,H,ds,log=>qC P E F n (.out .ret) ks j fr H ds log
 |n+1,.code c,ks,j,fr,H,ds,log=>match c with
  | .seq a b=>qC P E F n (.code a) (.seq b::ks) j fr H ds log| .block id c=>qC P E F n (.code c) (.blk id::ks) j fr H ds log| .scope c=>qC P E F n (.code c) ks j fr H ds log| .loop c=> .ok (.loop j c ks fr H) ds log
  | .cond o a b=>match pE E.gl fr o with
   |some (.bool t)=>match ds with
    |[]=> .need t log|d::ds'=>if d then qC P E F n (.code a) ks j fr H ds' (t::log)else qC P E F n (.code b) ks j fr H ds' ((!t)::log)
   |_ => .fail 41
  |c=>match pR P E F c fr H ds log with
   | .ok (x,fr',H') ds' log'=>qC P E F n (.out x) ks j fr' H' ds' log'| .need t l=> .need t l| .fail m=> .fail m
def BV:Code->List Ki->List (Code×List Ki)
 | .seq a b,ks=>BV a (.seq b::ks)++BV b ks| .block id c,ks=>BV c (.blk id::ks)| .scope c,ks=>BV c ks| .cond _ a b,ks=>BV a ks++BV b ks| .loop c,ks=>(c,ks)::BV c (.lp::ks)|_,_ =>[]
def rN(P:fA)(E:tW)(Q:fW):List Ki->List (List T->Hp->Prop)->X->List T->Hp->Prop
 |[],_ =>Q| .seq d::ks,As=>CV (fun fr H=>Good P E d fr H (rN P E Q ks As)) (rN P E Q ks As)| .blk id::ks,As=>AJ id (rN P E Q ks As)| .lp::ks,A::As=>CV A (rN P E Q ks As)| .lp::ks,[]=>CV (fun _ _ =>False) (rN P E Q ks [])
def aHo:Md->Bool
 | .code c=>codeOk c| .out _ =>true
def CE:List Ki->Bool
 |[]=>true| .seq d::ks=>codeOk d&&CE ks|_ ::ks=>CE ks
abbrev gX:=List (List T->Hp->Prop)
def aQd(P:fA)(E:tW)(Q:fW)(As:gX):Iw->Prop
 | .again j fr H=>∃A,As[j]? =some A/\A fr H| .done x fr H=>Q x fr H| .loop j c ks fr H=>Good P E (.loop c) fr H (rN P E Q ks (As.drop j))
def mdGood(P:fA)(E:tW)(fr:eY)(H:Hp)(R:fW):Md->Prop
 | .code c=>Good P E c fr H R| .out x=>R x fr H
section
variable{P:fA}{D:Ed}{F:Fc}{Q:fW}{As:gX}
theorem Gw(ks:jF)(j:Nat):rN P D.env Q (.lp::ks) (As.drop j)=CV (fun fr H=>∃A,As[j]? =some A/\A fr H) (rN P D.env Q ks (As.drop (j+1))):=by
 by_cases h:j<As.length
 .rw[dX h];simp only[rN];have e:(fun fr H=>∃A,As[j]? =some A/\A fr H)=As[j]:=by
   funext fr H;rw[aC h];simp
  rw[e]
 .rw[dU (by omega),dU (by omega)];simp only[rN];congr 1;funext fr H;rw[bH (by omega)];simp
theorem Zk(hm:P.follows .mixedOrders=true)(hE:tP P D.gl D.env.pe)(hF:rG P D.gl F.ee){c:Code}(hok:codeOk c=true){fr fr':eY}{H H':Hp}{x:X}{ds log ds' log':fL}
  (h:pR P D F c fr H ds log= .ok (x,fr',H') ds' log') (hl:oQ log'=true) {R:fW} (hR:R x fr' H'):Good P D.env c fr H R:=by
 intro g0 g H0 a hc K hK;exact aMg hm hE hF 0 c fr H x fr' H' hok (CP 0 h hl).1 g0 g H0 a hc K (fun a' g' hc'=>hK x fr' H' a' g' hR hc')
theorem Hn(hm:P.follows .mixedOrders=true)(hE:tP P D.gl D.env.pe)(hF:rG P D.gl F.ee):∀(n:Nat) (m:Md) (ks:jF) (j:Nat) (fr:eY) (H:Hp) (ds log:fL) (o:Iw) (ds' log':fL),
  qC P D F n m ks j fr H ds log= .ok o ds' log'->oQ log'=true->aHo m=true->CE ks=true->oQ log=true/\(aQd P D.env Q As o->mdGood P D.env fr H (rN P D.env Q ks (As.drop j)) m):=by
 intro n
 induction n with
 |zero=>intro m ks j fr H ds log o ds' log' h;simp[qC]at h
 |succ n ih=>
  intro m ks j fr H ds log o ds' log' h hl hmo hko;cases m with
  |out x=>
   cases ks with
   |nil=>simp only[qC]at h;cases h;exact⟨hl,fun q=>q⟩
   |cons k ks=>
    cases x with
    |normal=>cases k with
     |seq d=>
      simp only[qC]at h;simp only[CE,aA]at hko;obtain⟨a,b⟩:=ih _ _ _ _ _ _ _ _ _ _ h hl hko.1 hko.2;exact⟨a,fun q=>b q⟩
     |blk id=>
      simp only[qC]at h;obtain⟨a,b⟩:=ih _ _ _ _ _ _ _ _ _ _ h hl rfl hko;exact⟨a,fun q=>b q⟩
     |lp=>
      simp only[qC]at h;cases h;refine⟨hl,fun q=> ?_⟩;simp only[mdGood,Gw];exact q
    |exit id=>cases k with
     |seq d=>
      simp only[qC]at h;simp only[CE,aA]at hko;obtain⟨a,b⟩:=ih _ _ _ _ _ _ _ _ _ _ h hl rfl hko.2;exact⟨a,fun q=>b q⟩
     |blk id'=>
      simp only[qC]at h;split at h
      .rename_i e;obtain⟨a,b⟩:=ih _ _ _ _ _ _ _ _ _ _ h hl rfl hko;refine⟨a,fun q=> ?_⟩;simp only[mdGood,rN,AJ,if_pos e];exact b q
      .rename_i e;obtain⟨a,b⟩:=ih _ _ _ _ _ _ _ _ _ _ h hl rfl hko;refine⟨a,fun q=> ?_⟩;simp only[mdGood,rN,AJ,if_neg e];exact b q
     |lp=>
      simp only[qC]at h;obtain⟨a,b⟩:=ih _ _ _ _ _ _ _ _ _ _ h hl rfl hko;refine⟨a,fun q=> ?_⟩;simp only[mdGood,Gw];exact b q
    |ret=>cases k with
     |seq d=>
      simp only[qC]at h;simp only[CE,aA]at hko;obtain⟨a,b⟩:=ih _ _ _ _ _ _ _ _ _ _ h hl rfl hko.2;exact⟨a,fun q=>b q⟩
     |blk id'=>
      simp only[qC]at h;obtain⟨a,b⟩:=ih _ _ _ _ _ _ _ _ _ _ h hl rfl hko;exact⟨a,fun q=>b q⟩
     |lp=>
      simp only[qC]at h;obtain⟨a,b⟩:=ih _ _ _ _ _ _ _ _ _ _ h hl rfl hko;refine⟨a,fun q=> ?_⟩;simp only[mdGood,Gw];exact b q
  |code c=>
   simp only[aHo]at hmo
   have leaf:∀{c:Code},codeOk c=true->(match pR P D F c fr H ds log with
     | .ok (x,fr',H') ds' log'=>qC P D F n (.out x) ks j fr' H' ds' log'| .need t l=> .need t l| .fail m=> .fail m)=RD.ok o ds' log'->oQ log=true/\(aQd P D.env Q As o->Good P D.env c fr H (rN P D.env Q ks (As.drop j))):=by
    intro c hc h;split at h
    .rename_i x fr1 H1 ds1 log1 hr;obtain⟨a,b⟩:=ih _ _ _ _ _ _ _ _ _ _ h hl rfl hko;exact⟨(CP 0 hr a).2,fun q=>Zk hm hE hF hc hr a (b q)⟩
    .cases h
    .cases h
   cases c with
   |seq a b=>
    simp only[qC]at h;simp only[codeOk,aA]at hmo;obtain⟨p,q⟩:=ih _ _ _ _ _ _ _ _ _ _ h hl (by exact hmo.1) (by simp only[CE,aA];exact⟨hmo.2,hko⟩);exact⟨p,fun r=>aGg (q r)⟩
   |block id c=>
    simp only[qC]at h;obtain⟨p,q⟩:=ih _ _ _ _ _ _ _ _ _ _ h hl (by exact hmo) (by exact hko);exact⟨p,fun r=>Rc (q r)⟩
   |scope c=>
    simp only[qC]at h;obtain⟨p,q⟩:=ih _ _ _ _ _ _ _ _ _ _ h hl (by exact hmo) hko;exact⟨p,fun r=>Re (q r)⟩
   |loop c=>
    simp only[qC]at h;cases h;exact⟨hl,fun q=>q⟩
   |cond t a b=>
    simp only[qC]at h;simp only[codeOk,aA]at hmo;split at h
    .rename_i t' ht;split at h
     .cases h
     .rename_i d ds1;split at h
      .obtain⟨p,q⟩:=ih _ _ _ _ _ _ _ _ _ _ h hl (by exact hmo.1) hko;simp only[oQ,aA]at p;exact⟨p.2,fun r=>Bu (E:=D.env) ht (fun _ =>q r) (fun e=>by rw[p.1]at e;cases e)⟩
      .obtain⟨p,q⟩:=ih _ _ _ _ _ _ _ _ _ _ h hl (by exact hmo.2) hko;simp only[oQ,aA,bM]at p;exact⟨p.2,fun r=>Bu (E:=D.env) ht (fun e=>by rw[p.1]at e;cases e) (fun _ =>q r)⟩
    .cases h
   |skip=>simp only[qC]at h;exact leaf hmo h|label l=>simp only[qC]at h;exact leaf hmo h|region id ops draw=>simp only[qC]at h;exact leaf hmo h|exit id=>simp only[qC]at h;exact leaf hmo h|ret=>simp only[qC]at h;exact leaf hmo h|_ =>simp only[qC]at h;exact leaf hmo h
end
end
end Go.Ps
namespace Go.Ps
noncomputable section
def oZ(f:Func):Code:=
 match f.body with
 |some c=>c|none=> .skip
def qF(f:Func)(i:Nat):Code×List Ki:=(BV (oZ f) []).getD i (.skip,[])
inductive aKx where
 |again (j:Nat)
 |done (r:iB)
 |loop (j:Nat) (c:Code) (ks:jF)
def aIw(P:fA)(fr:eY)(H:Hp):List ResultVar->Option (List T×Bool)
 |[]=>some ([],true)
 |r::rs=>match aIw P fr H rs with
  |some (ts,b)=>match r with
   | .tmp t=>some (qW fr t::ts,b)
   | .cell a t=>match qW fr a with
    | .ptr l off=>match FL P t with
     |some true=>match tT P t with
      |some n=>some (.agg (En H l off n)::ts,SB H l (off+n)&&b)|none=>none
     |some false=>some ((ZK H l).cells.getD off oL::ts,SB H l (off+1)&&b)|none=>none
    |x=>match tX P H t x with
     |some v=>some (v::ts,b)|none=>none
  |none=>none
theorem Hf{P:fA}{fr:eY}{H:Hp}:∀{rs:gU} {ts:eY} {b:Bool},aIw P fr H rs=some (ts,b)->b=true->rL P fr H rs=some ts
 |[],ts,b,h,hb=>by simp only[aIw,aD,aQ]at h;rw[<-h.1];rfl
 |r::rs,ts,b,h,hb=>by
  simp only[aIw]at h;split at h
  .rename_i ts1 b1 hr;have key:∀x,ZO P fr H r=some x->ts=x::ts1->b1=true->rL P fr H (r::rs)=some ts:=by
    intro x hx e h1;simp only[rL,hx,Hf hr h1,e]
   split at h
   .simp only[aD,aQ]at h;exact key _ rfl h.1.symm (h.2.trans hb)
   .rename_i a t;split at h
    .rename_i l off hp;split at h
     .rename_i hag;split at h
      .rename_i n hn;simp only[aD,aQ]at h;obtain⟨e1,e2⟩:=h;rw[hb,aA]at e2;refine key _ ?_ e1.symm e2.2;simp only[ZO,hp,tX,tR];have hc:= @Bc H l off n;have h1:=e2.1;unfold SB at h1;unfold ZK at hc;split at h1
       .rename_i ob hob;rw[hob]at hc⊢;simp only[aI]at h1;simp only[uB,hag,hn];rw[if_pos h1,hc h1]
       .cases h1
      .cases h
     .rename_i hag;simp only[aD,aQ]at h;obtain⟨e1,e2⟩:=h;rw[hb,aA]at e2;refine key _ ?_ e1.symm e2.2;simp only[ZO,hp,tX,tR];have h1:=e2.1;unfold SB at h1;unfold ZK;split at h1
      .rename_i ob hob;rw[hob];simp only[aI]at h1;simp only[uB,hag];rw[aX,aC (by omega)];rfl
      .cases h1
     .cases h
    .split at h
     .rename_i v hv;simp only[aD,aQ]at h;exact key _ hv h.1.symm (h.2.trans hb)
     .cases h
  .cases h
def Mx(P:fA)(fn:Func)(k:Nat)(fr:eY)(H:Hp):Option T:=
 match aIw P fr H fn.results.toList with
 |some ([t],b)=>if b then pF k H t else none
 |some (ts,b)=>if b then pF k H (.tup ts)else none
 |none=>none
theorem aIu{P:fA}{fn:Func}{k:Nat}{fr:eY}{H:Hp}{r:T}(h:Mx P fn k fr H=some r):∃q,BW P fn fr H=some q/\pF k H q=some r:=by
 unfold Mx at h;unfold BW;split at h
 .rename_i t b hr;cases b with
  |true=>rw[Hf hr rfl];exact⟨t,rfl,h⟩|false=>cases h
 .rename_i ts b hne hr;cases b with
  |true=>
   rw[Hf hr rfl];refine⟨.tup ts,?_,h⟩
   match ts,hne with
   |[],_ =>rfl|[x],hne=>exact absurd rfl (hne x)|_ ::_ ::_,_ =>rfl
  |false=>cases h
 .cases h
def rE(P:fA)(fn:Func)(k:Nat)(keep:fN):RD Iw->Option (aKx×List Bool×Hp×List T×Nat)
 | .ok (.again j fr H) _ log=>some (.again j,log,H,keep.map (qW fr),fr.length)| .ok (.done .normal fr H) _ log=>some (.done (Mx P fn k fr H),log,⟨0,.nl⟩,[],0)| .ok (.done .ret fr H) _ log=>some (.done (Mx P fn k fr H),log,⟨0,.nl⟩,[],0)| .ok (.loop j c ks fr H) _ log=>some (.loop j c ks,log,H,keep.map (qW fr),fr.length)|_ =>none
def frK(keep:fN)(vs:eY)(fr:eY)(len:Nat):List T:=ovl (keep.zip vs) fr 0 len
theorem YQ{fr:eY}:∀(keep:fN) (vs:eY),keep.map (qW fr)=vs->∀k v,(keep.zip vs).lookup k=some v->qW fr k=v
 |[],_,_,k,v,h=>by simp at h|x::xs,[],e,k,v,h=>by simp at h
 |x::xs,y::ys,e,k,v,h=>by
  simp only[cG,dW]at e;simp only[List.zip_cons_cons,List.lookup_cons]at h;split at h
  .rename_i hk;have:k=x:=by simpa using hk
   cases h;rw[this];exact e.1
  .exact YQ xs ys e.2 k v h
theorem aTs{keep:fN}{vs fr:eY}{len:Nat}(h1:keep.map (qW fr)=vs)(h2:fr.length=len):frK keep vs fr len=fr:=by
 unfold frK;rw[aIh (keep.zip vs) fr (YQ keep vs h1) len 0 (by omega)];rfl
section
variable{P:fA}{D:Ed}{F:Fc}{As:gX}{fn:Func}{k:Nat}{res:T}{keep:fN}{N:Nat}{m:Md}{ks:jF}{fr:eY}{H H':Hp}{ds log:fL}{vs:eY}{len:Nat}
theorem way_done{r:iB}(hm:P.follows .mixedOrders=true)(hE:tP P D.gl D.env.pe)(hF:rG P D.gl F.ee)(hmo:aHo m=true)(hko:CE ks=true)
  (h:rE P fn k keep (qC P D F N m ks 0 fr H ds [])=some (.done r,log,H',vs,len)) (hr:r=some res) (hl:oQ log=true):mdGood P D.env fr H (rN P D.env (Pp P fn k res) ks As) m:=by
 subst hr;have key:∀(x:X) (fr1:eY) (H1:Hp) (ds1:fL),(x= .normal\/x= .ret)->qC P D F N m ks 0 fr H ds []= .ok (.done x fr1 H1) ds1 log->Mx P fn k fr1 H1=some res->mdGood P D.env fr H (rN P D.env (Pp P fn k res) ks As) m:=by
  intro x fr1 H1 ds1 hx hr1 hres;refine(Hn hm hE hF _ _ _ _ _ _ _ _ _ _ _ hr1 hl hmo hko).2 ⟨hx,?_⟩;exact aIu hres
 unfold rE at h;split at h<;>try cases h
 .rename_i fr1 H1 ds1 log1 hr1;simp only[aD,aQ,aKx.done.injEq]at h;obtain⟨e1,rfl,_⟩:=h;exact key _ fr1 H1 ds1 (.inl rfl) hr1 e1
 .rename_i fr1 H1 ds1 log1 hr1;simp only[aD,aQ,aKx.done.injEq]at h;obtain⟨e1,rfl,_⟩:=h;exact key _ fr1 H1 ds1 (.inr rfl) hr1 e1
theorem way_again(hm:P.follows .mixedOrders=true)(hE:tP P D.gl D.env.pe)(hF:rG P D.gl F.ee)(hmo:aHo m=true)(hko:CE ks=true){Q:fW}{j:Nat}
  (h:rE P fn k keep (qC P D F N m ks 0 fr H ds [])=some (.again j,log,H',vs,len)) (hl:oQ log=true) {A:List T->Hp->Prop} (hA:As[j]? =some A) (hq:∀fr',keep.map (qW fr')=vs->fr'.length=len->A fr' H'):
  mdGood P D.env fr H (rN P D.env Q ks As) m:=by
 unfold rE at h;split at h<;>cases h;rename_i fr1 ds1 hr1;exact(Hn hm hE hF _ _ _ _ _ _ _ _ _ _ _ hr1 hl hmo hko).2 ⟨A,hA,hq fr1 rfl rfl⟩
theorem way_loop(hm:P.follows .mixedOrders=true)(hE:tP P D.gl D.env.pe)(hF:rG P D.gl F.ee)(hmo:aHo m=true)(hko:CE ks=true){Q:fW}{j:Nat}{c:Code}{ks':jF}
  (h:rE P fn k keep (qC P D F N m ks 0 fr H ds [])=some (.loop j c ks',log,H',vs,len)) (hl:oQ log=true) (hq:∀fr',keep.map (qW fr')=vs->fr'.length=len->Good P D.env (.loop c) fr' H' (rN P D.env Q ks' (As.drop j))):
  mdGood P D.env fr H (rN P D.env Q ks As) m:=by
 unfold rE at h;split at h<;>cases h;rename_i fr1 ds1 hr1;exact(Hn hm hE hF _ _ _ _ _ _ _ _ _ _ _ hr1 hl hmo hko).2 (hq fr1 rfl rfl)
theorem Rz{E:tW}{c:Code}{f:fT}{fn:Func}(hz:uD E.gl)(h1:tY P f=true)(hfn:P.funcs[f]? =some fn)(hb:fn.body=some c){ts:eY}{r:T}{d:Nat}(hts:mapO (pF d ⟨0,.nl⟩) ts=some ts)
  (h:Good P E c (ts++List.replicate (fn.ntmps-ts.length) oL) ⟨0,.nl⟩ (Pp P fn k r)):oK P E.gl f ts r:=by
 refine⟨h1,fun g vs hg ⟨N,hN⟩ hgl hv=> ?_⟩;have hsN:St g ⟨N,.nl⟩:=St.nl _ _ (hN);have hts1:mapO (pF d ⟨N,.nl⟩) ts=some ts:=by
  have:∀(ts ts':eY),mapO (pF d ⟨0,.nl⟩) ts=some ts'->mapO (pF d ⟨N,.nl⟩) ts=some ts':=by
   intro ts
   induction ts with
   |nil=>intro rs h;exact h
   |cons t ts iht=>
    intro rs h;simp only[mapO]at h⊢;split at h
    .rename_i a ha;split at h
     .rename_i b hb;rw[FZ d 0 _ _ _ ha,iht _ hb];exact h
     .cases h
    .cases h
  exact this ts ts hts
 have hv':RdL g.bare vs ts:=by
  have:=MB (g0:=g.bare) hsN hts1 hv;rw[zT]at this;exact this
 have hgl':GlOk E.gl g.bare:=by
  have:=GlOk.frz (g0:=g.bare) hz hsN hgl;rw[zT]at this;exact this
 have hs:St g.bare ⟨0,.nl⟩:=St.nl _ _ (fun l _ q=>q);have hframe:RdL g.bare (vs.toArray++Array.replicate (fn.ntmps-vs.toArray.size) undef).toList (ts++List.replicate (fn.ntmps-ts.length) oL):=by
  have:(vs.toArray++Array.replicate (fn.ntmps-vs.toArray.size) undef).toList=vs++List.replicate (fn.ntmps-ts.length) undef:=by simp[hv.1]
  rw[this];exact hv'.append (RdL.replicate _ Rd.undef)
 have hinv:pN E g.bare ⟨0,.nl⟩ g.bare {tmps:=vs.toArray++Array.replicate (fn.ntmps-vs.toArray.size) undef,defers:=[]} (ts++List.replicate (fn.ntmps-ts.length) oL) ⟨0,.nl⟩:=⟨hg,hs,hgl',rfl,hframe,oX.refl _ _⟩;refine calls_of_wp hfn hb (h g.bare g.bare ⟨0,.nl⟩ _ hinv _ (fun x fr' H' a' g' hQ hc=> ?_));obtain⟨hx,q,hq,hz⟩:=hQ;obtain⟨v,hv1,hv2⟩:=aAy (fn:=fn) hc hq;have e3:=hc.step;have fin:∃v' g'',Ending.returned v= .returned v'/\g''.w=g'.w/\PStep g g''/\qP g''/\Rd g'' v' r:=by
  refine⟨v,g'.frz H' g,rfl,rfl,?_,?_,JU hc.st k q r v hz hv2⟩
  .refine⟨e3.os,e3.tape,e3.output,e3.size,fun b hb=>e3.block b hb (fun l o ho=>(by rw[sV]at ho;cases ho)),fun b hb=> .inl (e3.sub b hb),fun b hb=> ?_,rfl,rfl,rfl⟩;rcases hb with hb|⟨l,o,ho,rfl⟩
   .rcases e3.fresh b hb with q|q|⟨l,o,ho,_⟩
    .exact .inl q
    .exact .inr q
    .rw[sV]at ho;cases ho
   .rcases e3.live l o (pJ ho).1 with⟨l0,o0,q,_⟩|q
    .rw[sV]at q;cases q
    .exact .inr q
  .intro b hb;rcases hb with hb|⟨l,o,ho,rfl⟩
   .exact hc.ok b hb
   .exact hc.st.lt (pJ ho).1
 rcases hx with rfl|rfl
 .exact⟨hc.df,v,hv1,fin⟩
 .exact⟨hc.df,v,hv1,fin⟩
end
end
end Go.Ps
namespace Go.Ps
structure Cx(P:fA)(D:Ed)(F:Fc):Prop where
 hm:P.follows .mixedOrders=true
 hE:tP P D.gl D.env.pe
 hF:rG P D.gl F.ee
section
variable{P:fA}{D:Ed}{F:Fc}{As:gX}{fn:Func}{k:Nat}{res:T}{keep:fN}{N:Nat}{c:Code}{ks:jF}{fr:eY}{H H':Hp}{ds log:fL}{vs:eY}{len:Nat}
theorem Cx.done{r:iB}(x:Cx P D F)(hc:codeOk c=true)(hk:CE ks=true)
  (h:rE P fn k keep (qC P D F N (.code c) ks 0 fr H ds [])=some (.done r,log,H',vs,len)) (hr:r=some res) (hl:oQ log=true):Good P D.env c fr H (rN P D.env (Pp P fn k res) ks As):=
 way_done (m:= .code c) x.hm x.hE x.hF hc hk h hr hl
theorem Cx.again(x:Cx P D F)(hc:codeOk c=true)(hk:CE ks=true){Q:fW}{j:Nat}
  (h:rE P fn k keep (qC P D F N (.code c) ks 0 fr H ds [])=some (.again j,log,H',vs,len)) (hl:oQ log=true) {A:List T->Hp->Prop} (hA:As[j]? =some A) (hq:∀fr',keep.map (qW fr')=vs->fr'.length=len->A fr' H'):
  Good P D.env c fr H (rN P D.env Q ks As):=
 way_again (m:= .code c) x.hm x.hE x.hF hc hk h hl hA hq
theorem Cx.loop(x:Cx P D F)(hc:codeOk c=true)(hk:CE ks=true){Q:fW}{j:Nat}{c':Code}{ks':jF}
  (h:rE P fn k keep (qC P D F N (.code c) ks 0 fr H ds [])=some (.loop j c' ks',log,H',vs,len)) (hl:oQ log=true) (hq:∀fr',keep.map (qW fr')=vs->fr'.length=len->Good P D.env (.loop c') fr' H' (rN P D.env Q ks' (As.drop j))):
  Good P D.env c fr H (rN P D.env Q ks As):=
 way_loop (m:= .code c) x.hm x.hE x.hF hc hk h hl hq
end
theorem aIp{g:G}{v:fP}{c:T}(hs:DM c=true)(h:Rd g v c):FA g v c:=by
 cases h with
 |int k n=>exact .int k n|bool b=>exact .bool b|str s=>exact .str s|nilp=>exact .nilp|nils=>exact .nils|nilf=>exact .nilf|nili=>exact .nili|nilm=>exact .nilm|_ =>simp[DM]at hs
theorem Np{c:T}(hs:DM c=true):c.cells=[c]:=by cases c<;>simp[DM]at hs<;>rfl
theorem aVj{g:G}{v:fP}{full:Bool}{xs:eY}{n:Nat}{f:iC}(h:Rd g v (.sl full xs))(hs:∀x∈xs,DM x=true)(hn:xs.length=n)(hf:∀i,i<n->xs[i]? =some (f i)):Rd g v (.slf full n f):=by
 subst hn;cases h with
 |sl _ _ sz b o cap vs h1 h2 h3 h4 h5 h6 h7 h8=>
  refine .slf full xs.length f sz b o cap vs (fun q=>h1 (fun e=>q (by simp[e]))) (fun i hi=>h2 _ (bB (hf i hi))) h3 h4 h5 h6 h7 (fun i j u c hi hj hu hc=> ?_);have hm:=bB (hf i hi);have hr:=h8 _ u c hu (EX h2 (hf i hi) j c hc);rw[Np (hs _ hm)]at hc;cases j with
  |zero=>simp at hc;subst hc;exact aIp (hs _ hm) hr|succ j=>simp at hc
theorem aPh{g:G}{v:fP}(full:Bool)(f:iC)(h:Rd g v .nils):Rd g v (.slf full 0 f):=by
 cases h;exact .slfn full f _
theorem oK.mono{P:fA}{gl:fD}{f:fT}{ts:eY}{r r':T}(h:oK P gl f ts r)(k:∀g v,Rd g v r->Rd g v r'):oK P gl f ts r':=
 ⟨h.1,fun g vs hg hN hgl hv=>(h.2 g vs hg hN hgl hv).mono fun _ _ ⟨v,g',e1,e2,e3,e4,e5⟩=>⟨v,g',e1,e2,e3,e4,k _ _ e5⟩⟩
end Go.Ps
namespace Go.Ps
def G.start(W:gI):G:={w:=W,S:=fun b=>b<W.heap.size,al:=fun _ =>False,loc:=fun _ =>0,cp:=fun _ =>0}
theorem aJu(W:gI):qP (G.start W):=fun _ h=>h
theorem Zj{P:fA}{W:gI}{name:String}{k:Nat}{ik:gB}{zs:fI}(hn:P.globalNamed name=some k)(h:Lib.TabIs P W name ik zs):NP (G.start W) k (.ref (.agg (zs.map (T.int ik))) 0):=by
 unfold Lib.TabIs World.var? at h;rw[hn,dN]at h;split at h
 .rename_i cs e fz hb;cases h;have hlt:k<W.heap.size:=(aL.1 hb).1;refine⟨?_,hlt,_,e,fz,hb,by simp[T.refLen,T.cells]⟩;have key:=Rd.ref (g:=G.start W) (.agg (zs.map (T.int ik))) 0 k 0 (zs.map fun z=>Value.int ik z) hlt (by simp[T.cells]) (fun j v hv=> ?_) (fun j v c hv hc=> ?_)
  .exact key
  .unfold World.cell?;show(match W.heap[k]? with|some (.cells c _ _)=>if(none:Option _).isSome then none else c[0+j]? |_ =>none)=some v;rw[hb];simpa using hv
  .simp only[T.cells,aY]at hv hc;cases hz:zs[j]? with
   |none=>rw[hz]at hv;simp at hv|some z=>rw[hz]at hv hc;simp at hv hc;subst hv;subst hc;exact .int ik z
 .cases h
theorem kept_of{g g':G}(h:PStep g g')(may:MemPlace->Prop):g.w.keptBut g'.w may:=by
 refine⟨h.os,h.output,fun i hi=> ?_⟩;rw[h.block i hi];cases ho:g.w.heap[i]? with
 |none=>simp|some o=>cases o<;>simp
theorem run_start{P:fA}{gl:fD}{f:fT}{ts:eY}{r:T}(h:oK P gl f ts r){W:gI}(hgl:GlOk gl (G.start W)){vs:fM}(hv:RdL (G.start W) vs ts):
  Calls P f vs.toArray W fun e w'=>∃v g',e= .returned v/\g'.w=w'/\PStep (G.start W) g'/\Rd g' v r:=
 (h.2 (G.start W) vs (aJu W) ⟨0,fun _ _ q=>q⟩ hgl hv).mono fun _ _ ⟨v,g',e1,e2,e3,_,e5⟩=>⟨v,g',e1,e2,e3,e5⟩
end Go.Ps
namespace Go.Ps
def vJ(g:G)(vs:fM)(ts:eY):Prop:=vs.length=ts.length/\∀(j:Nat) (v:fP) (c:T),vs[j]? =some v->ts[j]? =some c->FA g v c
section
variable{g:G}
theorem vJ.nil:vJ g [] []:=⟨rfl,fun j v c h=>by simp at h⟩
theorem vJ.one{v:fP}{t:T}(h:FA g v t):vJ g [v] [t]:=by
 refine⟨rfl,fun j u c hu hc=> ?_⟩;cases j with
 |zero=>simp at hu hc;subst hu;subst hc;exact h|succ j=>simp at hu
theorem vJ.append{vs us:fM}{ts ss:eY}(h:vJ g vs ts)(k:vJ g us ss):vJ g (vs++us) (ts++ss):=by
 refine⟨by simp[h.1,k.1],fun j u c hu hc=> ?_⟩;rw[dC]at hu hc;by_cases hj:j<vs.length
 .rw[if_pos hj]at hu;rw[if_pos (h.1▸hj)]at hc;exact h.2 j u c hu hc
 .rw[if_neg hj]at hu;rw[if_neg (h.1▸hj),<-h.1]at hc;exact k.2 _ u c hu hc
end
def fieldAt(P:fA)(t:eX)(i:Nat):Option (TypeId×Nat×Nat):=
 match P.underlying t with
 |some (.struct fs)=>(fs[i]?).map fun f=>(f.type,f.offset,P.cellsOf f.type)|_ =>none
section
variable{H:Type}(enc:TypeId×Value->H)(P:fA)(W:gI)
def rI(t:eX){A:Type}(mk:A->List T)(ok:A->Prop):Prop:=
 ∀(n:Nat) (cs:fM) (y:DataW H×List MemPlace),DataW.trod enc P W 0 (fun _ =>true) true n t cs=some y->∃a:A,vJ (G.start W) cs (mk a)/\ok a
variable{enc P W}
theorem rI.int{t:eX}{k:gB}(ht:P.underlying t=some (.int k)):rI enc P W t (fun n:Int=>[.int k n]) (fun n=>k.has n):=by
 intro n cs y h;obtain⟨m,rfl,_,hw⟩:=DataW.trod_int ht h;refine⟨m,vJ.one (.int k m),?_⟩;simp[Lit.wf]at hw;exact hw
theorem rI.bool{t:eX}(ht:P.underlying t=some .bool):rI enc P W t (fun b:Bool=>[.bool b]) (fun _ =>True):=by
 intro n cs y h;obtain⟨b,rfl,_⟩:=DataW.trod_bool ht h;exact⟨b,vJ.one (.bool b),trivial⟩
theorem rI.str{t:eX}(ht:P.underlying t=some .string):rI enc P W t (fun s:List UInt8=>[.str s]) (fun s=>s.length<=maxLen):=by
 intro n cs y h;obtain⟨s,rfl,_,hs⟩:=DataW.trod_string ht h;exact⟨s.data.toList,vJ.one (.str s),by simpa using hs⟩
theorem yF{w:gI}{a:Addr}{n:Nat}{cs:fM}(h:w.cells? 0 a n=some cs):cs.length=n/\∀(j:Nat) (v:fP),cs[j]? =some v->w.cell? (a.add j)=some v:=by
 obtain⟨_,hl,hc⟩:=World.cells?_some h;refine⟨hl,fun j v hv=> ?_⟩;have hj:j<n:=by rw[<-hl];exact(aK.1 hv).1
 rw[hc j hj];exact hv
theorem NG{w:gI}{a:Addr}{v:fP}(h:w.cell? a=some v):a.spot=none:=by
 unfold World.cell? at h;split at h
 .split at h
  .cases h
  .rename_i hs;simpa using hs
 .cases h
theorem rI.sliceN{N:Nat}{t e:eX}{sz:Nat}{A:Type}[Inhabited A]{mk:A->List T}{ok:A->Prop}(toT:A->T)(ht:P.underlying t=some (.slice e))(hsz:P.cellsOf e=sz)(hpos:0<sz)(hmk:∀a,(mk a).length=sz)
  (htoT:∀a,(toT a).cells=mk a) (he:∀(n:Nat),n<N->∀(cs:fM) (y:DataW H×List MemPlace),DataW.trod enc P W 0 (fun _ =>true) true n e cs=some y->∃a:A,vJ (G.start W) cs (mk a)/\ok a)
  (n:Nat) (hn:n<=N) (cs:fM) (y:DataW H×List MemPlace) (h:DataW.trod enc P W 0 (fun _ =>true) true n t cs=some y):
  ∃x:Nat×(Nat->A),vJ (G.start W) cs [.slf false x.1 (fun i=>toT (x.2 i))]/\x.1<=maxLen/\∀i,i<x.1->ok (x.2 i):=by
 rcases DataW.trod_slice ht h with⟨rfl,_⟩|⟨a,len,cap,elems,rest,n',hfu,rfl,_,_,hl,hm,hlen,hel,hsp,_⟩
 .exact⟨(0,default),vJ.one (.slfn false _ none),by simp,fun i hi=>by simp at hi⟩
 .rw[hsz]at hel hsp;have one:∀i,i<len->∃c x,W.cells? 0 (a.add (i*sz)) sz=some c/\vJ (G.start W) c (mk x)/\ok x:=by
   intro i hi;have h1:=hel i hi;have h2:elems[i]? =some (elems[i]'(by omega)):=aC (by omega);rw[h2,Option.bind_eq_some_iff]at h1;obtain⟨c,hc,hy⟩:=h1;obtain⟨x,hx,hk⟩:=he _ (by omega) _ _ hy;exact⟨c,x,hc,hx,hk⟩
  have hspot:0<cap->a.spot=none:=by
   intro hc;by_cases hl0:0<len
   .obtain⟨c,x,h1,_,_⟩:=one 0 hl0;obtain⟨h2,h3⟩:=yF h1;have h4:c[0]? =some (c[0]'(by omega)):=aC (by omega);have:=NG (h3 0 _ h4);simpa [Addr.add]using this
   .obtain⟨h1,h2⟩:=hsp rfl;have h3:=h2 0 (by omega);have h4:rest[0]? =some (rest[0]'(by omega)):=aC (by omega);rw[h4,Option.bind_eq_some_iff]at h3;obtain⟨c,hc,_⟩:=h3;have l0:len=0:=by omega
    subst l0;obtain⟨h5,h6⟩:=yF hc;have h7:c[0]? =some (c[0]'(by omega)):=aC (by omega);have:=NG (h6 0 _ h7);simpa [Addr.add]using this
  classical
  let cel:Nat->List Value:=fun i=>if hi:i<len then Classical.choose (one i hi)else []
  let xs:Nat->A:=fun i=>if hi:i<len then Classical.choose (cO (one i hi))else default
  have hcx:∀i,i<len->W.cells? 0 (a.add (i*sz)) sz=some (cel i)/\vJ (G.start W) (cel i) (mk (xs i))/\ok (xs i):=by
   intro i hi;simp only[cel,xs,dif_pos hi];exact cO (cO (one i hi))
  refine⟨(len,xs),vJ.one ?_,by show len<=maxLen;omega,fun i hi=>(hcx i hi).2.2⟩;by_cases hcap:cap=0
  .have l0:len=0:=by omega
   subst l0;subst hcap;exact .slfn false _ (some a)
  .obtain⟨b,o,sp⟩:=a;have hs:=hspot (by omega);simp only at hs;subst hs;have hlenAll:∀x∈(List.range len).map cel,x.length=sz:=fun x hx=>by
    obtain⟨i,hi,rfl⟩:=bU.1 hx;exact(yF (hcx i (by simpa using hi)).1).1
   have hflat:∀(m:Nat),m<=len->(((List.range m).map cel).flatten).length=m*sz:=by
    intro m
    induction m with
    |zero=>intro _;simp
    |succ m ih=>
     intro hm;rw[eV,eU,List.flatten_append,bK,ih (by omega),cJ];simp[(yF (hcx m (by omega)).1).1]
   have hat:∀(m:Nat),m<=len->∀i j,i<m->j<sz->(((List.range m).map cel).flatten)[i*sz+j]? =(cel i)[j]? :=by
    intro m
    induction m with
    |zero=>intro _ i j hi;omega
    |succ m ih=>
     intro hm i j hi hj;rw[eV,eU,List.flatten_append,dC,hflat m (by omega)];by_cases him:i<m
     .have:i*sz+j<m*sz:=by
       have:(i+1)*sz<=m*sz:=cI _ him;rw[cJ]at this;omega
      rw[if_pos this];exact ih (by omega) i j him hj
     .have:i=m:=by omega
      subst this;rw[if_neg (by omega)];simp
   refine .slf false len (fun i=>toT (xs i)) sz b o cap (((List.range len).map cel).flatten) (fun hn=> ?_) (fun i hi=>by rw[htoT,hmk]) hl hm (fun q=>by cases q) (hflat len (aZ _)) (fun j v hv=> ?_) (fun i j v c hi hj hv hc=> ?_)
   .obtain⟨h1,_,_⟩:=hcx 0 (by omega);obtain⟨h2,h3⟩:=yF h1;have h4:(cel 0)[0]? =some ((cel 0)[0]'(by omega)):=aC (by omega);have:=KC (h3 0 _ h4);show b<W.heap.size;simpa [Addr.add]using this
   .have hj:j<len*sz:=by
     rw[<-hflat len (aZ _)];exact(aK.1 hv).1
    have hd:j=j/sz*sz+j%sz:=by rw[Nat.mul_comm];exact(Nat.div_add_mod j sz).symm
    have hq:j/sz<len:=by rw[Nat.div_lt_iff_lt_mul hpos];exact hj
    have hr:j%sz<sz:=Nat.mod_lt _ hpos;rw[hd,hat len (aZ _) _ _ hq hr]at hv;have h1:=(yF (hcx _ hq).1).2 _ v hv;show W.cell? ⟨b,o+j,none⟩=some v;have e:(Addr.add (Addr.add ⟨b,o,none⟩ (j/sz*sz)) (j%sz))=⟨b,o+j,none⟩:=by
     rw[Addr.add_lit,Addr.add_lit];congr 1;omega
    rw[<-e];exact h1
   .rw[hat len (aZ _) i j hi hj]at hv;rw[htoT]at hc;exact(hcx i hi).2.1.2 j v c hv hc
theorem rI.slice{t e:eX}{sz:Nat}{A:Type}[Inhabited A]{mk:A->List T}{ok:A->Prop}(toT:A->T)(ht:P.underlying t=some (.slice e))(hsz:P.cellsOf e=sz)(hpos:0<sz)(hmk:∀a,(mk a).length=sz)
  (htoT:∀a,(toT a).cells=mk a) (he:rI enc P W e mk ok):rI enc P W t (fun x:Nat×(Nat->A)=>[.slf false x.1 (fun i=>toT (x.2 i))]) (fun x=>x.1<=maxLen/\∀i,i<x.1->ok (x.2 i)):=
 fun n cs y h=>rI.sliceN toT ht hsz hpos hmk htoT (fun n' _ =>he n') n (aZ n) cs y h
theorem Od{t:eX}{fuel:Nat}{cs:fM}{x:DataW H×List MemPlace}(h:DataW.trod enc P W 0 (fun _ =>true) true fuel t cs=some x){i:Nat}{u:eX}{o s:Nat}(hf:fieldAt P t i=some (u,o,s)):
  cs.length=P.cellsOf t/\∃n y,DataW.trod enc P W 0 (fun _ =>true) true n u ((cs.drop o).take s)=some y:=by
 unfold fieldAt at hf;split at hf
 .rename_i fs ht;simp only[aF]at hf;obtain⟨f,hf,he⟩:=hf;cases he;obtain⟨xs,n,_,_,hl,hlen,hx⟩:=DataW.trod_struct ht h;refine⟨hl,n,?_⟩;have hi:i<xs.length:=by rw[hlen];exact(aL.1 hf).1
  exact⟨xs[i],by rw[hx i f hf,aC hi]⟩
 .cases hf
theorem DV{t:eX}{fuel:Nat}{cs:fM}{x:DataW H×List MemPlace}(h:DataW.trod enc P W 0 (fun _ =>true) true fuel t cs=some x){i:Nat}{u:eX}{o s:Nat}(hf:fieldAt P t i=some (u,o,s)):
  cs.length=P.cellsOf t/\∃n y,n<fuel/\DataW.trod enc P W 0 (fun _ =>true) true n u ((cs.drop o).take s)=some y:=by
 unfold fieldAt at hf;split at hf
 .rename_i fs ht;simp only[aF]at hf;obtain⟨f,hf,he⟩:=hf;cases he;obtain⟨xs,n,hn,_,hl,hlen,hx⟩:=DataW.trod_struct ht h;have hi:i<xs.length:=by rw[hlen];exact(aL.1 hf).1
  exact⟨hl,n,xs[i],by omega,by rw[hx i f hf,aC hi]⟩
 .cases hf
theorem rI.field{t u:eX}{A:Type}{mk:A->List T}{ok:A->Prop}(hu:rI enc P W u mk ok){fuel:Nat}{cs:fM}{x:DataW H×List MemPlace}(h:DataW.trod enc P W 0 (fun _ =>true) true fuel t cs=some x){i o s:Nat}(hf:fieldAt P t i=some (u,o,s)):
  ∃a:A,vJ (G.start W) ((cs.drop o).take s) (mk a)/\ok a:=by
 obtain⟨_,n,y,hy⟩:=Od h hf;exact hu _ _ _ hy
theorem vJ.cut{g:G}{cs:fM}{o s:Nat}{ts us:eY}(h:vJ g ((cs.drop o).take s) ts)(k:vJ g (cs.drop (o+s)) us):vJ g (cs.drop o) (ts++us):=by
 have:=h.append k
 rwa [<-List.drop_drop,List.take_append_drop]at this
theorem vJ.end_ {g:G}{cs:fM}{o:Nat}(h:cs.length=o):vJ g (cs.drop o) []:=by
 rw[List.drop_eq_nil_of_le (by omega)];exact vJ.nil
theorem aAw{t:eX}{v:fP}{r:Reach}{base:Nat}{fs:Array Field}(ht:P.underlying t=some (.struct fs))(hval:Value.okWide P W r base t v):∃cs:Array Value,v= .agg cs/\v.cells.toList=cs.toList:=by
 unfold Value.okWide at hval;rw[ht]at hval;obtain⟨cs,rfl,_⟩:=hval;exact⟨cs,rfl,rfl⟩
theorem aVi{g:G}{cs:fU}{ts:eY}(h:vJ g cs.toList ts):Rd g (.agg cs) (.agg ts):=by
 have:=(FA.agg (g:=g) ts cs.toList h.1 h.2).rd;simpa using this
end
end Go.Ps
namespace Go.Ps
def bt:Nat->Nat->List Bool
 |0,_ =>[]|n+1,k=>(k%2==1)::bt n (k/2)
structure uF(S:Type)where
 lp:S->Nat
 keep:Nat->List Nat
 par:Nat->List Nat
 vs:S->List T
 hp:S->Hp
 len:Nat
 step:S->Option (S⊕T)
def uF.run{S:Type}(M:uF S):Nat->S->Option T
 |0,_ =>none
 |n+1,s=>match M.step s with
  |some (.inl s')=>M.run n s'|some (.inr r)=>some r|none=>none
def uF.fin{S:Type}(M:uF S)(n:Nat):S⊕T->Option T
 | .inl s=>M.run n s| .inr r=>some r
@[simp]theorem uF.fin_inr{S:Type}(M:uF S)(n:Nat)(r:T):M.fin n (.inr r)=some r:=rfl
@[simp]theorem uF.fin_inl{S:Type}(M:uF S)(n:Nat)(s:S):M.fin n (.inl s)=M.run n s:=rfl
theorem uF.run_succ{S:Type}(M:uF S)(n:Nat)(s:S):M.run (n+1) s=(M.step s).bind (M.fin n):=by
 simp only[uF.run];cases M.step s with
 |none=>rfl|some o=>cases o<;>rfl
def uF.At{S:Type}(M:uF S)(s:S)(fr:eY)(H:Hp):Prop:=(M.keep (M.lp s)).map (qW fr)=M.vs s/\fr.length=M.len/\H=M.hp s
def uF.Leads{S:Type}(M:uF S)(P:fA)(D:Ed)(F:Fc)(fn:Func)(k:Nat)(cur:fN)(c:Code)(ks:jF)(fr:eY)(H:Hp):S⊕T->Prop
 | .inr r=>∃N ds log kp H' vs len,rE P fn k kp (qC P D F N (.code c) ks 0 fr H ds [])=some (.done (some r),log,H',vs,len)/\oQ log=true
 | .inl s=>(∃N ds log j,rE P fn k (M.keep (M.lp s)) (qC P D F N (.code c) ks 0 fr H ds [])=some (.again j,log,M.hp s,M.vs s,M.len)/\oQ log=true/\cur[j]? =some (M.lp s))\/
  (∃N ds log j,rE P fn k (M.keep (M.lp s)) (qC P D F N (.code c) ks 0 fr H ds [])=some (.loop j (qF fn (M.lp s)).1 (qF fn (M.lp s)).2,log,M.hp s,M.vs s,M.len)/\oQ log=true/\cur.drop j=M.par (M.lp s))
def uF.Ways{S:Type}(M:uF S)(P:fA)(D:Ed)(F:Fc)(fn:Func)(k:Nat):Prop:=
 ∀s o fr,M.step s=some o->M.Leads P D F fn k (M.lp s::M.par (M.lp s)) (qF fn (M.lp s)).1 (.lp::(qF fn (M.lp s)).2) (frK (M.keep (M.lp s)) (M.vs s) fr M.len) (M.hp s) o
abbrev FJ(r:T)(g:fL):Option (aKx×List Bool×Hp×List T×Nat):=some (.done (some r),g,⟨0,.nl⟩,[],0)
noncomputable def uF.rk{S:Type}(M:uF S)(P:fA)(D:Ed)(F:Fc)(fn:Func)(s:S)(fr:eY)(ds:fL):RD Iw:=
 qC P D F 2000 (.code (qF fn (M.lp s)).1) (.lp::(qF fn (M.lp s)).2) 0 (frK (M.keep (M.lp s)) (M.vs s) fr M.len) (M.hp s) ds []
def uF.wa{S:Type}(M:uF S)(P:fA)(fn:Func)(r:RD Iw)(j:Nat)(g:fL)(s:S):Prop:=rE P fn 20 (M.keep (M.lp s)) r=some (.again j,g,M.hp s,M.vs s,M.len)
def uF.wl{S:Type}(M:uF S)(P:fA)(fn:Func)(r:RD Iw)(j:Nat)(g:fL)(s:S):Prop:=rE P fn 20 (M.keep (M.lp s)) r=some (.loop j (qF fn (M.lp s)).1 (qF fn (M.lp s)).2,g,M.hp s,M.vs s,M.len)
theorem Gd{α:Type}{K:Bool}{V o:α}(h:(if K=true then some V else none)=some o):K=true/\V=o:=by
 cases hk:K
 .rw[hk]at h;simp at h
 .rw[hk]at h;simp at h;exact⟨rfl,h⟩
theorem yD{α:Type}{a k l:Bool}{x y:α}{Q:α->Prop}(h1:k=true->∀o,x=o->Q o)(h2:l=true->∀o,y=o->Q o)(hk:(if a=true then k else l)=true)(o:α)(h:(if a=true then x else y)=o):Q o:=by
 cases a
 .exact h2 hk o h
 .exact h1 hk o h
section
variable{S:Type}{M:uF S}{P:fA}{D:Ed}{F:Fc}{fn:Func}{cur:fN}{c:Code}{ks:jF}{fr:eY}{H:Hp}{N j:Nat}{ds g:fL}
theorem kA{s:S}(w:M.wa P fn (qC P D F N (.code c) ks 0 fr H ds []) j g s)(hj:cur[j]? =some (M.lp s))(hk:oQ g=true)(o:S⊕T)(h: .inl s=o):M.Leads P D F fn 20 cur c ks fr H o:=h▸ .inl ⟨N,ds,g,j,w,hk,hj⟩
theorem kL{s:S}(w:M.wl P fn (qC P D F N (.code c) ks 0 fr H ds []) j g s)(hj:cur.drop j=M.par (M.lp s))(hk:oQ g=true)(o:S⊕T)(h: .inl s=o):M.Leads P D F fn 20 cur c ks fr H o:=h▸ .inr ⟨N,ds,g,j,w,hk,hj⟩
theorem kD{r:T}{kp:fN}(w:rE P fn 20 kp (qC P D F N (.code c) ks 0 fr H ds [])=FJ r g)(hk:oQ g=true)(o:S⊕T)(h: .inr r=o):M.Leads P D F fn 20 cur c ks fr H o:=h▸⟨N,ds,g,kp,_,_,_,w,hk⟩
theorem aHz{lp:S->Nat}(n:Nat)(hn:((List.range n).all fun j=>codeOk (qF fn j).1&&CE (.lp::(qF fn j).2))=true)(hl:∀σ,lp σ<n)(σ:S):codeOk (qF fn (lp σ)).1=true/\CE (.lp::(qF fn (lp σ)).2)=true:=by
 have:=aG.1 hn _ (List.mem_range.2 (hl σ))
 rwa [aA]at this
end
def uF.LeadsF{S:Type}(M:uF S)(P:fA)(D:Ed)(F:Fc)(fn:Func)(k:Nat)(cur:fN)(c:Code)(ks:jF)(fr:eY)(H:Hp)(o:S⊕T):Prop:=
 M.Leads P D F fn k cur c ks fr H o\/∃s,o= .inl s/\∃N ds log j H' vs' p d k' t0 t,rE P fn k (M.keep (M.lp s)) (qC P D F N (.code c) ks 0 fr H ds [])=some (.loop j (qF fn (M.lp s)).1 (qF fn (M.lp s)).2,log,H',vs',M.len)/\oQ log=true/\cur.drop j=M.par (M.lp s)/\
  pF k' H' (vs'.getD p oL)=some t0/\(∀g v,Rd g v t0->Rd g v t)/\(M.keep (M.lp s))[p]? =some d/\d<M.len/\(M.keep (M.lp s)).Nodup/\M.vs s=vs'.set p t/\M.hp s=⟨H'.next,.nl⟩
def uF.WaysF{S:Type}(M:uF S)(P:fA)(D:Ed)(F:Fc)(fn:Func)(k:Nat):Prop:=
 ∀s o fr,M.step s=some o->M.LeadsF P D F fn k (M.lp s::M.par (M.lp s)) (qF fn (M.lp s)).1 (.lp::(qF fn (M.lp s)).2) (frK (M.keep (M.lp s)) (M.vs s) fr M.len) (M.hp s) o
theorem Rd.grow{g g':G}(hw:g'.w=g.w)(hS:∀b,g.S b->g'.S b)(ha:g'.al=g.al)(hl:g'.loc=g.loc)(hcp:g'.cp=g.cp){v:fP}{t:T}(hr:Rd g v t):Rd g' v t:=by
 have hc:∀(a:Addr) (v:fP),g.w.cell? a=some v->g'.w.cell? a=some v:=fun a v h=>by rw[hw];exact h
 induction hr with
 |int k n=>exact .int k n|bool b=>exact .bool b|str s=>exact .str s|nilp=>exact .nilp|ptr l off h=>rw[<-hl];exact .ptr l off (ha▸h)|ref x off b o vs h1 hlen hcc _ ih=>exact .ref x off b o vs (hS b h1) hlen (fun j v hv=>hc _ _ (hcc j v hv)) ih|nils=>exact .nils|slfn full f p=>exact .slfn full f p|sl full xs sz b o cap vs h1 hsz h2 h3 h4 hlen hcc _ ih=>exact .sl full xs sz b o cap vs (fun hx=>hS b (h1 hx)) hsz h2 h3 h4 hlen (fun j v hv=>hc _ _ (hcc j v hv)) ih|slf full n f sz b o cap vs h1 h2 h3 h4 h5 h6 h7 h8=>exact Rd.slf_keep hS (fun _ _ _ _ q=>hc _ _ q) h1 h2 h3 h4 h5 h6 h7 h8|osl l sz i len b o cap h h1 h2 h3 h4=>exact .osl l sz i len b o cap (ha▸h) h1 (hcp▸h2) (fun q=>hl▸h3 q) (fun q=>hcp▸h4 q)|nilf=>exact .nilf|fn f a c vs us h1 _ h3 _ ih1 ih2=>exact .fn f a c vs us h1 ih1 h3 ih2|nili=>exact .nili|iface t v x _ ih=>exact .iface t v x ih|nilm=>exact .nilm|mp l h=>rw[<-hl];exact .mp l (ha▸h)|yl l h=>rw[<-hl];exact .yl l (ha▸h)|agg cs vs h1 _ ih=>exact .agg cs vs h1 ih|tup cs vs h1 _ ih=>exact .tup cs vs h1 ih
theorem pN.freeze{E:tW}{g0 g:G}{H0 H:Hp}{a:Act}{fr:eY}(hz:uD E.gl)(hc:pN E g0 H0 g a fr H){d k:Nat}{t0 t:T}(hd:d<fr.length)(h:pF k H (qW fr d)=some t0)(hcv:∀g v,Rd g v t0->Rd g v t):pN E g0 H0 (g.frz H g) a (fr.set d t) ⟨H.next,.nl⟩:=by
 refine⟨fun b hb=> ?_,St.nl _ _ hc.st.new,GlOk.frz hz hc.st hc.gl,hc.df,⟨by simp[hc.fr.1],fun j v c hv hcj=> ?_⟩,?_⟩
 .rcases hb with hb|⟨l,o,ho,rfl⟩
  .exact hc.ok b hb
  .exact hc.st.lt (pJ ho).1
 .rw[cZ]at hcj;by_cases e:d=j
  .subst e;rw[if_pos rfl,if_pos hd]at hcj;cases hcj;rw[sG,aX,aC hd]at h;exact hcv _ _ <|JU hc.st k _ _ _ h (hc.fr.2 d v _ hv (aC hd))
  .rw[if_neg e]at hcj;exact Rd.grow (g:=g) (g':=g.frz H g) rfl (fun _ q=>Or.inl q) rfl rfl rfl (hc.fr.2 j v c hv hcj)
 .have e3:=hc.step;refine⟨e3.os,e3.tape,e3.output,e3.size,e3.block,fun b hb=> .inl (e3.sub b hb),fun b hb=> ?_,e3.al,e3.loc,e3.cp,fun l o ho=>(by rw[sV]at ho;cases ho)⟩;rcases hb with hb|⟨l,o,ho,rfl⟩
  .exact e3.fresh b hb
  .rcases e3.live l o (pJ ho).1 with⟨l0,o0,q1,q2⟩|q
   .exact .inr (.inr ⟨l0,o0,q1,q2⟩)
   .exact .inr (.inl q)
theorem Kr{P:fA}{E:tW}{c:Code}{fr:eY}{H:Hp}{Q:fW}(hz:uD E.gl){d k:Nat}{t0 t:T}(hd:d<fr.length)(h:pF k H (qW fr d)=some t0)(hcv:∀g v,Rd g v t0->Rd g v t)(hG:Good P E c (fr.set d t) ⟨H.next,.nl⟩ Q):Good P E c fr H Q:=
 fun g0 g H0 a hc R hR=>hG g0 (g.frz H g) H0 a (hc.freeze hz hd h hcv) R hR
theorem aGu{keep:fN}{fr vs:eY}{p d:Nat}{t:T}(h1:keep.map (qW fr)=vs)(h2:keep[p]? =some d)(h3:d<fr.length)(h4:keep.Nodup):qW fr d=vs.getD p oL/\keep.map (qW (fr.set d t))=vs.set p t:=by
 have hp:p<keep.length:=(aK.1 h2).1;subst h1;refine⟨by rw[aX,aY,h2];rfl,?_⟩;apply eB;intro q;rw[aY,cZ];by_cases e:p=q
 .subst e;rw[h2,if_pos rfl,if_pos (by simpa using hp)];simp only[bW,sG];rw[aX,List.getElem?_set_self h3];rfl
 .rw[if_neg e,aY];cases hq:keep[q]? with
  |none=>rfl
  |some d'=>
   simp only[bW,sG];have hne:d≠d':=by
    intro e';subst e';have h5:=(aK.1 h2).2;obtain⟨hq1,hq2⟩:=aK.1 hq;have hpw:=List.pairwise_iff_getElem.1 h4;rcases Nat.lt_or_gt_of_ne e with q1|q1
    .exact hpw p q hp hq1 q1 (h5.trans hq2.symm)
    .exact hpw q p hq1 hp q1 (hq2.trans h5.symm)
   rw[aX,aX,cX hne]
def uF.Inv{S:Type}(M:uF S)(r:T)(n j:Nat)(fr:eY)(H:Hp):Prop:=∃m s,m<n/\M.lp s=j/\M.run m s=some r/\M.At s fr H
def Imp:List (List T->Hp->Prop)->List (List T->Hp->Prop)->Prop
 |[],_ =>True|_ ::_,[]=>False|A::As,B::Bs=>(∀fr H,A fr H->B fr H)/\Imp As Bs
section
variable{P:fA}{D:Ed}{F:Fc}{fn:Func}{k:Nat}{S:Type}{M:uF S}
theorem qO{E:tW}{Q:fW}:∀(ks:jF) (As Bs:gX),Imp As Bs->∀x fr H,rN P E Q ks As x fr H->rN P E Q ks Bs x fr H
 |[],_,_,_,x,fr,H,h=>h
 | .seq d::ks,As,Bs,hi,x,fr,H,h=>by
  simp only[rN]at h⊢;cases x with
  |normal=>exact Good.mono h (qO ks As Bs hi)|exit id=>exact qO ks As Bs hi _ fr H h|ret=>exact qO ks As Bs hi _ fr H h
 | .blk id::ks,As,Bs,hi,x,fr,H,h=>by
  simp only[rN]at h⊢;cases x with
  |normal=>exact qO ks As Bs hi _ fr H h
  |exit id'=>
   simp only[AJ]at h⊢;split
   .rename_i e;rw[if_pos e]at h;exact qO ks As Bs hi _ fr H h
   .rename_i e;rw[if_neg e]at h;exact qO ks As Bs hi _ fr H h
  |ret=>exact qO ks As Bs hi _ fr H h
 | .lp::ks,[],Bs,hi,x,fr,H,h=>by
  simp only[rN]at h;cases Bs with
  |nil=>
   simp only[rN];cases x with
   |normal=>exact h.elim|exit id=>exact qO ks [] [] hi _ fr H h|ret=>exact qO ks [] [] hi _ fr H h
  |cons B Bs=>
   simp only[rN];cases x with
   |normal=>exact h.elim|exit id=>exact qO ks [] Bs trivial _ fr H h|ret=>exact qO ks [] Bs trivial _ fr H h
 | .lp::ks,A::As,[],hi,x,fr,H,h=>hi.elim
 | .lp::ks,A::As,B::Bs,hi,x,fr,H,h=>by
  simp only[rN]at h⊢;cases x with
  |normal=>exact hi.1 fr H h|exit id=>exact qO ks As Bs hi.2 _ fr H h|ret=>exact qO ks As Bs hi.2 _ fr H h
theorem Fu{α:Type}(f g:α->List T->Hp->Prop):∀(l:List α),(∀a∈l,∀fr H,f a fr H->g a fr H)->Imp (l.map f) (l.map g)
 |[],_ =>trivial|a::l,h=>⟨h a (by simp),Fu f g l fun b hb=>h b (by simp[hb])⟩
theorem Imp.drop:∀(j:Nat) (As Bs:gX),Imp As Bs->Imp (As.drop j) (Bs.drop j)
 |0,As,Bs,h=>h|j+1,[],Bs,_ =>by simp[Imp]|j+1,A::As,[],h=>h.elim|j+1,A::As,B::Bs,h=>Imp.drop j As Bs h.2
theorem Rr(x:Cx P D F)(hz:uD D.gl)(hw:M.WaysF P D F fn k)(hc:∀s,codeOk (qF fn (M.lp s)).1=true/\CE (.lp::(qF fn (M.lp s)).2)=true)(r:T):∀(n:Nat) (s:S) (fr:eY) (H:Hp),M.run n s=some r->M.At s fr H->
  Good P D.env (.loop (qF fn (M.lp s)).1) fr H (rN P D.env (Pp P fn k r) (qF fn (M.lp s)).2 ((M.par (M.lp s)).map (M.Inv r n))):=by
 intro n
 induction n using Nat.strongRecOn with
 |ind n ih=>
  intro s fr H hr hat;refine Zl (fun m fr H=>∃s',M.lp s'=M.lp s/\m<=n/\M.run m s'=some r/\M.At s' fr H) (fun m fr H ⟨s1,e1,hm,hr1,hat1⟩=> ?_) n fr H ⟨s,rfl,aZ _,hr,hat⟩;cases m with
  |zero=>simp[uF.run]at hr1
  |succ m=>
   simp only[uF.run]at hr1;cases hst:M.step s1 with
   |none=>rw[hst]at hr1;cases hr1
   |some o=>
    rw[hst]at hr1;have hl:=hw s1 o fr hst;obtain⟨q1,q2,q3⟩:=hat1;rw[aTs q1 q2,<-q3,e1]at hl;obtain⟨c1,c2⟩:=hc s1;rw[e1]at c1 c2;show Good P D.env (qF fn (M.lp s)).1 fr H (rN P D.env (Pp P fn k r) (.lp::(qF fn (M.lp s)).2) ((fun fr' H'=>∃m'<m+1,∃s',M.lp s'=M.lp s/\m'<=n/\M.run m' s'=some r/\M.At s' fr' H')::(M.par (M.lp s)).map (M.Inv r n)));have hi:∀m',m'=m->Imp ((M.lp s::M.par (M.lp s)).map (M.Inv r m)) ((fun fr' H'=>∃m'<m+1,∃s',M.lp s'=M.lp s/\m'<=n/\M.run m' s'=some r/\M.At s' fr' H')::(M.par (M.lp s)).map (M.Inv r n)):=fun _ _ =>
     ⟨fun fr H ⟨m',s',a1,a2,a3,a4⟩=>⟨m',by omega,s',a2,by omega,a3,a4⟩,Fu _ _ _ fun i _ fr H ⟨m',s',a1,a2,a3,a4⟩=>⟨m',s',by omega,a2,a3,a4⟩⟩
    rcases hl with hl|⟨s2,rfl,N,ds,log,j,H',vs',p,d,k',t0,t,h1,h2,h3,f1,f1c,f2,f3,f4,f5,f6⟩
    rotate_left
    .simp only at hr1;refine x.loop c1 c2 h1 h2 (fun fr' k1 k2=> ?_);obtain⟨z1,z2⟩:=aGu (t:=t) k1 f2 (by omega) f4;refine Kr (d:=d) (k:=k') (t:=t) hz (by omega) (by rw[z1];exact f1) f1c ?_;have:=ih m (by omega) s2 (fr'.set d t) (M.hp s2) hr1 ⟨by rw[z2,f5],by simpa using k2,rfl⟩;rw[f6]at this;refine this.mono (qO _ _ _ ?_);rw[<-h3];have:=Imp.drop j _ _ (hi m rfl)
     rwa [<-List.map_drop]at this
    cases o with
    |inr r'=>
     simp only[aD]at hr1;subst hr1;obtain⟨N,ds,log,kp,H',vs,len,h1,h2⟩:=hl;exact x.done c1 c2 h1 rfl h2
    |inl s2=>
     simp only at hr1;rcases hl with⟨N,ds,log,j,h1,h2,h3⟩|⟨N,ds,log,j,h1,h2,h3⟩
     .cases j with
      |zero=>
       simp only[cA,aD]at h3;exact x.again c1 c2 h1 h2 rfl (fun fr' k1 k2=>⟨m,by omega,s2,h3.symm,by omega,hr1,k1,k2,rfl⟩)
      |succ j=>
       simp only[dK]at h3;refine x.again c1 c2 h1 h2 (A:=M.Inv r n (M.lp s2)) ?_ (fun fr' k1 k2=>⟨m,s2,by omega,rfl,hr1,k1,k2,rfl⟩);simp only[dK,aY,h3,bW]
     .refine x.loop c1 c2 h1 h2 (fun fr' k1 k2=> ?_);have:=ih m (by omega) s2 fr' (M.hp s2) hr1 ⟨k1,k2,rfl⟩;refine this.mono (qO _ _ _ ?_);rw[<-h3];have hi:Imp ((M.lp s::M.par (M.lp s)).map (M.Inv r m)) ((fun fr' H'=>∃m'<m+1,∃s',M.lp s'=M.lp s/\m'<=n/\M.run m' s'=some r/\M.At s' fr' H')::(M.par (M.lp s)).map (M.Inv r n)):=
       ⟨fun fr H ⟨m',s',a1,a2,a3,a4⟩=>⟨m',by omega,s',a2,by omega,a3,a4⟩,Fu _ _ _ fun i _ fr H ⟨m',s',a1,a2,a3,a4⟩=>⟨m',s',by omega,a2,a3,a4⟩⟩
      have:=Imp.drop j _ _ hi
      rwa [<-List.map_drop]at this
theorem Se{c:Code}{f:fT}{d:Nat}(x:Cx P D F)(hz:uD D.gl)(h1:tY P f=true)(hfn:P.funcs[f]? =some fn)(hb:fn.body=some c)(hcb:oZ fn=c)(hco:codeOk c=true){ts:eY}(hts:mapO (pF d ⟨0,.nl⟩) ts=some ts){L:Nat}(hL:fn.ntmps-ts.length=L)
  (hw:M.WaysF P D F fn k) (hc:∀s,codeOk (qF fn (M.lp s)).1=true/\CE (.lp::(qF fn (M.lp s)).2)=true) {o:S⊕T}
  (hl:M.Leads P D F fn k [] (oZ fn) [] (ts++List.replicate L oL) ⟨0,.nl⟩ o) {n:Nat} {r:T} (hr:M.fin n o=some r):oK P D.gl f ts r:=by
 subst hcb;subst hL;refine Rz (E:=D.env) (k:=k) (d:=d) (fn:=fn) (c:=oZ fn) hz h1 hfn hb hts ?_;show Good P D.env (oZ fn) (ts++List.replicate (fn.ntmps-ts.length) oL) ⟨0,.nl⟩ (rN P D.env (Pp P fn k r) [] []);cases o with
 |inr r'=>
  simp only[uF.fin,aD]at hr;subst hr;obtain⟨N,ds,log,kp,H',vs,len,h1,h2⟩:=hl;exact x.done hco rfl h1 rfl h2
 |inl s=>
  rcases hl with⟨N,ds,log,j,h1,h2,h3⟩|⟨N,ds,log,j,h1,h2,h3⟩
  .simp at h3
  .refine x.loop hco rfl h1 h2 (fun fr' k1 k2=> ?_);have:=Rr x hz hw hc r n s fr' (M.hp s) hr ⟨k1,k2,rfl⟩;rw[<-h3]at this;simpa using this
theorem pure_mach{c:Code}{f:fT}{d:Nat}(x:Cx P D F)(hz:uD D.gl)(h1:tY P f=true)(hfn:P.funcs[f]? =some fn)(hb:fn.body=some c)(hcb:oZ fn=c)(hco:codeOk c=true){ts:eY}(hts:mapO (pF d ⟨0,.nl⟩) ts=some ts){L:Nat}(hL:fn.ntmps-ts.length=L)
  (hw:M.Ways P D F fn k) (hc:∀s,codeOk (qF fn (M.lp s)).1=true/\CE (.lp::(qF fn (M.lp s)).2)=true) {o:S⊕T}
  (hl:M.Leads P D F fn k [] (oZ fn) [] (ts++List.replicate L oL) ⟨0,.nl⟩ o) {n:Nat} {r:T} (hr:M.fin n o=some r):oK P D.gl f ts r:=
 Se x hz h1 hfn hb hcb hco hts hL (fun s o fr h=> .inl (hw s o fr h)) hc hl hr
def xF:uF Empty:={lp:=fun _ =>0,keep:=fun _ =>[],par:=fun _ =>[],vs:=fun _ =>[],hp:=fun _ =>⟨0,.nl⟩,len:=0,step:=fun _ =>none}
theorem qY:xF.Ways P D F fn k:=fun s=>s.elim
end
end Go.Ps
namespace Go.Ps
structure Sp where
 entry:Int
 n:Nat
 at_ :Nat->Int
structure Ln where
 st:Sp
 mass:Int
 k:Nat
 from_ :Nat->Sp
 fate:Int
 closed:Int
 node:List UInt8
structure Ct where
 entries:Int
 accepted:Int
 delivered:Int
 waiting:Int
 letters:Int
 discarded:Int
 n:Nat
 line:Nat->Ln
def spT(s:Sp):T:= .agg [.int .i64 s.entry,.slf false s.n (fun i=> .int .i64 (s.at_ i))]
def lnT(x:Ln):T:= .agg [.int .i64 x.st.entry,.slf false x.st.n (fun i=> .int .i64 (x.st.at_ i)),.int .i64 x.mass,.slf false x.k (fun i=>spT (x.from_ i)),.int .i64 x.fate,.int .i64 x.closed,.str x.node]
def ctT(c:Ct):T:= .agg [.int .i64 c.entries,.int .i64 c.accepted,.int .i64 c.delivered,.int .i64 c.waiting,.int .i64 c.letters,.int .i64 c.discarded,.slf false c.n (fun i=>lnT (c.line i))]
def slN:T->Nat
 | .slf _ n _ =>n|_ =>0
def slF:T->Nat->T
 | .slf _ _ f=>f|_ =>fun _ =>oL
def strv:T->List UInt8
 | .str s=>s|_ =>[]
def spv:T->Sp
 | .agg [e,p]=>⟨BK e,slN p,fun i=>BK (slF p i)⟩|_ =>⟨0,0,fun _ =>0⟩
def lnv:T->Ln
 | .agg [e,p,m,fs,fa,cl,nd]=>⟨⟨BK e,slN p,fun i=>BK (slF p i)⟩,BK m,slN fs,fun i=>spv (slF fs i),BK fa,BK cl,strv nd⟩|_ =>⟨⟨0,0,fun _ =>0⟩,0,0,fun _ =>⟨0,0,fun _ =>0⟩,0,0,[]⟩
def ctv:T->Ct
 | .agg [a,b,c,d,e,f,l]=>⟨BK a,BK b,BK c,BK d,BK e,BK f,slN l,fun i=>lnv (slF l i)⟩|_ =>⟨0,0,0,0,0,0,0,fun _ =>lnv oL⟩
noncomputable def isV(t u:T):Bool:= @decide (t=u) (Classical.propDecidable _)
theorem aNu{t u:T}:isV t u=true↔t=u:=by unfold isV;simp
@[simp]theorem bAe(t:T):isV t t=true:=aNu.2 rfl
@[simp]theorem bFv(s:Sp):spv (spT s)=s:=rfl
@[simp]theorem bFl(x:Ln):lnv (lnT x)=x:=rfl
@[simp]theorem bFg(c:Ct):ctv (ctT c)=c:=rfl
end Go.Ps
namespace Go.Ps
structure Vl where
 kind:Int
 int:Int
 scale:Int
 text:List UInt8
 n:Nat
 list:Nat->T
 m:Nat
 fld:Nat->T
structure Fd where
 name:List UInt8
 val:Vl
structure Ex where
 op:Int
 int:Int
 text:List UInt8
 nv:Nat
 val:Nat->T
 na:Nat
 arg:Nat->T
def vlC(v:Vl):List T:=[.int .i64 v.kind,.int .i64 v.int,.int .i64 v.scale,.str v.text,.slf false v.n v.list,.slf false v.m v.fld]
def tQ(v:Vl):T:= .agg (vlC v)
def OA(f:Fd):T:= .agg [.str f.name,.int .i64 f.val.kind,.int .i64 f.val.int,.int .i64 f.val.scale,.str f.val.text,.slf false f.val.n f.val.list,.slf false f.val.m f.val.fld]
def Qx(e:Ex):T:= .agg [.int .i64 e.op,.int .i64 e.int,.str e.text,.slf false e.nv e.val,.slf false e.na e.arg]
def vlv:T->Vl
 | .agg [k,i,s,t,l,f]=>⟨BK k,BK i,BK s,strv t,slN l,slF l,slN f,slF f⟩|_ =>⟨0,0,0,[],0,fun _ =>oL,0,fun _ =>oL⟩
def fdv:T->Fd
 | .agg [a,k,i,s,t,l,f]=>⟨strv a,⟨BK k,BK i,BK s,strv t,slN l,slF l,slN f,slF f⟩⟩|_ =>⟨[],⟨0,0,0,[],0,fun _ =>oL,0,fun _ =>oL⟩⟩
def exv:T->Ex
 | .agg [o,i,t,v,a]=>⟨BK o,BK i,strv t,slN v,slF v,slN a,slF a⟩|_ =>⟨0,0,[],0,fun _ =>oL,0,fun _ =>oL⟩
@[simp]theorem TJ(v:Vl):vlv (tQ v)=v:=rfl
@[simp]theorem bFi(f:Fd):fdv (OA f)=f:=rfl
@[simp]theorem SS(e:Ex):exv (Qx e)=e:=rfl
inductive Iz:T->Prop
 |mk (v:Vl) (hl:∀i,i<v.n->Iz (v.list i)) (hf:∀i,i<v.m->v.fld i=OA (fdv (v.fld i))) (hw:∀i,i<v.m->Iz (tQ (fdv (v.fld i)).val)):Iz (tQ v)
inductive WfE:T->Prop
 |mk (e:Ex) (hv:∀i,i<e.nv->Iz (e.val i)) (ha:∀i,i<e.na->WfE (e.arg i)):WfE (Qx e)
theorem Iz.eq{t:T}(h:Iz t):t=tQ (vlv t):=by cases h;rfl
theorem Iz.list{v:Vl}(h:Iz (tQ v)){i:Nat}(hi:i<v.n):Iz (v.list i):=by
 generalize ht:tQ v=t at h;cases h with
 |mk v' hl hf hw=>
  have e:v=v':=by rw[<-TJ v,ht,TJ]
  subst e;exact hl i hi
theorem Iz.fld{v:Vl}(h:Iz (tQ v)){i:Nat}(hi:i<v.m):v.fld i=OA (fdv (v.fld i))/\Iz (tQ (fdv (v.fld i)).val):=by
 generalize ht:tQ v=t at h;cases h with
 |mk v' hl hf hw=>
  have e:v=v':=by rw[<-TJ v,ht,TJ]
  subst e;exact⟨hf i hi,hw i hi⟩
theorem WfE.eq{t:T}(h:WfE t):t=Qx (exv t):=by cases h;rfl
theorem WfE.val{e:Ex}(h:WfE (Qx e)){i:Nat}(hi:i<e.nv):Iz (e.val i):=by
 generalize ht:Qx e=t at h;cases h with
 |mk e' hv ha=>
  have q:e=e':=by rw[<-SS e,ht,SS]
  subst q;exact hv i hi
theorem WfE.arg{e:Ex}(h:WfE (Qx e)){i:Nat}(hi:i<e.na):WfE (e.arg i):=by
 generalize ht:Qx e=t at h;cases h with
 |mk e' hv ha=>
  have q:e=e':=by rw[<-SS e,ht,SS]
  subst q;exact ha i hi
end Go.Ps
namespace Go.Ps
section
variable{H:Type}{enc:TypeId×Value->H}{P:fA}{W:gI}
instance:Inhabited Vl:=⟨⟨0,0,0,[],0,fun _ =>oL,0,fun _ =>oL⟩⟩
instance:Inhabited Fd:=⟨⟨[],default⟩⟩
instance:Inhabited Ex:=⟨⟨0,0,[],0,fun _ =>oL,0,fun _ =>oL⟩⟩
structure aSe(P:fA)(tV tI tS tLV tF tLF:eX):Prop where
 i:P.underlying tI=some (.int .i64)
 s:P.underlying tS=some .string
 lv:P.underlying tLV=some (.slice tV)
 lf:P.underlying tLF=some (.slice tF)
 cV:P.cellsOf tV=6
 cF:P.cellsOf tF=7
 v0:fieldAt P tV 0=some (tI,0,1)
 v1:fieldAt P tV 1=some (tI,1,1)
 v2:fieldAt P tV 2=some (tI,2,1)
 v3:fieldAt P tV 3=some (tS,3,1)
 v4:fieldAt P tV 4=some (tLV,4,1)
 v5:fieldAt P tV 5=some (tLF,5,1)
 f0:fieldAt P tF 0=some (tS,0,1)
 f1:fieldAt P tF 1=some (tV,1,6)
theorem aRg{tV tI tS tLV tF tLF:eX}(h:aSe P tV tI tS tLV tF tLF):∀(n:Nat) (cs:fM) (y:DataW H×List MemPlace),DataW.trod enc P W 0 (fun _ =>true) true n tV cs=some y->∃v:Vl,vJ (G.start W) cs (vlC v)/\Iz (tQ v):=by
 intro n
 induction n using Nat.strongRecOn with
 |ind n ih=>
  intro cs y hy;have hI:rI enc P W tI (fun n:Int=>[T.int .i64 n]) (fun n=>IntKind.i64.has n):=rI.int h.i;have hS:rI enc P W tS (fun s:List UInt8=>[T.str s]) (fun s=>s.length<=maxLen):=rI.str h.s;obtain⟨a0,h0,_⟩:=hI.field hy h.v0;obtain⟨a1,h1,_⟩:=hI.field hy h.v1;obtain⟨a2,h2,_⟩:=hI.field hy h.v2;obtain⟨a3,h3,_⟩:=hS.field hy h.v3;obtain⟨hl,n4,y4,hn4,e4⟩:=DV hy h.v4;obtain⟨_,n5,y5,hn5,e5⟩:=DV hy h.v5;obtain⟨x4,h4,_,k4⟩:=rI.sliceN (N:=n4) (A:=Vl) (mk:=vlC) (ok:=fun v=>Iz (tQ v)) tQ h.lv h.cV (by decide) (fun _ =>rfl) (fun _ =>rfl)
   (fun n' hn' cs y hy=>ih n' (by omega) cs y hy) n4 (aZ _) _ _ e4
  obtain⟨x5,h5,_,k5⟩:=rI.sliceN (N:=n5) (A:=Fd) (mk:=fun f=>(OA f).cells) (ok:=fun f=>Iz (tQ f.val)) OA h.lf h.cF (by decide) (fun _ =>rfl) (fun _ =>rfl)
   (fun n' hn' cs y hy=>by
    obtain⟨b0,g0,_⟩:=hS.field hy h.f0;obtain⟨hlf,m1,y1,hm1,e1⟩:=DV hy h.f1;obtain⟨v,g1,w⟩:=ih m1 (by omega) _ _ e1
    exact⟨⟨b0,v⟩,by have:=g0.cut (g1.cut (vJ.end_ (hlf.trans h.cF)));rw[eP]at this;exact this,w⟩) n5 (aZ _) _ _ e5
  refine⟨⟨a0,a1,a2,a3,x4.1,fun i=>tQ (x4.2 i),x5.1,fun i=>OA (x5.2 i)⟩,?_,?_⟩
  .have:=h0.cut (h1.cut (h2.cut (h3.cut (h4.cut (h5.cut (vJ.end_ (hl.trans h.cV)))))));rw[eP]at this;exact this
  .exact .mk _ k4 (fun i _ =>rfl) k5
structure aXj(P:fA)(tE tI tS tLV tLE:eX):Prop where
 le:P.underlying tLE=some (.slice tE)
 cE:P.cellsOf tE=5
 e0:fieldAt P tE 0=some (tI,0,1)
 e1:fieldAt P tE 1=some (tI,1,1)
 e2:fieldAt P tE 2=some (tS,2,1)
 e3:fieldAt P tE 3=some (tLV,3,1)
 e4:fieldAt P tE 4=some (tLE,4,1)
theorem bDg{tV tI tS tLV tF tLF tE tLE:eX}(h:aSe P tV tI tS tLV tF tLF)(k:aXj P tE tI tS tLV tLE):∀(n:Nat) (cs:fM) (y:DataW H×List MemPlace),DataW.trod enc P W 0 (fun _ =>true) true n tE cs=some y->∃e:Ex,vJ (G.start W) cs (Qx e).cells/\WfE (Qx e):=by
 intro n
 induction n using Nat.strongRecOn with
 |ind n ih=>
  intro cs y hy;have hI:rI enc P W tI (fun n:Int=>[T.int .i64 n]) (fun n=>IntKind.i64.has n):=rI.int h.i;have hS:rI enc P W tS (fun s:List UInt8=>[T.str s]) (fun s=>s.length<=maxLen):=rI.str h.s;obtain⟨a0,h0,_⟩:=hI.field hy k.e0;obtain⟨a1,h1,_⟩:=hI.field hy k.e1;obtain⟨a2,h2,_⟩:=hS.field hy k.e2;obtain⟨hl,n3,y3,hn3,e3⟩:=DV hy k.e3;obtain⟨_,n4,y4,hn4,e4⟩:=DV hy k.e4;obtain⟨x3,h3,_,k3⟩:=rI.sliceN (N:=n3) (A:=Vl) (mk:=vlC) (ok:=fun v=>Iz (tQ v)) tQ h.lv h.cV (by decide) (fun _ =>rfl) (fun _ =>rfl)
   (fun n' _ cs y hy=>aRg h n' cs y hy) n3 (aZ _) _ _ e3
  obtain⟨x4,h4,_,k4⟩:=rI.sliceN (N:=n4) (A:=Ex) (mk:=fun e=>(Qx e).cells) (ok:=fun e=>WfE (Qx e)) Qx k.le k.cE (by decide) (fun _ =>rfl) (fun _ =>rfl)
   (fun n' hn' cs y hy=>ih n' (by omega) cs y hy) n4 (aZ _) _ _ e4
  refine⟨⟨a0,a1,a2,x3.1,fun i=>tQ (x3.2 i),x4.1,fun i=>Qx (x4.2 i)⟩,?_,?_⟩
  .have:=h0.cut (h1.cut (h2.cut (h3.cut (h4.cut (vJ.end_ (hl.trans k.cE))))));rw[eP]at this;exact this
  .exact .mk _ k3 k4
end
end Go.Ps
namespace Go.Ps
noncomputable section
abbrev gD:=Option Nat
def Fw(ro:gD):Fence:={Fence.wide with round:=ro}
abbrev gE:=List Deferred
def DS(ds:gE)(a:Act):Act:={a with defers:=a.defers++ds}
abbrev iX:=Ending->World->Prop
theorem sW{ro:gD}{n:Nat}{P:fA}{f:fT}{args:fU}{w:gI}{R:iX}:CallsIn (Fw ro) n P f args w R↔Calls P f args w R:=
 (callsIn_wide (n:=n) (P:=P) (f:=f) (args:=args) (w:=w) (R:=R))
theorem aBc{ro:gD}{n:Nat}{P:fA}{row:String}{args:fU}{w:gI}{R:Value->World->Prop}(h:Rows P row args w R):RowsIn (Fw ro) n P row args w R:=
 fun c cs _ =>let⟨v,w',r,s⟩:=h c cs;⟨v,w',r,(stepsIn_wide (P:=P)).2 s⟩
section
variable{P:fA}{ops:fC}{Q:fF}{ro:gD}{n:Nat}{ds:gE}
theorem JQ(a:Act)(d:gQ)(v:fP):DS ds (a.put d v)=(DS ds a).put d v:=by cases d<;>rfl
theorem aPc{o:Oper}(hd:∀c,o.op≠ .defer c){K K':gH}(hno:∀a w,¬Q .outgrown a w)(hK:∀a w,K a w->K' (DS ds a) w){a:Act}{w:gI}(h:o.wp P a w K (fun e a w=>Q e (DS ds a) w)):
  o.wpIn (Fw ro) n P (DS ds a) w K' Q:=by
 refine⟨fun _ _ =>trivial,?_⟩;have e:o.semAt (Fw ro).round (DS ds a).eval=execOp a.eval o:=Oper.semAt_eq _ _ _ hd;rw[e];unfold Oper.wp at h;have hl:¬LetsOut (fun e a w=>Q e (DS ds a) w):=fun⟨a,w,h⟩=>hno _ _ h;generalize (execOp a.eval o).run P w=r at h;cases r with
 |ok x w'=>
  cases x with
  |value v=>simp only[Oper.upon,Oper.uponIn]at h⊢;rw[<-JQ];exact hK _ _ h|skip=>simp only[Oper.upon,Oper.uponIn]at h⊢;rw[<-JQ];exact hK _ _ h
  |enter f args=>
   simp only[Oper.upon,Oper.uponIn]at h⊢;refine⟨fun q=>(by cases q),sW.2 (h.mono ?_)⟩;intro e w'' he;cases e with
   |returned v=>simp only at he⊢;rw[<-JQ];exact hK _ _ he|panicked chain=>exact he|outgrown=>exact absurd he hl
  |row r args=>
   simp only[Oper.upon,Oper.uponIn]at h⊢;refine⟨fun q=>(by cases q),aBc (h.mono ?_)⟩;intro v w'' he;rw[<-JQ];exact hK _ _ he
  |defer d=>
   simp only[Oper.upon,Oper.uponIn]at h⊢;have:=hK _ _ h
   rwa [JQ]at this
  |_ =>simp only[Oper.upon]at h
 |halt x w'=>cases x<;>simp only[Oper.upon,Oper.uponIn]at h⊢<;>exact h
theorem Dx(o:Oper)(a:Act):Region.wanted o (yielded ops (DS ds a).tmps)=Region.wanted o (yielded ops a.tmps):=rfl
def sQ(ops:fC):Bool:=ops.toList.all fun o=>match o.op with
  | .defer _ =>false|_ =>true
theorem GY(h:sQ ops=true){i:Nat}{o:Oper}(ho:ops[i]? =some o):∀c,o.op≠ .defer c:=by
 intro c hc;unfold sQ at h;rw[aG]at h;have:=h o (by rw[Array.mem_toList_iff];exact Array.mem_of_getElem? ho);rw[hc]at this;cases this
theorem IU(hp:sQ ops=true){i:Nat}{K K':gH}(hno:∀a w,¬Q .outgrown a w)(hK:∀a w,K a w->K' (DS ds a) w){a:Act}{w:gI}(h:wpOp P ops (fun e a w=>Q e (DS ds a) w) i K a w):
  wpOpIn (Fw ro) n P ops Q i K' (DS ds a) w:=by
 unfold wpOp at h;unfold wpOpIn;split
 .rename_i ho;rw[ho]at h;exact hK _ _ h
 .rename_i o ho;rw[ho]at h;simp only at h;rw[Dx];split
  .rename_i hw;rw[if_pos hw]at h;rcases h with h|⟨_,a',w',h⟩
   .exact aPc (GY hp ho) hno hK h
   .exact absurd h (hno _ _)
  .rename_i hw;rw[if_neg hw]at h;refine⟨fun _ _ =>trivial,?_⟩;rw[<-JQ];exact hK _ _ h
theorem YN(hp:sQ ops=true)(hno:∀a w,¬Q .outgrown a w):∀(l:fN) (a:Act) (w:gI),wpOps P ops (fun e a w=>Q e (DS ds a) w) l a w->wpOpsIn (Fw ro) n P ops Q l (DS ds a) w
 |[],a,w,h=>h
 |i::l,a,w,h=>by
  rw[wpOps_cons]at h;rw[wpOpsIn_cons];exact IU hp hno (fun a w h=>YN hp hno l a w h) h
theorem NL(hp:sQ ops=true){md:Region.Mode}(hno:∀a w,¬Q .outgrown a w):∀(fuel:Nat) (listed:gL) (a:Act) (w:gI),wpAny P md ops (fun e a w=>Q e (DS ds a) w) fuel listed a w->wpAnyIn (Fw ro) n P md ops Q fuel listed (DS ds a) w
 |0,listed,a,w,h=>h|fuel+1,listed,a,w,h=>⟨h.1,fun i hi=>IU hp hno (fun a w h=>NL hp hno fuel _ a w h) (h.2 i hi)⟩
variable{E:tW}{F:Fc}
theorem QD(hm:P.follows .mixedOrders=true)(hE:tP P E.gl E.pe)(hF:rG P E.gl F.ee){id:Nat}{draw:Bool}(hp:sQ ops=true)(hok:draw=true->uU ops=true){fr fr':eY}{H H':Hp}
  (he:(if draw then qK P E F ops fr H else pL P E F ops ops.toList ⟨fr,H,none⟩)=some ⟨fr',H',none⟩) {g0 g:G} {H0:Hp} {a:Act} (hc:pN E g0 H0 g a fr H)
  (hno:∀a w,¬Q .outgrown a w) (hQ:∀a' g',pN E g0 H0 g' a' fr' H'->Q .normal (DS ds a') g'.w):(Code.region id ops draw).wpIn (Fw ro) n P Q (DS ds a) g.w:=by
 have:=RO (Q:=fun e a w=>Q e (DS ds a) w) hE hF hok he hc hQ;cases draw with
 |false=>exact wpIn_region (YN hp hno _ _ _ this)|true=>exact wpIn_region_any hm (NL hp hno _ _ _ _ this)
def sD:Code->Bool
 | .region _ ops _ =>sQ ops| .seq a b| .cond _ a b=>sD a&&sD b| .block _ c| .loop c=>sD c| .skip| .label _ | .exit _ | .ret=>true|_ =>false
theorem tU{K:gH}(hno:∀a w,¬Q .outgrown a w):∀a w,¬Exit.then K Q .outgrown a w:=fun a w h=>hno a w h
theorem SM(hm:P.follows .mixedOrders=true)(hE:tP P E.gl E.pe)(hF:rG P E.gl F.ee)(m:Nat):∀(c:Code) (fr:eY) (H:Hp) (x:X) (fr':eY) (H':Hp),codeOk c=true->sD c=true->oP P E F m c fr H=some (x,fr',H')->
  ∀(g0 g:G) (H0:Hp) (a:Act),pN E g0 H0 g a fr H->∀(Q:fF),(∀a w,¬Q .outgrown a w)->(∀a' g',pN E g0 H0 g' a' fr' H'->Q x.exit_ (DS ds a') g'.w)->c.wpIn (Fw ro) n P Q (DS ds a) g.w:=by
 intro c
 induction c with
 |skip=>
  intro fr H x fr' H' _ _ he g0 g H0 a hc Q hno hQ;simp only[oP,aD,aQ]at he;obtain⟨rfl,rfl,rfl⟩:=he;exact wpIn_skip (hQ a g hc)
 |label l=>
  intro fr H x fr' H' _ _ he g0 g H0 a hc Q hno hQ;simp only[oP,aD,aQ]at he;obtain⟨rfl,rfl,rfl⟩:=he;exact wpIn_label (hQ a g hc)
 |region id ops draw=>
  intro fr H x fr' H' hok hin he g0 g H0 a hc Q hno hQ;simp only[oP]at he;split at he
  .rename_i f1 h1 hr;cases he;exact QD hm hE hF hin (fun q=>by subst q;simpa [codeOk]using hok) hr hc hno hQ
  .cases he
 |seq c1 c2 ih1 ih2=>
  intro fr H x fr' H' hok hin he g0 g H0 a hc Q hno hQ;simp only[codeOk,aA]at hok;simp only[sD,aA]at hin;simp only[oP]at he;refine wpIn_seq ?_;split at he
  .rename_i f1 h1 hr;exact ih1 _ _ _ _ _ hok.1 hin.1 hr g0 g H0 a hc _ (tU hno) (fun a' g' hc'=>ih2 _ _ _ _ _ hok.2 hin.2 he g0 g' H0 a' hc' Q hno hQ)
  .rename_i hr;refine ih1 _ _ _ _ _ hok.1 hin.1 he g0 g H0 a hc _ (tU hno) (fun a' g' hc'=> ?_);cases x with
   |normal=>exact absurd he (hr _ _)|exit id=>exact hQ a' g' hc'|ret=>exact hQ a' g' hc'
 |cond o c1 c2 ih1 ih2=>
  intro fr H x fr' H' hok hin he g0 g H0 a hc Q hno hQ;simp only[codeOk,aA]at hok;simp only[sD,aA]at hin;simp only[oP]at he;split at he
  .rename_i b hb;have hr:=(CJ.of hc.fr none).eval hc.gl (fun _ _ =>by simp) hb;refine wpIn_cond (t:=b) (show(DS ds a).eval o= .bool b from hr.inv_bool) ?_;cases b with
   |true=>exact ih1 _ _ _ _ _ hok.1 hin.1 (by simpa using he) g0 g H0 a hc Q hno hQ|false=>exact ih2 _ _ _ _ _ hok.2 hin.2 (by simpa using he) g0 g H0 a hc Q hno hQ
  .cases he
 |block id c ih=>
  intro fr H x fr' H' hok hin he g0 g H0 a hc Q hno hQ;simp only[codeOk]at hok;simp only[sD]at hin;simp only[oP]at he;refine wpIn_block ?_;have hnb:∀a w,¬Exit.inBlock id Q .outgrown a w:=fun a w h=>hno a w h;split at he
  .rename_i id' f1 h1 hr;refine ih _ _ _ _ _ hok hin hr g0 g H0 a hc _ hnb (fun a' g' hc'=> ?_);simp only[X.exit_,Exit.inBlock];split at he
   .rename_i e;cases he;rw[if_pos e];exact hQ a' g' hc'
   .rename_i e;cases he;rw[if_neg e];exact hQ a' g' hc'
  .rename_i hr;refine ih _ _ _ _ _ hok hin he g0 g H0 a hc _ hnb (fun a' g' hc'=> ?_);cases x with
   |normal=>exact hQ a' g' hc'|exit id'=>exact absurd he (hr _ _ _)|ret=>exact hQ a' g' hc'
 |loop c ih=>
  intro fr H x fr' H' hok hin he g0 g H0 a hc Q hno hQ;simp only[codeOk]at hok;simp only[sD]at hin;simp only[oP]at he;refine wpIn_loop_rounds m ?_;have key:∀(k:Nat) (fr:eY) (H:Hp) (a:Act) (g:G),oP.loopN (fun fr H=>oP P E F m c fr H) k fr H=some (x,fr',H')->pN E g0 H0 g a fr H->Code.roundsIn (Fw ro) n P c Q k (DS ds a) g.w:=by
   intro k
   induction k with
   |zero=>intro fr H a g h;simp[oP.loopN]at h
   |succ k ihk=>
    intro fr H a g h hcc;simp only[oP.loopN]at h;rw[roundsIn_succ];split at h
    .rename_i f1 h1 hr;exact ih _ _ _ _ _ hok hin hr g0 g H0 a hcc _ (tU hno) (fun a' g' hc'=>ihk f1 h1 a' g' h hc')
    .rename_i hr;refine ih _ _ _ _ _ hok hin h g0 g H0 a hcc _ (tU hno) (fun a' g' hc'=> ?_);cases x with
     |normal=>exact absurd h (hr _ _)|exit id=>exact hQ a' g' hc'|ret=>exact hQ a' g' hc'
  exact key m fr H a g he hc
 |exit id=>
  intro fr H x fr' H' _ _ he g0 g H0 a hc Q hno hQ;simp only[oP,aD,aQ]at he;obtain⟨rfl,rfl,rfl⟩:=he;exact wpIn_exit (hQ a g hc)
 |ret=>
  intro fr H x fr' H' _ _ he g0 g H0 a hc Q hno hQ;simp only[oP,aD,aQ]at he;obtain⟨rfl,rfl,rfl⟩:=he;exact wpIn_ret (hQ a g hc)
 |_ =>
  intro fr H x fr' H' _ hin;simp[sD]at hin
end
end
end Go.Ps
namespace Go.Ps
noncomputable section
def Zu(k k':gB):Bool:=Nat.beq k.ctorIdx k'.ctorIdx
def eqI(a b:Int):Bool:=
 Int.rec (motive:=fun _ =>Bool) (fun a=>Int.rec (motive:=fun _ =>Bool) (fun b=>Nat.beq a b) (fun _ =>false) b) (fun a=>Int.rec (motive:=fun _ =>Bool) (fun _ =>false) (fun b=>Nat.beq a b) b) a
def eqB(a:fV):List UInt8->Bool:=
 List.rec (motive:=fun _ =>List UInt8->Bool) (fun b=>List.rec (motive:=fun _ =>Bool) true (fun _ _ _ =>false) b)
  (fun x _ ih b=>List.rec (motive:=fun _ =>Bool) false (fun y ys _ =>Bool.rec (motive:=fun _ =>Bool) false (ih ys) (Nat.beq x.toNat y.toNat)) b) a
def ZA{β:Type}(f:β->β->Bool):List β->List β->Bool
 |[],[]=>true|x::xs,y::ys=>f x y&&ZA f xs ys|_,_ =>false
def aTi(f g:Fn):Bool:=match f,g with
 | .func a,.func b=>Nat.beq a b|_,_ =>false
def ZB:Nat->T->T->Bool
 |0,_,_ =>false
 |k+1,x,y=>match x,y with
  | .int a m,.int b n=>Zu a b&&eqI m n| .bool a,.bool b=>a==b| .str a,.str b=>eqB a b| .nilp,.nilp=>true| .ptr a i,.ptr b j=>Nat.beq a b&&Nat.beq i j| .ref a i,.ref b j=>ZB k a b&&Nat.beq i j| .nils,.nils=>true| .sl a xs,.sl b ys=>a==b&&ZA (ZB k) xs ys| .osl a s i n,.osl b s' j m=>Nat.beq a b&&(Nat.beq s s'&&(Nat.beq i j&&Nat.beq n m))| .nilf,.nilf=>true| .fn f a c,.fn g b d=>aTi f g&&(ZA (ZB k) a b&&ZA (ZB k) c d)| .nili,.nili=>true| .iface t a,.iface u b=>Nat.beq t u&&ZB k a b| .nilm,.nilm=>true| .mp a,.mp b=>Nat.beq a b| .yl a,.yl b=>Nat.beq a b| .agg xs,.agg ys=>ZA (ZB k) xs ys| .tup xs,.tup ys=>ZA (ZB k) xs ys|_,_ =>false
def Kd(x y:T):Bool:=ZB 100 x y
def aTj(a b:Option Mo):Bool:=match a,b with
 |none,none=>true|some (.map c es),some (.map d fs)=>Nat.beq c d&&ZA (fun x y=>Nat.beq x.1 y.1&&(Kd x.2.1 y.2.1&&Kd x.2.2 y.2.2)) es fs|_,_ =>false
def aMy(a b:iW):Bool:=match a,b with
 |none,none=>true|some a,some b=>Nat.beq a.elem b.elem&&(Nat.beq a.sz b.sz&&(ZA Kd a.cells b.cells&&aTj a.me b.me))|_,_ =>false
theorem aGt{k k':gB}(h:Zu k k'=true):k=k':=by
 revert h;cases k<;>cases k'<;>first|(intro _;rfl)|decide
theorem aUy{a b:Nat}:Nat.beq a b=true↔a=b:=⟨aB,fun h=>by subst h;exact Nat.beq_refl a⟩
theorem Vb(a b:Int):eqI a b=true↔a=b:=by
 cases a with
 |ofNat a=>cases b with
  |ofNat b=>show Nat.beq a b=true↔(a:Int)=(b:Int);rw[aUy];omega|negSucc b=>show false=true↔(a:Int)=Int.negSucc b;constructor<;>intro h<;>first|cases h|omega
 |negSucc a=>cases b with
  |ofNat b=>show false=true↔Int.negSucc a=(b:Int);constructor<;>intro h<;>first|cases h|omega
  |negSucc b=>show Nat.beq a b=true↔Int.negSucc a=Int.negSucc b;rw[aUy];omega
theorem aFi(a b:Int):eqI a b=(a==b):=by rw[eD,Vb,beq_iff_eq]
theorem Ez:∀(a b:fV),eqB a b=(a==b)
 |[],[]=>rfl|[],_ ::_ =>rfl|_ ::_,[]=>rfl
 |x::a,y::b=>by
  show Bool.rec (motive:=fun _ =>Bool) false (eqB a b) (Nat.beq x.toNat y.toNat)=(x==y&&a==b);rw[Ez a b];have:Nat.beq x.toNat y.toNat=(x==y):=by
   by_cases h:x=y
   .subst h;simp
   .have h':x.toNat≠y.toNat:=fun e=>h (UInt8.toNat_inj.1 e);have h1:(x==y)=false:=by simpa using h
    rw[h1];cases e:Nat.beq x.toNat y.toNat with
    |false=>rfl|true=>exact absurd (aB e) h'
  rw[this];cases(x==y)<;>rfl
theorem BP{β:Type}{f:β->β->Bool}(hf:∀x y,f x y=true->x=y):∀{a b:List β},ZA f a b=true->a=b
 |[],[],_ =>rfl|[],_ ::_,h=>by cases h|_ ::_,[],h=>by cases h
 |x::a,y::b,h=>by
  simp only[ZA,aA]at h;rw[hf x y h.1,BP hf h.2]
theorem aMv{f g:Fn}(h:aTi f g=true):f=g:=by
 unfold aTi at h;split at h
 .rw[aB h]
 .cases h
theorem wQ:∀(k:Nat) {x y:T},ZB k x y=true->x=y
 |0,_,_,h=>by cases h
 |k+1,x,y,h=>by
  unfold ZB at h;split at h
  all_goals(try simp only[aA]at h)
  all_goals first
   |rfl
   |(cases h;done)
   |skip
  .rw[aGt h.1,(Vb _ _).1 h.2]
  .rw[eq_of_beq h]
  .rw[Ez]at h;rw[eq_of_beq h]
  .rw[aB h.1,aB h.2]
  .rw[wQ k h.1,aB h.2]
  .rw[eq_of_beq h.1,BP (fun x y=>wQ k) h.2]
  .rw[aB h.1,aB h.2.1,aB h.2.2.1,aB h.2.2.2]
  .rw[aMv h.1,BP (fun x y=>wQ k) h.2.1,BP (fun x y=>wQ k) h.2.2]
  .rw[aB h.1,wQ k h.2]
  .rw[aB h]
  .rw[aB h]
  .rw[BP (fun x y=>wQ k) h]
  .rw[BP (fun x y=>wQ k) h]
theorem aMx{a b:Option Mo}(h:aTj a b=true):a=b:=by
 unfold aTj at h;split at h
 .rfl
 .simp only[aA]at h
  rw[aB h.1,BP (f:=fun(x y:Nat×T×T)=>Nat.beq x.1 y.1&&(Kd x.2.1 y.2.1&&Kd x.2.2 y.2.2)) (fun x y hxy=>by
   simp only[aA]at hxy
   exact Prod.ext (aB hxy.1) (Prod.ext (wQ _ hxy.2.1) (wQ _ hxy.2.2))) h.2]
 .cases h
theorem aMz{a b:iW}(h:aMy a b=true):a=b:=by
 unfold aMy at h;split at h
 .rfl
 .rename_i a b;simp only[aA]at h;obtain⟨h1,h2,h3,h4⟩:=h;obtain⟨e,s,c,m⟩:=a;obtain⟨e',s',c',m'⟩:=b;cases aB h1;cases aB h2;cases BP (fun x y=>wQ _) h3;cases aMx h4;rfl
 .cases h
end
end Go.Ps
namespace Go.Ps
noncomputable section
inductive Evt where
 |pu (v:T)
 |un
 |ef (v:T) (H:Hp)
section
variable(P:fA)(E:tW)(F:Fc)(ops:fC)
def evs:List Oper->List T->Hp->Option (List (List T×Evt)×List T)
 |[],fr,_ =>some ([],fr)
 |o::r,fr,H=>
  if uM ⟨fr,H,none⟩ o=false then none
  else if oW ops fr o then match oV P E (uW F o) H fr o with
   |some v=>match evs r (pP fr o.dst v) H with
    |some (l,f)=>some ((fr,.pu v)::l,f)|none=>none
   |none=>match rO P E F H fr o with
    |some (v,H')=>match evs r (pP fr o.dst v) H' with
     |some (l,f)=>some ((fr,.ef v H')::l,f)|none=>none
    |none=>none
  else match evs r (pP fr o.dst oL) H with
   |some (l,f)=>some ((fr,.un)::l,f)|none=>none
def FF:List (List T×Evt)->List Hp
 |[]=>[]|(_,.ef _ H)::r=>H::FF r|_ ::r=>FF r
def JF:List (List T×Evt)->Nat->List Nat
 |[],_ =>[]|(_,.ef _ _)::r,i=>i::JF r (i+1)|_ ::r,i=>JF r (i+1)
def aJq(A:fN)(eps:fN)(i c:Nat):Bool:=eps.zipIdx.any fun p=>(decide (c<=p.2)&&tG A i p.1)||(decide (p.2<c)&&tG A p.1 i)
def aJd:Option T->T->Bool
 |some u,v=>Kd u v|none,_ =>false
def YL(A:fN)(hs:List Hp)(eps:fN):List Oper->List (List T×Evt)->Nat->Bool
 | o::r,(fr,.pu v)::l,i=>((List.range hs.length).all fun c=>aJq A eps i c||aJd (match hs[c]? with
   |some H=>oV P E (uW F o) H fr o|none=>none) v)&&YL A hs eps r l (i+1)
 |_ ::r,_ ::l,i=>YL A hs eps r l (i+1)|[],[],_ =>true|_,_,_ =>false
def aEg(A:fN)(eps:fN):Bool:=eps.zipIdx.all fun p=>eps.zipIdx.all fun q=> !decide (q.2<p.2)||tG A p.1 q.1
def HW(fr:eY)(H:Hp):Option (List T×Hp):=match evs P E F ops ops.toList fr H with
 |some (l,f)=>if aEg (rF ops.toList []) (JF l 0)&&YL P E F (rF ops.toList []) (H::FF l) (JF l 0) ops.toList l 0 then some (f,(FF l).getLastD H)else none
 |none=>none
end
section
variable{P:fA}{E:tW}{F:Fc}{ops:fC}
structure Yj(P:fA)(E:tW)(F:Fc)(ops:fC)(S:gW)(K:Nat)(ep:Nat->Nat)(Hc:Nat->Hp):Prop where
 at_ :∀i,i<ops.size->∃o,ops[i]? =some o/\(∀d,o.dst=some d->d<(S i).length)/\
  ((∃k v,k<K/\ep k=i/\oW ops (S i) o=true/\rO P E F (Hc k) (S i) o=some (v,Hc (k+1))/\S (i+1)=pP (S i) o.dst v)\/
   ((∀k,k<K->ep k≠i)/\((oW ops (S i) o=true/\∃v,(∀c,c<=K->(∀k,k<K->tG (rF ops.toList []) i (ep k)=true->k<c)->(∀k,k<K->tG (rF ops.toList []) (ep k) i=true->c<=k)->oV P E (uW F o) (Hc c) (S i) o=some v)/\S (i+1)=pP (S i) o.dst v)\/
    (oW ops (S i) o=false/\S (i+1)=pP (S i) o.dst oL))))
 lt:∀k,k<K->ep k<ops.size
 ch:∀k k',k'<k->k<K->tG (rF ops.toList []) (ep k) (ep k')=true
variable{S:gW}{K:Nat}{ep:Nat->Nat}{Hc:Nat->Hp}
theorem Yj.next(h:Yj P E F ops S K ep Hc){i:Nat}(hi:i<ops.size):∃o v,ops[i]? =some o/\S (i+1)=pP (S i) o.dst v:=by
 obtain⟨o,ho,_,h1|h1⟩:=h.at_ i hi
 .obtain⟨k,v,_,_,_,_,e⟩:=h1;exact⟨o,v,ho,e⟩
 .rcases h1.2 with⟨_,v,_,e⟩|⟨_,e⟩
  .exact⟨o,v,ho,e⟩
  .exact⟨o,_,ho,e⟩
theorem Yj.len1(h:Yj P E F ops S K ep Hc){i:Nat}(hi:i<ops.size):(S (i+1)).length=(S i).length:=by
 obtain⟨o,v,_,e⟩:=h.next hi;rw[e];cases o.dst<;>simp[pP]
theorem Yj.other(h:Yj P E F ops S K ep Hc){i:Nat}(hi:i<ops.size){t:Tmp}(ht:∀o,ops[i]? =some o->o.dst≠some t):(S (i+1))[t]? =(S i)[t]? :=by
 obtain⟨o,v,ho,e⟩:=h.next hi;have:=ht o ho;rw[e];cases hd:o.dst with
 |none=>rfl
 | some d => have hne:d≠t:=fun e=>this (by rw[hd,e])
             simp[pP,cX hne]
theorem Yj.same(h:Yj P E F ops S K ep Hc){t:Tmp}:∀(k q:Nat),q+k<=ops.size->(∀j o,q<=j->j<q+k->ops[j]? =some o->o.dst≠some t)->(S (q+k))[t]? =(S q)[t]? :=by
 intro k
 induction k with
 |zero=>intro q _ _;rfl
 |succ k ih=>
  intro q hq hn;rw[show q+(k+1)=q+k+1 by omega,h.other (by omega) (fun o ho=>hn (q+k) o (by omega) (by omega) ho)];exact ih q (by omega) (fun j o' h1 h2=>hn j o' h1 (by omega))
theorem Yj.len(h:Yj P E F ops S K ep Hc):∀i,i<=ops.size->(S i).length=(S 0).length:=by
 intro i
 induction i with
 |zero=>intro _;rfl|succ i ih=>intro hi;rw[h.len1 (by omega)];exact ih (by omega)
structure aXh(P:fA)(E:tW)(ops:fC)(S:gW)(K:Nat)(ep:Nat->Nat)(Hc:Nat->Hp)(g0:G)(H0:Hp)(listed:gL)(g:G)(a:Act)(c:Nat):Prop where
 sz:listed.size=ops.size
 down:Iv ops listed
 ok:qP g
 ck:c<=K
 ld:∀k,k<K->(Ld listed (ep k)↔k<c)
 st:St g (Hc c)
 ss:oX H0 g0 (Hc c) g
 gl:GlOk E.gl g
 df:a.defers=[]
 len:a.tmps.size=(S 0).length
 sl:∀(t:Tmp) (i:Nat) (v:fP) (c:T),i<=ops.size->(∀j o,j<i->ops[j]? =some o->o.dst=some t->Ld listed j)->(∀j o,i<=j->j<ops.size->ops[j]? =some o->o.dst=some t->¬Ld listed j)->
  a.tmps[t]? =some v->(S i)[t]? =some c->Rd g v c
theorem Jv(hE:tP P E.gl E.pe)(hF:rG P E.gl F.ee)(hdr:uU ops=true){g0:G}{H0:Hp}(htr:Yj P E F ops S K ep Hc){Q:fF}
  (hfin:∀a' g',Inv P E g0 H0 g' a' ⟨S ops.size,Hc K,none⟩->Q .normal a' g'.w):
  ∀(fuel:Nat) (listed:gL) (a:Act) (g:G) (c:Nat),aXh P E ops S K ep Hc g0 H0 listed g a c->RZ listed=fuel->wpAny P .any ops Q fuel listed a g.w:=by
 simp only[uU,aA]at hdr;obtain⟨⟨hb,_⟩,htm⟩:=hdr;intro fuel
 induction fuel with
 |zero=>
  intro listed a g c h hc;have hall:∀i,i<ops.size->Ld listed i:=fun i hi=>JK hc (by rw[h.sz];exact hi);have hcK:c=K:=by
   rcases dV c K with q|q
   .have:=(h.ld c q).1 (hall _ (htr.lt c q));omega
   .exact Nat.le_antisymm h.ck q
  have hlen:=htr.len ops.size (aZ _);have hi:Inv P E g0 H0 g a ⟨S ops.size,Hc K,none⟩:=by
   refine⟨h.ok,by rw[<-hcK];exact h.st,h.gl,h.df,⟨by show a.tmps.size=(S ops.size).length;rw[hlen];exact h.len,fun j v cc _ hv hcc=> ?_⟩,fun d t q=>(by cases q),by rw[<-hcK];exact h.ss⟩;exact h.sl j ops.size v cc (aZ _) (fun k o hk _ _ =>hall k hk) (fun k o h1 h2=>by omega) hv hcc
  refine⟨?_,hfin a g hi⟩;rcases hr:Region.ready .any ops listed with _ |⟨x,xs⟩
  .rfl
  .have hx:x∈Region.ready .any ops listed:=by rw[hr];simp
   obtain⟨h1,o,h2,_⟩:=mem_ready.1 hx;exact absurd (hall x (aL.1 h2).1) (yM.1 h1).2
 |succ fuel ih=>
  intro listed a g c h hc;refine⟨fun hr=>absurd hr (KN hb h.sz (by omega)),fun i hi=> ?_⟩;obtain⟨h1,o,h2,h3⟩:=mem_ready.1 hi;have hni:=(yM.1 h1).2;have hio:i<ops.size:=(aL.1 h2).1;have hcl:∀j,tG (rF ops.toList []) i j=true->Ld listed j:=uQ h.down h.sz i o h2 h3;obtain⟨o',ho',hdl,hps⟩:=htr.at_ i hio;rw[h2]at ho';cases ho';have before:∀t,t∈xU ops o->∀j oj,j<i->ops[j]? =some oj->oj.dst=some t->Ld listed j:=fun t ht j oj hj hoj hd=>
   hcl j ((vV htm h2 hoj (by omega) hd ht).1 hj)
  have behind:∀t,t∈xU ops o->∀j oj,i<j->ops[j]? =some oj->oj.dst=some t->¬Ld listed j:=fun t ht j oj hj hoj hd hl=>
   hni (uQ h.down h.sz j oj hoj (h.down j oj hoj hl) i ((vV htm h2 hoj (by omega) hd ht).2 hj))
  have notself:∀t,t∈xU ops o->∀j oj,i<=j->ops[j]? =some oj->oj.dst=some t->¬Ld listed j:=fun t ht j oj hj hoj hd=>by
   rcases dT hj with rfl|hj
   .exact hni
   .exact behind t ht j oj hj hoj hd
  have hleni:=htr.len i (by omega);have slot:∀t,t∈o.looksAt ops->∀v c,a.tmps[t]? =some v->(S i)[t]? =some c->Rd g v c:=fun t ht v c hv hcc=>by
   have hn:t∈xU ops o:=bZ.2 (.inr ht);exact h.sl t i v c (by omega) (fun j oj hj hoj hd=>before t hn j oj hj hoj hd) (fun j oj hj _ hoj hd=>notself t hn j oj hj hoj hd) hv hcc
  have getfr:∀t,t∈o.looksAt ops->Rd g (a.tmps.getD t undef) (qW (S i) t):=fun t ht=>by
   rw[sG];by_cases hlt:t<(S i).length
   .have hlt':t<a.tmps.size:=by rw[h.len,<-hleni];exact hlt
    have:=slot t ht a.tmps[t] (S i)[t] (by simp[hlt']) (by simp[hlt]);simpa [hlt,hlt']using this
   .have hlt':¬t<a.tmps.size:=by rw[h.len,<-hleni];exact hlt
    have e1:a.tmps.getD t undef=undef:=by simp[cT (bT hlt')]
    have e2:(S i).getD t oL=oL:=by simp[bH (bT hlt)]
    rw[e1,e2];exact Rd.undef
  have hop:∀x∈o.op.operands,∀r,pE E.gl (S i) x=some r->Rd g (a.eval x) r:=fun x hx r hr=>by
   cases x with
   |tmp t=>simp only[pE,aD]at hr;subst hr;exact getfr t (xS hx)|const v=>exact DK g hr|global k=>exact(h.gl k r hr).1|func f=>simp only[pE,aD]at hr;subst hr;exact Rd.mk_fn RdL.nil RdL.nil
  have hwant:Region.wanted o (yielded ops a.tmps)=oW ops (S i) o:=by
   unfold Region.wanted oW;cases hg:o.guard with
   |none=>rfl
   |some p=>
    obtain⟨j,w⟩:=p;simp only;congr 1;unfold yielded xW;cases hd:(ops[j]?).bind (·.dst)with
    |none=>rfl
    |some d=>
     simp only[dN];have hl:=vG hg hd;by_cases hlt:d<(S i).length
     .have hlt':d<a.tmps.size:=by rw[h.len,<-hleni];exact hlt
      have hv:a.tmps[d]? =some a.tmps[d]:=by simp[hlt']
      have hcc:(S i)[d]? =some (S i)[d]:=by simp[hlt]
      have:=slot d hl _ _ hv hcc;rw[hv,hcc];generalize a.tmps[d]=u at this;generalize (S i)[d]=c at this;cases this<;>rfl
     .have hlt':¬d<a.tmps.size:=by rw[h.len,<-hleni];exact hlt
      rw[cT (bT hlt'),bH (bT hlt)]
  have hcnt:RZ (listed.setIfInBounds i true)=fuel:=by have:=LL h1;omega
  have hld:∀j,Ld (listed.setIfInBounds i true) j↔Ld listed j\/j=i:=fun j=>GR (by rw[h.sz];exact hio)
  have hdown':Iv ops (listed.setIfInBounds i true):=fun k ok hk hl e he hbd=>(hld e.on).2 (.inl (by
   rcases(hld k).1 hl with q|rfl
   .exact h.down k ok hk q e he hbd
   .rw[h2]at hk;cases hk;exact h3 e he hbd))
  have slots:∀(g':G) (v:fP) (c:T),(∀u t,Rd g u t->Rd g' u t)->Rd g' v c->(∀d,o.dst=some d->(S (i+1))[d]? =some c)->
    ∀(t:Tmp) (k:Nat) (u:fP) (cc:T),k<=ops.size->(∀j o',j<k->ops[j]? =some o'->o'.dst=some t->Ld (listed.setIfInBounds i true) j)->(∀j o',k<=j->j<ops.size->ops[j]? =some o'->o'.dst=some t->¬Ld (listed.setIfInBounds i true) j)->
     (a.put o.dst v).tmps[t]? =some u->(S k)[t]? =some cc->Rd g' u cc:=by
   intro g' v c hkeep hv hset t k u cc hk hw1 hw2 hu hcc;by_cases htd:o.dst=some t
   .have hik:i<k:=by
     rcases dV i k with q|q
     .exact q
     .exact absurd ((hld i).2 (.inr rfl)) (hw2 i o q hio h2 htd)
    have hnow:∀j oj,i+1<=j->j<k->ops[j]? =some oj->oj.dst≠some t:=fun j oj hj1 hj2 hoj hd=>by
     have hl:=hw1 j oj hj2 hoj hd;rcases(hld j).1 hl with q|q
     .exact behind t (bZ.2 (.inl (by rw[htd];simp))) j oj (by omega) hoj hd q
     .omega
    have hsame:=htr.same (t:=t) (k-(i+1)) (i+1) (by omega) (fun j oj q1 q2=>hnow j oj q1 (by omega));rw[show i+1+(k-(i+1))=k by omega]at hsame;rw[hsame,hset t htd]at hcc;cases hcc;rw[htd]at hu;simp only[Act.put,cU]at hu;split at hu
    .cases hu;exact hv
    .cases hu
   .have hu':a.tmps[t]? =some u:=by
     cases hd:o.dst with
     |none=>rw[hd]at hu;exact hu
     |some d=>
      rw[hd]at hu;have:d≠t:=fun e=>htd (by rw[hd,e]);simpa [Act.put,bJ this]using hu
    refine hkeep _ _ (h.sl t k u cc hk (fun j oj hj hoj hd=> ?_) (fun j oj hj1 hj2 hoj hd hl=>hw2 j oj hj1 hj2 hoj hd ((hld j).2 (.inl hl))) hu' hcc);rcases(hld j).1 (hw1 j oj hj hoj hd)with q|rfl
    .exact q
    .rw[h2]at hoj;cases hoj;exact absurd hd htd
  have lens:∀v,(a.put o.dst v).tmps.size=(S 0).length:=fun v=>by cases o.dst<;>simp[Act.put,h.len]
  unfold wpOp;rw[h2];simp only;rw[hwant];rcases hps with⟨k,v,hk,hki,hw,he,hS⟩|⟨hnk,hA⟩
  .
   have hkc:k=c:=by
    rcases Nat.lt_trichotomy k c with q|q|q
    .exact absurd ((h.ld k hk).2 q) (by rw[hki];exact hni)
    .exact q
    .have hpr:=htr.ch k c q hk;rw[hki]at hpr;have:=(h.ld c (by omega)).1 (hcl _ hpr);omega
   subst hkc;rw[if_pos hw];left;refine Ew hF h.gl h.st h.ok he hop _ _ (fun u g' hsst hok hst' hr=>ih _ _ g' (k+1) ?_ hcnt);refine⟨by simpa using h.sz,hdown',hok,by omega,fun j hj=> ?_,hst',h.ss.trans hsst,h.gl.sstep h.st hsst,by rw[rQ];exact h.df,lens u,?_⟩
   .rw[hld,h.ld j hj];constructor
    .rintro(q|q)
     .omega
     .rcases Nat.lt_trichotomy j k with q'|q'|q'
      .omega
      .omega
      .have hpr:=htr.ch j k q' hj;rw[q,hki]at hpr;exact absurd (hcl i hpr) hni
    .intro q;rcases dT (Nat.le_of_lt_succ q)with q|q
     .right;rw[q,hki]
     .exact .inl q
   .exact slots g' u v (fun _ _ q=>q.sstep h.st hsst) hr (fun d hd=>by rw[hS,hd];simp[pP,hdl d hd])
  .
   have pnext:∀(g':G) (v:fP) (cc:T),PStep g g'->qP g'->Rd g' v cc->(∀d,o.dst=some d->(S (i+1))[d]? =some cc)->aXh P E ops S K ep Hc g0 H0 (listed.setIfInBounds i true) g' (a.put o.dst v) c:=by
    intro g' v cc hst hok hv hset;refine⟨by simpa using h.sz,hdown',hok,h.ck,fun j hj=> ?_,h.st.pstep hst,h.ss.trans hst.toS,h.gl.pstep hst,by rw[rQ];exact h.df,lens v,slots g' v cc (fun _ _ q=>q.pstep hst) hv hset⟩;rw[hld,h.ld j hj];exact⟨fun q=>q.elim id fun e=>absurd e (hnk j hj),.inl⟩
   rcases hA with⟨hw,v,hv,hS⟩|⟨hw,hS⟩
   .rw[if_pos hw];left
    have hv':=hv c h.ck (fun k hk hpr=>(h.ld k hk).1 (hcl _ hpr)) (fun k hk hpr=>by
     rcases dV k c with q|q
     .obtain⟨ok,hok',_⟩:=htr.at_ (ep k) (htr.lt k hk);have hlk:=(h.ld k hk).2 q;exact absurd (uQ h.down h.sz (ep k) ok hok' (h.down (ep k) ok hok' hlk) i hpr) hni
     .exact q)
    exact FX hE h.gl h.st h.ok hv' hop _ _ (fun u g' hst hok hr=>ih _ _ g' c (pnext g' u v hst hok hr (fun d hd=>by rw[hS,hd];simp[pP,hdl d hd])) hcnt)
   .rw[hw];simp only[bA,if_false];exact ih _ _ g c (pnext g undef oL (PStep.refl g) h.ok Rd.undef (fun d hd=>by rw[hS,hd];simp[pP,hdl d hd])) hcnt
def EvT(P:fA)(E:tW)(F:Fc)(ops:fC)(os:fS)(m:Nat)(fr:eY)(H:Hp)(l:List (List T×Evt))(f:eY):Prop:=
 ∃(S:gW) (K:Nat) (ep:Nat->Nat) (Hc:Nat->Hp),S 0=fr/\S os.length=f/\Hc 0=H/\(JF l m).length=K/\(FF l).length=K/\(∀k,k<K->(JF l m)[k]? =some (ep k))/\(∀k,k<K->(FF l)[k]? =some (Hc (k+1)))/\
  (∀k,k<K->m<=ep k/\ep k<m+os.length)/\(∀i,i<os.length->∃o,os[i]? =some o/\(∀d,o.dst=some d->d<(S i).length)/\
   ((∃k v,k<K/\ep k=m+i/\oW ops (S i) o=true/\rO P E F (Hc k) (S i) o=some (v,Hc (k+1))/\S (i+1)=pP (S i) o.dst v)\/
    ((∀k,k<K->ep k≠m+i)/\((oW ops (S i) o=true/\∃v,l[i]? =some (S i,.pu v)/\S (i+1)=pP (S i) o.dst v)\/(oW ops (S i) o=false/\S (i+1)=pP (S i) o.dst oL)))))
theorem Qw:∀(os:fS) (m:Nat) (fr:eY) (H:Hp) (l:List (List T×Evt)) (f:eY),evs P E F ops os fr H=some (l,f)->EvT P E F ops os m fr H l f
 |[],m,fr,H,l,f,h=>by
  simp only[evs,aD,aQ]at h;obtain⟨rfl,rfl⟩:=h;exact⟨fun _ =>fr,0,fun _ =>0,fun _ =>H,rfl,rfl,rfl,rfl,rfl,fun k hk=>by omega,fun k hk=>by omega,fun k hk=>by omega,fun i hi=>by simp at hi⟩
 |o::os,m,fr,H,l,f,h=>by
  simp only[evs]at h;split at h
  .cases h
  .rename_i hd;have hdl:=zA hd;have plain:∀(fr1:eY) (ev:Evt) (l1:List (List T×Evt)),(∀v H1,ev≠ .ef v H1)->evs P E F ops os fr1 H=some (l1,f)->l=(fr,ev)::l1->
     ((oW ops fr o=true/\∃v,ev= .pu v/\fr1=pP fr o.dst v)\/(oW ops fr o=false/\fr1=pP fr o.dst oL))->EvT P E F ops (o::os) m fr H l f:=by
    intro fr1 ev l1 hne he hl hk;obtain⟨S,K,ep,Hc,h0,h1,h2,h3,h4,h5,h6,h7,h8⟩:=Qw os (m+1) fr1 H l1 f he;have hp:JF l m=JF l1 (m+1):=by subst hl;cases ev with
     |ef v H1=>exact absurd rfl (hne v H1)|_ =>rfl
    have hh:FF l=FF l1:=by subst hl;cases ev with
     |ef v H1=>exact absurd rfl (hne v H1)|_ =>rfl
    refine⟨fun i=>match i with|0=>fr|i+1=>S i,K,ep,Hc,rfl,h1,h2,by rw[hp];exact h3,by rw[hh];exact h4,by rw[hp];exact h5,by rw[hh];exact h6,fun k hk=>⟨by have:=h7 k hk;omega,by have:=h7 k hk;simp;omega⟩,fun i hi=> ?_⟩;cases i with
    |zero=>
     refine⟨o,rfl,hdl,.inr ⟨fun k hk=>by have:=h7 k hk;omega,?_⟩⟩;rcases hk with⟨w,v,e1,e2⟩|⟨w,e2⟩
     .exact .inl ⟨w,v,by rw[hl,e1];rfl,by show S 0=_;rw[h0];exact e2⟩
     .exact .inr ⟨w,by show S 0=_;rw[h0];exact e2⟩
    |succ i=>
     obtain⟨o',q1,q2,q3⟩:=h8 i (by simpa using hi);refine⟨o',by simpa using q1,q2,?_⟩;rw[show m+(i+1)=m+1+i by omega];rcases q3 with q3|⟨q3,q4⟩
     .exact .inl q3
     .refine .inr ⟨q3,?_⟩;rcases q4 with⟨w,v,e1,e2⟩|q4
      .exact .inl ⟨w,v,by rw[hl];simpa using e1,e2⟩
      .exact .inr q4
   split at h
   .rename_i hw;split at h
    .rename_i v hv;split at h
     .rename_i l1 f1 he;simp only[aD,aQ]at h;obtain⟨rfl,rfl⟩:=h;exact plain _ (.pu v) l1 (fun _ _ =>by simp) he rfl (.inl ⟨hw,v,rfl,rfl⟩)
     .cases h
    .split at h
     .rename_i v H1 hef;split at h
      .rename_i l1 f1 he;simp only[aD,aQ]at h;obtain⟨rfl,rfl⟩:=h;obtain⟨S,K,ep,Hc,h0,h1,h2,h3,h4,h5,h6,h7,h8⟩:=Qw os (m+1) _ H1 l1 f1 he;refine⟨fun i=>match i with|0=>fr|i+1=>S i,K+1,fun k=>match k with|0=>m|k+1=>ep k,fun k=>match k with|0=>H|k+1=>Hc k,rfl,h1,rfl,by simp[JF,h3],by simp[FF,h4],fun k hk=> ?_,fun k hk=> ?_,fun k hk=> ?_,fun i hi=> ?_⟩
       .cases k with
        |zero=>rfl|succ k=>exact h5 k (by omega)
       .cases k with
        |zero=>show some H1=some (Hc 0);rw[h2]|succ k=>exact h6 k (by omega)
       .cases k with
        |zero=>simp|succ k=>have:=h7 k (by omega);simp only[bL];omega
       .cases i with
        |zero=>exact⟨o,rfl,hdl,.inl ⟨0,v,by omega,rfl,hw,by show _ =some (v,Hc 0);rw[h2];exact hef,by show S 0=_;rw[h0]⟩⟩
        |succ i=>
         obtain⟨o',q1,q2,q3⟩:=h8 i (by simpa using hi);refine⟨o',by simpa using q1,q2,?_⟩;rw[show m+(i+1)=m+1+i by omega];rcases q3 with⟨k,v',e1,e2,e3,e4,e5⟩|⟨q3,q4⟩
         .exact .inl ⟨k+1,v',by omega,e2,e3,e4,e5⟩
         .refine .inr ⟨fun k hk=> ?_,?_⟩
          .cases k with
           |zero=>show m≠_;omega|succ k=>exact q3 k (by omega)
          .rcases q4 with⟨w,v',e1,e2⟩|q4
           .exact .inl ⟨w,v',by simpa using e1,e2⟩
           .exact .inr q4
      .cases h
     .cases h
   .rename_i hw;split at h
    .rename_i l1 f1 he;simp only[aD,aQ]at h;obtain⟨rfl,rfl⟩:=h;exact plain _ .un l1 (fun _ _ =>by simp) he rfl (.inr ⟨by simpa using hw,rfl⟩)
    .cases h
theorem YM{A:fN}{hs:List Hp}{eps:fN}:∀{os:fS} {l:List (List T×Evt)} {m:Nat},YL P E F A hs eps os l m=true->∀(i:Nat) (o:Oper) (fr:eY) (v:T),os[i]? =some o->l[i]? =some (fr,.pu v)->
  ∀c H,hs[c]? =some H->aJq A eps (m+i) c=true\/oV P E (uW F o) H fr o=some v
 |[],_,_,_,i,o,fr,v,h1,_ =>by simp at h1|_ ::_,[],_,_,i,o,fr,v,_,h2=>by simp at h2
 |o0::os,(fr0,ev)::l,m,h,i,o,fr,v,h1,h2=>by
  have hrest:YL P E F A hs eps os l (m+1)=true:=by
   cases ev with
   |pu v=>simp only[YL,aA]at h;exact h.2|un=>exact h|ef v H=>exact h
  cases i with
  |succ i=>
   rw[show m+(i+1)=m+1+i by omega];exact YM hrest i o fr v (by simpa using h1) (by simpa using h2)
  |zero=>
   simp at h1 h2;obtain⟨rfl,rfl⟩:=h2;subst h1;simp only[YL,aA]at h;have h3:=h.1;rw[aG]at h3;intro c H hc;have:=h3 c (by rw[List.mem_range];exact(aK.1 hc).1);rw[hc]at this;rcases bG _ _ |>.mp this with q|q
   .exact .inl q
   .right;cases he:oV P E (uW F o0) H fr0 o0 with
    |none=>
     have q:aJd (oV P E (uW F o0) H fr0 o0) v=true:=q;rw[he]at q;cases q
    |some u=>
     have q:aJd (oV P E (uW F o0) H fr0 o0) v=true:=q;rw[he]at q;rw[wQ _ q]
theorem aTh{fr fr':eY}{H H':Hp}(h:HW P E F ops fr H=some (fr',H')):∃(S:gW) (K:Nat) (ep:Nat->Nat) (Hc:Nat->Hp),Yj P E F ops S K ep Hc/\S 0=fr/\S ops.size=fr'/\Hc 0=H/\Hc K=H':=by
 unfold HW at h;split at h
 .rename_i l f he;split at h
  .rename_i hc;simp only[aA]at hc;simp only[aD,aQ]at h;obtain⟨rfl,rfl⟩:=h;obtain⟨S,K,ep,Hc,h0,h1,h2,h3,h4,h5,h6,h7,h8⟩:=Qw (P:=P) (E:=E) (F:=F) (ops:=ops) ops.toList 0 fr H l f he;have hHs:∀k,k<=K->(H::FF l)[k]? =some (Hc k):=fun k hk=>by
    cases k with
    |zero=>rw[h2];rfl|succ k=>exact h6 k (by omega)
   have hzip:∀k,k<K->(ep k,k)∈(JF l 0).zipIdx:=fun k hk=>by
    rw[List.mem_zipIdx_iff_getElem?];exact h5 k hk
   refine⟨S,K,ep,Hc,⟨fun i hi=> ?_,fun k hk=>by have:=h7 k hk;simpa using this.2,fun k k' hkk hk=> ?_⟩,h0,by simpa using h1,h2,?_⟩
   .obtain⟨o,q1,q2,q3⟩:=h8 i (by simpa using hi);refine⟨o,by simpa using q1,q2,?_⟩;rw[bN]at q3;rcases q3 with q3|⟨q3,q4⟩
    .exact .inl q3
    .refine .inr ⟨q3,?_⟩;rcases q4 with⟨w,v,e1,e2⟩|q4
     .refine .inl ⟨w,v,fun c hcK w1 w2=> ?_,e2⟩;rcases YM hc.2 i o (S i) v q1 e1 c (Hc c) (hHs c hcK)with q|q
      .rw[bN]at q;unfold aJq at q;rw[eK]at q;obtain⟨⟨e,k⟩,hm,hq⟩:=q;rw[List.mem_zipIdx_iff_getElem?]at hm;simp only at hm;have hk:k<K:=by rw[<-h3];exact(aK.1 hm).1
       have hek:e=ep k:=by have:=h5 k hk;rw[hm]at this;exact bQ this
       subst hek;simp only[bG,aA,aI]at hq;rcases hq with⟨r1,r2⟩|⟨r1,r2⟩
       .have:=w1 k hk r2;omega
       .have:=w2 k hk r2;omega
      .exact q
     .exact .inr q4
   .have hcc:=hc.1;unfold aEg at hcc;rw[aG]at hcc;have:=hcc _ (hzip k hk);rw[aG]at this;have:=this _ (hzip k' (by omega));simpa [hkk]using this
   .have:(FF l).getLastD H=Hc K:=by
     cases K with
     |zero=>
      have:FF l=[]:=cY.1 h4;rw[this,h2];rfl
     |succ k=>
      have hl:=h6 k (by omega);rw[List.getLastD_eq_getLast?,List.getLast?_eq_getElem?,h4,Nat.add_sub_cancel,hl];rfl
    exact this.symm
  .cases h
 .cases h
theorem aFa(hE:tP P E.gl E.pe)(hF:rG P E.gl F.ee)(hok:uU ops=true){fr fr':eY}{H H':Hp}(he:HW P E F ops fr H=some (fr',H')){g:G}{a:Act}(hi:Inv P E g H g a ⟨fr,H,none⟩)
  {Q:fF} (hQ:∀a' g',Inv P E g H g' a' ⟨fr',H',none⟩->Q .normal a' g'.w):wpAny P .any ops Q ops.size (Array.replicate ops.size false) a {g.w with drawn:=g.w.drawn+1}:=by
 obtain⟨S,K,ep,Hc,htr,e0,e1,e2,e3⟩:=aTh he
 let gd:G:={g with w:={g.w with drawn:=g.w.drawn+1}}
 have hp:PStep g gd:=⟨rfl,rfl,rfl,aZ _,fun _ _ =>rfl,fun _ h=>h,fun _ h=> .inl h,rfl,rfl,rfl⟩;have hcnt:RZ (Array.replicate ops.size false)=ops.size:=by simp[RZ]
 have nold:∀i,¬Ld (Array.replicate ops.size false) i:=fun i hl=>by
  unfold Ld at hl;by_cases q:i<ops.size<;>simp[q]at hl
 refine Jv (g0:=g) (H0:=H) hE hF hok htr (fun a' g' h'=>hQ a' g' (by rw[<-e1,<-e3];exact h')) ops.size _ a gd 0 ?_ hcnt;have hfr:RdL g a.tmps.toList fr:=hi.fr.all;refine⟨by simp,fun i o ho hl=>absurd hl (nold i),hi.ok,Nat.zero_le _,fun k hk=>⟨fun q=>absurd q (nold _),fun q=>by omega⟩,by rw[e2];exact hi.st.pstep hp,by rw[e2];exact hp.toS,hi.gl.pstep hp,hi.df,by rw[e0];have:=hfr.1;simpa using this,?_⟩;intro t i v c hi' h1 h2 hv hcc;have hno:∀j o,j<i->ops[j]? =some o->o.dst≠some t:=fun j o hj ho hdd=>absurd (h1 j o hj ho hdd) (nold j);have:=htr.same (t:=t) i 0 (by omega) (fun j o _ hj ho=>hno j o (by omega) ho);rw[bN]at this;rw[this,e0]at hcc;exact(hfr.pstep hp).2 t v c (by simpa using hv) hcc
end
end
end Go.Ps
