/- Lemmas for the card; no conditions. -/
import Derived.Test.YthfdachbgpjafaaGreatDoorXb4
set_option linter.unusedSimpArgs false
set_option linter.unusedVariables false
set_option linter.unusedSectionVars false
namespace Go.Ps
variable[Inhabited Prd]
structure GS(S:AS)(ρ:fI)(μ:fB)(fr:eY)(H:Hp):Prop where
 sy:Sy ρ S.nx S.cs
 hp:GH S.hp S.nl ρ μ H
 fr:pH ρ μ S.fr fr
structure Yk(F:fX)(ee:fO)(Fc:Nat->Nat->Fc):Prop where
 own:∀n d,(Fc n d).own=F
 ee:∀n d,(Fc n d).ee=ee n d
def AvOk(P:fA)(gl:fD)(pe:fK)(F:fX)(av:fS)(fr:eY)(H:Hp):Prop:=
 ∀o∈av,Vx o=true/\∃d,o.dst=some d/\oV P ⟨gl,pe⟩ (zG F o) H fr o=some (qW fr d)
theorem AvOk.nil{P:fA}{gl:fD}{pe:fK}{F:fX}{fr:eY}{H:Hp}:AvOk P gl pe F [] fr H:=fun o h=>by simp at h
theorem Mq{P:fA}{E:tW}{H:Hp}{fr:eY}{f:Operand->Operand->Bool}(hf:∀x y,f x y=true->pE E.gl fr x=pE E.gl fr y){o1 o2:Oper}{b1 b2:Bool}(h:Mp f o1.op o2.op=true):
  oV P E b1 H fr o1=oV P E b2 H fr o2:=by
 obtain⟨d1,op1,ty1,p1,a1,g1⟩:=o1;obtain⟨d2,op2,ty2,p2,a2,g2⟩:=o2;unfold Mp at h;simp only at h;split at h
 .simp only[aA]at h;rw[aB h.1];simp only[oV,hf _ _ h.2]
 .simp only[aA]at h;rw[aB h.1,aB h.2.1];simp only[oV,hf _ _ h.2.2]
 .simp only[aA]at h;rw[aB h.1];simp only[oV,hf _ _ h.2.1,hf _ _ h.2.2]
 .simp only[oV,hf _ _ h]
 .cases h
theorem Jw{o:Oper}{d:Tmp}(h:Bj o d=true):o.dst=some d:=by
 unfold Bj at h;split at h
 .rename_i e he;rw[he,aB h]
 .cases h
theorem aTk{P:fA}{gl:fD}{pe:fK}{F:fX}{av:fS}{fr:eY}{H:Hp}(ha:AvOk P gl pe F av fr H):∀(n:Nat) (x y:gF),eqO av n x y=true->pE gl fr x=pE gl fr y:=by
 intro n;have same:∀x y,TE x y=true->pE gl fr x=pE gl fr y:=by
  intro x y h;unfold TE at h;split at h
  .rw[aB h]
  .cases h
 induction n with
 |zero=>intro x y h;exact same x y h
 |succ n ih=>
  intro x y h;simp only[eqO,bG]at h;rcases h with h|h
  .exact same x y h
  .split at h
   .rename_i a b;obtain⟨oa,m1,h1⟩:=eK.1 h;simp only[aA]at h1;obtain⟨h1,h2⟩:=h1;obtain⟨ob,m2,h3⟩:=eK.1 h2;simp only[aA]at h3;obtain⟨h3,h4⟩:=h3;obtain⟨_,d1,e1,e2⟩:=ha oa m1;obtain⟨_,d2,e3,e4⟩:=ha ob m2;rw[Jw h1]at e1;cases e1;rw[Jw h3]at e3;cases e3;have:=Mq (P:=P) (E:=⟨gl,pe⟩) (H:=H) (fr:=fr) (b1:=zG F oa) (b2:=zG F ob) ih h4;rw[e2,e4]at this;simp only[pE];exact this
   .cases h
theorem aEr{P:fA}{gl:fD}{pe:fK}{F:fX}{av:fS}{fr:eY}{H:Hp}(ha:AvOk P gl pe F av fr H){o:Oper}{d:Tmp}(h:cse av o=some d):
  oV P ⟨gl,pe⟩ (zG F o) H fr o=some (qW fr d):=by
 unfold cse at h;split at h
 .rename_i o1 hf;obtain⟨_,d1,e1,e2⟩:=ha o1 (List.mem_of_find?_eq_some hf);rw[h]at e1;cases e1;have hk:=List.find?_some (p:=fun o1:Oper=>Mp (eqO av 6) o1.op o.op) hf;rw[<-e2];exact(Mq (P:=P) (E:=⟨gl,pe⟩) (fun x y q=>aTk ha 6 x y q) hk).symm
 .cases h
theorem Fr:∀{l:gK} {d:Tmp},aGl d l=false->d∉l
 |[],d,_ =>by simp
 |x::xs,d,h=>by
  simp only[aGl,eN]at h;simp only[aU,not_or];exact⟨fun e=>by subst e;simp at h,Fr h.2⟩
theorem Zh{gl:fD}{fr:eY}{d:Tmp}{v:T}{x:gF}(h:∀t,x= .tmp t->t≠d):pE gl (fr.set d v) x=pE gl fr x:=by
 cases x with
 |tmp t=>
  have:=h t rfl;simp only[pE,sG,aX];rw[cX (fun e=>this e.symm)]
 |_ =>rfl
theorem Wg{P:fA}{E:tW}{H:Hp}{fr:eY}{o:Oper}{b:Bool}(hk:Vx o=true){d:Tmp}{v:T}(h:d∉Sj o):oV P E b H (fr.set d v) o=oV P E b H fr o:=by
 obtain⟨dst,op,ty,pos,after,guard⟩:=o;have hx:∀x∈op.operands.toList,∀t,x= .tmp t->t≠d:=by
  intro x hx t he hd;subst he hd;exact h (List.mem_filterMap.2 ⟨_,hx,rfl⟩)
 have hx':∀x,x∈op.operands.toList->pE E.gl (fr.set d v) x=pE E.gl fr x:=fun x hm=>Zh (hx x hm);cases op<;>simp only[Vx]at hk<;>try(cases hk;done)
 case move x=>simp only[oV,hx' x (by simp[Op.operands])]
 case load t a=>simp only[oV,hx' a (by simp[Op.operands])]
 case fieldAddr s x f=>simp only[oV,hx' x (by simp[Op.operands])]
 case indexAddr t x i=>simp only[oV,hx' x (by simp[Op.operands]),hx' i (by simp[Op.operands])]
theorem PQ{P:fA}{gl:fD}{pe:fK}{F:fX}{fr:eY}{H:Hp}{d:Tmp}{v:T}:∀{av:fS},AvOk P gl pe F av fr H->AvOk P gl pe F (PP d av) (fr.set d v) H
 |[],_ => .nil
 |o::r,ha=>by
  have ih:=PQ (d:=d) (v:=v) (fun x hx=>ha x (aJ _ hx):AvOk P gl pe F r fr H);simp only[PP];split
  .exact ih
  .rename_i hc;simp only[bG,not_or,Bool.not_eq_true]at hc;intro x hx;rcases aU.1 hx with rfl|hx
   .obtain⟨k1,e,k2,k3⟩:=ha x aR;refine⟨k1,e,k2,?_⟩;rw[Wg k1 (Fr hc.2),k3];have hne:e≠d:=by
     intro he;subst he;have:=hc.1;unfold Bj at this;rw[k2]at this;simp at this
    simp only[sG,aX];rw[cX (fun q=>hne q.symm)]
   .exact ih x hx
theorem IK{P:fA}{gl:fD}{pe:fK}{F:fX}{fa:List A}{fr:eY}{H:Hp}(hl:fa.length=fr.length){av:fS}(ha:AvOk P gl pe F av fr H){o:Oper}{v:T}(he:oV P ⟨gl,pe⟩ (zG F o) H fr o=some v):
  AvOk P gl pe F (Gy fa o av) (pP fr o.dst v) H:=by
 unfold Gy;split
 .rename_i d hd;rw[hd];simp only[pP];split
  .rename_i hc;simp only[aA,bM]at hc;intro x hx;rcases aU.1 hx with rfl|hx
   .refine⟨hc.1,d,hd,?_⟩;rw[Wg hc.1 (Fr hc.2.2),he];have hlt:d<fr.length:=by rw[<-hl];simpa [Nat.blt,Nat.lt_iff_add_one_le]using hc.2.1
    simp only[sG,aX];rw[List.getElem?_set_self hlt];rfl
   .exact PQ ha x hx
  .exact PQ ha
 .rename_i hd;rw[hd];exact ha
theorem qN{α β:Type}{f:α->Option (List β)}:∀{l:List α} {r:List β},zK f l=some r->∀x∈l,∃q,f x=some q/\∀y∈q,y∈r
 |a::a_s,r,h,x,hx=>by
  simp only[zK]at h;split at h
  .rename_i q hq;split at h
   .rename_i s hs;cases h;rcases aU.1 hx with rfl|hx
    .exact⟨q,hq,fun y hy=>List.mem_append_left _ hy⟩
    .obtain⟨p,h1,h2⟩:=qN hs x hx;exact⟨p,h1,fun y hy=>List.mem_append_right _ (h2 y hy)⟩
   .cases h
  .cases h
theorem pH.setSame{ρ:fI}{μ:fB}{a_s:List A}{ts:eY}(h:pH ρ μ a_s ts){a:A}{d:Nat}(ha:Gm ρ μ a (qW ts d)):pH ρ μ (setS a a_s d) ts:=by
 rw[TF];refine⟨by simp[h.1],fun j b u hb hu=> ?_⟩;rw[cZ]at hb;split at hb
 .rename_i hd;subst hd;split at hb
  .cases hb;rw[sG,aX,hu]at ha;exact ha
  .cases hb
 .exact h.2 j b u hb hu
theorem pH.put{ρ:fI}{μ:fB}{a_s:List A}{ts:eY}(h:pH ρ μ a_s ts){a:A}{t:T}(ha:Gm ρ μ a t)(dst:gQ):pH ρ μ (KK a_s dst a) (pP ts dst t):=by
 cases dst with
 |none=>exact h|some d=>simp only[KK,pP];rw[TF];exact h.set ha d
theorem pH.setS{ρ:fI}{μ:fB}{a_s:List A}{ts:eY}(h:pH ρ μ a_s ts){a:A}{t:T}(ha:Gm ρ μ a t)(d:Nat):pH ρ μ (Go.Ps.setS a a_s d) (ts.set d t):=by
 rw[TF];exact h.set ha d
section
variable{ρ ρ':fI}{μ μ':fB}{X:AX}{gl:fD}{pe:fK}{H:Hp}{S:AS}{P:fA}
variable{call:FuncId->List A->AS->Option (List AR)}{ee:fO}{F:fX}{Fe:Nat->Nat->Fc}{fr:eY}
theorem GS.sym(h:GS S ρ μ fr H){n:Nat}{cs:List pO}(he:rZ ρ ρ')(hs:Sy ρ' n cs):GS {S with nx:=n,cs:=cs} ρ' μ fr H:=⟨hs,h.hp.ext he,h.fr.ext he (.refl _)⟩
theorem VT(hs:Sy ρ S.nx S.cs)(hh:GH S.hp S.nl ρ μ H){t:eX}{m k x:A}{y z u:T}(hm:Gm ρ μ m y)(hk:Gm ρ μ k z)(hx:Gm ρ μ x u){R:AR}(h:Fy P S t m k x=some R):
  ∃H',YI P H t y z u=some H'/\ROk ρ μ R oL H':=by
 unfold Fy at h;split at h
 .rename_i l ik s c;split at h
  .rename_i hc;simp only[aA,beq_iff_eq]at hc;obtain⟨rfl,hc⟩:=hc;have hc:s=0:=aB hc;subst hc;cases hm with
   |mp _ l' hl'=>
   cases hk with
   |int _ _ _ v hv hin=>
   rw[hs.zero]at hv;cases hv;simp only[eT]at*;split at h
   .rename_i es hf;split at h
    .rename_i kt et hu;split at h
     .rename_i ik hik;split at h
      .rename_i hno;cases h;obtain⟨o,o1,c0,ms,o2,o3,o4⟩:=hh.atN hf hl';have hkey:JB P kt (.int .i64 c)=true:=by simp[JB,EN,hik]
       have hfm:=(VG (ρ:=ρ) (μ:=μ) hik (k:=c) es ms 0 o3 o4).2 hno;have hseek:JI P H t (.mp l') (.int .i64 c)=some (l',o,c0,ms,et,none):=by
        simp only[JI,hu,o1,o2,hkey,if_true,hfm]
       refine⟨putM H l' o (c0+1) (ms++[(c0,.int .i64 c,u)]),by simp only[YI,hseek],ρ,μ,.refl _,.refl _,hs,?_,sP⟩;refine hh.putL hf hl' (o':= .map (es++[(c,x)])) ⟨c0+1,ms++[(c0,.int .i64 c,u)],rfl,by simp[o3],fun j k a hj=> ?_⟩ rfl;by_cases hjl:j<es.length
       .rw[dD hjl]at hj;obtain⟨c',v,q1,q2⟩:=o4 j k a hj;exact⟨c',v,by rw[dD (by omega)];exact q1,q2⟩
       .rw[dL (by omega)]at hj;have:j-es.length=0:=by
         have:=(aK.1 hj).1;simp at this;exact this
        rw[this]at hj;simp only[cA,aD,aQ]at hj;obtain⟨rfl,rfl⟩:=hj;exact⟨c0,u,by rw[dL (by omega),show j-ms.length=0 by omega];rfl,hx⟩
      .cases h
     .cases h
    .cases h
   .cases h
  .cases h
 .cases h
theorem aAi(hs:Sy ρ S.nx S.cs)(hh:GH S.hp S.nl ρ μ H){t:eX}:ROk ρ μ ⟨.mp S.nl,(S.nl,.map [])::S.hp,S.nx,S.nl+1,S.cs⟩ (.mp H.next) (H.new {elem:=t,sz:=0,cells:=[],me:=some (.map 0 [])}):=
 ⟨ρ,μ++[some H.next],.refl _,.app _ _,hs,hh.newL ⟨0,[],rfl,rfl,fun j k a h=>by simp at h⟩ rfl,.mp _ _ (rR hh.len _)⟩
theorem Uh(hc:Cn X gl pe)(hcall:wZ call ee)(hF:Yk F ee Fe)(hg:GS S ρ μ fr H){o:Oper}{rs:List AR}(h:aLd P X (EW F o.dst) call S o=some rs):
  ∃t H',Ev (fun n d=>rO P ⟨gl,pe⟩ (Fe n d) H fr o=some (t,H'))/\∃R∈rs,ROk ρ μ R t H':=by
 have ev:∀{x:gF} {a:A},NY X.gl S.fr x=some a->∃t,pE gl fr x=some t/\Gm ρ μ a t:=fun h=>sX hc.gl hg.sy.zero hg.fr h;obtain⟨dst,op,type,pos,after,guard⟩:=o;cases op<;>simp only[aLd]at h<;>simp only[rO]<;>try(cases h;done)
 case alloc t=>
  split at h
  .rename_i z hz;split at h
   .rename_i hk;cases h;obtain⟨z',e1,e2⟩:=BF (ρ:=ρ) (μ:=μ) hg.sy.zero hz;exact⟨.ptr H.next 0,H.new {elem:=t,sz:=0,cells:=z'.cells},.of fun n d=>by simp only[e1],_,aP _,PT hg.sy hg.hp ⟨⟨rfl,rfl⟩,(qQ e2 hk).2⟩⟩
   .cases h
  .cases h
 case box t x=>
  split at h
  .rename_i y hy;split at h
   .rename_i hk;cases h;obtain⟨z,e1,e2⟩:=ev hy;exact⟨.ptr H.next 0,H.new {elem:=t,sz:=0,cells:=z.cells},.of fun n d=>by simp only[e1],_,aP _,PT hg.sy hg.hp ⟨⟨rfl,rfl⟩,(qQ e2 hk).2⟩⟩
   .cases h
  .cases h
 case buildSlice t len parts=>
  split at h
  .rename_i l hl;obtain⟨R,hR,rfl⟩:=aF.1 h;obtain⟨qs,e1,e2,e3⟩:=II hc.gl hg.sy.zero hg.fr hl;obtain⟨e,xs,s,q1,q2,q3,q4⟩:=UD hg.sy hg.hp e2 e3 hR;exact⟨_,_,.of fun n d=>by simp only[e1,q1,q2,q3],R,aP _,q4⟩
  .cases h
 case store t p x=>
  split at h
  .rename_i q y hq hy;obtain⟨R,hR,rfl⟩:=aF.1 h;obtain⟨q',e1,e2⟩:=ev hq;obtain⟨y',e3,e4⟩:=ev hy;obtain⟨H',q1,q2⟩:=Ds hg.sy hg.hp e2 e4 hR;exact⟨_,H',.of fun n d=>by simp only[e1,e3,q1],R,aP _,q2⟩
  .cases h
 case makeMap t r=>
  split at h
  .cases h;exact⟨_,_,.of fun n d=>by simp only[IX,VO,if_true];rfl,_,aP _,aAi hg.sy hg.hp⟩
  .cases h
 case mapUpdate t m k x=>
  split at h
  .rename_i a b v ha hb hv;obtain⟨R,hR,rfl⟩:=aF.1 h;obtain⟨a',e1,e2⟩:=ev ha;obtain⟨b',e3,e4⟩:=ev hb;obtain⟨v',e5,e6⟩:=ev hv;obtain⟨H',q1,q2⟩:=VT hg.sy hg.hp e2 e4 e6 hR;exact⟨_,H',.of fun n d=>by simp only[e1,e3,e5,q1],R,aP _,q2⟩
  .cases h
 case insert t m k x=>
  split at h
  .rename_i a b v ha hb hv;obtain⟨R,hR,rfl⟩:=aF.1 h;obtain⟨a',e1,e2⟩:=ev ha;obtain⟨b',e3,e4⟩:=ev hb;obtain⟨v',e5,e6⟩:=ev hv;obtain⟨H',q1,q2⟩:=VT hg.sy hg.hp e2 e4 e6 hR;exact⟨_,H',.of fun n d=>by simp only[e1,e3,e5,q1],R,aP _,q2⟩
  .cases h
 case makeSlice t l c=>
  split at h
  .rename_i q y hq hy;obtain⟨R,hR,rfl⟩:=aF.1 h;obtain⟨q',e1,e2⟩:=ev hq;obtain⟨y',e3,e4⟩:=ev hy;obtain⟨r,H',q1,q2⟩:=ZI hg.sy hg.hp e2 e4 hR;exact⟨r,H',.of fun n d=>by simp only[e1,e3,q1],R,aP _,q2⟩
  .cases h
 case call c=>
  split at h
  .rename_i f hcal;rw[hcal];simp only;split at h
   .rename_i g first cap hf
    split at h
    .split at h
     .rename_i ars har;obtain⟨t,e1,e2⟩:=ev hf;cases e2 with
      |fn _ _ _ f' c' h1 h2 h3 h4=>
      obtain⟨ts,e3,e4⟩:=xP hc.gl hg.sy.zero hg.fr har;obtain⟨r,H',q1,R,q2,q3⟩:=hcall _ _ _ _ h ρ μ H _ hg.sy hg.hp ((pH.app ⟨h1,h2⟩ e4).app ⟨h3,h4⟩);refine⟨r,H',q1.mono fun n d q=> ?_,R,q2,q3⟩;simp only[e1,e3,hF.ee];exact q
     .cases h
    .cases h
   .cases h
  .rename_i hcal;rw[hcal];simp only;split at h
   .rename_i s x t t' ha ht;split at h
    .rename_i a b hsa hxb;obtain⟨R,hR,rfl⟩:=aF.1 h;obtain⟨q',e1,e2⟩:=ev hsa;obtain⟨y',e3,e4⟩:=ev hxb;split at hR
     .rename_i hpa;obtain⟨r,H',q1,q2⟩:=Jf hg.sy hg.hp e2 e4 hR;exact⟨r,H',.of fun n d=>by simp only[ha,ht,e1,e3,hF.own,NS];rw[if_pos hpa];exact q1,R,aP _,q2⟩
     .rename_i hpa;obtain⟨r,H',q1,q2⟩:=Pw hg.sy hg.hp e2 e4 hR;exact⟨r,H',.of fun n d=>by simp only[ha,ht,e1,e3,hF.own,NS];rw[if_neg hpa];exact q1,R,aP _,q2⟩
    .cases h
   .cases h
  .cases h
noncomputable def Bg(P:fA)(E:tW)(F:Fc)(s:Fx)(o:Oper):Option Fx:=
 match oV P E (uW F o) s.H s.fr o with
 |some v=>some {s with fr:=pP s.fr o.dst v}
 |none=>
  match rS F o with
  |some (d,t)=>if s.pend.isSome then none else match tT P t,wN P t with
   |some n,some z=>if z.cells.length=n/\d<s.fr.length then some {s with fr:=s.fr.set d oL,pend:=some (d,t)}else none
   |_,_ =>none
  |none=>match rO P E F s.H s.fr o with
   |some (v,H')=>some {s with fr:=pP s.fr o.dst v,H:=H'}
   |none=>none
theorem QC{E:tW}{F:Fc}{ops:fC}{s:Fx}{o:Oper}:rV P E F ops s o=if oW ops s.fr o then Bg P E F s o else some {s with fr:=pP s.fr o.dst oL}:=rfl
abbrev iE:=Option (Tmp×TypeId)
def wK(P:fA)(gl:fD)(pe:fK)(F:fX)(l:gY)(ρ:fI)(μ:fB)(fr:eY)(H:Hp)(pd:iE):Prop:=
 ∃s∈l,∃ρ' μ',rZ ρ ρ'/\rZ μ μ'/\s.pend=pd/\GS s.S ρ' μ' fr H/\AvOk P gl pe F s.av fr H
theorem JZ(hc:Cn X gl pe){ρ:fI}{μ:fB}(h0:ρ[0]? =some 0){fa:List A}(hf:pH ρ μ fa fr){own:Bool}{o:Oper}(h:GP X own fa o=true)(hb:UC own o=true):
  oV P ⟨gl,pe⟩ own H fr o=none:=by
 obtain⟨dst,op,type,pos,after,guard⟩:=o;cases op<;>simp only[GP]at h<;>try(cases h;done)
 case alloc=>rfl
 case box=>simp only[oV];rw[if_pos h]
 case buildSlice=>simp only[oV];rw[if_pos h]
 case store=>rfl
 case makeSlice=>rfl
 case makeMap=>rfl
 case mapUpdate=>rfl
 case insert=>rfl
 case call c=>
  split at h
  .rename_i hcal;simp only[oV,uN,hcal]
  .rename_i f hcal;simp only[oV,uN,hcal];split at h
   .rename_i g a b hg;obtain⟨t,e1,e2⟩:=sX hc.gl h0 hf hg;cases e2 with
    |fn _ _ _ f' c' h1 h2 h3 h4=>
    simp only[e1];split
    .exact hc.inl g _ _ h
    .rfl
   .cases h
  .cases h
theorem MT(hF:Yk F ee Fe)(o:Oper)(n d:Nat):rS (Fe n d) o=FH F o:=by
 obtain⟨dst,op,type,pos,after,guard⟩:=o;cases op<;>simp only[rS,FH,hF.own];cases dst<;>rfl
theorem zZ(hF:Yk F ee Fe)(o:Oper)(n d:Nat):uW (Fe n d) o=zG F o:=by
 unfold uW zG;rw[hF.own];cases o.dst<;>rfl
theorem Jq(hc:Cn X gl pe)(hcall:wZ call ee)(hF:Yk F ee Fe){s:Af}(hg:GS s.S ρ μ fr H)(hav:AvOk P gl pe F s.av fr H){o:Oper}{l:gY}(h:CR P X call F s o=some l):
  ∃fr' H' pd,Ev (fun n d=>Bg P ⟨gl,pe⟩ (Fe n d) ⟨fr,H,s.pend⟩ o=some ⟨fr',H',pd⟩)/\wK P gl pe F l ρ μ fr' H' pd:=by
 unfold CR at h;split at h
 .rename_i d t hpd;split at h
  .cases h
  .rename_i hpn;split at h
   .rename_i n z hn hz;split at h
    .rename_i hcc;cases h;simp only[aA]at hcc;obtain⟨⟨k1,k2⟩,k3⟩:=hcc;obtain⟨z',e1,e2⟩:=BF (ρ:=ρ) (μ:=μ) hg.sy.zero hz;have hzl:z'.cells.length=n:=by rw[<-(qQ e2 k2).2.1];exact oM k1
     have hal:∃e,o.op= .alloc e:=by
      obtain⟨dst,op,type,pos,after,guard⟩:=o;cases op<;>simp only[FH]at hpd<;>first|exact⟨_,rfl⟩|cases hpd
     refine⟨fr.set d oL,H,some (d,t),.of fun n' d'=> ?_,_,aP _,ρ,μ,.refl _,.refl _,rfl,⟨hg.sy,hg.hp,hg.fr.setS sP d⟩,.nil⟩;have he:oV P ⟨gl,pe⟩ (uW (Fe n' d') o) H fr o=none:=by
      obtain⟨e,he⟩:=hal;simp only[oV,he]
     unfold Bg;simp only[he,MT hF,hpd,hn,e1];rw[if_neg (by simpa using hpn),if_pos ⟨hzl,by rw[<-hg.fr.1];exact pQ k3⟩]
    .cases h
   .cases h
 .rename_i hpd;split at h
  .rename_i heff;by_cases hbs:UC (zG F o) o=true
   .rw[if_pos hbs]at h;split at h
    .rename_i rs hrs;cases h;obtain⟨t,H',q1,R,q2,ρ',μ',q3,q4,q5,q6,q7⟩:=Uh hc hcall hF hg hrs;refine⟨pP fr o.dst t,H',s.pend,q1.mono fun n d q=> ?_,_,bU.2 ⟨R,q2,rfl⟩,ρ',μ',q3,q4,rfl,⟨q5,q6,(hg.fr.ext q3 q4).put q7 o.dst⟩,.nil⟩;unfold Bg;rw[zZ hF];simp only[JZ (P:=P) (H:=H) hc hg.sy.zero hg.fr heff hbs,MT hF,hpd,q]
    .cases h
   .rw[if_neg hbs]at h;cases h
  .split at h
   .rename_i d1 hd1;cases h;have q1:=aEr hav hd1;refine⟨pP fr o.dst (qW fr d1),H,s.pend,.of fun n d=> ?_,_,aP _,ρ,μ,.refl _,.refl _,rfl,⟨hg.sy,hg.hp,hg.fr.put (hg.fr.get d1) o.dst⟩,IK hg.fr.1 hav q1⟩;unfold Bg;rw[zZ hF];simp only[q1]
   .split at h
    .rename_i v hv;cases h;obtain⟨t,q1,ρ',q2,q3,q4⟩:=Eb hc hg.sy hg.hp hg.fr hv;refine⟨pP fr o.dst t,H,s.pend,.of fun n d=> ?_,_,aP _,ρ',μ,q2,.refl _,rfl,⟨q3,hg.hp.ext q2,(hg.fr.ext q2 (.refl _)).put q4 o.dst⟩,IK hg.fr.1 hav q1⟩;unfold Bg;rw[zZ hF];simp only[q1]
    .cases h
theorem Bv(hg:GS S ρ μ fr H){d:Tmp}{want:Bool}{a:A}(ha:Gm ρ μ a (qW fr d)){l:List (Bool×AS)}(h:Fm S d want a=some l):
  ∃q∈l,q.1=((match fr[d]? with|some (.bool b)=>some b|_ =>none)==some want)/\GS q.2 ρ μ fr H:=by
 unfold Fm at h;have hgt:∀x,qW fr d=x->x≠oL->fr[d]? =some x:=by
  intro x hx hne;rw[sG,aX]at hx;cases hf:fr[d]? with
  |none=>rw[hf]at hx;exact absurd hx.symm hne|some y=>rw[hf]at hx;rw[<-hx];rfl
 split at h
 .rename_i b;cases h;generalize hx:qW fr d=x at ha;cases ha with
  |bool _ b' hB=>
   obtain⟨cs',m1,m2⟩:=QL hg.sy.cs hB;have:=hgt _ hx (by simp);refine⟨_,bU.2 ⟨(b',cs'),m1,rfl⟩,?_,⟨hg.sy.len,hg.sy.zero,m2⟩,hg.hp,hg.fr.setSame (by rw[hx];exact .bool _ _ rfl)⟩;rw[this];cases b'<;>cases want<;>rfl
 .cases h;refine⟨_,aP _,?_,hg.sy,hg.hp,hg.fr.setSame ha⟩;generalize hx:qW fr d=x at ha;cases ha with
  |tup _ ts hl _ =>
   have:ts=[]:=by cases ts with|nil=>rfl|cons=>simp at hl
   subst this;rw[sG,aX]at hx;cases hf:fr[d]? with
   |none=>cases want<;>rfl|some y=>rw[hf]at hx;simp only[eR]at hx;subst hx;cases want<;>rfl
 .cases h
theorem CY(hg:GS S ρ μ fr H){ops:fC}{o:Oper}{l:List (Bool×AS)}(h:JV ops S o=some l):∃q∈l,q.1=oW ops fr o/\GS q.2 ρ μ fr H:=by
 unfold JV at h;unfold oW;split at h
 .rename_i hgd;cases h;exact⟨_,aP _,by rw[hgd],hg⟩
 .rename_i j want hgd;rw[hgd];simp only[xW];split at h
  .rename_i d hd;rw[hd];simp only[dN];have hget:=hg.fr.get d;split at h
   .rename_i a_s hb;rw[hb]at hget;cases hget with
    |or _ a _ hm ha=>
     obtain⟨r,r1,r2⟩:=qN h a hm;obtain⟨q,q1,q2,q3⟩:=Bv hg ha r1;exact⟨q,r2 q q1,q2,q3⟩
   .obtain⟨q,q1,q2,q3⟩:=Bv hg hget h;exact⟨q,q1,q2,q3⟩
  .cases h
theorem Dm(hg:GS S ρ μ fr H){i:Tmp}{k:gB}{s:Nat}{c w:Int}(hw:ρ[s]? =some w)(hx:qW fr i= .int k (w+c))(hk:FK k (w+c))(h0:0<=w+c):∀(n:Nat),w+c<n->∃S'∈XX S i k s c n,GS S' ρ μ fr H
 |0,h=>by omega
 |v+1,h=>by
  simp only[XX];by_cases hv:w+c=(v:Int)
  .rw[if_neg]
   .refine⟨_,aR,⟨hg.sy.len,hg.sy.zero,.cons ⟨w,0,hw,hg.sy.zero,by omega⟩ (.cons ⟨0,w,hg.sy.zero,hw,by omega⟩ hg.sy.cs)⟩,hg.hp,hg.fr.setSame ?_⟩;rw[hx,hv];have:=Gm.int (ρ:=ρ) (μ:=μ) k 0 (v:Int) 0 hg.sy.zero (by rw[hv]at hk;simpa using hk);simpa using this
   .simp only[bG,not_or,Bool.not_eq_true];refine⟨?_,?_⟩
    .cases hq:leq S.cs s c 0 ((v:Int)-1)with
     |false=>rfl|true=>have:=oS hg.sy.cs hq hw hg.sy.zero;omega
    .cases hq:leq S.cs 0 ((v:Int)+1) s c with
     |false=>rfl|true=>have:=oS hg.sy.cs hq hg.sy.zero hw;omega
  .obtain⟨S',h1,h2⟩:=Dm hg hw hx hk h0 v (by omega);split
   .exact⟨S',h1,h2⟩
   .exact⟨S',aJ _ h1,h2⟩
theorem KQ(hg:GS S ρ μ fr H){o:Oper}{l:List AS}(h:EY X S o=some l):∃S'∈l,GS S' ρ μ fr H:=by
 unfold EY at h;split at h
 .rename_i c _ _ _;split at h
  .rename_i p n hb;cases h;have hget:=hg.fr.get c;rw[hb]at hget;generalize hx:qW fr c=x at hget;cases hget with
   |bool _ b' hB=>
    obtain⟨cs',m1,m2⟩:=QL hg.sy.cs hB;exact⟨_,bU.2 ⟨(b',cs'),m1,rfl⟩,⟨hg.sy.len,hg.sy.zero,m2⟩,hg.hp,hg.fr.setSame (by rw[hx];exact .bool _ _ rfl)⟩
  .cases h
 .split at h
  .rename_i f _;split at h
   .rename_i a_s ho;cases h;have hget:=hg.fr.get f;rw[ho]at hget;cases hget with
    |or _ a _ hm ha=>exact⟨_,bU.2 ⟨a,hm,rfl⟩,hg.sy,hg.hp,hg.fr.setSame ha⟩
   .cases h
  .cases h
 .rename_i i _;split at h
  .split at h
   .rename_i k s c hi;split at h
    .cases h
    .split at h
     .rename_i hcnd;cases h;simp only[aA]at hcnd;have hget:=hg.fr.get i;rw[hi]at hget;generalize hx:qW fr i=x at hget;cases hget with
      |int _ _ _ w hw hk=>
       have k1:=oS hg.sy.cs hcnd.1 hg.sy.zero hw;have k2:=oS hg.sy.cs hcnd.2 hw hg.sy.zero;exact Dm hg hw hx hk (by omega) 16 (by omega)
     .cases h
   .cases h
  .cases h
 .cases h
theorem wK.lift{l l':gY}{pd:iE}(hl:∀y∈l,y∈l')(h:wK P gl pe F l ρ μ fr H pd):wK P gl pe F l' ρ μ fr H pd:=by
 obtain⟨s,h1,h2⟩:=h;exact⟨s,hl s h1,h2⟩
theorem wK.trans{l:gY}{pd:iE}(e1:rZ ρ ρ')(e2:rZ μ μ')(h:wK P gl pe F l ρ' μ' fr H pd):wK P gl pe F l ρ μ fr H pd:=by
 obtain⟨s,h1,a,b,h2,h3,h4⟩:=h;exact⟨s,h1,a,b,e1.trans h2,e2.trans h3,h4⟩
theorem QA(hc:Cn X gl pe)(hcall:wZ call ee)(hF:Yk F ee Fe){s:Af}(hg:GS s.S ρ μ fr H)(hav:AvOk P gl pe F s.av fr H){ops:fC}{o:Oper}{l:gY}(h:WZ P X call F ops s o=some l):
  ∃fr' H' pd,Ev (fun n d=>rV P ⟨gl,pe⟩ (Fe n d) ops ⟨fr,H,s.pend⟩ o=some ⟨fr',H',pd⟩)/\wK P gl pe F l ρ μ fr' H' pd:=by
 unfold WZ at h;split at h
 .rename_i gs hgs;obtain⟨q,m1,m2,m3⟩:=CY hg hgs;obtain⟨r,r1,r2⟩:=qN h q m1;split at r1
  .rename_i hq;rw[hq]at m2;split at r1
   .rename_i ss hss;obtain⟨S',p1,p2⟩:=KQ m3 hss;obtain⟨u,u1,u2⟩:=qN r1 S' p1;obtain⟨fr',H',pd,e1,e2⟩:=Jq (s:={s with S:=S'}) hc hcall hF p2 hav u1;refine⟨fr',H',pd,e1.mono fun n d e=> ?_,e2.lift fun y hy=>r2 y (u2 y hy)⟩;rw[QC,if_pos m2.symm];exact e
   .obtain⟨fr',H',pd,e1,e2⟩:=Jq (s:={s with S:=q.2}) hc hcall hF m3 hav r1;refine⟨fr',H',pd,e1.mono fun n d e=> ?_,e2.lift r2⟩;rw[QC,if_pos m2.symm];exact e
  .rename_i hq;cases r1;refine⟨pP fr o.dst oL,H,s.pend,.of fun n d=> ?_,_,r2 _ (aP _),ρ,μ,.refl _,.refl _,rfl,⟨m3.sy,m3.hp,m3.fr.put sP o.dst⟩,.nil⟩;rw[QC,if_neg (by rw[<-m2];exact hq)]
 .cases h
theorem Oi{E:tW}{G:Fc}{ops:fC}{s:Fx}{o:Oper}{d:Tmp}{t:eX}(hp:s.pend=some (d,t))(hno:∀(t':eX) (d':Tmp) (x:gF),o.op= .store t' (.tmp d') x->o.dst=none->o.guard=none->False):
  qU P E G ops s o=if sT ops o d then none else rV P E G ops s o:=by
 unfold qU;rw[hp];simp only
 try(split<;>first|rfl|(rename_i h1 h2 h3;exact(hno _ _ _ h1 h2 h3).elim))
theorem Og(hc:Cn X gl pe)(hcall:wZ call ee)(hF:Yk F ee Fe){s:Af}(hg:GS s.S ρ μ fr H)(hav:AvOk P gl pe F s.av fr H){ops:fC}{o:Oper}{l:gY}(h:Xw P X call F ops s o=some l):
  ∃fr' H' pd,Ev (fun n d=>qU P ⟨gl,pe⟩ (Fe n d) ops ⟨fr,H,s.pend⟩ o=some ⟨fr',H',pd⟩)/\wK P gl pe F l ρ μ fr' H' pd:=by
 unfold Xw at h;split at h
 .rename_i hp;obtain⟨fr',H',pd,e1,e2⟩:=QA hc hcall hF hg hav h;refine⟨fr',H',pd,e1.mono fun n d e=> ?_,e2⟩;unfold qU;simp only[hp]at e⊢;exact e
 .rename_i d t hp;split at h
  .rename_i t' d' x ho hdst hgd;split at h
   .rename_i hdd;have hdd:=oM hdd;split at h
    .rename_i ht;split at h
     .rename_i y n hy hn;split at h
      .rename_i hk;cases h;simp only[aA]at hk;obtain⟨k1,k2,k3⟩:=hk;obtain⟨u,e1,e2⟩:=sX hc.gl hg.sy.zero hg.fr hy;obtain⟨_,kc⟩:=qQ e2 k1;have hul:u.cells.length=n:=by rw[<-kc.1];exact oM k2
       have hstep:∀n' d',qU P ⟨gl,pe⟩ (Fe n' d') ops ⟨fr,H,s.pend⟩ o=some (RM (Fe n' d') ⟨fr,H,s.pend⟩ d t u):=fun n' d2=>by
        unfold qU;simp only[hp,ho,hdst,hgd,e1,hn];rw[if_pos hdd,if_pos ht,if_pos ⟨hul,AP kc k3⟩]
       by_cases hFd:F (d+1000)=true
       .refine⟨fr.set d (.ptr H.next 0),H.new {elem:=t,sz:=0,cells:=u.cells},none,.of fun n' d2=> ?_,_,aP _,?_⟩
        .rw[hstep];unfold RM;rw[hF.own,if_pos hFd]
        .obtain⟨ρ',μ',q3,q4,q5,q6,q7⟩:=PT (o:= .fix t y.cells) (b:={elem:=t,sz:=0,cells:=u.cells}) hg.sy hg.hp ⟨⟨rfl,rfl⟩,kc⟩;unfold Rw;rw[if_pos hFd];exact⟨ρ',μ',q3,q4,rfl,⟨q5,q6,(hg.fr.ext q3 q4).setS q7 d⟩,.nil⟩
       .refine⟨fr.set d (.ref u 0),H,none,.of fun n' d2=> ?_,_,aP _,?_⟩
        .rw[hstep];unfold RM;rw[hF.own,if_neg hFd]
        .unfold Rw;rw[if_neg hFd];exact⟨ρ,μ,.refl _,.refl _,rfl,⟨hg.sy,hg.hp,hg.fr.setS (.ref _ _ _ k1 e2) d⟩,.nil⟩
      .cases h
     .cases h
    .cases h
   .rename_i hdd;split at h
    .cases h
    .rename_i htc;obtain⟨fr',H',pd,e1,e2⟩:=QA hc hcall hF hg hav h;refine⟨fr',H',pd,e1.mono fun n d2 e=> ?_,e2⟩;unfold qU;simp only[hp,ho,hdst,hgd]at e⊢;rw[if_neg (fun q=>hdd (by rw[q];simp)),if_neg htc];exact e
  .rename_i hno;split at h
   .cases h
   .rename_i htc;obtain⟨fr',H',pd,e1,e2⟩:=QA hc hcall hF hg hav h;refine⟨fr',H',pd,e1.mono fun n d2 e=> ?_,e2⟩;rw[Oi hp hno,if_neg htc];exact e
theorem Ic(hc:Cn X gl pe)(hcall:wZ call ee)(hF:Yk F ee Fe){ops:fC}:∀(os:fS) (s:Af) (ρ:fI) (μ:fB) (fr:eY) (H:Hp) (l:gY),GS s.S ρ μ fr H->AvOk P gl pe F s.av fr H->ZR P X call F ops os s=some l->
  ∃fr' H' pd,Ev (fun n d=>pL P ⟨gl,pe⟩ (Fe n d) ops os ⟨fr,H,s.pend⟩=some ⟨fr',H',pd⟩)/\wK P gl pe F l ρ μ fr' H' pd
 |[],s,ρ,μ,fr,H,l,hg,hav,h=>by
  simp only[ZR]at h;cases h;exact⟨fr,H,s.pend,.of fun n d=>rfl,_,aP _,ρ,μ,.refl _,.refl _,rfl,hg,hav⟩
 |o::rest,s,ρ,μ,fr,H,l,hg,hav,h=>by
  simp only[ZR]at h;split at h
  .rename_i q hq;obtain⟨fr1,H1,pd1,e1,s1,m1,ρ1,μ1,x1,x2,x3,g1,av1⟩:=Og hc hcall hF hg hav hq;obtain⟨r,r1,r2⟩:=qN h s1 m1;obtain⟨fr2,H2,pd2,e2,k2⟩:=Ic hc hcall hF rest s1 ρ1 μ1 fr1 H1 r g1 av1 r1;rw[x3]at e2;refine⟨fr2,H2,pd2,(e1.and e2).mono fun n d ⟨a,b⟩=> ?_,(k2.lift r2).trans x1 x2⟩;simp only[pL,a];exact b
  .cases h
end
end Go.Ps
namespace Go.Ps
variable[Inhabited Prd]
section
variable{ρ ρ':fI}{μ μ':fB}{X:AX}{gl:fD}{pe:fK}{H:Hp}{S:AS}{P:fA}
variable{call:FuncId->List A->AS->Option (List AR)}{ee:fO}{F:fX}{Fe:Nat->Nat->Fc}{fr:eY}
theorem UO(hc:Cn X gl pe){s:Af}(hg:GS s.S ρ μ fr H)(hav:AvOk P gl pe F s.av fr H){o:Oper}{l:gY}(h:CR P X call F s o=some l)(hp:FH F o=none)(he:GP X (zG F o) s.S.fr o=false):
  ∃t,oV P ⟨gl,pe⟩ (zG F o) H fr o=some t/\wK P gl pe F l ρ μ (pP fr o.dst t) H s.pend:=by
 unfold CR at h;rw[hp]at h;simp only at h;rw[if_neg (by rw[he];simp)]at h;split at h
 .rename_i d1 hd1;cases h;have q1:=aEr hav hd1;exact⟨_,q1,_,aP _,ρ,μ,.refl _,.refl _,rfl,⟨hg.sy,hg.hp,hg.fr.put (hg.fr.get d1) o.dst⟩,IK hg.fr.1 hav q1⟩
 .split at h
  .rename_i v hv;cases h;obtain⟨t,q1,ρ',q2,q3,q4⟩:=Eb hc hg.sy hg.hp hg.fr hv;exact⟨t,q1,_,aP _,ρ',μ,q2,.refl _,rfl,⟨q3,hg.hp.ext q2,(hg.fr.ext q2 (.refl _)).put q4 o.dst⟩,IK hg.fr.1 hav q1⟩
  .cases h
theorem Qk{s:Af}(hg:GS s.S ρ μ fr H){o:Oper}{l:gY}(h:CR P X call F s o=some l){d:Tmp}{t:eX}(hp:FH F o=some (d,t)):
  s.pend.isSome=false/\oV P ⟨gl,pe⟩ (zG F o) H fr o=none/\(∃n z,tT P t=some n/\wN P t=some z/\z.cells.length=n)/\wK P gl pe F l ρ μ (fr.set d oL) H (some (d,t)):=by
 unfold CR at h;rw[hp]at h;simp only at h;split at h
 .cases h
 .rename_i hpn;split at h
  .rename_i n z hn hz;split at h
   .rename_i hcc;cases h;simp only[aA]at hcc;obtain⟨⟨k1,k2⟩,k3⟩:=hcc;obtain⟨z',e1,e2⟩:=BF (ρ:=ρ) (μ:=μ) hg.sy.zero hz;have hzl:z'.cells.length=n:=by rw[<-(qQ e2 k2).2.1];exact oM k1
    refine⟨by simpa using hpn,?_,⟨n,z',hn,e1,hzl⟩,_,aP _,ρ,μ,.refl _,.refl _,rfl,⟨hg.sy,hg.hp,hg.fr.setS sP d⟩,.nil⟩;obtain⟨dst,op,type,pos,after,guard⟩:=o;cases op<;>simp only[FH]at hp<;>first|rfl|cases hp
   .cases h
  .cases h
theorem Js(hc:Cn X gl pe)(hcall:wZ call ee)(hF:Yk F ee Fe){ops:fC}:∀(os:fS) (m:Nat) (s:Af) (ρ:fI) (μ:fB) (fr:eY) (H:Hp) (l:gY),GS s.S ρ μ fr H->AvOk P gl pe F s.av fr H->LP P X call F ops os m s=some l->
  ∃fr' H' pd,Ev (fun n d=>pK P ⟨gl,pe⟩ (Fe n d) ops os m ⟨fr,H,s.pend⟩=some ⟨fr',H',pd⟩)/\wK P gl pe F l ρ μ fr' H' pd
 |[],m,s,ρ,μ,fr,H,l,hg,hav,h=>by
  simp only[LP]at h;split at h
  .rename_i hp;cases h;exact⟨fr,H,none,.of fun n d=>by simp only[pK,hp],_,aP _,ρ,μ,.refl _,.refl _,hp,hg,hav⟩
  .cases h
 |o::rest,m,s,ρ,μ,fr,H,l,hg,hav,h=>by
  have ih:=Js hc hcall hF (ops:=ops) rest;simp only[LP]at h;have hph:∀fr H,yU ops ⟨fr,H,s.pend⟩ o=Mu ops s o:=fun fr H=>rfl;have seqs:∀{S':AS} {l':gY},(∀y∈l',y∈l)->GS S' ρ μ fr H->qA (rF ops.toList []) m ops.size=true->ZR P X call F ops (o::rest) {s with S:=S'}=some l'->
    ∃fr' H' pd,Ev (fun n d=>pL P ⟨gl,pe⟩ (Fe n d) ops (o::rest) ⟨fr,H,s.pend⟩=some ⟨fr',H',pd⟩)/\wK P gl pe F l ρ μ fr' H' pd:=by
   intro S' l' hl hg' _ hs';obtain⟨fr',H',pd,e1,e2⟩:=Ic hc hcall hF (o::rest) {s with S:=S'} ρ μ fr H l' hg' hav hs';exact⟨fr',H',pd,e1,e2.lift hl⟩
  split at h
  .rename_i hpd;split at h
   .rename_i hch;obtain⟨fr',H',pd,e1,e2⟩:=seqs (fun y h=>h) hg hch h;refine⟨fr',H',pd,e1.mono fun n d e=> ?_,e2⟩;simp only[pK,hph];rw[if_pos hpd,if_pos hch];exact e
   .cases h
  .rename_i hpd;split at h
   .cases h
   .rename_i hdi;have hdi:¬uM ⟨fr,H,s.pend⟩ o=false:=by
     intro q;apply hdi;unfold uM at q;unfold NW;split at q
     .rename_i d hd;rw[hd];simp only[decide_eq_false_iff_not]at q;simp only;rw[hg.fr.1];cases hb:Nat.blt d fr.length with
      |false=>rfl|true=>exact absurd (pQ hb) q
     .cases q
    split at h
    .rename_i gs hgs;obtain⟨q,m1,m2,m3⟩:=CY hg hgs;obtain⟨r,r1,r2⟩:=qN h q m1;split at r1
     .rename_i hq;rw[hq]at m2;have pureCase:∀{S':AS} {u:gY},GS S' ρ μ fr H->FH F o=none->GP X (zG F o) S'.fr o=false->CR P X call F {s with S:=S'} o=some u->∀{v:gY},zK (LP P X call F ops rest (m+1)) u=some v->(∀y∈v,y∈l)->
        ∃fr' H' pd,Ev (fun n d=>pK P ⟨gl,pe⟩ (Fe n d) ops (o::rest) m ⟨fr,H,s.pend⟩=some ⟨fr',H',pd⟩)/\wK P gl pe F l ρ μ fr' H' pd:=by
       intro S' u g' hp he hu v hv hl;obtain⟨t,e1,s1,k1,ρ1,μ1,x1,x2,x3,g1,av1⟩:=UO (s:={s with S:=S'}) hc g' hav hu hp he;obtain⟨w,w1,w2⟩:=qN hv s1 k1;obtain⟨fr',H',pd,e2,e3⟩:=ih (m+1) s1 ρ1 μ1 _ _ w g1 av1 w1;refine⟨fr',H',pd,e2.mono fun n d e=> ?_,(e3.lift fun y hy=>hl y (w2 y hy)).trans x1 x2⟩;simp only[pK,hph];rw[if_neg hpd,if_neg hdi,if_pos m2.symm,zZ hF,e1];simp only;rw[x3]at e;exact e
      have effCase:∀{S':AS} {u:gY},GS S' ρ μ fr H->FH F o=none->GP X (zG F o) S'.fr o=true->(if(UC (zG F o) o&&qA (rF ops.toList []) m ops.size)=true then ZR P X call F ops (o::rest) {s with S:=S'}else none)=some u->(∀y∈u,y∈l)->
        ∃fr' H' pd,Ev (fun n d=>pK P ⟨gl,pe⟩ (Fe n d) ops (o::rest) m ⟨fr,H,s.pend⟩=some ⟨fr',H',pd⟩)/\wK P gl pe F l ρ μ fr' H' pd:=by
       intro S' u g' hp he hu hl;split at hu
       .rename_i hch;simp only[aA]at hch;obtain⟨hbs,hch⟩:=hch;obtain⟨fr',H',pd,e1,e2⟩:=seqs hl g' hch hu;refine⟨fr',H',pd,e1.mono fun n d e=> ?_,e2⟩;simp only[pK,hph];rw[if_neg hpd,if_neg hdi,if_pos m2.symm,zZ hF,JZ (P:=P) (H:=H) hc g'.sy.zero g'.fr he hbs];simp only[MT hF,hp];rw[if_pos hch];exact e
       .cases hu
      split at r1
      .rename_i dt hdt;split at r1
       .rename_i ss hss;obtain⟨d,t⟩:=dt;obtain⟨k1,k2,⟨n0,z,k3,k4,k5⟩,s1,k6,ρ1,μ1,x1,x2,x3,g1,av1⟩:=Qk (gl:=gl) (pe:=pe) (s:={s with S:=q.2}) m3 hss hdt;obtain⟨w,w1,w2⟩:=qN r1 s1 k6;obtain⟨fr',H',pd,e2,e3⟩:=ih (m+1) s1 ρ1 μ1 _ _ w g1 av1 w1;refine⟨fr',H',pd,e2.mono fun n d' e=> ?_,(e3.lift fun y hy=>r2 y (w2 y hy)).trans x1 x2⟩;simp only[pK,hph];rw[if_neg hpd,if_neg hdi,if_pos m2.symm,zZ hF,k2];simp only[MT hF,hdt,k3,k4];rw[if_neg (by simpa using k1),if_pos k5];rw[x3]at e;exact e
       .cases r1
      .rename_i hdt;split at r1
       .rename_i ss hss;obtain⟨S',p1,p2⟩:=KQ m3 hss;obtain⟨u,u1,u2⟩:=qN r1 S' p1;split at u1
        .rename_i he;exact effCase p2 hdt he u1 (fun y hy=>r2 y (u2 y hy))
        .rename_i he;split at u1
         .rename_i w hw;exact pureCase p2 hdt (by simpa using he) hw u1 (fun y hy=>r2 y (u2 y hy))
         .cases u1
       .split at r1
        .rename_i he;exact effCase m3 hdt he r1 r2
        .rename_i he;split at r1
         .rename_i w hw;exact pureCase m3 hdt (by simpa using he) hw r1 r2
         .cases r1
     .rename_i hq;obtain⟨fr',H',pd,e2,e3⟩:=ih (m+1) {S:={q.2 with fr:=KK q.2.fr o.dst (.tup [])},pend:=s.pend,av:=[]} ρ μ (pP fr o.dst oL) H r ⟨m3.sy,m3.hp,m3.fr.put sP o.dst⟩ .nil r1;refine⟨fr',H',pd,e2.mono fun n d e=> ?_,e3.lift r2⟩;simp only[pK,hph];rw[if_neg hpd,if_neg hdi,if_neg (by rw[<-m2];exact hq)];exact e
    .cases h
theorem aNm(hc:Cn X gl pe)(hg:GS S ρ μ fr H){l lc:Nat}(hl:μ[l]? =some (some lc)){o:Oper}(h:aNl X l S o=true):hOk gl lc fr o=true:=by
 unfold aNl at h;unfold hOk;have ne:∀{l' x:Nat},μ[l']? =some (some x)->(!(Nat.beq l' l)&&((oO S.hp l).isSome&&(oO S.hp l').isSome))=true->x≠lc:=by
  intro l' x hx hh e;subst e;simp only[aA,bM]at hh;obtain⟨h1,h2,h3⟩:=hh;obtain⟨o1,q1⟩:=Option.isSome_iff_exists.1 h2;obtain⟨o2,q2⟩:=Option.isSome_iff_exists.1 h3;have:=hg.hp.inj l' l o2 o1 x q2 q1 hx hl;subst this;simp at h1
 split at h
 .rename_i t a ho;rw[ho];simp only;split at h
  .rename_i x off ha;obtain⟨u,u1,u2⟩:=sX hc.gl hg.sy.zero hg.fr ha;cases u2;rw[u1]
  .rename_i l' off ha;obtain⟨u,u1,u2⟩:=sX hc.gl hg.sy.zero hg.fr ha;cases u2 with
   |ptr _ _ x hx=>rw[u1];simpa using ne hx h
  .rename_i l' _ _ _ _ ha;obtain⟨u,u1,u2⟩:=sX hc.gl hg.sy.zero hg.fr ha;cases u2 with
   |elp _ _ _ _ _ x w hx _ _ =>rw[u1];simpa using ne hx h
  .cases h
 .rename_i c ho;rw[ho];simp only;split at h
  .rename_i hb;rw[hb];simp only;rw[aG]at h⊢;intro x hx;have hq:=h x hx;have no:∀(a:A) (u:T),NY X.gl S.fr x=some a->Gm ρ μ a u->pE gl fr x=some u->(match a with| .str .. | .strc _ | .sl .. | .osl .. | .nils| .sx .. | .nilm=>true|_ =>false)=true->(match pE gl fr x with|some (.mp _)=>false|_ =>true)=true:=by
    intro a u _ hg he ha;rw[he];cases u<;>first|rfl|(exfalso;cases a<;>first|(cases ha;done)|(cases hg<;>simp_all [AK]))
   cases ha:NY X.gl S.fr x with
   |none=>rw[ha]at hq;cases hq
   |some a=>
    obtain⟨u,u1,u2⟩:=sX hc.gl hg.sy.zero hg.fr ha;refine no a u ha u2 u1 ?_;rw[ha]at hq;cases a<;>first|rfl|(cases hq;done)
  .rename_i b hb hne;rw[hne];cases b<;>first|rfl|exact absurd rfl hb
  .cases h
 .cases h
 .rename_i n1 n2 n3;split
  .rename_i t a ho;exact absurd ho (n1 _ _)
  .rename_i c ho;exact absurd ho (n2 _)
  .rename_i ho;exact absurd ho (n3 _ _ _ _)
  .rfl
theorem Bh(hc:Cn X gl pe)(hcall:wZ call ee)(hF:Yk F ee Fe){ops:fC}{A:fN}{p l lc:Nat}:∀(os:fS) (m:Nat) (af:Bool) (s:Af) (ρ:fI) (μ:fB) (fr:eY) (H:Hp) (l':gY),GS s.S ρ μ fr H->AvOk P gl pe F s.av fr H->s.pend=none->μ[l]? =some (some lc)->JP P X call F ops A p l os m af s=some l'->
  ∃fr' H' pd,Ev (fun n d=>rP P ⟨gl,pe⟩ (Fe n d) ops A p lc os m af ⟨fr,H,none⟩=some ⟨fr',H',pd⟩)/\wK P gl pe F l' ρ μ fr' H' pd
 |[],m,af,s,ρ,μ,fr,H,l',hg,hav,hpn,hl,h=>by
  simp only[JP]at h;split at h
  .rename_i ha;cases h;exact⟨fr,H,none,.of fun n d=>by simp only[rP,ha,if_true],_,aP _,ρ,μ,.refl _,.refl _,hpn,hg,hav⟩
  .cases h
 |o::rest,m,af,s,ρ,μ,fr,H,l',hg,hav,hpn,hl,h=>by
  have ih:=Bh hc hcall hF (ops:=ops) (A:=A) (p:=p) (l:=l) (lc:=lc) rest;simp only[JP]at h;split at h
  .rename_i hch;obtain⟨fr',H',pd,e1,e2⟩:=Ic hc hcall hF (o::rest) s ρ μ fr H l' hg hav h;rw[hpn]at e1;refine⟨fr',H',pd,e1.mono fun n d e=> ?_,e2⟩;simp only[rP];rw[if_pos hch];exact e
  .rename_i hch;split at h
   .cases h
   .rename_i hdi;have hdi:¬uM ⟨fr,H,none⟩ o=false:=by
     intro q;apply hdi;unfold uM at q;unfold NW;split at q
     .rename_i d hd;rw[hd];simp only[decide_eq_false_iff_not]at q;simp only;rw[hg.fr.1];cases hb:Nat.blt d fr.length with
      |false=>rfl|true=>exact absurd (pQ hb) q
     .cases q
    split at h
    .rename_i hst;split at h
     .cases h
     .rename_i haf;split at h
      .rename_i t x y hop;split at h
       .rename_i l0 off v hx hy;split at h
        .rename_i hll;have hll:=oM hll;subst hll;split at h
         .rename_i R hR;obtain⟨q,q1,q2⟩:=sX hc.gl hg.sy.zero hg.fr hx;obtain⟨w,w1,w2⟩:=sX hc.gl hg.sy.zero hg.fr hy;have q2':=q2;cases q2 with
          |ptr _ _ x0 hx0=>
          rw[hl]at hx0;cases hx0;obtain⟨H1,s1,ρ1,μ1,z1,z2,z3,z4,z5⟩:=Ds hg.sy hg.hp q2' w2 hR;obtain⟨fr',H',pd,e1,e2⟩:=ih (m+1) true {S:={s.S with hp:=R.hp,nx:=R.nx,nl:=R.nl,cs:=R.cs},pend:=none,av:=[]} ρ1 μ1 fr H1 l' ⟨z3,z4,hg.fr.ext z1 z2⟩ .nil rfl (z2 _ _ hl) h;refine⟨fr',H',pd,e1.mono fun n d e=> ?_,e2.trans z1 z2⟩;simp only[rP];rw[if_neg hch,if_neg hdi,if_pos hst,if_neg haf];simp only[hop,q1,w1,if_true,s1];have:af=false:=by simpa using haf
          exact e
         .cases h
        .cases h
       .cases h
      .cases h
    .rename_i hst;split at h
     .rename_i gs hgs;obtain⟨q,m1,m2,m3⟩:=CY hg hgs;obtain⟨r,r1,r2⟩:=qN h q m1;split at r1
      .rename_i hq;rw[hq]at m2;by_cases hcc:(((if af=true then tG A m p else tG A p m)||aNl X l q.2 o)&&((FH F o).isNone&& !(GP X (zG F o) q.2.fr o)))=true
       .rw[if_pos hcc]at r1;rw[aA,aA,bM,Option.isNone_iff_eq_none]at hcc;obtain⟨c1,c2,c3⟩:=hcc;split at r1
        .rename_i ss hss;have hh:((if af=true then tG A m p else tG A p m)||hOk gl lc fr o)=true:=by
          rcases bG _ _ |>.mp c1 with q|q
          .rw[q];rfl
          .rw[aNm hc m3 hl q];simp
         obtain⟨t,e1,s1,k1,ρ1,μ1,x1,x2,x3,g1,av1⟩:=UO (s:={s with S:=q.2}) hc m3 hav hss c2 c3;obtain⟨w,w1,w2⟩:=qN r1 s1 k1;obtain⟨fr',H',pd,e2,e3⟩:=ih (m+1) af s1 ρ1 μ1 _ _ w g1 av1 (by rw[x3];exact hpn) (x2 _ _ hl) w1;refine⟨fr',H',pd,e2.mono fun n d e=> ?_,(e3.lift fun y hy=>r2 y (w2 y hy)).trans x1 x2⟩;simp only[rP];rw[if_neg hch,if_neg hdi,if_neg hst,if_pos m2.symm,if_pos hh,zZ hF,e1];exact e
        .cases r1
       .rw[if_neg hcc]at r1;cases r1
      .rename_i hq;obtain⟨fr',H',pd,e2,e3⟩:=ih (m+1) af {S:={q.2 with fr:=KK q.2.fr o.dst (.tup [])},pend:=s.pend,av:=[]} ρ μ (pP fr o.dst oL) H r ⟨m3.sy,m3.hp,m3.fr.put sP o.dst⟩ .nil hpn hl r1;refine⟨fr',H',pd,e2.mono fun n d e=> ?_,e3.lift r2⟩;simp only[rP];rw[if_neg hch,if_neg hdi,if_neg hst,if_neg (by rw[<-m2];exact hq)];exact e
     .cases h
theorem aGi(hc:Cn X gl pe)(hg:GS S ρ μ fr H){o:Oper}(h:Ks X S o=true):Fp gl fr o=true:=by
 unfold Ks at h;unfold Fp;split at h
 .rename_i t a ho;rw[ho];simp only;split at h
  .rename_i x off ha;obtain⟨u,u1,u2⟩:=sX hc.gl hg.sy.zero hg.fr ha;cases u2;rw[u1]
  .cases h
 .rename_i c ho;rw[ho];simp only;split at h
  .rename_i hb;rw[hb];simp only;rw[aG]at h⊢;intro x hx;have hq:=h x hx;have no:∀(a:A) (u:T),Gm ρ μ a u->pE gl fr x=some u->(match a with| .str .. | .strc _ | .sl .. | .osl .. | .nils| .sx .. | .nilm| .slk _ | .slp .. =>true|_ =>false)=true->(match pE gl fr x with|some (.mp _)=>false|_ =>true)=true:=by
    intro a u hg he ha;rw[he];cases u<;>first|rfl|(exfalso;cases a<;>first|(cases ha;done)|(cases hg<;>simp_all [AK]))
   cases ha:NY X.gl S.fr x with
   |none=>rw[ha]at hq;cases hq
   |some a=>
    obtain⟨u,u1,u2⟩:=sX hc.gl hg.sy.zero hg.fr ha;refine no a u u2 u1 ?_;rw[ha]at hq;cases a<;>first|rfl|(cases hq;done)
  .rename_i b hb hne;rw[hne];cases b<;>first|rfl|exact absurd rfl hb
  .cases h
 .cases h
 .rename_i n1 n2 n3;split
  .rename_i t a ho;exact absurd ho (n1 _ _)
  .rename_i c ho;exact absurd ho (n2 _)
  .rename_i ho;exact absurd ho (n3 _ _ _ _)
  .rfl
abbrev iR:=List (AS×List Nat×List Nat)
def bGc(l:iR)(ρ:fI)(μ:fB)(f:eY)(H:Hp)(es ds:fN):Prop:=
 ∃q∈l,q.2.1=es/\(∀d∈ds,d∈q.2.2)/\∃ρ' μ',rZ ρ ρ'/\rZ μ μ'/\GS q.1 ρ' μ' f H
theorem Jk{m:Nat}{e d:Bool}{l:Option (List (AS×List Nat×List Nat))}{r:iR}(h:Ul m e d l=some r):∃l',l=some l'/\∀q∈l',(q.1,(if e then m::q.2.1 else q.2.1),(if d then m::q.2.2 else q.2.2))∈r:=by
 unfold Ul at h;split at h
 .rename_i l';cases h;exact⟨l',rfl,fun q hq=>bU.2 ⟨q,hq,rfl⟩⟩
 .cases h
theorem Ka(hc:Cn X gl pe)(hcall:wZ call ee)(hF:Yk F ee Fe){ops:fC}:∀(os:fS) (m:Nat) (S:AS) (ρ:fI) (μ:fB) (fr:eY) (H:Hp) (l:iR),GS S ρ μ fr H->UT P X call F ops os m S=some l->
  ∃f H' es ds,Ev (fun n d=>IW P ⟨gl,pe⟩ (Fe n d) ops os m fr H=some (f,H',es,ds))/\bGc l ρ μ f H' es ds
 |[],m,S,ρ,μ,fr,H,l,hg,h=>by
  simp only[UT]at h;cases h;exact⟨fr,H,[],[],.of fun n d=>rfl,_,aP _,rfl,fun d hd=>by simp at hd,ρ,μ,.refl _,.refl _,hg⟩
 |o::rest,m,S,ρ,μ,fr,H,l,hg,h=>by
  have ih:=Ka hc hcall hF (ops:=ops) rest;simp only[UT]at h;split at h
  .cases h
  .rename_i hdi;have hdi:¬uM ⟨fr,H,none⟩ o=false:=by
    intro q;apply hdi;unfold uM at q;unfold NW;split at q
    .rename_i d hd;rw[hd];simp only[decide_eq_false_iff_not]at q;simp only;rw[hg.fr.1];cases hb:Nat.blt d fr.length with
     |false=>rfl|true=>exact absurd (pQ hb) q
    .cases q
   split at h
   .rename_i gs hgs;obtain⟨q,m1,m2,m3⟩:=CY hg hgs;obtain⟨r,r1,r2⟩:=qN h q m1;split at r1
    .rename_i hq;rw[hq]at m2;have hsp:∃S'∈(match EY X q.2 o with|some ss=>ss|none=>[q.2]),GS S' ρ μ fr H:=by
      cases hs:EY X q.2 o with
      |none=>exact⟨q.2,aP _,m3⟩|some ss=>exact KQ m3 hs
     obtain⟨S',s1,g'⟩:=hsp;obtain⟨u,u1,u2⟩:=qN r1 S' s1;have lift:∀y∈u,y∈l:=fun y hy=>r2 y (u2 y hy);split at u1
     .rename_i heff;split at u1
      .rename_i hbs;split at u1
       .rename_i rs hrs;obtain⟨t,H1,e1,R,R1,ρ1,μ1,x1,x2,x3,x4,x5⟩:=Uh (Fe:=Fe) hc hcall hF g' hrs;obtain⟨w,w1,w2⟩:=qN u1 R R1;obtain⟨l',rfl',z⟩:=Jk w1;have g1:GS (S'.ofR o.dst R) ρ1 μ1 (pP fr o.dst t) H1:=⟨x3,x4,(g'.fr.ext x1 x2).put x5 o.dst⟩;obtain⟨f,H',es,ds,e2,q2,k1,k2,k3,ρ2,μ2,y1,y2,y3⟩:=ih (m+1) _ ρ1 μ1 _ _ l' g1 rfl';refine⟨f,H',m::es,ds,(e1.and e2).mono fun n d ⟨a,b⟩=> ?_,_,lift _ (w2 _ (z q2 k1)),by simp[k2],by simpa using k3,ρ2,μ2,x1.trans y1,x2.trans y2,y3⟩;simp only[IW];rw[if_neg hdi,if_pos m2.symm,zZ hF,JZ (P:=P) (H:=H) hc g'.sy.zero g'.fr heff hbs];simp only[a,b]
       .cases u1
      .cases u1
     .split at u1
      .rename_i v hv;obtain⟨t,e1,ρ1,x1,x2,x3⟩:=Eb hc g'.sy g'.hp g'.fr hv;obtain⟨l',rfl',z⟩:=Jk u1;have g1:GS {S' with fr:=KK S'.fr o.dst v.a,nx:=v.nx,cs:=v.cs} ρ1 μ (pP fr o.dst t) H:=⟨x2,g'.hp.ext x1,(g'.fr.ext x1 (.refl _)).put x3 o.dst⟩;obtain⟨f,H',es,ds,e2,q2,k1,k2,k3,ρ2,μ2,y1,y2,y3⟩:=ih (m+1) _ ρ1 μ _ _ l' g1 rfl';refine⟨f,H',es,if Fp gl fr o then ds else m::ds,e2.mono fun n d b=> ?_,_,lift _ (z q2 k1),by simp[k2],fun d hd=> ?_,ρ2,μ2,x1.trans y1,y2,y3⟩
       .simp only[IW];rw[if_neg hdi,if_pos m2.symm,zZ hF,e1];simp only[b]
       .by_cases hh:Ks X S' o=true
        .rw[if_pos (aGi hc g' hh)]at hd;simp only[hh,Bool.not_true,bA,if_false];exact k3 d hd
        .have hh:Ks X S' o=false:=by simpa using hh
         simp only[hh,Bool.not_false,if_true];split at hd
         .exact aJ _ (k3 d hd)
         .rcases aU.1 hd with rfl|hd
          .exact aR
          .exact aJ _ (k3 d hd)
      .cases u1
    .rename_i hq;have hw:¬oW ops fr o=true:=fun e=>by rw[<-m2]at e;exact hq e
     have g1:GS {q.2 with fr:=KK q.2.fr o.dst (.tup [])} ρ μ (pP fr o.dst oL) H:=⟨m3.sy,m3.hp,m3.fr.put sP o.dst⟩;obtain⟨f,H',es,ds,e2,q2,k1,k2,k3,z⟩:=ih (m+1) _ ρ μ _ _ r g1 r1;refine⟨f,H',es,ds,e2.mono fun n d b=> ?_,q2,r2 _ k1,k2,k3,z⟩;simp only[IW];rw[if_neg hdi,if_neg hw];exact b
   .cases h
theorem aAk{A es ds ds':fN}(h:Cj A es ds=true)(hd:∀d∈ds',d∈ds):Cj A es ds'=true:=by
 simp only[Cj,aA,aG]at h⊢;exact⟨h.1,fun d hdd=>h.2 d (hd d hdd)⟩
theorem Zc(hc:Cn X gl pe)(hcall:wZ call ee)(hF:Yk F ee Fe){ops:fC}(hg:GS S ρ μ fr H){l':gY}(h:Ql P X call F ops S=some l'):
  ∃fr' H' pd,Ev (fun n d=>FW P ⟨gl,pe⟩ (Fe n d) ops fr H=some ⟨fr',H',pd⟩)/\wK P gl pe F l' ρ μ fr' H' pd:=by
 unfold Ql at h;split at h
 .rename_i l hl;split at h
  .rename_i hk;cases h;obtain⟨f,H',es,ds,e1,q,q1,q2,q3,ρ',μ',x1,x2,x3⟩:=Ka (Fe:=Fe) hc hcall hF ops.toList 0 S ρ μ fr H l hg hl;have hw:=aG.1 hk q q1;rw[q2]at hw;refine⟨f,H',none,e1.mono fun n d e=> ?_,⟨q.1,none,[]⟩,bU.2 ⟨q,q1,rfl⟩,ρ',μ',x1,x2,rfl,x3,.nil⟩;simp only[FW,e];rw[if_pos (aAk hw q3)]
  .cases h
 .cases h
theorem Ze(hc:Cn X gl pe)(hcall:wZ call ee)(hF:Yk F ee Fe){ops:fC}{fl:Bool}(hg:GS S ρ μ fr H){l':gY}(h:Qm P X call F fl ops S=some l'):
  ∃fr' H' pd,Ev (fun n d=>yH P ⟨gl,pe⟩ (Fe n d) ops fl fr H=some ⟨fr',H',pd⟩)/\wK P gl pe F l' ρ μ fr' H' pd:=by
 unfold Qm at h;split at h
 .rename_i hlk;obtain⟨fr',H',pd,e1,e2⟩:=Zc (Fe:=Fe) hc hcall hF hg h;exact⟨fr',H',pd,e1.mono fun n d e=>by unfold yH;rw[if_pos hlk];exact e,e2⟩
 rename_i hlk;split at h
 .rename_i hlt;split at h
  .rename_i b p hb hp;split at h
   .rename_i l off hv;have hget:=hg.fr.get b;rw[hv]at hget;generalize hz:qW fr b=z at hget;cases hget with
    |ptr _ _ lc hlc=>
     obtain⟨fr',H',pd,e1,e2⟩:=Bh hc hcall hF ops.toList 0 false ⟨S,none,[]⟩ ρ μ fr H l' hg .nil rfl hlc h;refine⟨fr',H',pd,e1.mono fun n d e=> ?_,e2⟩;unfold yH;rw[if_neg hlk];unfold qK;rw[if_pos hlt,hb,hp];simp only[hz];exact e
   .cases h
  .cases h
 .rename_i hlt;obtain⟨fr',H',pd,e1,e2⟩:=Js hc hcall hF ops.toList 0 ⟨S,none,[]⟩ ρ μ fr H l' hg .nil h;refine⟨fr',H',pd,e1.mono fun n d e=> ?_,e2⟩;unfold yH;rw[if_neg hlk];unfold qK;rw[if_neg hlt];exact e
end
end Go.Ps
namespace Go.Ps
noncomputable section
structure QN(r r':Lr):Prop where
 fr:r'.fr=r.fr
 n:r'.n=r.n
 ps:r'.ps=r.ps
 asg:r'.asg=r.asg
 bd:r'.bd=r.bd
 ow:r'.ow=r.ow
theorem QN.refl(r:Lr):QN r r:=⟨rfl,rfl,rfl,rfl,rfl,rfl⟩
theorem QN.trans{a b c:Lr}(h:QN a b)(k:QN b c):QN a c:=⟨k.fr.trans h.fr,k.n.trans h.n,k.ps.trans h.ps,k.asg.trans h.asg,k.bd.trans h.bd,k.ow.trans h.ow⟩
structure qE(H H':Hp):Prop where
 nx:H.next<=H'.next
 lp:∀l,l<H.next->∀o' r',H'.any l=some o'->o'.me=some (.loop r')->∃o r,H.any l=some o/\o.me=some (.loop r)/\QN r r'
theorem qE.refl(H:Hp):qE H H:=⟨aZ _,fun _ _ o' r' h1 h2=>⟨o',r',h1,h2,.refl _⟩⟩
theorem qE.trans{A B C:Hp}(h:qE A B)(k:qE B C):qE A C:=⟨eF h.nx k.nx,fun l hl o' r' h1 h2=>by
 obtain⟨o1,r1,q1,q2,q3⟩:=k.lp l (bP hl h.nx) o' r' h1 h2;obtain⟨o0,r0,p1,p2,p3⟩:=h.lp l hl o1 r1 q1 q2
 exact⟨o0,r0,p1,p2,p3.trans q3⟩⟩
theorem qE.new(H:Hp)(o:Ob):qE H (H.new o):=⟨Nat.le_succ _,fun l hl o' r' h1 h2=>by
 rw[uG,if_neg (by omega)]at h1
 exact⟨o',r',h1,h2,.refl _⟩⟩
theorem qE.drop(H:Hp)(l:Nat):qE H (H.drop l):=⟨aZ _,fun m _ o' r' h1 h2=>by
 rw[sJ]at h1;split at h1
 .cases h1
 .exact⟨o',r',h1,h2,.refl _⟩⟩
theorem qE.put(H:Hp)(l:Nat)(o:Ob)(h:∀r,o.me≠some (.loop r)):qE H (H.put l o):=⟨aZ _,fun m _ o' r' h1 h2=>by
 rw[uH]at h1;split at h1
 .cases h1;exact absurd h2 (h r')
 .exact⟨o',r',h1,h2,.refl _⟩⟩
theorem qE.putL{H:Hp}{l:Nat}{o:Ob}{r:Lr}(ho:H.any l=some o)(hm:o.me=some (.loop r))(r1:Lr)(hr:QN r r1):qE H (H.put l (yK r1)):=⟨aZ _,fun m _ o' r' h1 h2=>by
 rw[uH]at h1;split at h1
 .rename_i e;subst e;cases h1;cases h2;exact⟨o,r,ho,hm,hr⟩
 .exact⟨o',r',h1,h2,.refl _⟩⟩
theorem qE.putM(H:Hp)(l:Nat)(o:Ob)(c:Nat)(es:fQ):qE H (Go.Ps.putM H l o c es):=qE.put _ _ _ (fun r h=>by cases h)
section
variable{P:fA}{E:tW}{F:Fc}
theorem YC{H H':Hp}{t:eX}{p x:T}(h:tK P H t p x=some H'):qE H H':=by
 unfold tK at h;split at h
 .split at h
  .rename_i o n ho hn;split at h
   .cases h;exact qE.put _ _ _ (fun r e=>by rw[show _ =o.me from rfl,(pJ ho).2]at e;cases e)
   .cases h
  .cases h
 .cases h
theorem Eg{H H':Hp}{t tx:eX}{s x r:T}(h:BN P H t tx s x=some (r,H')):qE H H':=by
 unfold BN at h;split at h
 .split at h
  .split at h
   .cases h
   .cases h;exact qE.refl _
  .cases h
 .cases h
theorem Jg{H H':Hp}{t tx:eX}{s x r:T}(h:rT P H t tx s x=some (r,H')):qE H H':=by
 unfold rT at h;split at h
 .split at h
  .split at h
   .cases h
   .split at h
    .split at h
     .cases h;exact .refl _
     .split at h
      .cases h;exact .new _ _
      .cases h
    .split at h
     .cases h;exact .refl _
     .split at h
      .cases h;exact .new _ _
      .cases h
    .split at h
     .cases h;exact .refl _
     .split at h
      .split at h
       .cases h;exact(qE.drop _ _).trans (.new _ _)
       .cases h
      .cases h
    .cases h
  .cases h
 .cases h
theorem Yn{H H':Hp}{pa:Bool}{t tx:eX}{s x r:T}(h:NS P pa H t tx s x=some (r,H')):qE H H':=by
 unfold NS at h;split at h
 .exact Eg h
 .exact Jg h
theorem aAe{H H':Hp}{t:eX}{l c r:T}(h:rC P H t l c=some (r,H')):qE H H':=by
 unfold rC at h;split at h
 .split at h
  .split at h
   .cases h;exact .new _ _
   .cases h
  .cases h
 .cases h
theorem Ov{H H':Hp}{t:eX}{m k x:T}(h:YI P H t m k x=some H'):qE H H':=by
 unfold YI at h;split at h
 .split at h
  .cases h;exact .putM _ _ _ _ _
  .cases h
 .cases h;exact .putM _ _ _ _ _
 .cases h
theorem Qt{H H':Hp}{t:eX}{m k r:T}(h:ED P H t m k=some (r,H')):qE H H':=by
 unfold ED at h;split at h
 .split at h
  .cases h;exact .putM _ _ _ _ _
  .cases h
 .split at h
  .cases h;exact .putM _ _ _ _ _
  .cases h
 .cases h
theorem Ke{H H':Hp}{m s x:T}(h:sL H m s x=some H'):qE H H':=by
 unfold sL at h;split at h
 .split at h
  .split at h
   .split at h
    .cases h;exact .putM _ _ _ _ _
    .cases h
   .cases h
  .cases h
 .cases h
theorem aEs{H H':Hp}{t:eX}{m k:T}(h:Er P H t m k=some H'):qE H H':=by
 unfold Er at h;split at h
 .cases h;exact .putM _ _ _ _ _
 .cases h;exact .putM _ _ _ _ _
 .cases h
theorem Jy(hF:∀f ts H r H',F.ee f ts H=some (r,H')->qE H H'){H H':Hp}{fr:eY}{o:Oper}{v:T}(h:rO P E F H fr o=some (v,H')):qE H H':=by
 obtain⟨dst,op,ty,pos,after,guard⟩:=o;cases op<;>simp only[rO]at h<;>try(cases h;done)
 case alloc t=>split at h<;>cases h;exact .new _ _
 case box t x=>split at h<;>cases h;exact .new _ _
 case buildSlice t len ps=>
  split at h
  .split at h
   .split at h
    .cases h;exact .new _ _
    .cases h
   .cases h
  .cases h
 case store t p x=>
  split at h
  .split at h
   .rename_i hs;cases h;exact YC hs
   .cases h
  .cases h
 case makeSlice t l c=>
  split at h
  .exact aAe h
  .cases h
 case makeMap t r=>
  split at h
  .split at h
   .cases h;exact .new _ _
   .cases h
  .cases h
 case mapUpdate t m k x=>
  split at h
  .split at h
   .rename_i hs;cases h;exact Ov hs
   .cases h
  .cases h
 case insert t m k x=>
  split at h
  .split at h
   .rename_i hs;cases h;exact Ov hs
   .cases h
  .cases h
 case mapEntry t m k=>
  split at h
  .exact Qt h
  .cases h
 case entryStore t m s x=>
  split at h
  .split at h
   .rename_i hs;cases h;exact Ke hs
   .cases h
  .cases h
 case call c=>
  split at h
  .split at h
   .split at h
    .exact hF _ _ _ _ _ h
    .cases h
   .cases h
  .split at h
   .split at h
    .split at h
     .rename_i hs;cases h;exact aEs hs
     .cases h
    .cases h
   .cases h
  .split at h
   .split at h
    .exact Yn h
    .cases h
   .cases h
  .cases h
theorem KI(hF:∀f ts H r H',F.ee f ts H=some (r,H')->qE H H'){ops:fC}{s s':Fx}{o:Oper}(h:rV P E F ops s o=some s'):qE s.H s'.H:=by
 unfold rV at h;split at h
 .split at h
  .cases h;exact .refl _
  .split at h
   .split at h
    .cases h
    .split at h
     .split at h
      .cases h;exact .refl _
      .cases h
     .cases h
   .split at h
    .rename_i he;cases h;exact Jy hF he
    .cases h
 .cases h;exact .refl _
theorem Dq(hF:∀f ts H r H',F.ee f ts H=some (r,H')->qE H H'){ops:fC}{s s':Fx}{o:Oper}(h:qU P E F ops s o=some s'):qE s.H s'.H:=by
 unfold qU at h;split at h
 .exact KI hF h
 .split at h
  .split at h
   .split at h
    .split at h
     .split at h
      .cases h;unfold RM;split
       .exact .new _ _
       .exact .refl _
      .cases h
     .cases h
    .cases h
   .split at h
    .cases h
    .exact KI hF h
  .split at h
   .cases h
   .exact KI hF h
theorem zR(hF:∀f ts H r H',F.ee f ts H=some (r,H')->qE H H'){ops:fC}:∀{l:fS} {s s':Fx},pL P E F ops l s=some s'->qE s.H s'.H
 |[],s,s',h=>by cases h;exact .refl _
 |o::l,s,s',h=>by
  simp only[pL]at h;split at h
  .rename_i s1 hs;exact(Dq hF hs).trans (zR hF h)
  .cases h
theorem HS(hF:∀f ts H r H',F.ee f ts H=some (r,H')->qE H H'){ops:fC}:∀{l:fS} {m:Nat} {s s':Fx},pK P E F ops l m s=some s'->qE s.H s'.H
 |[],m,s,s',h=>by
  simp only[pK]at h;split at h
  .cases h;exact .refl _
  .cases h
 |o::l,m,s,s',h=>by
  simp only[pK]at h;split at h
  .split at h
   .exact zR hF h
   .cases h
  .split at h
   .cases h
   .split at h
    .split at h
     .have:=HS hF h;exact this
     .split at h
      .split at h
       .cases h
       .split at h
        .split at h
         .have:=HS hF h;exact this
         .cases h
        .cases h
      .split at h
       .exact zR hF h
       .cases h
    .have:=HS hF h;exact this
theorem zC(hF:∀f ts H r H',F.ee f ts H=some (r,H')->qE H H'){ops:fC}{A:fN}{p l:Nat}:∀{os:fS} {m:Nat} {af:Bool} {s s':Fx},rP P E F ops A p l os m af s=some s'->qE s.H s'.H
 |[],m,af,s,s',h=>by
  simp only[rP]at h;split at h
  .cases h;exact .refl _
  .cases h
 |o::os,m,af,s,s',h=>by
  simp only[rP]at h;split at h
  .exact zR hF h
  .split at h
   .cases h
   .split at h
    .split at h
     .cases h
     .split at h
      .split at h
       .split at h
        .split at h
         .rename_i hs;exact(YC hs).trans (zC hF h)
         .cases h
        .cases h
       .cases h
      .cases h
    .split at h
     .split at h
      .split at h
       .split at h
        .have:=zC hF h;exact this
        .cases h
       .cases h
      .split at h
       .split at h
        .have:=zC hF h;exact this
        .cases h
       .cases h
     .have:=zC hF h;exact this
theorem Qn(hF:∀f ts H r H',F.ee f ts H=some (r,H')->qE H H'){ops:fC}{fr:eY}{H:Hp}{s':Fx}(h:qK P E F ops fr H=some s'):qE H s'.H:=by
 unfold qK at h;split at h
 .split at h
  .split at h
   .have:=zC hF h;exact this
   .cases h
  .cases h
 .have:=HS hF h;exact this
theorem HU(hF:∀f ts H r H',F.ee f ts H=some (r,H')->qE H H'){ops:fC}:∀(os:fS) (m:Nat) (fr:eY) (H:Hp) (f:eY) (H':Hp) (es ds:fN),IW P E F ops os m fr H=some (f,H',es,ds)->qE H H'
 |[],m,fr,H,f,H',es,ds,h=>by cases h;exact .refl _
 |o::os,m,fr,H,f,H',es,ds,h=>by
  simp only[IW]at h;split at h
  .cases h
  .split at h
   .split at h
    .split at h
     .rename_i he;cases h;exact HU hF os _ _ _ _ _ _ _ he
     .cases h
    .split at h
     .rename_i hef;split at h
      .rename_i he;cases h;exact(Jy hF hef).trans (HU hF os _ _ _ _ _ _ _ he)
      .cases h
     .cases h
   .exact HU hF os _ _ _ _ _ _ _ h
theorem Jt(hF:∀f ts H r H',F.ee f ts H=some (r,H')->qE H H'){ops:fC}{fl:Bool}{fr:eY}{H:Hp}{s':Fx}(h:yH P E F ops fl fr H=some s'):qE H s'.H:=by
 unfold yH at h;split at h
 .unfold FW at h;split at h
  .rename_i he;split at h
   .cases h;exact HU hF _ _ _ _ _ _ _ _ he
   .cases h
  .cases h
 .exact Qn hF h
end
section
variable{P:fA}{E:tW}{ee:fE}{yd:fG}{ow:fX}{n:Nat}
abbrev Po(ee:fE):Prop:=∀f ts H r H',ee f ts H=some (r,H')->qE H H'
abbrev Ug(yd:fG):Prop:=∀l ts H b H',yd l ts H=some (b,H')->qE H H'
theorem Ve(hF:Po ee)(ow:fX):∀f ts H r H',(xY ow ee).ee f ts H=some (r,H')->qE H H':=by rw[EG];exact hF
theorem DN(hF:Po ee)(hY:Ug yd){ops:fC}:∀{l:fS} {s s':Fx},CG P E ee yd ow ops l s=some s'->qE s.H s'.H
 |[],s,s',h=>by cases h;exact .refl _
 |o::l,s,s',h=>by
  simp only[CG]at h;split at h
  .split at h
   .rename_i hy;exact(hY _ _ _ _ _ hy).trans (DN hF hY h)
   .cases h
  .split at h
   .rename_i s1 hs;exact(Dq (Ve hF ow) hs).trans (DN hF hY h)
   .cases h
theorem Qq{l:Nat}{fr fr':eY}{H H':Hp}{x:X}(h:UU l fr H=some (x,fr',H')):H'=H.drop l:=by
 obtain⟨o,rc,_,_,h⟩:=uO h;split at h
 .cases h
 .split at h<;>cases h<;>rfl
theorem wR(hF:Po ee)(hY:Ug yd){ro:gD}:∀(c:Code) (fr:eY) (H:Hp) (x:X) (fr':eY) (H':Hp),pD P E ee yd ow n ro c fr H=some (x,fr',H')->qE H H':=by
 intro c
 induction c with
 |skip=>intro fr H x fr' H' h;cases h;exact .refl _|label l=>intro fr H x fr' H' h;cases h;exact .refl _|exit id=>intro fr H x fr' H' h;cases h;exact .refl _|ret=>intro fr H x fr' H' h;cases h;exact .refl _
 |region id ops draw=>
  intro fr H x fr' H' h;simp only[pD]at h;split at h
  .rename_i hr;cases h;split at hr
   .exact Jt (Ve hF ow) hr
   .exact DN hF hY hr
  .cases h
 |seq a b iha ihb=>
  intro fr H x fr' H' h;simp only[pD]at h;split at h
  .rename_i hr;exact(iha _ _ _ _ _ hr).trans (ihb _ _ _ _ _ h)
  .exact iha _ _ _ _ _ h
 |cond c a b iha ihb=>
  intro fr H x fr' H' h;simp only[pD]at h;split at h
  .split at h
   .exact iha _ _ _ _ _ h
   .exact ihb _ _ _ _ _ h
  .cases h
 |block id c ih=>
  intro fr H x fr' H' h;simp only[pD]at h;split at h
  .rename_i hr;split at h<;>cases h<;>exact ih _ _ _ _ _ hr
  .exact ih _ _ _ _ _ h
 |loop c ih=>
  intro fr H x fr' H' h;simp only[pD]at h;have key:∀(k:Nat) (fr:eY) (H:Hp),oP.loopN (fun fr H=>pD P E ee yd ow n ro c fr H) k fr H=some (x,fr',H')->qE H H':=by
   intro k
   induction k with
   |zero=>intro fr H h;cases h
   |succ k ihk=>
    intro fr H h;simp only[oP.loopN]at h;split at h
    .rename_i hr;exact(ih _ _ _ _ _ hr).trans (ihk _ _ h)
    .exact ih _ _ _ _ _ h
  exact key n fr H h
 |rangeFunc g ps a b _ _ =>
  intro fr H x fr' H' h;simp only[pD]at h;split at h
  .split at h
   .split at h
    .rename_i hc;rw[Qq h];exact((qE.new _ _).trans (hF _ _ _ _ _ hc)).trans (.drop _ _)
    .cases h
   .cases h
  .cases h
 |_ =>intro fr H x fr' H' h;cases h
theorem Ng{l:Nat}{H H':Hp}{x:X}{b:Bool}(h:HF l H x=some (b,H')):qE H H':=by
 obtain⟨o,rc,ho,hm,h⟩:=uO h;cases x with
 |normal=>cases h;exact .putL ho hm _ ⟨rfl,rfl,rfl,rfl,rfl,rfl⟩|exit id=>cases h;exact .putL ho hm _ ⟨rfl,rfl,rfl,rfl,rfl,rfl⟩|ret=>cases h;exact .putL ho hm _ ⟨rfl,rfl,rfl,rfl,rfl,rfl⟩
theorem Mz(hF:Po ee)(hY:Ug yd):Ug (fun l ts H=>HD P E ee yd n l ts H):=by
 intro l ts H b H' h;obtain⟨o,rc,ho,hm,h⟩:=uO h;split at h
 .split at h
  .rename_i fr1 H1 h1;refine(wR hF hY _ _ _ _ _ _ h1).trans ?_;obtain⟨o1,r1,ho1,hm1,h⟩:=uO h;split at h
   .split at h
    .rename_i h2;exact((qE.putL ho1 hm1 {r1 with st:= .busy} ⟨rfl,rfl,rfl,rfl,rfl,rfl⟩).trans (wR hF hY _ _ _ _ _ _ h2)).trans (Ng h)
    .cases h
   .cases h
  .cases h
 .cases h
theorem aFv(hF:Po ee)(hY:Ug yd){f:fT}{ts:eY}{H H':Hp}{r:T}(h:Vk P E ee yd ow n f ts H=some (r,H')):qE H H':=by
 unfold Vk at h;split at h
 .split at h
  .split at h
   .rename_i hc;split at h<;>cases h<;>exact wR hF hY _ _ _ _ _ _ hc
   .rename_i hc;split at h<;>cases h<;>exact wR hF hY _ _ _ _ _ _ hc
   .cases h
  .cases h
 .cases h
theorem Qj{tB:eX}{ts:eY}{H H':Hp}{r:T}(h:LN tB ts H=some (r,H')):qE H H':=by
 unfold LN at h;split at h
 .split at h
  .rename_i o ho;split at h
   .split at h
    .cases h;exact qE.put _ _ _ (fun r e=>by rw[show _ =o.me from rfl,(pJ ho).2]at e;cases e)
    .cases h
   .split at h
    .cases h;exact .refl _
    .cases h
   .cases h
  .cases h
 .cases h
theorem aBt{tB tE:eX}{ts:eY}{H H':Hp}{r:T}(h:ZT tB tE ts H=some (r,H')):qE H H':=by
 unfold ZT at h;split at h
 .split at h
  .split at h
   .split at h
    .cases h;exact .refl _
    .split at h
     .split at h
      .split at h
       .cases h;exact .drop _ _
       .cases h
      .cases h
     .cases h
    .cases h
   .cases h
  .cases h
 .cases h
theorem aKm:Po ZU:=fun f ts H r H' h=>by
 unfold ZU at h;by_cases h1:f=123
 .rw[if_pos h1]at h;exact Qj h
 .rw[if_neg h1]at h;by_cases h2:f=79
  .rw[if_pos h2]at h;exact aBt h
  .rw[if_neg h2]at h;cases h
theorem xD{own:gJ}{ok:fZ}:∀d,Po (tJ P E own ok n d).ee/\Ug (tJ P E own ok n d).yd
 |0=>⟨fun _ _ _ _ _ h=>(by cases h),fun _ _ _ _ _ h=>(by cases h)⟩
 |d+1=>by
  obtain⟨h1,h2⟩:=xD (own:=own) (ok:=ok) d;refine⟨fun f ts H r H' h=> ?_,Mz h1 h2⟩;simp only[tJ]at h;split at h
  .exact aFv h1 h2 h
  .exact aKm _ _ _ _ _ h
end
end
end Go.Ps
namespace Go.Ps
variable[Inhabited Prd]
section
variable{ρ ρ' ρ0 ρ1:fI}{μ μ' μ0 μ1:fB}{H H1:Hp}{S S1:AS}{fr fr1:eY}
theorem sN{α:Type}{a b:List α}{n:Nat}(h:rZ a b)(hn:a.length=n):b.take n=a:=by
 apply eB;intro j;rw[bD];split
 .rename_i hj;rw[<-hn]at hj;rw[aC hj];exact h j _ (aC hj)
 .rename_i hj;rw[bH (by omega)]
theorem WU(he:rZ ρ0 ρ1)(hm:rZ μ0 μ1){n l:Nat}(hn:ρ0.length=n)(hl:μ0.length=l){a:A}{t:T}(ho:uA n l qX a=true)(h:Gm ρ1 μ1 a t):Gm ρ0 μ0 a t:=by
 have:=Gt n l qX a t ho h
 rwa [sN he hn,sN hm hl]at this
theorem Nl(he:rZ ρ0 ρ1)(hm:rZ μ0 μ1){n l:Nat}(hn:ρ0.length=n)(hl:μ0.length=l){w:gK}:∀(a_s bs:List A) (j:Nat) (ts:eY),XM n l w j a_s bs=true->pH ρ1 μ1 bs ts->pH ρ0 μ0 (aPz n l w j a_s) ts
 |[],[],j,ts,_,h=>by rw[h.inv_nil];exact .nil
 |a::a_s,b::bs,j,ts,hs,h=>by
  simp only[XM,aA]at hs;obtain⟨t,r,rfl,h1,h2⟩:=h.inv_cons;simp only[aPz];refine pH.cons ?_ (Nl he hm hn hl a_s bs (j+1) r hs.2 h2);split
  .exact .top _
  .rename_i hc;simp only[bG,bM,not_or,Bool.not_eq_false]at hc;have h3:=hs.1;simp only[bG,bM]at h3;rcases h3 with(q|q)|q
   .exact absurd q hc.1
   .rw[hc.2]at q;cases q
   .have:=HP _ _ _ q;subst this;exact WU he hm hn hl hc.2 h1
 |[],_ ::_,_,_,h,_ =>by simp[XM]at h|_ ::_,[],_,_,h,_ =>by simp[XM]at h
theorem Nj(he:rZ ρ0 ρ1)(hm:rZ μ0 μ1){n l:Nat}(hn:ρ0.length=n)(hl:μ0.length=l){oc:fR}{m:Nat}:∀(a_s bs:List A) (j:Nat) (ts:eY),XL n l oc m j a_s bs=true->pH ρ1 μ1 bs ts->pH ρ0 μ0 (CN oc m j a_s) ts
 |[],[],j,ts,_,h=>by rw[h.inv_nil];exact .nil
 |a::a_s,b::bs,j,ts,hs,h=>by
  simp only[XL,aA]at hs;obtain⟨t,r,rfl,h1,h2⟩:=h.inv_cons;simp only[CN];refine pH.cons ?_ (Nj he hm hn hl a_s bs (j+1) r hs.2 h2);have h3:=hs.1;split
  .rename_i hc;rw[if_pos hc]at h3;exact .any _ (PW h1 h3).1
  .rename_i hc;rw[if_neg hc]at h3;simp only[aA]at h3;have:=HP _ _ _ h3.1;subst this;exact WU he hm hn hl h3.2 h1
 |[],_ ::_,_,_,h,_ =>by simp[XL]at h|_ ::_,[],_,_,h,_ =>by simp[XL]at h
theorem yJ{oc:fR}:∀(hp:fJ) (m:Nat) (o:AO),oO (LD oc hp) m=some o->∃q,oO hp m=some q/\o=(match q with| .fix e xs=> .fix e (CN oc m 0 xs)|q=>q)
 |[],m,o,h=>by simp[LD,oO]at h
 |(k,.fix e xs)::r,m,o,h=>by
  simp only[LD,oO]at h⊢;split at h
  .rename_i hk;cases h;rw[if_pos hk];have:=oM hk;subst this;exact⟨_,rfl,rfl⟩
  .rename_i hk;rw[if_neg hk];exact yJ r m o h
 |(k,.row e sz a s c)::r,m,o,h=>by
  simp only[LD,oO]at h⊢;split at h
  .rename_i hk;cases h;rw[if_pos hk];exact⟨_,rfl,rfl⟩
  .rename_i hk;rw[if_neg hk];exact yJ r m o h
 |(k,.map es)::r,m,o,h=>by
  simp only[LD,oO]at h⊢;split at h
  .rename_i hk;cases h;rw[if_pos hk];exact⟨_,rfl,rfl⟩
  .rename_i hk;rw[if_neg hk];exact yJ r m o h
 |(k,.loop st pe fr ps asg bd ow aa ab)::r,m,o,h=>by
  simp only[LD,oO]at h⊢;split at h
  .rename_i hk;cases h;rw[if_pos hk];exact⟨_,rfl,rfl⟩
  .rename_i hk;rw[if_neg hk];exact yJ r m o h
theorem Da{a b:LoopState}(h:Hv a b=true):a=b:=by cases a<;>cases b<;>first|rfl|cases h
theorem aBf{a b:iK}(h:Su a b=true):a=b:=by
 unfold Su at h;split at h
 .rfl
 .rfl
 .rw[oM h]
 .cases h
def aQe(n l:Nat)(oc:fR)(m:Nat):AO->AO->Prop
 | .fix e xs,.fix e' ys=>e=e'/\XL n l oc m 0 xs ys=true| .row e sz a s c,.row e' sz' b s' c'=>e=e'/\sz=sz'/\a=b/\uA n l qX a=true/\s=s'/\c=c'/\s<n| .loop st pe ..,.loop st' pe' .. =>st=st'/\pe=pe'|_,_ =>False
theorem DL{n l:Nat}{oc:fR}{hp1:fJ}:∀(hp:fJ) (m:Nat) (o:AO),JH n l oc hp1 hp=true->oO hp m=some o->m<l/\∃o1,oO hp1 m=some o1/\aQe n l oc m o o1
 |(k,.fix e xs)::r,m,o,h,hf=>by
  simp only[JH,aA]at h;simp only[oO]at hf;split at hf
  .rename_i hk;cases hf;have:=oM hk;subst this;refine⟨pQ h.1,?_⟩;have h2:=h.2.1;split at h2
   .rename_i e' ys hy;simp only[aA]at h2;exact⟨_,hy,oM h2.1,h2.2⟩
   .cases h2
  .exact DL r m o h.2.2 hf
 |(k,.row e sz a s c)::r,m,o,h,hf=>by
  simp only[JH,aA]at h;simp only[oO]at hf;split at hf
  .rename_i hk;cases hf;have:=oM hk;subst this;refine⟨pQ h.1,?_⟩;have h2:=h.2.1;split at h2
   .rename_i e' sz' b s' c' hy;simp only[aA,beq_iff_eq]at h2;obtain⟨a1,a2,a3,a4,a5,a6,a7⟩:=h2;exact⟨_,hy,oM a1,oM a2,HP _ _ _ a3,a4,oM a5,a6,pQ a7⟩
   .cases h2
  .exact DL r m o h.2.2 hf
 |(k,.loop st pe fr ps asg bd ow aa ab)::r,m,o,h,hf=>by
  simp only[JH,aA]at h;simp only[oO]at hf;split at hf
  .rename_i hk;cases hf;have:=oM hk;subst this;refine⟨pQ h.1,?_⟩;have h2:=h.2.1;split at h2
   .rename_i hy;simp only[aA]at h2;exact⟨_,hy,Da h2.1,aBf h2.2⟩
   .cases h2
  .exact DL r m o h.2.2 hf
 |(k,.map es)::r,m,o,h,_ =>by simp[JH]at h|[],m,o,_,hf=>by simp[oO]at hf
theorem LR{hp:fJ}{l m:Nat}{o:AO}(h:oO (vL hp l) m=some o):oO hp m=some o:=by
 rw[AY]at h;split at h
 .cases h
 .exact h
theorem yR{fr:List A}:∀{sp:hO} {hp:fJ} {m:Nat} {o:AO},oO (AU fr sp hp) m=some o->oO hp m=some o
 |[],hp,m,o,h=>h
 |(d,.row ..)::r,hp,m,o,h=>by
  simp only[AU]at h;split at h
  .exact LR (yR h)
  .exact yR h
 |(d,.a _)::r,hp,m,o,h=>by
  simp only[AU]at h;exact yR h
theorem xL{hp0:fJ}:∀{oc:fR} {hp:fJ} {m:Nat} {o:AO},oO (yG hp0 oc hp) m=some o->oO hp m=some o
 |[],hp,m,o,h=>h
 |(l,j,.row ..)::r,hp,m,o,h=>by
  simp only[yG]at h;split at h
  .exact LR (xL h)
  .exact xL h
 |(l,j,.a _)::r,hp,m,o,h=>by
  simp only[yG]at h;exact xL h
theorem wL:∀{r hp:fJ} {m:Nat} {o:AO},oO (yZ r hp) m=some o->oO hp m=some o
 |[],hp,m,o,h=>h
 |(l,.map es)::r,hp,m,o,h=>by
  simp only[yZ]at h;exact LR (wL h)
 |(l,.fix ..)::r,hp,m,o,h=>by
  simp only[yZ]at h;exact wL h
 |(l,.row ..)::r,hp,m,o,h=>by
  simp only[yZ]at h;exact wL h
 |(l,.loop ..)::r,hp,m,o,h=>by
  simp only[yZ]at h;exact wL h
theorem Pz{sp:hO}{oc:fR}{m:Nat}{o:AO}(h:oO (FN S sp oc) m=some o):oO S.hp m=some o:=wL (yR (xL h))
theorem aLm(hk:qE H H1)(hs:GS S ρ0 μ0 fr H)(h1:GS S1 ρ1 μ1 fr1 H1)(he:rZ ρ0 ρ1)(hm:rZ μ0 μ1){w:gK}{sp:hO}{oc:fR}{m0 gv:Int}(hg:0<=gv)(hg':gv<=m0)
  (hF:XM S.nx S.nl w 0 S.fr S1.fr=true) (hH:JH S.nx S.nl oc S1.hp (FN S sp oc)=true):
  GS (Uk S w sp oc m0) (ρ0++[gv]) μ0 fr1 H1:=by
 have hn:=hs.sy.len;have hl:=hs.hp.len;have hb:=rZ.app ρ0 [gv];refine⟨?_,?_,(Nl he hm hn hl _ _ _ _ hF h1.fr).ext hb (.refl _)⟩
 .have:=hs.sy.fresh (v:=gv) (lo:=0) (hi:=m0) hg hg';exact this
 .have key:∀(m:Nat) (o:AO),oO (Uk S w sp oc m0).hp m=some o->∃q o1,oO (FN S sp oc) m=some q/\m<S.nl/\oO S1.hp m=some o1/\aQe S.nx S.nl oc m q o1/\o=(match q with| .fix e xs=> .fix e (CN oc m 0 xs)|q=>q):=by
   intro m o h;obtain⟨q,h2,h3⟩:=yJ _ _ _ h;obtain⟨h4,o1,h5,h6⟩:=DL _ _ _ hH h2;exact⟨q,o1,h2,h4,h5,h6,h3⟩
  have back:∀{m:Nat} {y:gD},m<S.nl->μ1[m]? =some y->μ0[m]? =some y:=by
   intro m y hlt h;have:=qH h hlt
   rwa [sN hm hl]at this
  refine⟨hl,fun m o h=> ?_,fun m m' o o' x h h' hx hx'=> ?_,fun m x hx=>h1.hp.lt m x (hm _ _ hx),fun m e xs h=> ?_,h1.hp.fin⟩
  .obtain⟨q,o1,k0,k1,k2,k3,rfl⟩:=key m o h;obtain⟨y,k4,k5⟩:=h1.hp.obj m o1 k2;refine⟨y,back k1 k4,fun x hx=> ?_⟩;obtain⟨b,k6,k7⟩:=k5 x hx;cases q with
   |map es=>cases o1<;>exact k3.elim
   |fix e xs=>
    cases o1 with
    |row=>exact k3.elim|map=>exact k3.elim|loop=>exact k3.elim
    |fix e' ys=>
     obtain⟨rfl,k3⟩:=k3;exact⟨b,k6,k7.1,(Nj he hm hn hl _ _ _ _ k3 k7.2).ext hb (.refl _)⟩
   |loop st pe fr ps asg bd ow aa ab=>
    cases o1 with
    |fix=>exact k3.elim|row=>exact k3.elim|map=>exact k3.elim
    |loop st' pe' fr' ps' asg' bd' ow' aa' ab'=>
     obtain⟨rfl,rfl⟩:=k3;obtain⟨r1,q1,q2,q3,_⟩:=k7;obtain⟨y0,p1,p2⟩:=hs.hp.obj m _ (Pz k0);have hy:y0=y:=by have:=back k1 k4;rw[p1]at this;exact bQ this
     subst hy;obtain⟨b0,p3,r0,w1,w2,w3,w4,w5,w6,w7,w8⟩:=p2 x hx;subst hx;obtain⟨b2,r2,z1,z2,z3⟩:=hk.lp x (hs.hp.lt m x p1) b r1 k6 q1;have hb2:some b2=some b0:=by rw[<-z1];exact p3
     cases hb2;rw[w1]at z2;cases z2;exact⟨b,k6,r1,q1,q2,q3,z3.ps.trans w4,z3.asg.trans w5,z3.bd.trans w6,z3.ow.trans w7,by rw[z3.fr,z3.n];exact w8.ext hb (.refl _)⟩
   |row e sz a s c=>
    cases o1 with
    |fix=>exact k3.elim|loop=>exact k3.elim|map=>exact k3.elim
    |row e' sz' b' s' c'=>
     obtain⟨rfl,rfl,rfl,k8,rfl,rfl,k9⟩:=k3;obtain⟨q1,q2,ts,v,q3,q4,q5,q6⟩:=k7;refine⟨b,k6,q1,q2,ts,v,hb _ _ ?_,q4,q5,fun t ht=>⟨(WU he hm hn hl k8 (q6 t ht).1).ext hb (.refl _),(q6 t ht).2⟩⟩;have:=qH q3 k9
     rwa [sN he hn]at this
  .obtain⟨_,o1,_,_,k2,_,_⟩:=key m o h;obtain⟨_,o2,_,_,k3,_,_⟩:=key m' o' h';exact h1.hp.inj m m' o1 o2 x k2 k3 (hm _ _ hx) (hm _ _ hx')
  .obtain⟨q,o1,_,k1,k2,k3,k4⟩:=key m _ h;cases q with
   |row=>cases k4|loop=>cases k4|map=>cases k4
   |fix e' ys=>
    cases o1 with
    |row=>exact k3.elim|map=>exact k3.elim|loop=>exact k3.elim|fix e2 zs=>obtain⟨x,hx⟩:=h1.hp.fixp m _ _ k2;exact⟨x,back k1 hx⟩
structure Tr(S1:AS)(base:fJ)(nl:Nat)(μ1:fB)(Si:AS)(μi:fB)(used:fN):Prop where
 row:∀(l:Nat) (q:AO) (x:Nat),oO Si.hp l=some q->μi[l]? =some (some x)->∃m o,μ1[m]? =some (some x)/\oO S1.hp m=some o/\(m∈used\/OB base m=true)
 fix:∀(l:Nat) (e:eX) (xs:List A),oO Si.hp l=some (.fix e xs)->l<nl/\∃ys,oO S1.hp l=some (.fix e ys)
theorem MK:∀{l:fN} {d:Nat},rD d l=true↔d∈l
 |[],d=>by simp[rD]
 |x::xs,d=>by
  have ih:=MK (l:=xs) (d:=d);simp only[rD,bG,Nat.beq_eq,aU,ih];constructor
  .rintro(h|h)
   .exact .inl h.symm
   .exact .inr h
  .rintro(h|h)
   .exact .inl h.symm
   .exact .inr h
theorem TV(h1:GS S1 ρ1 μ1 fr1 H1)(he:rZ ρ0 ρ1)(hm:rZ μ0 μ1){n l:Nat}(hn:ρ0.length=n)(hl:μ0.length=l){base:fJ}:
  ∀(sp:hO) (used:fN) (Si:AS) (ρi:fI) (μi:fB),Mn n l base S1 sp used=true->GS Si ρi μi fr1 H1->rZ ρ0 ρi->rZ μ0 μi->Tr S1 base l μ1 Si μi used->
   ∃ρ2 μ2,rZ ρi ρ2/\rZ μi μ2/\GS (TU sp Si) ρ2 μ2 fr1 H1/\Tr S1 base l μ1 (TU sp Si) μ2 (zN S1 sp used)
 |[],used,Si,ρi,μi,_,hg,_,_,ht=>⟨ρi,μi,.refl _,.refl _,hg,ht⟩
 |(d,.a a)::r,used,Si,ρi,μi,hok,hg,e1,e2,ht=>by
  simp only[Mn,aA]at hok;have hv:=xR h1.sy.cs h1.sy.zero n l qX _ _ _ hok.1 (h1.fr.get d);rw[sN he hn,sN hm hl]at hv;obtain⟨ρ',x1,x2,x3⟩:=rU hg.sy (hv.ext e1 e2);have hg':GS {Si with fr:=setS (uK a Si.nx Si.cs).a Si.fr d,nx:=(uK a Si.nx Si.cs).nx,cs:=(uK a Si.nx Si.cs).cs} ρ' μi fr1 H1:=
   ⟨x2,hg.hp.ext x1,(hg.fr.ext x1 (.refl _)).setSame x3⟩
  obtain⟨ρ2,μ2,y1,y2,y3,y4⟩:=TV h1 he hm hn hl r used _ ρ' μi hok.2 hg' (e1.trans x1) e2 ⟨ht.row,ht.fix⟩;exact⟨ρ2,μ2,x1.trans y1,y2,y3,y4⟩
 |(d,.row e sz a lo hi)::r,used,Si,ρi,μi,hok,hg,e1,e2,ht=>by
  simp only[Mn]at hok;have hget:=h1.fr.get d;have main:∀(y:gD) (len:Nat) (used1:fN),lo<=len->(len:Int)<=hi->(∀x,y=some x->x<H1.next/\(∀l q,oO Si.hp l=some q->μi[l]? ≠some (some x))/\∃(b:Ob) (ts:eY),H1.get x=some b/\b.elem=e/\(b.sz=sz/\(e=5->b.cells≠[]))/\b.cells=ts.flatMap T.cells/\ts.length=len/\∀t∈ts,Gm ρ0 μ0 a t/\t.cells.length=sz)->
    qW fr1 d=(match y with|some x=> .osl x sz 0 len|none=> .nils)->(y=none->len=0)->(∀x,y=some x->∃m o,μ1[m]? =some (some x)/\oO S1.hp m=some o/\m∈used1)->(∀m∈used,m∈used1)->Mn n l base S1 r used1=true->
    ∃ρ2 μ2,rZ ρi ρ2/\rZ μi μ2/\GS (TU ((d,.row e sz a lo hi)::r) Si) ρ2 μ2 fr1 H1/\Tr S1 base l μ1 (TU ((d,.row e sz a lo hi)::r) Si) μ2 (zN S1 r used1):=by
   intro y len used1 hlo hhi hy hval hnone hnew hsub hok';have hf:=hg.sy.fresh (v:=(len:Int)) hlo hhi;have hx1:=rZ.app ρi [(len:Int)];have hx2:=rZ.app μi [y];have hlen:=(hg.sy.new (len:Int)).2.1;have hgh:GH ((Si.nl,.row e sz a Si.nx 0)::Si.hp) (Si.nl+1) (ρi++[(len:Int)]) (μi++[y]) H1:=(hg.hp.ext hx1).alias (fun _ _ h=>by cases h) fun x hx=>by
    obtain⟨q1,q2,b,ts,q3,q4,q5,q6,q7,q8⟩:=hy x hx;exact⟨q1,q2,b,q3,q4,q5,ts,len,hlen,by omega,q6,fun t ht=>⟨(q8 t ht).1.ext (e1.trans hx1) (e2.trans hx2),(q8 t ht).2⟩⟩
   have hval':Gm (ρi++[(len:Int)]) (μi++[y]) (.osl Si.nl sz 0 0 Si.nx 0) (qW fr1 d):=by
    rw[hval];cases y with
    |none=>
     have:=hnone rfl;exact .osl0 _ _ _ _ _ _ 0 len (rR hg.hp.len _) (hx1 _ _ hg.sy.zero) (by omega) hlen (by omega)
    |some x=>
     have:=Gm.osl (ρ:=ρi++[(len:Int)]) (μ:=μi++[some x]) Si.nl sz 0 0 Si.nx 0 x 0 len (rR hg.hp.len _) (hx1 _ _ hg.sy.zero) (by omega) hlen (by omega);simpa using this
   have hg':GS {fr:=setS (.osl Si.nl sz 0 0 Si.nx 0) Si.fr d,hp:=(Si.nl,.row e sz a Si.nx 0)::Si.hp,nx:=Si.nx+1,nl:=Si.nl+1,cs:= .le 0 Si.nx (-lo):: .le Si.nx 0 hi::Si.cs} (ρi++[(len:Int)]) (μi++[y]) fr1 H1:=
    ⟨hf,hgh,(hg.fr.ext hx1 hx2).setSame hval'⟩
   have ht':Tr S1 base l μ1 {fr:=setS (.osl Si.nl sz 0 0 Si.nx 0) Si.fr d,hp:=(Si.nl,.row e sz a Si.nx 0)::Si.hp,nx:=Si.nx+1,nl:=Si.nl+1,cs:= .le 0 Si.nx (-lo):: .le Si.nx 0 hi::Si.cs} (μi++[y]) used1:=by
    refine⟨fun k q x hk hx=> ?_,fun k e' xs hk=> ?_⟩
    .rcases uY hg.hp.len hx with⟨_,q2⟩|⟨q1,q2⟩
     .obtain⟨m,o,r1,r2,r3⟩:=hnew x q2;exact⟨m,o,r1,r2,.inl r3⟩
     .simp only[oO]at hk;rw[if_neg (by simp;omega)]at hk;obtain⟨m,o,r1,r2,r3⟩:=ht.row k q x hk q2;exact⟨m,o,r1,r2,r3.imp (hsub m) id⟩
    .simp only[oO]at hk;split at hk
     .cases hk
     .exact ht.fix k e' xs hk
   obtain⟨ρ2,μ2,y1,y2,y3,y4⟩:=TV h1 he hm hn hl r used1 _ _ _ hok' hg' (e1.trans hx1) (e2.trans hx2) ht';exact⟨ρ2,μ2,hx1.trans y1,hx2.trans y2,y3,y4⟩
  split at hok
  .rename_i hv;simp only[aA,sU,aI]at hok;rw[hv]at hget;have hnl:qW fr1 d= .nils:=by generalize qW fr1 d=z at hget;cases hget;rfl
   have hu:zN S1 ((d,.row e sz a lo hi)::r) used=zN S1 r used:=by simp only[zN,hv]
   rw[hu];exact main none 0 used (by simpa using hok.1) (by simpa using hok.2.1) (fun x hx=>by cases hx) hnl (fun _ =>rfl) (fun x hx=>by cases hx) (fun m h=>h) hok.2.2
  .rename_i m sz' si ci s c hv;split at hok
   .rename_i e' sz2 b s' c' hf;simp only[aA,beq_iff_eq]at hok;obtain⟨k1,k2,k3,k4,k5,k6,k7,k8,k9,k10,k11,k12,k13⟩:=hok;have k1:=oM k1;have k2:=oM k2;have k3:=oM k3;have k4:=oM k4;have k6:=oM k6;have hu:zN S1 ((d,.row e sz a lo hi)::r) used=zN S1 r (m::used):=by simp only[zN,hv]
    rw[hu];subst k1 k2 k3 k4 k5 k6 k7;rw[hv]at hget;generalize hz:qW fr1 d=z at hget;cases hget with
    |osl0 _ _ _ _ _ _ vi v g1 g2 g3 g4 g5=>
     have b1:=oS h1.sy.cs k9 h1.sy.zero g4;have b2:=oS h1.sy.cs k10 g4 h1.sy.zero;exact main none 0 (m::used) (by omega) (by omega) (fun x hx=>by cases hx) hz (fun _ =>rfl) (fun x hx=>by cases hx) (fun q h=>aJ _ h) k13
    |osl _ _ _ _ _ _ l' vi v g1 g2 g3 g4 g5=>
     have b1:=oS h1.sy.cs k9 h1.sy.zero g4;have b2:=oS h1.sy.cs k10 g4 h1.sy.zero;obtain⟨ob,o1,o2,o3,ts,v1,r1,r2,r3,r4⟩:=h1.hp.at hf g1;rw[g4]at r1;cases r1;rw[h1.sy.zero]at g2;cases g2;refine main (some l') ts.length (m::used) (by omega) (by omega) (fun x hx=> ?_) ?_ (fun h=>by cases h) (fun x hx=>⟨m,_,by cases hx;exact g1,hf,aR⟩) (fun q h=>aJ _ h) k13
     .cases hx;refine⟨h1.hp.lt m l' g1,fun k q hk hkx=> ?_,ob,ts,o1,o2,o3,r3,rfl,fun t ht=>⟨?_,(r4 t ht).2⟩⟩
      .obtain⟨m',o',p1,p2,p3⟩:=ht.row k q l' hk hkx;have:=h1.hp.inj m' m o' _ l' p2 hf p1 g1;subst this;rcases p3 with p3|p3
       .have:=MK.2 p3;rw[this]at k11;simp at k11
       .rw[p3]at k12;simp at k12
      .have:=xR h1.sy.cs h1.sy.zero n l qX _ _ _ k8 (r4 t ht).1
       rwa [sN he hn,sN hm hl]at this
     .rw[hz];have:(v+c).toNat=ts.length:=by omega
      simp[this]
   .cases hok
  .cases hok
end
end Go.Ps
namespace Go.Ps
variable[Inhabited Prd]
section
variable{ρ ρ' ρ0 ρ1:fI}{μ μ' μ0 μ1:fB}{H H1:Hp}{S S1:AS}{fr fr1:eY}
theorem uJ{l j:Nat}{a:A}:∀(hp:fJ) (m:Nat),oO (setCell l j a hp) m=(oO hp m).map fun o=>if l=m then(match o with| .fix e xs=> .fix e (xs.set j a)|o=>o)else o
 |[],m=>rfl
 |(k,.fix e xs)::r,m=>by
  have ih:=uJ (l:=l) (j:=j) (a:=a) r m;by_cases hk:k=l
  .subst hk;simp only[setCell,Nat.beq_refl,if_true,oO];by_cases hm:k=m
   .subst hm;simp
   .simp only[Nat.beq_eq,hm,if_false,ih]
  .by_cases hm:k=m
   .subst hm;have:¬l=k:=fun e=>hk e.symm;simp[setCell,oO,hk,this]
   .simp[setCell,oO,hk,hm,ih]
 |(k,.row e sz b s c)::r,m=>by
  have ih:=uJ (l:=l) (j:=j) (a:=a) r m;simp only[setCell,oO];by_cases hm:k=m
  .subst hm;simp
  .simp only[Nat.beq_eq,hm,if_false,ih]
 |(k,.map es)::r,m=>by
  have ih:=uJ (l:=l) (j:=j) (a:=a) r m;simp only[setCell,oO];by_cases hm:k=m
  .subst hm;simp
  .simp only[Nat.beq_eq,hm,if_false,ih]
 |(k,.loop st pe fr ps asg bd ow aa ab)::r,m=>by
  have ih:=uJ (l:=l) (j:=j) (a:=a) r m;simp only[setCell,oO];by_cases hm:k=m
  .subst hm;simp
  .simp only[Nat.beq_eq,hm,if_false,ih]
theorem XR(h1:GS S1 ρ1 μ1 fr1 H1)(hm:rZ μ0 μ1){l:Nat}(hl:μ0.length=l){base:fJ}{used:fN}{Si:AS}{hp:fJ}{nl:Nat}{ρ':fI}{μ':fB}(g0:GH hp nl ρ' μ' H1)(e2:rZ μ0 μ')
  {m j:Nat} {e:eX} {xs:List A} (hf:oO S1.hp m=some (.fix e xs)) {x:Nat} (hx:μ1[m]? =some (some x)) {b:Ob} (b1:H1.get x=some b) {c:T} (c1:b.cells[j]? =some c) {a:A} (x3:Gm ρ' μ' a c)
  (hfix:∀(k:Nat) (e:eX) (xs:List A),oO hp k=some (.fix e xs)->k<l/\∃ys,oO S1.hp k=some (.fix e ys)):GH (setCell m j a hp) nl ρ' μ' H1:=by
 refine⟨g0.len,fun k o hk=> ?_,fun k k' o o' y hk hk' hy hy'=> ?_,g0.lt,fun k e' ys hk=> ?_,g0.fin⟩
 .rw[uJ]at hk;obtain⟨q,hq,rfl⟩:=aF.1 hk;obtain⟨y,q1,q2⟩:=g0.obj k q hq;refine⟨y,q1,fun z hz=> ?_⟩;obtain⟨b',q3,q4⟩:=q2 z hz;split
  .rename_i hmk;subst hmk;cases q with
   |row=>exact⟨b',q3,q4⟩|loop=>exact⟨b',q3,q4⟩|map=>exact⟨b',q3,q4⟩
   |fix e' ys=>
    refine⟨b',q3,q4.1,?_⟩;obtain⟨hlt,_⟩:=hfix m e' ys hq;subst hz;have hy0:μ0[m]? =some (some x):=by
     have:=qH hx hlt
     rwa [sN hm hl]at this
    have:=e2 _ _ hy0;rw[q1]at this;cases this;have q3:H1.get x=some b':=q3;rw[b1]at q3;cases q3;have hset:=q4.2.set x3 j;have:b.cells.set j c=b.cells:=by
     apply eB;intro i;rw[cZ];split
     .rename_i hij;subst hij;split
      .exact c1.symm
      .rename_i hlt2;rw[bH (by omega)]
     .rfl
    rw[this]at hset;exact hset
  .exact⟨b',q3,q4⟩
 .rw[uJ]at hk hk';obtain⟨q,hq,_⟩:=aF.1 hk;obtain⟨q',hq',_⟩:=aF.1 hk';exact g0.inj k k' q q' y hq hq' hy hy'
 .rw[uJ]at hk;obtain⟨q',hq',hqe⟩:=aF.1 hk;cases q' with
  |row=>split at hqe<;>cases hqe|loop=>split at hqe<;>cases hqe|map=>split at hqe<;>cases hqe|fix e2 zs=>exact g0.fixp k e2 zs hq'
theorem Tr.cell{base:fJ}{l:Nat}{Si:AS}{μi:fB}{used:fN}{m j:Nat}{a:A}{hp:fJ}{fr:List A}{nx nl:Nat}{cs:List pO}
  (hrow:∀(k:Nat) (q:AO) (x:Nat),oO hp k=some q->μi[k]? =some (some x)->∃m o,μ1[m]? =some (some x)/\oO S1.hp m=some o/\(m∈used\/OB base m=true))
  (hfix:∀(k:Nat) (e:eX) (xs:List A),oO hp k=some (.fix e xs)->k<l/\∃ys,oO S1.hp k=some (.fix e ys)):
  Tr S1 base l μ1 ⟨fr,setCell m j a hp,nx,nl,cs⟩ μi used:=by
 refine⟨fun k q y hk hy=> ?_,fun k e' ys hk=> ?_⟩
 .rw[uJ]at hk;obtain⟨q',hq',_⟩:=aF.1 hk;exact hrow k q' y hq' hy
 .rw[uJ]at hk;obtain⟨q',hq',hqe⟩:=aF.1 hk;cases q' with
  |row=>split at hqe<;>cases hqe|loop=>split at hqe<;>cases hqe|map=>split at hqe<;>cases hqe
  |fix e2 zs=>
   obtain⟨p1,p2,p3⟩:=hfix k e2 zs hq';refine⟨p1,p2,?_⟩;split at hqe<;>cases hqe<;>exact p3
theorem TT(h1:GS S1 ρ1 μ1 fr1 H1)(he:rZ ρ0 ρ1)(hm:rZ μ0 μ1){n l:Nat}(hn:ρ0.length=n)(hl:μ0.length=l){base:fJ}:
  ∀(oc:fR) (used:fN) (Si:AS) (ρi:fI) (μi:fB),Mm n l base S1 oc used=true->GS Si ρi μi fr1 H1->rZ ρ0 ρi->rZ μ0 μi->Tr S1 base l μ1 Si μi used->
   ∃ρ2 μ2,rZ ρi ρ2/\rZ μi μ2/\GS (Jb oc Si) ρ2 μ2 fr1 H1
 |[],used,Si,ρi,μi,_,hg,_,_,_ =>⟨ρi,μi,.refl _,.refl _,hg⟩
 |(m,j,.a t)::r,used,Si,ρi,μi,hok,hg,e1,e2,ht=>by
  simp only[Mm,aA]at hok;obtain⟨hc,hr⟩:=hok;split at hc
  .rename_i e xs hf;split at hc
   .rename_i a ha;obtain⟨x,hx⟩:=h1.hp.fixp m _ _ hf;obtain⟨b,b1,b2⟩:=h1.hp.at hf hx;obtain⟨c,c1,c2⟩:=b2.2.at ha;have hv:=xR h1.sy.cs h1.sy.zero n l qX _ _ _ hc c2;rw[sN he hn,sN hm hl]at hv;obtain⟨ρ',x1,x2,x3⟩:=rU hg.sy (hv.ext e1 e2);have hgh:=XR (used:=used) (base:=base) (Si:=Si) h1 hm hl (hg.hp.ext x1) e2 hf hx b1 c1 x3 ht.fix;have hg':GS {Si with hp:=setCell m j (uK t Si.nx Si.cs).a Si.hp,nx:=(uK t Si.nx Si.cs).nx,cs:=(uK t Si.nx Si.cs).cs} ρ' μi fr1 H1:=⟨x2,hgh,hg.fr.ext x1 (.refl _)⟩;obtain⟨ρ2,μ2,y1,y1',y2⟩:=TT h1 he hm hn hl r used _ ρ' μi hr hg' (e1.trans x1) e2 (Tr.cell (Si:=Si) ht.row ht.fix);exact⟨ρ2,μ2,x1.trans y1,y1',y2⟩
   .cases hc
  .cases hc
 |(m,j,.row e sz a lo hi)::r,used,Si,ρi,μi,hok,hg,e1,e2,ht=>by
  simp only[Mm]at hok;split at hok
  .rename_i e0 xs hf;obtain⟨x0,hx0⟩:=h1.hp.fixp m _ _ hf;obtain⟨ob0,ob1,ob2⟩:=h1.hp.at hf hx0;have main:∀(y:gD) (len:Nat) (used1:fN) (c:T),ob0.cells[j]? =some c->lo<=len->(len:Int)<=hi->(∀x,y=some x->x<H1.next/\(∀l q,oO Si.hp l=some q->μi[l]? ≠some (some x))/\∃(b:Ob) (ts:eY),H1.get x=some b/\b.elem=e/\(b.sz=sz/\(e=5->b.cells≠[]))/\b.cells=ts.flatMap T.cells/\ts.length=len/\∀t∈ts,Gm ρ0 μ0 a t/\t.cells.length=sz)->
     c=(match y with|some x=> .osl x sz 0 len|none=> .nils)->(y=none->len=0)->(∀x,y=some x->∃m o,μ1[m]? =some (some x)/\oO S1.hp m=some o/\m∈used1)->(∀m∈used,m∈used1)->Mm n l base S1 r used1=true->
     ∃ρ2 μ2,rZ ρi ρ2/\rZ μi μ2/\GS (Jb ((m,j,.row e sz a lo hi)::r) Si) ρ2 μ2 fr1 H1:=by
    intro y len used1 c hcj hlo hhi hy hval hnone hnew hsub hok';have hf':=hg.sy.fresh (v:=(len:Int)) hlo hhi;have hx1:=rZ.app ρi [(len:Int)];have hx2:=rZ.app μi [y];have hlen:=(hg.sy.new (len:Int)).2.1;have hgh:GH ((Si.nl,.row e sz a Si.nx 0)::Si.hp) (Si.nl+1) (ρi++[(len:Int)]) (μi++[y]) H1:=(hg.hp.ext hx1).alias (fun _ _ h=>by cases h) fun x hx=>by
     obtain⟨q1,q2,b,ts,q3,q4,q5,q6,q7,q8⟩:=hy x hx;exact⟨q1,q2,b,q3,q4,q5,ts,len,hlen,by omega,q6,fun t ht=>⟨(q8 t ht).1.ext (e1.trans hx1) (e2.trans hx2),(q8 t ht).2⟩⟩
    have hval':Gm (ρi++[(len:Int)]) (μi++[y]) (.osl Si.nl sz 0 0 Si.nx 0) c:=by
     rw[hval];cases y with
     |none=>
      have:=hnone rfl;exact .osl0 _ _ _ _ _ _ 0 len (rR hg.hp.len _) (hx1 _ _ hg.sy.zero) (by omega) hlen (by omega)
     |some x=>
      have:=Gm.osl (ρ:=ρi++[(len:Int)]) (μ:=μi++[some x]) Si.nl sz 0 0 Si.nx 0 x 0 len (rR hg.hp.len _) (hx1 _ _ hg.sy.zero) (by omega) hlen (by omega);simpa using this
    have hrow':∀(k:Nat) (q:AO) (x:Nat),oO ((Si.nl,.row e sz a Si.nx 0)::Si.hp) k=some q->(μi++[y])[k]? =some (some x)->∃m o,μ1[m]? =some (some x)/\oO S1.hp m=some o/\(m∈used1\/OB base m=true):=by
     intro k q x hk hx;rcases uY hg.hp.len hx with⟨_,q2⟩|⟨q1,q2⟩
     .obtain⟨m,o,r1,r2,r3⟩:=hnew x q2;exact⟨m,o,r1,r2,.inl r3⟩
     .simp only[oO]at hk;rw[if_neg (by simp;omega)]at hk;obtain⟨m,o,r1,r2,r3⟩:=ht.row k q x hk q2;exact⟨m,o,r1,r2,r3.imp (hsub m) id⟩
    have hfix':∀(k:Nat) (e':eX) (xs:List A),oO ((Si.nl,.row e sz a Si.nx 0)::Si.hp) k=some (.fix e' xs)->k<l/\∃ys,oO S1.hp k=some (.fix e' ys):=by
     intro k e' xs hk;simp only[oO]at hk;split at hk
     .cases hk
     .exact ht.fix k e' xs hk
    have hsc:=XR (used:=used) (base:=base) (Si:=Si) h1 hm hl hgh (e2.trans hx2) hf hx0 ob1 hcj hval' hfix';have hg':GS {Si with hp:=setCell m j (.osl Si.nl sz 0 0 Si.nx 0) ((Si.nl,.row e sz a Si.nx 0)::Si.hp),nx:=Si.nx+1,nl:=Si.nl+1,cs:= .le 0 Si.nx (-lo):: .le Si.nx 0 hi::Si.cs} (ρi++[(len:Int)]) (μi++[y]) fr1 H1:=
     ⟨hf',hsc,hg.fr.ext hx1 hx2⟩
    obtain⟨ρ2,μ2,y1,y2,y3⟩:=TT h1 he hm hn hl r used1 _ _ _ hok' hg' (e1.trans hx1) (e2.trans hx2) (Tr.cell (Si:=Si) hrow' hfix');exact⟨ρ2,μ2,hx1.trans y1,hx2.trans y2,y3⟩
   split at hok
   .rename_i hv;simp only[aA,sU,aI]at hok;obtain⟨c,c1,c2⟩:=ob2.2.at hv;cases c2;exact main none 0 used _ c1 (by simpa using hok.1) (by simpa using hok.2.1) (fun x hx=>by cases hx) rfl (fun _ =>rfl) (fun x hx=>by cases hx) (fun m h=>h) hok.2.2
   .rename_i q sz' si ci s c hv;split at hok
    .rename_i e' sz2 b s' c' hfq;simp only[aA,beq_iff_eq]at hok;obtain⟨k1,k2,k3,k4,k5,k6,k7,k8,k9,k10,k11,k12,k13⟩:=hok;have k1:=oM k1;have k2:=oM k2;have k3:=oM k3;have k4:=oM k4;have k6:=oM k6;subst k1 k2 k3 k4 k5 k6 k7;obtain⟨cc,cc1,cc2⟩:=ob2.2.at hv;cases cc2 with
     |osl0 _ _ _ _ _ _ vi v g1 g2 g3 g4 g5=>
      have b1:=oS h1.sy.cs k9 h1.sy.zero g4;have b2:=oS h1.sy.cs k10 g4 h1.sy.zero;exact main none 0 (q::used) _ cc1 (by omega) (by omega) (fun x hx=>by cases hx) rfl (fun _ =>rfl) (fun x hx=>by cases hx) (fun q h=>aJ _ h) k13
     |osl _ _ _ _ _ _ l' vi v g1 g2 g3 g4 g5=>
      have b1:=oS h1.sy.cs k9 h1.sy.zero g4;have b2:=oS h1.sy.cs k10 g4 h1.sy.zero;obtain⟨ob,o1,o2,o3,ts,v1,r1,r2,r3,r4⟩:=h1.hp.at hfq g1;rw[g4]at r1;cases r1;rw[h1.sy.zero]at g2;cases g2;refine main (some l') ts.length (q::used) _ cc1 (by omega) (by omega) (fun x hx=> ?_) ?_ (fun h=>by cases h) (fun x hx=>⟨q,_,by cases hx;exact g1,hfq,aR⟩) (fun q h=>aJ _ h) k13
      .cases hx;refine⟨h1.hp.lt q l' g1,fun k q' hk hkx=> ?_,ob,ts,o1,o2,o3,r3,rfl,fun t ht=>⟨?_,(r4 t ht).2⟩⟩
       .obtain⟨m',o',p1,p2,p3⟩:=ht.row k q' l' hk hkx;have:=h1.hp.inj m' q o' _ l' p2 hfq p1 g1;subst this;rcases p3 with p3|p3
        .have:=MK.2 p3;rw[this]at k11;simp at k11
        .rw[p3]at k12;simp at k12
       .have:=xR h1.sy.cs h1.sy.zero n l qX _ _ _ k8 (r4 t ht).1
        rwa [sN he hn,sN hm hl]at this
      .have:(v+c).toNat=ts.length:=by omega
       simp[this]
    .cases hok
   .cases hok
  .cases hok
end
end Go.Ps
namespace Go.Ps
variable[Inhabited Prd]
def KF:T->Option Int
 | .int _ n=>some n| .str l=>some l.length| .nils=>some 0| .sl _ xs=>some xs.length| .slf _ n _ =>some n| .osl _ _ _ len=>some len|_ =>none
noncomputable def aPg:Nat->Hp->List T->Nat->Option Nat
 |0,_,_,_ =>none
 | k+1,H,fr,d=>if Nat.blt d 1000 then match qW fr d with
   | .ptr x _ =>some x|_ =>none
  else match qW fr (Nat.mod d 1000)with
   | .yl x=>match H.any x with
    |some o=>match o.me with
     |some (.loop r)=>aPg k H (r.fr.view r.n) (Nat.div d 1000-1)|_ =>none
    |none=>none
   |_ =>none
noncomputable def ZM(fr:eY)(H:Hp)(g:Int):YV->Option Int
 | .slot d=>KF (qW fr d)
 | .cell d j=>match aPg 5 H fr d with
  |some x=>match H.get x with
   |some o=>match o.cells[j]? with
    |some t=>KF t|none=>none
   |none=>none
  |none=>none
 | .ghost=>some g| .zero=>some 0
section
variable{ρ ρ' ρ0 ρ1:fI}{μ μ' μ0 μ1:fB}{H H1:Hp}{S S1:AS}{fr fr1:eY}
theorem Wx(h0:ρ[0]? =some 0){a:A}{t:T}(hg:Gm ρ μ a t){s:Nat}{c:Int}(h:PV a=some (s,c)):∃v,ρ[s]? =some v/\KF t=some (v+c):=by
 cases hg with
 |int _ _ _ v h1 h2=>simp only[PV]at h;cases h;exact⟨v,h1,rfl⟩|strc l=>simp only[PV]at h;cases h;exact⟨0,h0,by simp[KF]⟩|str _ _ v l h1 h2=>simp only[PV]at h;cases h;exact⟨v,h1,by simp[KF,h2]⟩|nils=>simp only[PV]at h;cases h;exact⟨0,h0,by simp[KF]⟩
 |sl _ _ _ _ xs v h1 h2 h3 h4=>
  simp only[PV]at h;cases h;refine⟨v,h2,?_⟩;rcases h1 with⟨rfl,rfl⟩|⟨f,rfl⟩|⟨full,m,f,rfl,rfl⟩
  .simp only[KF,<-h3];rfl
  .simp only[KF,<-h3]
  .simp only[dM,eC]at h3;simp only[KF,<-h3]
 |slp _ _ _ _ _ xs v h0' h1 h2 h3 h4=>
  simp only[PV]at h;cases h;refine⟨v,h2,?_⟩;rcases h1 with⟨rfl,rfl⟩|⟨f,rfl⟩|⟨full,m,f,rfl,rfl⟩
  .simp only[KF,<-h3];rfl
  .simp only[KF,<-h3]
  .simp only[dM,eC]at h3;simp only[KF,<-h3]
 |sx _ _ full m f v h1 h2=>simp only[PV]at h;cases h;exact⟨v,h1,by simp only[KF,h2]⟩
 |osl _ _ _ _ _ _ l' vi v h1 h2 h3 h4 h5=>
  simp only[PV]at h;cases h;exact⟨v,h4,by simp only[KF];rw[Int.toNat_of_nonneg h5]⟩
 |osl0 _ _ _ _ _ _ vi v h1 h2 h3 h4 h5=>
  simp only[PV]at h;cases h;exact⟨v,h4,by simp only[KF,h5]⟩
 |_ =>simp only[PV]at h;cases h
theorem GH.atL{hp:fJ}{nl:Nat}{H:Hp}(hg:GH hp nl ρ μ H){l x:Nat}{st:LoopState}{pn:iK}{fa:List A}{ps:jD}{asg bd:Code}{ow:fX}{aa ab:An}(h:oO hp l=some (.loop st pn fa ps asg bd ow aa ab))(hx:μ[l]? =some (some x)):
  ∃b r,H.any x=some b/\b.me=some (.loop r)/\r.st=st/\r.pe=peC pn/\r.ps=ps/\r.asg=asg/\r.bd=bd/\r.ow=ow/\pH ρ μ fa (r.fr.view r.n):=by
 obtain⟨y,h1,h2⟩:=hg.obj l _ h;rw[hx]at h1;cases h1;obtain⟨b,h3,r,h4⟩:=h2 x rfl;exact⟨b,r,h3,h4⟩
theorem Ml{hp:fJ}{nl:Nat}(hh:GH hp nl ρ μ H):∀(k:Nat) (fa:List A) (fr:eY) (d l:Nat),pH ρ μ fa fr->Cf k hp fa d=some l->∃x,aPg k H fr d=some x/\μ[l]? =some (some x)
 |0,fa,fr,d,l,_,h=>by simp[Cf]at h
 |k+1,fa,fr,d,l,hf,h=>by
  simp only[Cf]at h;simp only[aPg];split at h
  .rename_i hd;rw[if_pos hd];have hget:=hf.get d;split at h
   .rename_i l' off hv;cases h;rw[hv]at hget;generalize qW fr d=z at hget;cases hget with
    |ptr _ _ x hx=>exact⟨x,rfl,hx⟩
   .cases h
  .rename_i hd;rw[if_neg hd];have hget:=hf.get (Nat.mod d 1000);split at h
   .rename_i l' hv;rw[hv]at hget;generalize qW fr (Nat.mod d 1000)=z at hget;cases hget with
    |yl _ x hx=>
    split at h
    .rename_i hfa;obtain⟨b,r,b1,b2,_,_,_,_,_,_,b3⟩:=hh.atL hfa hx;obtain⟨x',e1,e2⟩:=Ml hh k _ _ _ _ b3 h;exact⟨x',by simp only[b1,b2];exact e1,e2⟩
    .cases h
   .cases h
theorem wG(hg:GS S ρ μ fr H){gs:Nat}{gc g:Int}(hgh:∀v,ρ[gs]? =some v->v+gc=g)(hgx:∃v,ρ[gs]? =some v){r:YV}{s:Nat}{c:Int}(h:HC S gs gc r=some (s,c)):
  ∃v,ρ[s]? =some v/\ZM fr H g r=some (v+c):=by
 cases r with
 |slot d=>exact Wx hg.sy.zero (hg.fr.get d) h
 |cell d j=>
  simp only[HC]at h;split at h
  .rename_i l hv;obtain⟨l',hz,hl'⟩:=Ml hg.hp 5 _ _ _ _ hg.fr hv;split at h
   .rename_i e xs hf;obtain⟨b,b1,b2⟩:=hg.hp.at hf hl';split at h
    .rename_i a ha;obtain⟨t,t1,t2⟩:=b2.2.at ha;obtain⟨v,v1,v2⟩:=Wx hg.sy.zero t2 h;exact⟨v,v1,by simp only[ZM,hz,b1,t1];exact v2⟩
    .cases h
   .cases h
  .cases h
 |ghost=>
  simp only[HC]at h;cases h;obtain⟨v,hv⟩:=hgx;exact⟨v,hv,by simp only[ZM,hgh v hv]⟩
 |zero=>simp only[HC]at h;cases h;exact⟨0,hg.sy.zero,rfl⟩
theorem Ci(h1:GS S1 ρ1 μ1 fr1 H1){gs:Nat}{gc g:Int}(hgh:∀v,ρ1[gs]? =some v->v+gc=g)(hgx:∃v,ρ1[gs]? =some v):∀(cons:iV),Gr gs gc S1 cons=true->
  ∀q∈cons,∃x y,ZM fr1 H1 g q.1=some x/\ZM fr1 H1 g q.2.1=some y/\x<=y+q.2.2
 |(p,q,c)::r,h,z,hz=>by
  simp only[Gr,aA]at h;rcases aU.1 hz with rfl|hz
  .have h2:=h.1;split at h2
   .rename_i x a y b hp hq;obtain⟨v,v1,v2⟩:=wG h1 hgh hgx hp;obtain⟨w,w1,w2⟩:=wG h1 hgh hgx hq;have:=oS h1.sy.cs h2 v1 w1;exact⟨_,_,v2,w2,by simp only;omega⟩
   .cases h2
  .exact Ci h1 hgh hgx r h.2 z hz
theorem TS(hg:GS S ρ μ fr H){gs:Nat}{g:Int}(hgg:ρ[gs]? =some g):∀(cons:iV) (cs:List pO),(∀q∈cons,∃x y,ZM fr H g q.1=some x/\ZM fr H g q.2.1=some y/\x<=y+q.2.2)->
  KY gs cons S=some cs->pG ρ cs
 |[],cs,_,h=>by simp only[KY]at h;cases h;exact hg.sy.cs
 |(p,q,c)::r,cs,hc,h=>by
  simp only[KY]at h;split at h
  .rename_i x a y b hp hq;split at h
   .rename_i cs' hcs;cases h;have ih:=TS hg hgg r cs' (fun z hz=>hc z (aJ _ hz)) hcs;obtain⟨v,v1,v2⟩:=wG hg (g:=g) (fun v h=>by rw[hgg]at h;cases h;omega) ⟨_,hgg⟩ hp;obtain⟨w,w1,w2⟩:=wG hg (g:=g) (fun v h=>by rw[hgg]at h;cases h;omega) ⟨_,hgg⟩ hq;obtain⟨x',y',z1,z2,z3⟩:=hc _ aR;simp only at z1 z2 z3;rw[v2]at z1;rw[w2]at z2;cases z1;cases z2;exact .cons ⟨v,w,v1,w1,by omega⟩ ih
   .cases h
  .cases h
theorem WS(hk:qE H H1)(hs:GS S ρ0 μ0 fr H)(h1:GS S1 ρ1 μ1 fr1 H1)(he:rZ ρ0 ρ1)(hm:rZ μ0 μ1){w:gK}{sp:hO}{oc:fR}{cons:iV}{m0 g:Int}(hg:0<=g)(hg':g<=m0)
  {gs:Nat} {gc:Int} (hgh:∀v,ρ1[gs]? =some v->v+gc=g) (hgx:∃v,ρ1[gs]? =some v) (hok:okS S w sp oc cons S1 gs gc=true) {Sh:AS} (hi:Kt S w sp oc cons m0=some Sh):
  ∃ρ2 μ2,rZ ρ0 ρ2/\rZ μ0 μ2/\ρ2[S.nx]? =some g/\GS Sh ρ2 μ2 fr1 H1:=by
 simp only[okS,aA]at hok;obtain⟨k1,k2,k3,k4,k5⟩:=hok;have hn:=hs.sy.len;have hl:=hs.hp.len;have hb:=aLm (sp:=sp) hk hs h1 he hm hg hg' k1 k2;have e0:=rZ.app ρ0 [g];have hgn:=(hs.sy.new g).2.1;have htr:Tr S1 (FN S sp oc) S.nl μ1 (Uk S w sp oc m0) μ0 []:=by
  refine⟨fun l q x hf hx=> ?_,fun l e xs hf=> ?_⟩
  .obtain⟨q',h2,_⟩:=yJ _ _ _ hf;obtain⟨h4,o1,h5,_⟩:=DL _ _ _ k2 h2;exact⟨l,o1,hm _ _ hx,h5,.inr (by unfold OB;rw[h2];rfl)⟩
  .obtain⟨q',h2,h3⟩:=yJ _ _ _ hf;obtain⟨h4,o1,h5,h6⟩:=DL _ _ _ k2 h2;refine⟨h4,?_⟩;cases q' with
   |row=>cases h3|loop=>cases h3|map=>cases h3
   |fix e' ys=>
    cases h3;cases o1 with
    |row=>exact h6.elim|loop=>exact h6.elim|map=>exact h6.elim|fix e2 zs=>obtain⟨rfl,_⟩:=h6;exact⟨zs,h5⟩
 obtain⟨ρa,μa,a1,a2,a3,a4⟩:=TV h1 he hm hn hl sp [] _ _ _ k3 hb e0 (.refl _) htr;obtain⟨ρb,μb,b1,b1',b2⟩:=TT h1 he hm hn hl oc _ _ ρa μa k4 a3 (e0.trans a1) a2 a4;unfold Kt at hi;simp only at hi;split at hi
 .rename_i cs hcs;cases hi;have hgb:ρb[S.nx]? =some g:=b1 _ _ (a1 _ _ hgn);have hcc:=TS b2 hgb cons cs (Ci h1 hgh hgx cons k5) hcs;exact⟨ρb,μb,(e0.trans a1).trans b1,a2.trans b1',hgb,⟨b2.sy.len,b2.sy.zero,hcc⟩,b2.hp,b2.fr⟩
 .cases hi
end
end Go.Ps
namespace Go.Ps
variable[Inhabited Prd]
section
variable{ρ ρ' ρ0 ρ1:fI}{μ μ' μ0 μ1:fB}{X:AX}{gl:fD}{pe:fK}{H H1:Hp}{S S1:AS}{P:fA}
variable{call:FuncId->List A->AS->Option (List AR)}{ee:fO}{F:fX}{fr fr1:eY}
abbrev gV:=Nat->Nat->Nat->List T->Hp->Option (Bool×Hp)
variable{yld:Nat->List A->AS->Option (List AR)}{yd:gV}
abbrev fY:=List (Go.Ps.X×AS)
def Yl(l:fY)(ρ:fI)(μ:fB)(x:Go.Ps.X)(fr:eY)(H:Hp):Prop:=
 ∃S,(x,S)∈l/\∃ρ' μ',rZ ρ ρ'/\rZ μ μ'/\GS S ρ' μ' fr H
theorem Yl.lift{l l':fY}{x:Go.Ps.X}(h:Yl l ρ μ x fr H)(hl:∀y∈l,y∈l'):Yl l' ρ μ x fr H:=by
 obtain⟨S,h1,h2⟩:=h;exact⟨S,hl _ h1,h2⟩
theorem Yl.trans{l:fY}{x:Go.Ps.X}(e1:rZ ρ ρ')(e2:rZ μ μ')(h:Yl l ρ' μ' x fr H):Yl l ρ μ x fr H:=by
 obtain⟨S,h1,a,b,h2,h3,h4⟩:=h;exact⟨S,h1,a,b,e1.trans h2,e2.trans h3,h4⟩
theorem WD:∀(l:gY) (q:fY),Wk l=some q->∀s∈l,s.pend=none/\(.normal,s.S)∈q
 |s::r,q,h,z,hz=>by
  simp only[Wk]at h;split at h
  .rename_i hp;split at h
   .rename_i q' hq;cases h;rcases aU.1 hz with rfl|hz
    .exact⟨hp,aR⟩
    .obtain⟨h1,h2⟩:=WD r q' hq z hz;exact⟨h1,aJ _ h2⟩
   .cases h
  .cases h
theorem VA{id:Nat}:∀{l:fY} {x:Go.Ps.X} {S:AS},(x,S)∈l->((match x with| .exit id'=>if id'=id then .normal else .exit id'|x=>x:Go.Ps.X),S)∈UZ id l
 |(y,S')::r,x,S,h=>by
  rcases aU.1 h with h|h
  .cases h;cases y with
   |normal=>exact aR|ret=>exact aR
   |exit id'=>
    simp only[UZ];by_cases hi:id'=id
    .rw[if_pos hi,if_pos (by rw[hi];simp)];exact aR
    .rw[if_neg hi,if_neg (by simpa using hi)];exact aR
  .have ih:=VA (id:=id) h;cases y with
   |normal=>exact aJ _ ih|ret=>exact aJ _ ih|exit id'=>exact aJ _ ih
theorem xB{w:gK}{la:LA}{oc:fR}{Sh:AS}:∀(l q:fY),zF S w la oc Sh l=some q->∀x S2,(x,S2)∈l->
  (x= .normal/\okS S w la.sp oc la.cons S2 S.nx (Int.ofNat la.gk)=true/\GT S Sh S2 la.m0 la.ms=true)\/(x≠ .normal/\(x,S2)∈q)
 |(y,S')::r,q,h,x,S2,hm=>by
  cases y with
  |normal=>
   simp only[zF]at h;split at h
   .rename_i hc;simp only[aA]at hc;rcases aU.1 hm with hm|hm
    .cases hm;exact .inl ⟨rfl,hc⟩
    .exact xB r q h x S2 hm
   .cases h
  |ret=>
   simp only[zF]at h;split at h
   .rename_i q' hq;cases h;rcases aU.1 hm with hm|hm
    .cases hm;exact .inr ⟨by simp,aR⟩
    .exact(xB r q' hq x S2 hm).imp (fun z=>z) fun⟨a,b⟩=>⟨a,aJ _ b⟩
   .cases h
  |exit id=>
   simp only[zF]at h;split at h
   .rename_i q' hq;cases h;rcases aU.1 hm with hm|hm
    .cases hm;exact .inr ⟨by simp,aR⟩
    .exact(xB r q' hq x S2 hm).imp (fun z=>z) fun⟨a,b⟩=>⟨a,aJ _ b⟩
   .cases h
noncomputable def JD(fr:eY)(H:Hp):aDk->Option Int
 | .down p=>ZM fr H 0 p
 | .up p q c=>match ZM fr H 0 p,ZM fr H 0 q with
  |some x,some y=>some (y+c-x)|_,_ =>none
theorem aHp(hs:GS S ρ μ fr H){Sh S2:AS}{m0:Int}{ms:aDk}(h:GT S Sh S2 m0 ms=true):∃M,JD fr H ms=some M/\M<=m0:=by
 have hz:∀v,ρ[0]? =some v->v+0=0:=fun v hv=>by rw[hs.sy.zero]at hv;cases hv;rfl
 cases ms with
 |down p=>
  simp only[GT,aA]at h;have h1:=h.1;split at h1
  .rename_i x a hp;obtain⟨v,v1,v2⟩:=wG hs hz ⟨0,hs.sy.zero⟩ hp;have:=oS hs.sy.cs h1 v1 hs.sy.zero;exact⟨_,v2,by omega⟩
  .cases h1
 |up p q c=>
  simp only[GT,aA]at h;have h1:=h.1;split at h1
  .rename_i x a y b hp hq;obtain⟨v,v1,v2⟩:=wG hs hz ⟨0,hs.sy.zero⟩ hp;obtain⟨w,w1,w2⟩:=wG hs hz ⟨0,hs.sy.zero⟩ hq;have:=oS hs.sy.cs h1 w1 v1;exact⟨w+b+c-(v+a),by simp only[JD,v2,w2],by omega⟩
  .cases h1
theorem Mb{Sh S2:AS}(hh:GS Sh ρ μ fr H)(h2:GS S2 ρ' μ' fr1 H1)(he:rZ ρ ρ'){m0:Int}{ms:aDk}(h:GT S Sh S2 m0 ms=true):∃M M',JD fr H ms=some M/\JD fr1 H1 ms=some M'/\M'+1<=M/\0<=M':=by
 have hz:∀v,ρ[0]? =some v->v+0=0:=fun v hv=>by rw[hh.sy.zero]at hv;cases hv;rfl
 have hz2:∀v,ρ'[0]? =some v->v+0=0:=fun v hv=>by rw[h2.sy.zero]at hv;cases hv;rfl
 cases ms with
 |down p=>
  simp only[GT,aA]at h;have h1:=h.2;split at h1
  .rename_i x a y b hp hq;simp only[aA]at h1;obtain⟨v,v1,v2⟩:=wG hh hz ⟨0,hh.sy.zero⟩ hp;obtain⟨w,w1,w2⟩:=wG h2 hz2 ⟨0,h2.sy.zero⟩ hq;have q1:=oS h2.sy.cs h1.1 w1 (he _ _ v1);have q2:=oS h2.sy.cs h1.2 h2.sy.zero w1;exact⟨_,_,v2,w2,by omega,by omega⟩
  .cases h1
 |up p q c=>
  simp only[GT,aA]at h;have h1:=h.2;split at h1
  .rename_i x a y b x' a' y' b' hp hq hp' hq';simp only[aA,beq_iff_eq]at h1;obtain⟨k1,k2,k3,k4⟩:=h1;have k1:=oM k1;subst k1 k2;obtain⟨v,v1,v2⟩:=wG hh hz ⟨0,hh.sy.zero⟩ hp;obtain⟨w,w1,w2⟩:=wG hh hz ⟨0,hh.sy.zero⟩ hq;obtain⟨v',v3,v4⟩:=wG h2 hz2 ⟨0,h2.sy.zero⟩ hp';obtain⟨w',w3,w4⟩:=wG h2 hz2 ⟨0,h2.sy.zero⟩ hq';have:=he _ _ w1;rw[w3]at this;cases this;have q1:=oS h2.sy.cs k3 (he _ _ v1) v3;have q2:=oS h2.sy.cs k4 v3 w3;exact⟨w+b+c-(v+a),w+b+c-(v'+a'),by simp only[JD,v2,w2],by simp only[JD,v4,w4],by omega,by omega⟩
  .cases h1
abbrev iG:=Nat->Nat->List T->Hp->Option (Go.Ps.X×List T×Hp)
theorem aOm{H0:Hp}(hs:GS S ρ0 μ0 fr H0){w:gK}{la:LA}{oc:fR}{Sh:AS}(hi:Kt S w la.sp oc la.cons (Int.ofNat la.gk*la.m0)=some Sh){l q:fY}(hq:zF S w la oc Sh l=some q)
  {f:iG} (hbody:∀(ρ:fI) (μ:fB) (fr:eY) (H:Hp),GS Sh ρ μ fr H->rZ μ0 μ->∃x fr' H',Ev (fun n d=>f n d fr H=some (x,fr',H'))/\qE H H'/\Yl l ρ μ x fr' H'):
  ∀(N:Nat) (ρ:fI) (μ:fB) (fr:eY) (H:Hp) (g:Int),GS Sh ρ μ fr H->qE H0 H->rZ ρ0 ρ->rZ μ0 μ->ρ[S.nx]? =some (Int.ofNat la.gk*g)->0<=g->(∀M,JD fr H la.ms=some M->M<=N)->((∃x S2,(x,S2)∈l/\x= .normal)->∃M,JD fr H la.ms=some M/\M+g<=la.m0)->
   ∃x fr' H',x≠ .normal/\(∃m,∀n d k,m<=n->m<=d->m<=k->oP.loopN (f n d) k fr H=some (x,fr',H'))/\Yl q ρ0 μ0 x fr' H':=by
 intro N
 induction N with
 |zero=>
  intro ρ μ fr H g hg hkp e1 e2 hgg h0 hN hM;obtain⟨x,fr1,H1,⟨m,hm⟩,hk1,S2,s1,ρ',μ',x1,x2,g2⟩:=hbody ρ μ fr H hg e2;rcases xB l q hq x S2 s1 with⟨rfl,k1,k2⟩|⟨k1,k2⟩
  .obtain⟨M,M',q1,q2,q3,q4⟩:=Mb hg g2 x1 k2;have:=hN M q1;omega
  .refine⟨x,fr1,H1,k1,⟨m+1,fun n d k hn hd hk=> ?_⟩,S2,k2,ρ',μ',e1.trans x1,e2.trans x2,g2⟩;obtain⟨k,rfl⟩:∃k',k=k'+1:=⟨k-1,by omega⟩;simp only[oP.loopN,hm n d (by omega) (by omega)];cases x<;>first|rfl|exact absurd rfl k1
 |succ N ih=>
  intro ρ μ fr H g hg hkp e1 e2 hgg h0 hN hM;obtain⟨x,fr1,H1,⟨m,hm⟩,hk1,S2,s1,ρ',μ',x1,x2,g2⟩:=hbody ρ μ fr H hg e2;rcases xB l q hq x S2 s1 with⟨rfl,k1,k2⟩|⟨k1,k2⟩
  .obtain⟨M,M',q1,q2,q3,q4⟩:=Mb hg g2 x1 k2;have hN':=hN M q1;obtain⟨M2,q5,q6⟩:=hM ⟨_,_,s1,rfl⟩;rw[q1]at q5;cases q5;obtain⟨ρ2,μ2,y1,y2,y3,y4⟩:=WS (hkp.trans hk1) hs g2 (e1.trans x1) (e2.trans x2) (g:=Int.ofNat la.gk*(g+1)) (Int.mul_nonneg (Int.natCast_nonneg _) (by omega)) (Int.mul_le_mul_of_nonneg_left (by omega) (Int.natCast_nonneg _)) (gs:=S.nx) (gc:=Int.ofNat la.gk) (fun v hv=>by rw[x1 _ _ hgg]at hv;cases hv;rw[Int.mul_add,Int.mul_one]) ⟨_,x1 _ _ hgg⟩ k1 hi;obtain⟨x',fr',H',z1,⟨m',z2⟩,z3⟩:=ih ρ2 μ2 fr1 H1 (g+1) y4 (hkp.trans hk1) y1 y2 y3 (by omega) (fun M3 h3=>by rw[q2]at h3;cases h3;omega) (fun _ =>⟨M',q2,by omega⟩);refine⟨x',fr',H',z1,⟨max m m'+1,fun n d k hn hd hk=> ?_⟩,z3⟩;obtain⟨k,rfl⟩:∃k',k=k'+1:=⟨k-1,by omega⟩;simp only[oP.loopN,hm n d (by omega) (by omega)];exact z2 n d k (by omega) (by omega) (by omega)
  .refine⟨x,fr1,H1,k1,⟨m+1,fun n d k hn hd hk=> ?_⟩,S2,k2,ρ',μ',e1.trans x1,e2.trans x2,g2⟩;obtain⟨k,rfl⟩:∃k',k=k'+1:=⟨k-1,by omega⟩;simp only[oP.loopN,hm n d (by omega) (by omega)];cases x<;>first|rfl|exact absurd rfl k1
theorem Av{w:gK}{sp:hO}:∀(l:gY),Je S w sp l=true->∀s∈l,s.pend=none/\okS S w sp [] [] s.S 0 0=true
 |s::r,h,z,hz=>by
  simp only[Je,aA]at h;rcases aU.1 hz with rfl|hz
  .exact⟨by simpa using h.1,h.2.1⟩
  .exact Av r h.2.2 z hz
theorem PH(hs:GS S ρ0 μ0 fr H){w:gK}{l l':gY}(h:VY S w l=some l'){fr1:eY}{H1:Hp}{pd:iE}(hk:qE H H1)(ho:wK P gl pe F l ρ0 μ0 fr1 H1 pd):wK P gl pe F l' ρ0 μ0 fr1 H1 pd:=by
 have gen:∀(s:Af) (r:gY),(if Je S w (aBm S.nx S.nl s r w) (s::r)then match Kt S w (aBm S.nx S.nl s r w) [] [] 0 with|some S'=>some [⟨S',none,[]⟩]|none=>none else none)=some l'->wK P gl pe F (s::r) ρ0 μ0 fr1 H1 pd->wK P gl pe F l' ρ0 μ0 fr1 H1 pd:=by
  intro s r h ⟨z,z1,ρ1,μ1,e1,e2,e3,g1,_⟩;split at h
  .rename_i ha;split at h
   .rename_i S' hS';cases h;obtain⟨k1,k2⟩:=Av _ ha z z1;obtain⟨ρ2,μ2,y1,y2,_,y4⟩:=WS hk hs g1 e1 e2 (g:=0) (m0:=0) (by omega) (by omega) (gs:=0) (gc:=0) (fun v hv=>by rw[g1.sy.zero]at hv;cases hv;rfl) ⟨0,g1.sy.zero⟩ k2 hS';exact⟨_,aP _,ρ2,μ2,y1,y2,by rw[<-e3,k1],y4,.nil⟩
   .cases h
  .cases h
 match l,h,ho with
 |[],h,ho=>simp only[VY]at h;cases h;exact ho|[s],h,ho=>simp only[VY]at h;cases h;exact ho|s::t::r,h,ho=>exact gen s (t::r) h ho
theorem Ky(hs:GS S ρ0 μ0 fr H){w:gK}:∀(n:Nat) (l l':gY),Bz S w n l=some l'->∀{fr1:eY} {H1:Hp} {pd:iE},qE H H1->wK P gl pe F l ρ0 μ0 fr1 H1 pd->wK P gl pe F l' ρ0 μ0 fr1 H1 pd
 |0,l,l',h,_,_,_,_,ho=>by simp only[Bz]at h;cases h;exact ho|n+1,[],l',h,_,_,_,_,ho=>by simp only[Bz]at h;cases h;exact ho
 |n+1,s::r,l',h,fr1,H1,pd,hk,⟨z,z1,hz⟩=>by
  simp only[Bz]at h;split at h
  .rename_i a ha;split at h
   .rename_i b hb;cases h;rcases aU.1 z1 with rfl|z1
    .exact(PH hs ha hk ⟨z,aR,hz⟩).lift fun y hy=>List.mem_append_left _ hy
    .by_cases hq:Xs s z w=true
     .exact(PH hs ha hk ⟨z,aJ _ (List.mem_filter.2 ⟨z1,hq⟩),hz⟩).lift fun y hy=>List.mem_append_left _ hy
     .exact(Ky hs n _ b hb hk ⟨z,List.mem_filter.2 ⟨z1,by simpa using hq⟩,hz⟩).lift fun y hy=>List.mem_append_right _ hy
   .cases h
  .cases h
def Ja(yld:Nat->List A->AS->Option (List AR))(yd:gV):Prop:=
 ∀l args S rs,yld l args S=some rs->∀(ρ:fI) (μ:fB) (H:Hp) (ts:eY) (x:Nat),Sy ρ S.nx S.cs->GH S.hp S.nl ρ μ H->pH ρ μ args ts->μ[l]? =some (some x)->
  ∃b H',Ev (fun n d=>yd n d x ts H=some (b,H'))/\∃R∈rs,ROk ρ μ R (.bool b) H'
section
variable(P:fA)(E:tW)(e:fE)(y:fG)(ow:fX)
noncomputable def XY(ops:fC)(s:Fx)(o:Oper):Option Fx:=
 match(if s.pend.isNone&&oW ops s.fr o then vX E.gl s.fr o else none)with
 |some (l,ars)=>match y l ars s.H with
  |some (b,H')=>some ⟨pP s.fr o.dst (.bool b),H',none⟩|none=>none
 |none=>qU P E (xY ow e) ops s o
end
theorem QF{E:tW}{e:fE}{y:fG}{ow:fX}{ops:fC}{o:Oper}{r:fS}{s s1:Fx}(h:XY P E e y ow ops s o=some s1):
  CG P E e y ow ops (o::r) s=CG P E e y ow ops r s1:=by
 simp only[CG];unfold XY at h;split at h
 .rename_i hq;rw[hq];simp only;split at h
  .rename_i hy;rw[hy];cases h;rfl
  .cases h
 .rename_i hq;rw[hq];simp only;rw[h]
theorem Tg{E:tW}{e:fE}{y:fG}{ow:fX}(hF:Po e)(hY:Ug y){ops:fC}{o:Oper}{s s1:Fx}(h:XY P E e y ow ops s o=some s1):qE s.H s1.H:=by
 have h1:=QF (r:=[]) h;exact DN hF hY (s:=s) (s':=s1) (l:=[o]) (h1.trans rfl)
theorem aBn{E:tW}{G:Fc}{ops:fC}{s s':Fx}{o:Oper}(h:qU P E G ops s o=some s')(hp:s.pend=none)(hw:oW ops s.fr o=true):vX E.gl s.fr o=none:=by
 cases hq:vX E.gl s.fr o with
 |none=>rfl
 |some q=>
  exfalso;unfold vX at hq;unfold qU at h;simp only[hp]at h;unfold rV at h;rw[if_pos hw]at h;split at hq
  .rename_i c ho;split at hq
   .rename_i f hf;split at hq
    .rename_i l hl;have e1:oV P E (uW G o) s.H s.fr o=none:=by simp only[oV,ho,uN,hf,hl]
     have e2:rS G o=none:=by simp only[rS,ho]
     have e3:rO P E G s.H s.fr o=none:=by simp only[rO,ho,hf,hl]
     simp only[e1,e2,e3]at h;cases h
    .cases hq
   .cases hq
  .cases hq
theorem aWr(hc:Cn X gl pe)(hg:GS S ρ μ fr H){o:Oper}{l:Nat}{xs:iH}(h:yOf X.gl S.fr o=some (l,xs)){ars:List A}(ha:CU X.gl S.fr xs=some ars):∃x ts,μ[l]? =some (some x)/\vX gl fr o=some (x,ts)/\pH ρ μ ars ts:=by
 unfold yOf at h;split at h
 .rename_i c ho;split at h
  .rename_i f hf;split at h
   .rename_i l' hl;cases h;obtain⟨t,t1,t2⟩:=sX hc.gl hg.sy.zero hg.fr hl;cases t2 with
    |yl _ x hx=>
    obtain⟨ts,u1,u2⟩:=xP hc.gl hg.sy.zero hg.fr ha;exact⟨x,ts,hx,by simp only[vX,ho,hf,t1,u1],u2⟩
   .cases h
  .cases h
 .cases h
theorem aFo:Yk F ee (fun n d=>xY F (ee n d)):=⟨fun _ _ =>rfl,fun n d=>EG _ _⟩
theorem Oj(hc:Cn X gl pe)(hcall:wZ call ee)(hyl:Ja yld yd){s:Af}(hg:GS s.S ρ μ fr H)(hav:AvOk P gl pe F s.av fr H){ops:fC}{o:Oper}{l:gY}(h:Xy P X call yld F ops s o=some l):
  ∃fr' H' pd,Ev (fun n d=>XY P ⟨gl,pe⟩ (ee n d) (yd n d) F ops ⟨fr,H,s.pend⟩ o=some ⟨fr',H',pd⟩)/\wK P gl pe F l ρ μ fr' H' pd:=by
 unfold Xy at h;split at h
 .split at h
  .cases h
  .rename_i hpn;have hpn:s.pend=none:=by simpa using hpn
   split at h
   .rename_i gs hgs;obtain⟨q,q1,q2,q3⟩:=CY hg hgs;obtain⟨u,u1,u2⟩:=qN h q q1;split at u1
    .rename_i hw;rw[q2]at hw;unfold bCz at u1;split at u1
     .rename_i l' xs hy;split at u1
      .rename_i ars ha;split at u1
       .rename_i rs hrs;cases u1;obtain⟨x,ts,v1,v2,v3⟩:=aWr hc q3 hy ha;obtain⟨b,H',e1,R,r1,ρ',μ',k1,k2,k3,k4,k5⟩:=hyl _ _ _ _ hrs ρ μ H ts x q3.sy q3.hp v3 v1;refine⟨pP fr o.dst (.bool b),H',none,e1.mono fun n d e=> ?_,_,u2 _ (bU.2 ⟨R,r1,rfl⟩),ρ',μ',k1,k2,rfl,⟨k3,k4,(q3.fr.ext k1 k2).put k5 o.dst⟩,.nil⟩;unfold XY;simp only[hpn,Option.isNone_none,Bool.true_and,hw,if_true,v2,e]
       .cases u1
      .cases u1
     .cases u1
    .rename_i hw;have hw:oW ops fr o=false:=by rw[<-q2];simpa using hw
     cases u1;refine⟨pP fr o.dst oL,H,none,.of fun n d=> ?_,_,u2 _ (aP _),ρ,μ,.refl _,.refl _,rfl,⟨q3.sy,q3.hp,q3.fr.put sP o.dst⟩,.nil⟩;unfold XY;simp only[hpn,hw,Option.isNone_none,Bool.and_false,bA,if_false];unfold qU;simp only[rV,hw,bA,if_false]
   .cases h
 .obtain⟨fr',H',pd,e1,e2⟩:=Og (Fe:=fun n d=>xY F (ee n d)) hc hcall aFo hg hav h;refine⟨fr',H',pd,e1.mono fun n d e=> ?_,e2⟩;unfold XY;have:(if(s.pend.isNone&&oW ops fr o)=true then vX gl fr o else none)=none:=by
   split
   .rename_i hcnd;simp only[aA]at hcnd;exact aBn e (by simpa using hcnd.1) hcnd.2
   .rfl
  simp only[this];exact e
theorem Xp(hc:Cn X gl pe)(hcall:wZ call ee)(hyl:Ja yld yd){ops:fC}:∀(os:fS) (s:Af) (ρ:fI) (μ:fB) (fr:eY) (H:Hp) (l:gY),GS s.S ρ μ fr H->AvOk P gl pe F s.av fr H->aJk P X call yld F ops os s=some l->
  ∃fr' H' pd,Ev (fun n d=>CG P ⟨gl,pe⟩ (ee n d) (yd n d) F ops os ⟨fr,H,s.pend⟩=some ⟨fr',H',pd⟩)/\wK P gl pe F l ρ μ fr' H' pd
 |[],s,ρ,μ,fr,H,l,hg,hav,h=>by
  simp only[aJk]at h;cases h;exact⟨fr,H,s.pend,.of fun n d=>rfl,_,aP _,ρ,μ,.refl _,.refl _,rfl,hg,hav⟩
 |o::rest,s,ρ,μ,fr,H,l,hg,hav,h=>by
  simp only[aJk]at h;split at h
  .rename_i q hq;obtain⟨fr1,H1,pd1,e1,s1,m1,ρ1,μ1,x1,x2,x3,g1,av1⟩:=Oj hc hcall hyl hg hav hq;obtain⟨r,r1,r2⟩:=qN h s1 m1;obtain⟨fr2,H2,pd2,e2,k2⟩:=Xp hc hcall hyl rest s1 ρ1 μ1 fr1 H1 r g1 av1 r1;rw[x3]at e2;refine⟨fr2,H2,pd2,(e1.and e2).mono fun n d ⟨a,b⟩=> ?_,(k2.lift r2).trans x1 x2⟩;rw[QF a];exact b
  .cases h
theorem Ev.ex{p:iZ}(h:Ev p):∃n d,p n d:=by obtain⟨m,hm⟩:=h;exact⟨m,m,hm m m (aZ _) (aZ _)⟩
theorem Xo(hc:Cn X gl pe)(hcall:wZ call ee)(hyl:Ja yld yd)(hK:∀n d,Po (ee n d))(hKy:∀n d,Ug (yd n d))(hs:GS S ρ0 μ0 fr H){ops:fC}:∀(os:fS) (w:gK) (l l':gY) (fr1:eY) (H1:Hp) (pd:iE),aJj P X call yld F S ops w os l=some l'->qE H H1->wK P gl pe F l ρ0 μ0 fr1 H1 pd->
  ∃fr' H' pd',Ev (fun n d=>CG P ⟨gl,pe⟩ (ee n d) (yd n d) F ops os ⟨fr1,H1,pd⟩=some ⟨fr',H',pd'⟩)/\wK P gl pe F l' ρ0 μ0 fr' H' pd'
 |[],w,l,l',fr1,H1,pd,h,_,ho=>by simp only[aJj]at h;cases h;exact⟨fr1,H1,pd,.of fun n d=>rfl,ho⟩
 |o::rest,w,l,l',fr1,H1,pd,h,hk,⟨s,s1,ρ1,μ1,e1,e2,e3,g1,av1⟩=>by
  simp only[aJj]at h;split at h
  .rename_i q hq;obtain⟨u,u1,u2⟩:=qN hq s s1;obtain⟨fr2,H2,pd2,k1,k2⟩:=Oj hc hcall hyl g1 av1 u1;have hk2:qE H H2:=by
    obtain⟨n,d,e⟩:=k1.ex;have:=Tg (hK n d) (hKy n d) e;exact hk.trans this
   have k3:wK P gl pe F q ρ0 μ0 fr2 H2 pd2:=(k2.lift u2).trans e1 e2;split at h
   .rename_i l2 hl2;have k4:wK P gl pe F l2 ρ0 μ0 fr2 H2 pd2:=by
     split at hl2
     .exact Ky hs _ _ _ hl2 hk2 k3
     .cases hl2;exact k3
    obtain⟨fr',H',pd',k5,k6⟩:=Xo hc hcall hyl hK hKy hs rest _ l2 l' fr2 H2 pd2 h hk2 k4;rw[e3]at k1;refine⟨fr',H',pd',(k1.and k5).mono fun n d ⟨a,b⟩=> ?_,k6⟩;rw[QF a];exact b
   .cases h
  .cases h
def Iy(μ:fB):Option Nat->Option Nat->Prop
 |none,none=>True|some l,some x=>μ[l]? =some (some x)|_,_ =>False
theorem Iy.ext{μ μ':fB}(h:rZ μ μ'){a b:gD}(hr:Iy μ a b):Iy μ' a b:=by
 cases a<;>cases b<;>first|trivial|exact hr.elim|exact h _ _ hr
theorem Uw{l:Nat}:∀(rs:List AR) (q:fY),aMt S l rs=some q->∀R∈rs,∃st pn fa ps asg bd ow aa ab,oO R.hp l=some (.loop st pn fa ps asg bd ow aa ab)/\st≠ .busy/\(aUi pn,{fr:=S.fr,hp:=vL R.hp l,nx:=R.nx,nl:=R.nl,cs:=R.cs})∈q
 |R::rs,q,h,R',hm=>by
  simp only[aMt]at h;split at h
  .rename_i st pn fa ps asg bd ow aa ab hf;split at h
   .cases h
   .rename_i hst;split at h
    .rename_i q' hq;cases h;rcases aU.1 hm with rfl|hm
     .exact⟨st,pn,fa,ps,asg,bd,ow,aa,ab,hf,fun e=>hst (by rw[e];rfl),aR⟩
     .obtain⟨st,pn,fa,ps,asg,bd,ow,aa,ab,a1,a2,a3⟩:=Uw rs q' hq R' hm;exact⟨st,pn,fa,ps,asg,bd,ow,aa,ab,a1,a2,aJ _ a3⟩
    .cases h
  .cases h
theorem SX{α:Type}{H:Hp}{l:Nat}{b:Ob}{r:Lr}(h1:H.any l=some b)(h2:b.me=some (.loop r))(k:Lr->Option α):KB H l k=k r:=by
 unfold KB;simp only[h1,wW];simp only[h2]
theorem aPj(hg:GS S ρ μ fr H){ro ro':gD}(h:roA S ro=true)(hr:Iy μ ro ro'):Hh H ro'=true:=by
 cases ro with
 |none=>cases ro' with
  |none=>rfl|some x=>exact hr.elim
 |some l=>cases ro' with
  |none=>exact hr.elim
  |some x=>
   simp only[roA]at h;split at h
   .rename_i st pn fa ps asg bd ow aa ab hf;obtain⟨b,r,h1,h2,_⟩:=hg.hp.atL hf hr;simp only[Hh,aNs,h1,h2]
   .cases h
theorem aAu(hcall:wZ call ee)(hc:Cn X gl pe){ro ro':gD}{g:gF}{ps:jD}{asg bd:Code}{an:An}(hg:GS S ρ μ fr H)(hro:Iy μ ro ro'){l:fY}{J:hX}(h:vK P X call yld F J ro (.rangeFunc g ps asg bd) an S=some l):
  ∃x fr' H',Ev (fun n d=>pD P ⟨gl,pe⟩ (ee n d) (yd n d) F n ro' (.rangeFunc g ps asg bd) fr H=some (x,fr',H'))/\Yl l ρ μ x fr' H':=by
 simp only[vK]at h;split at h
 .rename_i gf cap hgf;split at h
  .rename_i hra;split at h
   .rename_i rs hrs;obtain⟨t,t1,t2⟩:=sX hc.gl hg.sy.zero hg.fr hgf;cases t2 with
    |fn _ _ _ f' cap' q1 q2 q3 q4=>
    have hf':f'=[]:=by cases f' with|nil=>rfl|cons=>simp at q1
    subst hf';obtain⟨v1,v2⟩:=WQ (n:=fr.length) (fr:=fr) rfl;have hgm:Pq ρ (μ++[some H.next]) (.loop .ready none S.fr ps asg bd F an.l an.r) (yK ⟨.ready,none,FT.of fr 0 .nl,fr.length,ps,asg,bd,F⟩):=
     ⟨_,rfl,rfl,rfl,rfl,rfl,rfl,rfl,by rw[v1];exact hg.fr.ext (.refl _) (.app _ _)⟩
    have hnew:=hg.hp.newL hgm rfl;obtain⟨r,H2,e1,R,m1,ρ',μ',k1,k2,k3,k4,k5⟩:=hcall _ _ _ _ hrs ρ (μ++[some H.next]) _ (.yl H.next::cap') hg.sy hnew (pH.cons (.yl _ _ (rR hg.hp.len _)) (pH.ext (.refl _) (.app _ _) ⟨q3,q4⟩));obtain⟨st,pn,fa,ps',asg',bd',ow',aa,ab,w1,w2,w3⟩:=Uw rs l h R m1;have hx:μ'[S.nl]? =some (some H.next):=k2 _ _ (rR hg.hp.len _);obtain⟨b,rc,z1,z2,z3,z4,_⟩:=k4.atL w1 hx;refine⟨aUi pn,fr,H2.drop H.next,e1.mono fun n d e=> ?_,_,w3,ρ',μ',k1,(rZ.app _ _).trans k2,k3,k4.dropR w1 hx,hg.fr.ext k1 ((rZ.app _ _).trans k2)⟩;simp only[pD,t1];rw[if_pos (aPj hg hra hro),e];simp only[UU];rw[SX z1 z2,z3,z4];cases st<;>first|exact absurd rfl w2|(rcases pn with _ |_ |id<;>rfl)
   .cases h
  .cases h
 .cases h
theorem VZ{m:Nat}:∀(cs:List pO),pG ρ cs->pG ρ (RG m cs)
 |[],h=>h
 | .le x y c::r,h=>by
  have hr:=VZ (m:=m) r (fun q hq=>h q (aJ _ hq));simp only[RG];split
  .exact .cons (h _ aR) hr
  .exact hr
 | .ne x y c::r,h=>by
  have hr:=VZ (m:=m) r (fun q hq=>h q (aJ _ hq));simp only[RG];split
  .exact .cons (h _ aR) hr
  .exact hr
theorem Ra(h:GS S ρ μ fr H):GS (gcS S) ρ μ fr H:=⟨⟨h.sy.len,h.sy.zero,VZ _ h.sy.cs⟩,h.hp,h.fr⟩
theorem aKe{g:An->AS->Option (List (Go.Ps.X×AS))}{ro ro':gD}{f:iG}
  (hb:∀(b:An) (S:AS) (ρ:fI) (μ:fB) (fr:eY) (H:Hp) (l:fY),GS S ρ μ fr H->Iy μ ro ro'->g b S=some l->∃x fr' H',Ev (fun n d=>f n d fr H=some (x,fr',H'))/\Yl l ρ μ x fr' H'):
  ∀(k:List An) (S:AS) (ρ:fI) (μ:fB) (fr:eY) (H:Hp) (l:fY),GS S ρ μ fr H->Iy μ ro ro'->aKd g k S=some l->
   ∃x fr' H',(∃m,∀n d k,m<=n->m<=d->m<=k->oP.loopN (f n d) k fr H=some (x,fr',H'))/\Yl l ρ μ x fr' H'
 |[],_,_,_,_,_,_,_,_,h=>by simp[aKd]at h
 |b0::k,S,ρ,μ,fr,H,l,hg,hro,h=>by
  simp only[aKd]at h;split at h
  .rename_i r hr;obtain⟨x,fr1,H1,⟨m,e1⟩,S1,s1,ρ1,μ1,x1,x2,g1⟩:=hb b0 S ρ μ fr H r hg hro hr;obtain⟨u,u1,u2⟩:=qN h _ s1;cases x with
   |normal=>
    obtain⟨y,fr2,H2,⟨m',e2⟩,k2⟩:=aKe hb k (gcS S1) ρ1 μ1 fr1 H1 u (Ra g1) (hro.ext x2) u1;refine⟨y,fr2,H2,⟨max m m'+1,fun n d j hn hd hj=> ?_⟩,(k2.lift u2).trans x1 x2⟩;obtain⟨j,rfl⟩:∃j',j=j'+1:=⟨j-1,by omega⟩;simp only[oP.loopN,e1 n d (by omega) (by omega)];exact e2 n d j (by omega) (by omega) (by omega)
   |exit id=>
    cases u1;refine⟨.exit id,fr1,H1,⟨m+1,fun n d j hn hd hj=> ?_⟩,gcS S1,u2 _ (aP _),ρ1,μ1,x1,x2,Ra g1⟩;obtain⟨j,rfl⟩:∃j',j=j'+1:=⟨j-1,by omega⟩;simp only[oP.loopN,e1 n d (by omega) (by omega)]
   |ret=>
    cases u1;refine⟨.ret,fr1,H1,⟨m+1,fun n d j hn hd hj=> ?_⟩,gcS S1,u2 _ (aP _),ρ1,μ1,x1,x2,Ra g1⟩;obtain⟨j,rfl⟩:∃j',j=j'+1:=⟨j-1,by omega⟩;simp only[oP.loopN,e1 n d (by omega) (by omega)]
  .cases h
theorem UK(hc:Cn X gl pe)(hcall:wZ call ee)(hyl:Ja yld yd)(hK:∀n d,Po (ee n d))(hKy:∀n d,Ug (yd n d)){J:hX}{ro ro':gD}:∀(c:Code) (an:An) (S:AS) (ρ:fI) (μ:fB) (fr:eY) (H:Hp) (l:fY),GS S ρ μ fr H->Iy μ ro ro'->vK P X call yld F J ro c an S=some l->
  ∃x fr' H',Ev (fun n d=>pD P ⟨gl,pe⟩ (ee n d) (yd n d) F n ro' c fr H=some (x,fr',H'))/\Yl l ρ μ x fr' H':=by
 intro c
 induction c with
 |skip=>intro an S ρ μ fr H l hg hro h;simp only[vK]at h;cases h;exact⟨.normal,fr,H,.of fun n d=>rfl,S,aP _,ρ,μ,.refl _,.refl _,hg⟩|label _ =>intro an S ρ μ fr H l hg hro h;simp only[vK]at h;cases h;exact⟨.normal,fr,H,.of fun n d=>rfl,S,aP _,ρ,μ,.refl _,.refl _,hg⟩|exit id=>intro an S ρ μ fr H l hg hro h;simp only[vK]at h;cases h;exact⟨.exit id,fr,H,.of fun n d=>rfl,S,aP _,ρ,μ,.refl _,.refl _,hg⟩|ret=>intro an S ρ μ fr H l hg hro h;simp only[vK]at h;cases h;exact⟨.ret,fr,H,.of fun n d=>rfl,S,aP _,ρ,μ,.refl _,.refl _,hg⟩
 |region id ops draw=>
  intro an S ρ μ fr H l hg hro h;simp only[vK]at h;split at h
  .rename_i r hr;cases draw with
   |true=>
    simp only[if_true]at hr;obtain⟨fr',H',pd,e1,s,s1,ρ',μ',x1,x2,x3,g1,_⟩:=Ze (Fe:=fun n d=>xY F (ee n d)) hc hcall aFo hg hr;obtain⟨p1,p2⟩:=WD r l h s s1;refine⟨.normal,fr',H',e1.mono fun n d e=> ?_,s.S,p2,ρ',μ',x1,x2,g1⟩;simp only[pD,if_true];rw[e,<-x3,p1]
   |false=>
    simp only[bA,if_false]at hr;have hseq:∃fr' H' pd,Ev (fun n d=>CG P ⟨gl,pe⟩ (ee n d) (yd n d) F ops ops.toList ⟨fr,H,none⟩=some ⟨fr',H',pd⟩)/\wK P gl pe F r ρ μ fr' H' pd:=by
     split at hr
     .split at hr
      .rename_i l0 hl0;obtain⟨fr',H',pd,e1,e2⟩:=Xo hc hcall hyl hK hKy hg ops.toList [] [⟨S,none,[]⟩] l0 fr H none hl0 (.refl _) ⟨_,aP _,ρ,μ,.refl _,.refl _,rfl,hg,.nil⟩;have hk:qE H H':=by
        obtain⟨n,d,e⟩:=e1.ex;exact DN (hK n d) (hKy n d) e
       exact⟨fr',H',pd,e1,PH hg hr hk e2⟩
      .cases hr
     .exact Xp hc hcall hyl ops.toList ⟨S,none,[]⟩ ρ μ fr H r hg .nil hr
    obtain⟨fr',H',pd,e1,s,s1,ρ',μ',x1,x2,x3,g1,_⟩:=hseq;obtain⟨p1,p2⟩:=WD r l h s s1;refine⟨.normal,fr',H',e1.mono fun n d e=> ?_,s.S,p2,ρ',μ',x1,x2,g1⟩;simp only[pD,bA,if_false];rw[e,<-x3,p1]
  .cases h
 |seq a b iha ihb=>
  intro an S ρ μ fr H l hg hro h;simp only[vK]at h;split at h
  .rename_i r hr;obtain⟨x,fr1,H1,e1,S1,s1,ρ1,μ1,x1,x2,g1⟩:=iha _ S ρ μ fr H r hg hro hr;obtain⟨u,u1,u2⟩:=qN h _ s1;cases x with
   |normal=>
    obtain⟨y,fr2,H2,e2,k2⟩:=ihb _ S1 ρ1 μ1 fr1 H1 u g1 (hro.ext x2) u1;refine⟨y,fr2,H2,(e1.and e2).mono fun n d ⟨p,q⟩=> ?_,(k2.lift u2).trans x1 x2⟩;simp only[pD,p];exact q
   |exit id=>
    cases u1;refine⟨.exit id,fr1,H1,e1.mono fun n d p=> ?_,S1,u2 _ (aP _),ρ1,μ1,x1,x2,g1⟩;simp only[pD,p]
   |ret=>
    cases u1;refine⟨.ret,fr1,H1,e1.mono fun n d p=> ?_,S1,u2 _ (aP _),ρ1,μ1,x1,x2,g1⟩;simp only[pD,p]
  .cases h
 |cond c a b iha ihb=>
  intro an S ρ μ fr H l hg hro h;simp only[vK]at h;split at h
  .rename_i B hB;obtain⟨t,t1,t2⟩:=sX hc.gl hg.sy.zero hg.fr hB;cases t2 with
   |bool _ b' hb=>
    obtain⟨cs',m1,m2⟩:=QL hg.sy.cs hb;obtain⟨u,u1,u2⟩:=qN h _ m1;have hg':GS {S with cs:=cs'} ρ μ fr H:=⟨⟨hg.sy.len,hg.sy.zero,m2⟩,hg.hp,hg.fr⟩;cases b' with
    |true=>
     simp only[if_true]at u1;obtain⟨x,fr1,H1,e1,k1⟩:=iha _ _ ρ μ fr H u hg' hro u1;refine⟨x,fr1,H1,e1.mono fun n d p=> ?_,k1.lift u2⟩;simp only[pD,t1,if_true];exact p
    |false=>
     simp only[bA,if_false]at u1;obtain⟨x,fr1,H1,e1,k1⟩:=ihb _ _ ρ μ fr H u hg' hro u1;refine⟨x,fr1,H1,e1.mono fun n d p=> ?_,k1.lift u2⟩;simp only[pD,t1,bA,if_false];exact p
  .cases h
 |block id c ih=>
  intro an S ρ μ fr H l hg hro h;simp only[vK]at h;split at h
  .rename_i r hr;cases h;obtain⟨x,fr1,H1,e1,S1,s1,k1⟩:=ih _ S ρ μ fr H r hg hro hr;have hm:=VA (id:=id) s1;cases x with
   |normal=>exact⟨.normal,fr1,H1,e1.mono fun n d p=>by simp only[pD,p],S1,hm,k1⟩|ret=>exact⟨.ret,fr1,H1,e1.mono fun n d p=>by simp only[pD,p],S1,hm,k1⟩
   |exit id'=>
    by_cases hi:id'=id
    .simp only[if_pos hi]at hm;exact⟨.normal,fr1,H1,e1.mono fun n d p=>by simp only[pD,p,if_pos hi],S1,hm,k1⟩
    .simp only[if_neg hi]at hm;exact⟨.exit id',fr1,H1,e1.mono fun n d p=>by simp only[pD,p,if_neg hi],S1,hm,k1⟩
  .cases h
 |loop c ih=>
  intro an S ρ μ fr H l hg hro h;simp only[vK]at h;split at h
  .rename_i k;obtain⟨x,fr',H',⟨m,e1⟩,e2⟩:=aKe (ro:=ro) (ro':=ro') (f:=fun n d fr H=>pD P ⟨gl,pe⟩ (ee n d) (yd n d) F n ro' c fr H) (fun b S ρ μ fr H l hg hro h=>ih b S ρ μ fr H l hg hro h) k S ρ μ fr H l hg hro h;refine⟨x,fr',H',⟨m,fun n d hn hd=> ?_⟩,e2⟩;simp only[pD];exact e1 n d n hn hd hn
  .rename_i la b;split at h
   .rename_i oc hoc;split at h
    .rename_i hcc;simp only[aA,sU,aI]at hcc;split at h
     .rename_i Sh hSh;split at h
      .rename_i r hr;have hbody:∀(ρ':fI) (μ':fB) (fr:eY) (H:Hp),GS Sh ρ' μ' fr H->rZ μ μ'->∃x fr' H',Ev (fun n d=>pD P ⟨gl,pe⟩ (ee n d) (yd n d) F n ro' c fr H=some (x,fr',H'))/\qE H H'/\Yl r ρ' μ' x fr' H':=fun ρ' μ' fr H hg hμ=>by
        obtain⟨x,fr',H',e1,e2⟩:=ih _ Sh ρ' μ' fr H r hg (hro.ext hμ) hr;refine⟨x,fr',H',e1,?_,e2⟩;obtain⟨n,d,e⟩:=e1.ex;exact wR (hK n d) (hKy n d) _ _ _ _ _ _ e
       obtain⟨ρ2,μ2,y1,y2,y3,y4⟩:=WS (.refl _) hg hg (.refl _) (.refl _) (g:=0) (m0:=Int.ofNat la.gk*la.m0) (by omega) (Int.mul_nonneg (Int.natCast_nonneg _) hcc.1.1.1.1) (gs:=0) (gc:=0) (fun v hv=>by rw[hg.sy.zero]at hv;cases hv;rfl) ⟨0,hg.sy.zero⟩ hcc.2 hSh;have hM:(∃x S2,(x,S2)∈r/\x= .normal)->∃M,JD fr H la.ms=some M/\M<=la.m0:=by
        rintro⟨x,S2,h1,rfl⟩;rcases xB r l h _ S2 h1 with⟨_,_,k2⟩|⟨k1,_⟩
        .exact aHp hg k2
        .exact absurd rfl k1
       obtain⟨x,fr',H',z1,⟨m,z2⟩,z3⟩:=aOm hg hSh h (f:=fun n d fr H=>pD P ⟨gl,pe⟩ (ee n d) (yd n d) F n ro' c fr H) hbody ((JD fr H la.ms).getD 0).toNat ρ2 μ2 fr H 0 y4 (.refl _) y1 y2 (by rw[Int.mul_zero];exact y3) (by omega)
        (fun M h=>by rw[h];simp only[eR];omega) (fun hx=>by obtain⟨M,q1,q2⟩:=hM hx;exact⟨M,q1,by omega⟩)
       refine⟨x,fr',H',⟨m,fun n d hn hd=> ?_⟩,z3⟩;simp only[pD];exact z2 n d n hn hd hn
      .cases h
     .cases h
    .cases h
   .cases h
  .cases h
 |rangeFunc g ps asg bd _ _ =>
  intro an S ρ μ fr H l hg hro h;exact aAu hcall hc hg hro h
 |_ =>intro an S ρ μ fr H l hg hro h;simp only[vK]at h;cases h
theorem Yf(hs:Sy ρ S.nx S.cs)(hh:GH S.hp S.nl ρ μ H){l x:Nat}(hx:μ[l]? =some (some x)){st:LoopState}{pn:iK}{S':AS}(h:aKf S l st pn=some S'):
  ∃b r,H.any x=some b/\b.me=some (.loop r)/\Sy ρ S'.nx S'.cs/\S'.fr=S.fr/\GH S'.hp S'.nl ρ μ (H.put x (yK {r with st:=st,pe:=peC pn})):=by
 unfold aKf at h;split at h
 .rename_i st' pn' fa ps asg bd ow aa ab hf;cases h;obtain⟨b,r,h1,h2,h3,h4,h5,h6,h7,h8,h9⟩:=hh.atL hf hx;exact⟨b,r,h1,h2,hs,rfl,hh.putL hf hx ⟨_,rfl,rfl,rfl,h5,h6,h7,h8,h9⟩ rfl⟩
 .cases h
theorem XG{l:Nat}:∀(r:fY) (q:List AR),TD l r=some q->∀x S,(x,S)∈r->∃S',aKf S l (if WJ x then .ready else .done) (peX x)=some S'/\(⟨.bool (.lit (WJ x)),S'.hp,S'.nx,S'.nl,S'.cs⟩:AR)∈q
 |(y,S0)::r,q,h,x,S,hm=>by
  simp only[TD]at h;split at h
  .rename_i S' hS';split at h
   .rename_i q' hq;cases h;rcases aU.1 hm with hm|hm
    .cases hm;exact⟨S',hS',aR⟩
    .obtain⟨S2,a1,a2⟩:=XG r q' hq x S hm;exact⟨S2,a1,aJ _ a2⟩
   .cases h
  .cases h
theorem Dg:∀(ps:gK) (a_s:List A) (ts:eY) (fa:List A) (fr:eY),pH ρ μ a_s ts->pH ρ μ fa fr->pH ρ μ (Tb ps a_s fa) (BZ ps ts fr)
 |[],a_s,ts,fa,fr,_,h=>by
  cases a_s<;>cases ts<;>exact h
 |p::ps,[],ts,fa,fr,h1,h=>by rw[h1.inv_nil];exact h
 |p::ps,a::a_s,ts,fa,fr,h1,h=>by
  obtain⟨t,r,rfl,h2,h3⟩:=h1.inv_cons;exact Dg ps a_s r (fa.set p a) (fr.set p t) h3 (h.set h2 p)
theorem aJe{x y:Go.Ps.X}(h:aRk x y=true):x=y:=by
 cases x<;>cases y<;>first|rfl|(cases h;done)|(rw[oM h])
theorem WI{S':AS}{x:Go.Ps.X}:∀(r:fY),(∃S,(x,S)∈r)->(x,S')∈LG S' r
 |(y,S0)::r,⟨S,h⟩=>by
  simp only[LG];rcases aU.1 h with h|h
  .cases h;split
   .rename_i hm;have key:∀(l:fY),aOr x l=true->∃S,(x,S)∈l:=by
     intro l
     induction l with
     |nil=>intro h;cases h
     |cons q l ih=>
      obtain⟨z,Sz⟩:=q;intro h;simp only[aOr,bG]at h;rcases h with h|h
      .exact⟨Sz,by rw[aJe h];exact aR⟩
      .obtain⟨S2,h2⟩:=ih h;exact⟨S2,aJ _ h2⟩
    exact WI r (key r hm)
   .exact aR
  .have ih:=WI (S':=S') r ⟨S,h⟩;split
   .exact ih
   .exact aJ _ ih
theorem WR{oc:fR}:∀(r:fY),Gs S oc r=true->∀x S1,(x,S1)∈r->okS {S with fr:=[.top]} [0] [] oc [] {S1 with fr:=[.top]} 0 0=true
 |(y,S0)::r,h,x,S1,hm=>by
  simp only[Gs,aA]at h;rcases aU.1 hm with hm|hm
  .cases hm;exact h.1
  .exact WR r h.2 x S1 hm
theorem Qe(hs:GS S ρ0 μ0 fr H){ab:An}{r r':fY}(h:Ej S ab r=some r'){x:Go.Ps.X}{S1:AS}(hm:(x,S1)∈r){fr1:eY}{H1:Hp}(hk:qE H H1)(h1:GS S1 ρ1 μ1 fr1 H1)(he:rZ ρ0 ρ1)(he':rZ μ0 μ1):
  ∃S2 ρ2 μ2 fr2,(x,S2)∈r'/\rZ ρ0 ρ2/\rZ μ0 μ2/\GS S2 ρ2 μ2 fr2 H1:=by
 unfold Ej at h;split at h
 .split at h
  .rename_i oc hoc;split at h
   .rename_i hcc;simp only[aA]at hcc;split at h
    .rename_i S' hS';cases h;have g0:GS {S with fr:=[.top]} ρ0 μ0 [oL] H:=⟨hs.sy,hs.hp,pH.cons (.top _) .nil⟩;have g1:GS {S1 with fr:=[.top]} ρ1 μ1 [oL] H1:=⟨h1.sy,h1.hp,pH.cons (.top _) .nil⟩;obtain⟨ρ2,μ2,y1,y2,_,y4⟩:=WS hk g0 g1 he he' (g:=0) (m0:=0) (by omega) (by omega) (gs:=0) (gc:=0) (fun v hv=>by rw[h1.sy.zero]at hv;cases hv;rfl) ⟨0,h1.sy.zero⟩ (WR r hcc.2 x S1 hm) hS';exact⟨S',ρ2,μ2,_,WI r ⟨S1,hm⟩,y1,y2,y4⟩
    .cases h
   .cases h
  .cases h
 .cases h;exact⟨S1,ρ1,μ1,fr1,hm,he,he',h1⟩
theorem aPi(hc:Cn X gl pe)(hcall:wZ call ee)(hyl:Ja yld yd)(hK:∀n d,Po (ee n d))(hKy:∀n d,Ug (yd n d)):
  Ja (aVl P X call yld) (fun n d=>HD P ⟨gl,pe⟩ (ee n d) (yd n d) n):=by
 intro l args S rs h ρ μ H ts x hs hh ha hx;unfold aVl at h;split at h
 .rename_i st pn fa ps asg bd ow aa ab hf;obtain⟨b,rc,h1,h2,h3,h4,h5,h6,h7,h8,h9⟩:=hh.atL hf hx;split at h
  .rename_i hcc;simp only[aA]at hcc;obtain⟨c1,c2,c3⟩:=hcc;have c1:=oM c1;split at h
   .rename_i r hr;have hg0:GS {S with fr:=Tb ps.toList args fa} ρ μ (BZ ps.toList ts (rc.fr.view rc.n)) H:=⟨hs,hh,Dg _ _ _ _ _ ha h9⟩;obtain⟨x1,fr1,H1,e1,S1,s1,ρ1,μ1,k1,k2,g1⟩:=UK (F:=ow) (ro:=some l) (ro':=some x) hc hcall hyl hK hKy asg aa _ ρ μ _ H r hg0 hx hr;obtain⟨u,u1,u2⟩:=qN h _ s1;unfold aRi at u1;split at u1
    .rename_i hn;simp only[aA]at hn;have hx1:x1= .normal:=by cases x1<;>first|rfl|cases hn.1
     subst hx1;have hrd:=hn.2;unfold Vy at hrd;split at hrd
     .rename_i st1 pn1 fa1 ps1 asg1 bd1 ow1 aa1 ab1 hf1;have hst1:st1= .ready:=Da hrd;subst hst1;have hx':=k2 _ _ hx;split at u1
      .rename_i S2 hS2;have hpe:aVd S1 l=pn1:=by simp only[aVd,hf1]
       rw[hpe]at hS2;obtain⟨b1,r1,p1,p2,p3,p4,p5,p6,p7,p8,p9⟩:=g1.hp.atL hf1 hx';obtain⟨b2,r2,q1,q2,q3,q4,q5⟩:=Yf g1.sy g1.hp hx' hS2;rw[p1]at q1;cases q1;rw[p2]at q2;cases q2;have hg2:GS S2 ρ1 μ1 fr1 (H1.put x (yK {r1 with st:= .busy})):=by
        refine⟨q3,?_,by rw[q4];exact g1.fr⟩;have:({r1 with st:= .busy,pe:=peC pn1}:Lr)={r1 with st:= .busy}:=by rw[<-p4]
        rw[<-this];exact q5
       split at u1
       .rename_i rr0 hrr;obtain⟨x2,fr2',H2,e2,S3',s3',ρ2',μ2',y1',y2',g3'⟩:=UK (F:=ow) (ro:=some l) (ro':=some x) hc hcall hyl hK hKy bd ab.body S2 ρ1 μ1 fr1 _ rr0 hg2 hx' hrr;split at u1
        case h_2=>cases u1
        rename_i rr hbnd;have hkk:qE (H1.put x (yK {r1 with st:= .busy})) H2:=by
         obtain⟨n,d,e⟩:=e2.ex;exact wR (hK n d) (hKy n d) _ _ _ _ _ _ e
        obtain⟨S3,ρ2,μ2,fr2,s3,y1,y2,g3⟩:=Qe hg2 hbnd s3' hkk g3' y1' y2';obtain⟨S4,w1,w2⟩:=XG rr u u1 x2 S3 s3;have hx2:=y2 _ _ hx';obtain⟨b3,r3,v1,v2,v3,v4,v5⟩:=Yf g3.sy g3.hp hx2 w1;refine⟨WJ x2,H2.put x (yK {r3 with st:=(if WJ x2 then .ready else .done),pe:=peC (peX x2)}),(e1.and e2).mono fun n d ⟨a1,a2⟩=> ?_,_,u2 _ w2,ρ2,μ2,k1.trans y1,k2.trans y2,v3,v5,.bool _ _ rfl⟩;show HD P ⟨gl,pe⟩ (ee n d) (yd n d) n x ts H=_;simp only[HD];rw[SX h1 h2,if_pos ⟨by rw[<-ha.1,c1,h5],by rw[h6];exact c2,by rw[h7];exact c3⟩,h5,h6,h8];rw[a1];simp only[Hj];rw[SX p1 p2,p3];simp only;rw[h8,h7,a2];simp only[HF];rw[SX v1 v2];cases x2<;>rfl
       .cases u1
      .cases u1
     .cases hrd
    .cases u1
   .cases h
  .cases h
 .cases h
end
end Go.Ps
namespace Go.Ps
variable[Inhabited Prd]
section
variable{ρ ρ' ρ0 ρ1:fI}{μ μ' μ0 μ1:fB}{X:AX}{gl:fD}{pe:fK}{H H1:Hp}{S S1:AS}{P:fA}{fr fr1:eY}
theorem XF:∀(rs:gU) (S:AS) (ρ:fI) (fa:List A) (l:List A) (S':AS),GS S ρ μ fr H->pH ρ μ fa fr->MZ P fa rs S=some (l,S')->
  ∃ts ρ',rL P fr H rs=some ts/\rZ ρ ρ'/\Sy ρ' S'.nx S'.cs/\S'.hp=S.hp/\S'.nl=S.nl/\pH ρ' μ l ts
 |[],S,ρ,fa,l,S',hg,hf,h=>by
  simp only[MZ]at h;cases h;exact⟨[],ρ,rfl,.refl _,hg.sy,rfl,rfl,.nil⟩
 |r::rs,S,ρ,fa,l,S',hg,hf,h=>by
  simp only[MZ]at h;split at h
  .rename_i v hv;have one:∃t,ZO P fr H r=some t/\VOk ρ μ v t:=by
    cases r with
    |tmp t=>simp only[bEa]at hv;cases hv;exact⟨_,rfl,.here hg.sy (hf.get t)⟩|cell a t=>exact Lp hg.sy hg.hp (hf.get a) hv
   obtain⟨t,t1,ρ1,e1,s1,g1⟩:=one;split at h
   .rename_i l' S2 hr;cases h;obtain⟨ts,ρ2,q1,q2,q3,q4,q5,q6⟩:=XF rs {S with nx:=v.nx,cs:=v.cs} ρ1 fa l' _ (hg.sym e1 s1) (hf.ext e1 (.refl _)) hr;exact⟨t::ts,ρ2,by simp only[rL,t1,q1],e1.trans q2,q3,q4,q5,pH.cons (g1.ext q2 (.refl _)) q6⟩
   .cases h
  .cases h
def aQb:List T->T
 |[t]=>t|ts=> .tup ts
theorem aQa{a_s:List A}{ts:eY}(h:pH ρ μ a_s ts):Gm ρ μ (bEs a_s) (aQb ts):=by
 cases a_s with
 |nil=>rw[h.inv_nil];exact sP
 |cons a a_s=>
  obtain⟨t,r,rfl,h1,h2⟩:=h.inv_cons;cases a_s with
  |nil=>rw[h2.inv_nil];exact h1
  |cons b bs=>
   obtain⟨u,r',rfl,h3,h4⟩:=h2.inv_cons;exact .tup _ _ h.1 h.2
theorem Kb(rs:gU):∀(l:fY) (q:List AR),Ux P rs l=some q->∀(x:Go.Ps.X) (S:AS),(x,S)∈l->∀(ρ:fI) (μ:fB) (fr:eY) (H:Hp),GS S ρ μ fr H->
  (x= .normal\/x= .ret)/\∃ts,rL P fr H rs=some ts/\∃R∈q,ROk ρ μ R (aQb ts) H
 |(y,S')::r,q,h,x,S,hm,ρ,μ,fr,H,hg=>by
  simp only[Ux]at h;split at h
  .cases h
  .rename_i hne;split at h
   .rename_i l' S2 hres;split at h
    .rename_i q' hq;cases h;rcases aU.1 hm with hm|hm
     .cases hm;obtain⟨ts,ρ',q1,q2,q3,q4,q5,q6⟩:=XF rs _ ρ _ l' S2 hg hg.fr hres;refine⟨?_,ts,q1,_,aR,ρ',μ,q2,.refl _,q3,?_,aQa q6⟩
      .cases y with
       |normal=>exact .inl rfl|ret=>exact .inr rfl|exit id=>exact absurd rfl (hne id)
      .rw[q4,q5];exact hg.hp.ext q2
     .obtain⟨k1,ts,k2,R,k3,k4⟩:=Kb rs r q' hq x S hm ρ μ fr H hg;exact⟨k1,ts,k2,R,aJ _ k3,k4⟩
    .cases h
   .cases h
theorem Cq{oc:fR}{res:A}:∀(l:List AR),Xc S oc res l=true->∀r∈l,okS {S with fr:=[.top]} [0] [(0,.a res)] oc [] {fr:=[r.a],hp:=r.hp,nx:=r.nx,nl:=r.nl,cs:=r.cs} 0 0=true
 |r::rs,h,z,hz=>by
  simp only[Xc,aA]at h;rcases aU.1 hz with rfl|hz
  .exact h.1
  .exact Cq rs h.2 z hz
theorem Yt(hk:qE H H1)(hs:Sy ρ S.nx S.cs)(hh:GH S.hp S.nl ρ μ H){args:List A}{p:aKy}{l rs:List AR}(h:Qd S args p l=some rs){R:AR}(hR:R∈l){t:T}(hr:ROk ρ μ R t H1):∃R'∈rs,ROk ρ μ R' t H1:=by
 unfold Qd at h;split at h
 .rename_i oc hoc;split at h
  .rename_i hcc;simp only[aA]at hcc;split at h
   .rename_i S' hS';cases h;obtain⟨ρ1,μ1,e1,e2,s1,g1,v1⟩:=hr;have hS:GS {S with fr:=[.top]} ρ μ [t] H:=⟨hs,hh,pH.cons (.top _) .nil⟩;have h1:GS {fr:=[R.a],hp:=R.hp,nx:=R.nx,nl:=R.nl,cs:=R.cs} ρ1 μ1 [t] H1:=⟨s1,g1,pH.cons v1 .nil⟩;obtain⟨ρ2,μ2,y1,y2,_,y4⟩:=WS hk hS h1 e1 e2 (g:=0) (m0:=0) (by omega) (by omega) (gs:=0) (gc:=0) (fun v hv=>by rw[s1.zero]at hv;cases hv;rfl) ⟨0,s1.zero⟩ (Cq l hcc.2 R hR) hS';exact⟨_,aP _,ρ2,μ2,y1,y2,y4.sy,y4.hp,y4.fr.get 0⟩
   .cases h
  .cases h
 .cases h
theorem Fi(hc:Cn X gl pe){call:FuncId->List A->AS->Option (List AR)}{ee:fO}{yld:Nat->List A->AS->Option (List AR)}{yd:gV}
  (hcall:wZ call ee) (hyl:Ja yld yd) (hK:∀n d,Po (ee n d)) (hKy:∀n d,Ug (yd n d)) {f:fT} {args:List A} {rs:List AR} (h:aFx P X call yld f args S=some rs) (hs:Sy ρ S.nx S.cs) (hh:GH S.hp S.nl ρ μ H) {ts:eY} (ha:pH ρ μ args ts):
  X.top f=true/\∃r H',Ev (fun n d=>Vk P ⟨gl,pe⟩ (ee n d) (yd n d) (X.own f) n f ts H=some (r,H'))/\∃R∈rs,ROk ρ μ R r H':=by
 unfold aFx at h;split at h
 .cases h
 rename_i hinl;refine⟨by simpa using hinl,?_⟩;split at h
 .rename_i fn hfn;split at h
  .rename_i c hbody;split at h
   .rename_i l hl;have hg:GS {S with fr:=args++List.replicate (fn.ntmps-args.length) (.tup [])} ρ μ (ts++List.replicate (fn.ntmps-ts.length) oL) H:=
     ⟨hs,hh,by rw[<-ha.1];exact ha.app (pH.replicate sP _)⟩
    obtain⟨x,fr',H',e1,S',s1,ρ1,μ1,x1,x2,g1⟩:=UK (F:=X.own f) (ro:=none) (ro':=none) hc hcall hyl hK hKy c _ _ ρ μ _ H l hg trivial hl;have hk:qE H H':=by
     obtain⟨n,d,e⟩:=e1.ex;exact wR (hK n d) (hKy n d) _ _ _ _ _ _ e
    split at h
    .rename_i rs' hrs;obtain⟨k1,us,k2,R,k3,k4⟩:=Kb _ l rs' hrs x S' s1 ρ1 μ1 fr' H' g1;have k4':ROk ρ μ R (aQb us) H':=by
      obtain⟨a,b,h1,h2,h3⟩:=k4;exact⟨a,b,x1.trans h1,x2.trans h2,h3⟩
     have fin:∃R'∈rs,ROk ρ μ R' (aQb us) H':=by
      split at h
      .exact Yt hk hs hh h k3 k4'
      .cases h;exact⟨R,k3,k4'⟩
     refine⟨_,H',e1.mono fun n d e=> ?_,fin⟩;simp only[Vk,hfn,hbody];rw[e];rcases k1 with rfl|rfl<;>simp only[k2]<;>(rcases us with _ |⟨t,_ |⟨u,r⟩⟩<;>rfl)
    .cases h
   .cases h
  .cases h
 .cases h
end
end Go.Ps
namespace Go.Ps
variable[Inhabited Prd]
section
variable{P:fA}{gl:fD}
noncomputable def pureE(P:fA)(gl:fD)(pe:fH)(own:gJ)(ok:fZ)(k n d:Nat)(f:fT)(ts:eY):Option T:=
 match(tJ P ⟨gl,sB k pe⟩ own ok n d).ee f ts ⟨0,.nl⟩with
 |some (q,H')=>pF k H' q|none=>none
theorem aIn(hm:P.follows .mixedOrders=true)(hz:uD gl)(hx:rG P gl ZU){pe:fH}(hp:PcOk P gl pe){own:gJ}{ok:fZ}(hok:∀f,ok f=true->tY P f=true/\zD P f=true)
  {k n d:Nat} {f:fT} {ts:eY} {r:T} (h:pureE P gl pe own ok k n d f ts=some r):
  tY P f=true/\∀(g:G) (vs:fM),qP g->(∀l,¬g.al l)->GlOk gl g->RdL g vs ts->
   Calls P f vs.toArray g.w fun e w'=>∃v g',e= .returned v/\g'.w=w'/\PStep g g'/\qP g'/\Rd g' v r:=by
 unfold pureE at h;split at h
 .rename_i q H' he;obtain⟨h1,h2⟩:=(Xj hm (E:=⟨gl,sB k pe⟩) (SW (k:=k) hz hp) hx hok (own:=own) (n:=n) d).1 f ts _ q H' he;refine⟨h1,fun g vs hg hal hgl hv=> ?_⟩;have hs:St g ⟨0,.nl⟩:=St.nl _ _ (fun l _ =>hal l);refine(h2 g vs hg hs hgl hv).mono fun e w' ⟨v,g',e1,e2,e3,e4,e5,e6⟩=> ?_;refine⟨v,g'.frz H' g,e1,e2,?_,?_,JU e5 k q r v h e6⟩
  .refine⟨e3.os,e3.tape,e3.output,e3.size,fun b hb=>e3.block b hb (fun l o ho=>(by rw[sV]at ho;cases ho)),fun b hb=> .inl (e3.sub b hb),fun b hb=> ?_,rfl,rfl,rfl⟩;rcases hb with hb|⟨l,o,ho,rfl⟩
   .rcases e3.fresh b hb with q|q|⟨l,o,ho,_⟩
    .exact .inl q
    .exact .inr q
    .rw[sV]at ho;cases ho
   .rcases e3.live l o (pJ ho).1 with⟨l0,o0,q,_⟩|q
    .rw[sV]at q;cases q
    .exact .inr q
  .intro b hb;rcases hb with hb|⟨l,o,ho,rfl⟩
   .exact e4 b hb
   .exact e5.lt (pJ ho).1
 .cases h
def Yi(P:fA)(gl:fD)(pe:fH)(own:gJ)(ok:fZ)(k:Nat)(f:fT)(ts:eY)(r:T):Prop:=
 ∃m,∀n d,m<=n->m<=d->pureE P gl pe own ok k n d f ts=some r
theorem Yi.unique{pe:fH}{own:gJ}{ok:fZ}{k:Nat}{f:fT}{ts:eY}{r r':T}(h:Yi P gl pe own ok k f ts r)(h':Yi P gl pe own ok k f ts r'):r=r':=by
 obtain⟨m,hm⟩:=h;obtain⟨m',hm'⟩:=h';have:=hm (max m m') (max m m') (by omega) (by omega);rw[hm' (max m m') (max m m') (by omega) (by omega)]at this;exact(bQ this).symm
open Classical in
noncomputable def EF(P:fA)(gl:fD)(pe:fH)(own:gJ)(ok:fZ)(k:Nat)(tab:fZ):FuncId->List T->Option T:=fun f ts=>
 if tab f=true then(if h:∃r,Yi P gl pe own ok k f ts r then some (Classical.choose h)else none)else pe f ts
theorem aNb(hm:P.follows .mixedOrders=true)(hz:uD gl)(hx:rG P gl ZU){pe:fH}(hp:PcOk P gl pe){own:gJ}{ok:fZ}(hok:∀f,ok f=true->tY P f=true/\zD P f=true){k:Nat}{tab:fZ}:
  PcOk P gl (EF P gl pe own ok k tab):=by
 intro f ts r h;unfold EF at h;split at h
 .split at h
  .rename_i hex;cases h;obtain⟨m,hm'⟩:=cO hex;exact aIn hm hz hx hp hok (hm' m m (aZ _) (aZ _))
  .cases h
 .exact hp f ts r h
theorem VB{pe:fH}{own:gJ}{ok:fZ}{k:Nat}{tab:fZ}{f:fT}{ts:eY}{r:T}(ht:tab f=true)(h:Yi P gl pe own ok k f ts r):EF P gl pe own ok k tab f ts=some r:=by
 unfold EF;rw[if_pos ht,dif_pos ⟨r,h⟩];exact congrArg some ((cO ⟨r,h⟩:Yi P gl pe own ok k f ts _).unique h)
structure qD where
 f:FuncId
 pre:List A
 res:A
theorem RV{α:Type}(l:List α):l.take 0=[]:=rfl
def pU(l:List qD)(pe:FuncId->List A->Nat->List pO->Option AV):FuncId->List A->Nat->List pO->Option AV:=fun f a_s n cs=>
 if l.any fun c=>Nat.beq c.f f then match l.find? (fun c=>Nat.beq c.f f&&zE (JC cs 0 0 qX) a_s c.pre)with
  |some c=>some (uK c.res n cs)|none=>none
 else pe f a_s n cs
end
end Go.Ps
namespace Go.Ps
variable[Inhabited Prd]
section
variable{P:fA}{gl:fD}
structure Lay(P:fA)(gl:fD)(k:Nat)(ga:Nat->Option A)(pa:FuncId->List A->Nat->List pO->Option AV)(pe:fH)(dom:fZ):Prop where
 gA:GlA gl ga
 pA:PeA (sB k pe) pa
 pc:PcOk P gl pe
 dm:∀f ts,dom f=false->pe f ts=none
 hx:rG P gl ZU
variable{k:Nat}{ga:Nat->Option A}{pa:FuncId->List A->Nat->List pO->Option AV}{pe:fH}{dom:fZ}
theorem MJ{p:fZ}:∀{l:fN},l.all p=true->∀f,rD f l=true->p f=true
 |x::xs,h,f,hf=>by
  simp only[List.all_cons,aA]at h;simp only[rD,bG]at hf;rcases hf with hf|hf
  .rw[<-oM hf];exact h.1
  .exact MJ h.2 f hf
theorem Wo{f g:iU}(h:∀t r,f t=some r->g t=some r):∀{ts rs:eY},mapO f ts=some rs->mapO g ts=some rs
 |[],_,e=>e
 |t::ts,rs,e=>by
  simp only[mapO]at e⊢;split at e
  .rename_i u hu;split at e
   .rename_i us hus;rw[h _ _ hu];simp only[Wo h hus];exact e
   .cases e
  .cases e
theorem aOl{k:Nat}{pe:fH}{H:Hp}{g:fT}{ts bs:eY}{r:T}(h1:mapO (pF k H) ts=some bs)(h2:mapO (pF k ⟨0,.nl⟩) bs=some bs)(h3:sB k pe H g bs=some r)(h4:Nn r=true):sB k pe H g ts=some r:=by
 unfold sB at h3⊢;rw[h2]at h3;simp only at h3;split
 .rename_i us hus;have:=Wo (fun t r h=>FZ k 0 H t r h) hus;rw[h1]at this;cases this;exact h3
 .simp only[h1,h3,h4,if_true]
theorem Lay.cn(h:Lay P gl k ga pa pe dom){X:AX}(h1:X.gl=ga)(h2:X.pe=pa){l:fN}(h3:X.inl=fun f=>rD f l)(h4:l.all (fun f=> !dom f)=true)(hk:qX<=k:=by first|assumption|decide):Cn X gl (sB k pe):=by
 refine⟨by rw[h1];exact h.gA,by rw[h2];exact h.pA,fun g H ts hg=> ?_,k,hk,fun H g ts bs r q1 q2 q3 q4=>aOl q1 q2 q3 q4⟩;rw[h3]at hg;have hd:=MJ h4 g hg;have hn:∀ts,pe g ts=none:=fun ts=>h.dm g ts (by simpa using hd);unfold sB;split
 .exact hn _
 .split
  .simp only[hn]
  .rfl
theorem bEq{l:fN}(h:l.all (fun f=>tY P f&&zD P f)=true):∀f,rD f l=true->tY P f=true/\zD P f=true:=fun f hf=>by
 have:=MJ h f hf;simpa using this
theorem Lay.pure(h:Lay P gl k ga pa pe dom)(hz:uD gl){f:fT}{ts:eY}{r:T}(hr:pe f ts=some r)(hf:mapO (pF k ⟨0,.nl⟩) ts=some ts):oK P gl f ts r:=by
 have hp:=SW (k:=k) hz h.pc ⟨0,.nl⟩ f ts r (by unfold sB;rw[hf];exact hr);refine⟨hp.1,fun g vs hg ⟨N,hN⟩ hgl hv=> ?_⟩;obtain⟨h1,h2⟩:=SW (k:=k) hz h.pc ⟨N,.nl⟩ f ts r (by unfold sB;rw[hf];exact hr);exact h2 g vs hg (St.nl _ _ (hN)) hgl hv
end
end Go.Ps
namespace Go.Ps
noncomputable section
def Ht.over(t:Ht):Ht->Ht:=Ht.rec (motive:=fun _ =>Ht->Ht) (fun R=>R) (fun v _ _ ihl ihr R=> .nd (v.or R.val) (ihl R.lf) (ihr R.rt)) t
theorem Ht.over_nd(v:iW)(l r R:Ht):Ht.over (.nd v l r) R= .nd (v.or R.val) (Ht.over l R.lf) (Ht.over r R.rt):=rfl
theorem Ht.over_val(t R:Ht):(Ht.over t R).val=t.val.or R.val:=by cases t<;>rfl
theorem Ht.over_lf(t R:Ht):(Ht.over t R).lf=Ht.over t.lf R.lf:=by cases t<;>rfl
theorem Ht.over_rt(t R:Ht):(Ht.over t R).rt=Ht.over t.rt R.rt:=by cases t<;>rfl
theorem Ht.gtp_over:∀(p:fL) (t R:Ht),Ht.gtp p (Ht.over t R)=(Ht.gtp p t).or (Ht.gtp p R)
 |[],t,R=>Ht.over_val t R
 |false::p,t,R=>by
  show Ht.gtp p (Ht.over t R).lf=_;rw[Ht.over_lf,Ht.gtp_over p];rfl
 |true::p,t,R=>by
  show Ht.gtp p (Ht.over t R).rt=_;rw[Ht.over_rt,Ht.gtp_over p];rfl
theorem Ht.over_stp(v:iW):∀(p:fL) (t R:Ht),(v=none->Ht.gtp p R=none)->Ht.over (Ht.stp v p t) R=Ht.stp v p (Ht.over t R)
 |[],t,R,h=>by
  show Ht.over (.nd v t.lf t.rt) R= .nd v (Ht.over t R).lf (Ht.over t R).rt;rw[Ht.over_nd,Ht.over_lf,Ht.over_rt];cases v with
  |some v=>rfl|none=>rw[show R.val=none from h rfl];rfl
 |false::p,t,R,h=>by
  show Ht.over (.nd t.val (Ht.stp v p t.lf) t.rt) R= .nd (Ht.over t R).val (Ht.stp v p (Ht.over t R).lf) (Ht.over t R).rt;rw[Ht.over_nd,Ht.over_val,Ht.over_lf,Ht.over_rt,Ht.over_stp v p _ _ h]
 |true::p,t,R,h=>by
  show Ht.over (.nd t.val t.lf (Ht.stp v p t.rt)) R= .nd (Ht.over t R).val (Ht.over t R).lf (Ht.stp v p (Ht.over t R).rt);rw[Ht.over_nd,Ht.over_val,Ht.over_lf,Ht.over_rt,Ht.over_stp v p _ _ h]
theorem Ht.get_over(t R:Ht)(l:Nat):(Ht.over t R).get l=(t.get l).or (R.get l):=Ht.gtp_over _ t R
theorem Ht.over_put(v:iW)(t R:Ht)(l:Nat)(h:v=none->R.get l=none):Ht.over (Ht.put v t l) R=Ht.put v (Ht.over t R) l:=Ht.over_stp v _ t R h
theorem Ht.stp_stp(v w:iW):∀(p:fL) (t:Ht),Ht.stp v p (Ht.stp w p t)=Ht.stp v p t
 |[],t=>rfl
 |false::p,t=>by
  show Ht.nd t.val (Ht.stp v p (Ht.stp w p t.lf)) t.rt= .nd t.val (Ht.stp v p t.lf) t.rt;rw[Ht.stp_stp v w p]
 |true::p,t=>by
  show Ht.nd t.val t.lf (Ht.stp v p (Ht.stp w p t.rt))= .nd t.val t.lf (Ht.stp v p t.rt);rw[Ht.stp_stp v w p]
theorem Ht.stp_same{v:Ob}:∀(p:fL) (t:Ht),Ht.gtp p t=some v->Ht.stp (some v) p t=t
 |[],.nl,h=>by cases h
 |[],.nd w l r,h=>by
  have e:w=some v:=h;rw[e];rfl
 |b::p,.nl,h=>by
  have:∀p,Ht.gtp p .nl=none:=by
   intro p
   induction p with
   |nil=>rfl|cons b p ih=>cases b<;>exact ih
  rw[this]at h;cases h
 |false::p,.nd w l r,h=>by
  show Ht.nd w (Ht.stp (some v) p l) r=_;rw[Ht.stp_same p l h]
 |true::p,.nd w l r,h=>by
  show Ht.nd w l (Ht.stp (some v) p r)=_;rw[Ht.stp_same p r h]
structure sF(R:Ht)(A B:Hp):Prop where
 eq:B=⟨A.next,Ht.over A.objs R⟩
 dis:∀l o,R.get l=some o->A.any l=none/\l<A.next
section
variable{R:Ht}{A B:Hp}
theorem sF.nx(c:sF R A B):B.next=A.next:=by rw[c.eq]
theorem sF.any(c:sF R A B)(l:Nat):B.any l=(A.any l).or (R.get l):=by rw[c.eq];exact Ht.get_over _ _ _
theorem sF.yes(c:sF R A B)(l:Nat)(o:Ob)(h:A.any l=some o):B.any l=some o:=by rw[c.any,h];rfl
theorem sF.get(c:sF R A B){l:Nat}{o:Ob}(h:A.get l=some o):B.get l=some o:=by
 obtain⟨h1,h2⟩:=pJ h;exact yQ (c.yes l o h1) h2
theorem sF.rno(c:sF R A B){l:Nat}{o:Ob}(h:A.any l=some o):R.get l=none:=by
 cases hr:R.get l with
 |none=>rfl|some q=>have:=(c.dis l q hr).1;rw[h]at this;cases this
theorem sF.new(c:sF R A B)(o:Ob):sF R (A.new o) (B.new o) where
 eq:=by
  rw[c.eq];show(⟨A.next+1,Ht.put (some o) (Ht.over A.objs R) A.next⟩:Hp)=⟨A.next+1,Ht.over (Ht.put (some o) A.objs A.next) R⟩;rw[Ht.over_put _ _ _ _ (fun h=>by cases h)]
 dis:=fun l q h=>by
  obtain⟨h1,h2⟩:=c.dis l q h;refine⟨?_,Nat.lt_succ_of_lt h2⟩;rw[uG,if_neg (by omega)];exact h1
theorem sF.put(c:sF R A B){l:Nat}{q:Ob}(hl:A.any l=some q)(o:Ob):sF R (A.put l o) (B.put l o) where
 eq:=by
  rw[c.eq];show(⟨A.next,Ht.put (some o) (Ht.over A.objs R) l⟩:Hp)=⟨A.next,Ht.over (Ht.put (some o) A.objs l) R⟩;rw[Ht.over_put _ _ _ _ (fun h=>by cases h)]
 dis:=fun m p h=>by
  obtain⟨h1,h2⟩:=c.dis m p h;refine⟨?_,h2⟩;rw[uH,if_neg (fun e=>by rw[e,hl]at h1;cases h1)];exact h1
theorem sF.putM(c:sF R A B){l:Nat}{q:Ob}(hl:A.any l=some q)(o:Ob)(k:Nat)(es:fQ):sF R (Go.Ps.putM A l o k es) (Go.Ps.putM B l o k es):=c.put hl _
theorem sF.drop(c:sF R A B){l:Nat}{q:Ob}(hl:A.any l=some q):sF R (A.drop l) (B.drop l) where
 eq:=by
  rw[c.eq];show(⟨A.next,Ht.put none (Ht.over A.objs R) l⟩:Hp)=⟨A.next,Ht.over (Ht.put none A.objs l) R⟩;rw[Ht.over_put _ _ _ _ (fun _ =>c.rno hl)]
 dis:=fun m p h=>by
  obtain⟨h1,h2⟩:=c.dis m p h;refine⟨?_,h2⟩;rw[sJ];split
  .rfl
  .exact h1
structure Dz(R:Ht)(E:tW)(e:fE):Prop where
 mono:∀A B f ts r,sF R A B->E.pe A f ts=some r->E.pe B f ts=some r
 nope:∀f ts A v,e f ts A=some v->∀B,E.pe B f ts=none
variable{P:fA}{E:tW}{F:Fc}
theorem Em(c:sF R A B){p:T}{q:List T×Nat}(h:tR A p=some q):tR B p=some q:=by
 cases p<;>simp only[tR]at h⊢<;>try(first|exact h|cases h)
 split at h
 .rename_i o ho;rw[c.get ho];exact h
 .cases h
theorem WF(c:sF R A B){t:eX}{p r:T}(h:tX P A t p=some r):tX P B t p=some r:=by
 unfold tX at h⊢;split at h
 .rename_i cs off hc;rw[Em c hc];exact h
 .cases h
theorem UW(c:sF R A B){x:T}{es:fQ}(h:LT A x=some es):LT B x=some es:=by
 cases x<;>simp only[LT]at h⊢<;>try(first|exact h|cases h)
 split at h
 .rename_i o ho;rw[c.yes _ _ ho];exact h
 .cases h
theorem Gh(c:sF R A B){t:eX}{x k r:T}{ok:Bool}(h:zY P A t x k ok=some r):zY P B t x k ok=some r:=by
 unfold zY at h⊢;split at h
 .rename_i kt et hm
  try simp only[hm]
  split at h
  .rename_i hk;rw[if_pos hk];split at h
   .rename_i es he;rw[UW c he];exact h
   .cases h
  .cases h
 .cases h
theorem aAa(c:sF R A B){t:eX}{x r:T}(h:WC P A t x=some r):WC P B t x=some r:=by
 unfold WC at h⊢;split at h
 .split at h
  .rename_i l a b hm
   try simp only[hm]
   split at h
   .rename_i es he;rw[UW c he];exact h
   .cases h
  .exact h
 .exact h
theorem Qv(hpe:Dz R E F.ee)(c:sF R A B){fr:eY}{k:Call}{r:T}(h:uN P E A fr k=some r):uN P E B fr k=some r:=by
 unfold uN at h⊢;split at h
 .rename_i f hf
  try simp only[hf]
  split at h
  .rename_i g first cap he
   try simp only[he]
   split at h
   .rename_i ars ha;exact hpe.mono A B _ _ _ c h
   .cases h
  .cases h
 .cases h
 .rename_i b hb
  try simp only[hb]
  cases b<;>simp only at h⊢<;>try(first|exact h|cases h)
  split at h
  .rename_i x t ts h1 h2
   try simp only[h1,h2]
   split at h
   .rename_i a ha;exact aAa c h
   .cases h
  .cases h
theorem EE(hpe:Dz R E F.ee)(c:sF R A B){own:Bool}{fr:eY}{o:Oper}{r:T}(h:oV P E own A fr o=some r):oV P E own B fr o=some r:=by
 obtain⟨dst,op,ty,pos,after,guard⟩:=o;cases op<;>simp only[oV]at h⊢<;>try(first|exact h|(cases h;done))
 case load t a=>
  split at h
  .rename_i p hp;exact WF c h
  .cases h
 case lookup t x i ok=>
  split at h
  .exact Gh c h
  .cases h
 case call k=>exact Qv hpe c h
theorem JR(hpe:Dz R E F.ee){own:Bool}{fr:eY}{o:Oper}{v:T}{A':Hp}(he:rO P E F A fr o=some (v,A'))(h:oV P E own A fr o=none):oV P E own B fr o=none:=by
 obtain⟨dst,op,ty,pos,after,guard⟩:=o;cases op<;>simp only[rO]at he<;>try(cases he;done)
 all_goals simp only[oV]at h⊢<;>try exact h
 case call k=>
  unfold uN at h⊢;split at he
  .rename_i f hf;simp only[hf]at h⊢;split at he
   .rename_i g first cap hv
    simp only[hv]at h⊢;split at he
    .rename_i ars ha;(try simp only[ha]);exact hpe.nope _ _ _ _ he B
    .cases he
   .cases he
  .rename_i hb;simp only[hb]
  .rename_i hb;simp only[hb]
  .cases he
theorem PS{f g:iU}(h:∀t r,f t=some r->g t=some r):∀{l r:eY},mapO f l=some r->mapO g l=some r
 |[],r,e=>e
 |t::ts,r,e=>by
  simp only[mapO]at e⊢;split at e
  .rename_i u hu;split at e
   .rename_i us hus;rw[h _ _ hu];simp only[PS h hus];exact e
   .cases e
  .cases e
theorem Kp(c:sF R A B):∀(n:Nat) (t r:T),pF n A t=some r->pF n B t=some r
 |0,_,_,h=>by cases h
 |n+1,t,r,h=>by
  have ih:=Kp c n;have im:∀{l r:eY},mapO (pF n A) l=some r->mapO (pF n B) l=some r:=fun e=>PS ih e;cases t<;>simp only[pF]at h⊢<;>try(first|exact h|(cases h;done))
  case ptr l off=>
   split at h
   .rename_i o ho;rw[c.get ho];split at h
    .rename_i cs hcs;simp only[im hcs];exact h
    .cases h
   .cases h
  case ref x off=>
   split at h
   .rename_i y hy;rw[ih _ _ hy];exact h
   .cases h
  case sl f xs=>
   split at h
   .rename_i y hy;rw[im hy];exact h
   .cases h
  case osl l sz i len=>
   split at h
   .rename_i o ho;rw[c.get ho];split at h
    .rename_i hc;simp only[if_pos hc];split at h
     .rename_i cs hcs;simp only[im hcs];exact h
     .cases h
    .cases h
   .cases h
  case fn f a k=>
   split at h
   .rename_i x y hx hy;rw[im hx,im hy];exact h
   .cases h
  case iface t x=>
   split at h
   .rename_i y hy;rw[ih _ _ hy];exact h
   .cases h
  case agg cs=>
   split at h
   .rename_i y hy;rw[im hy];exact h
   .cases h
  case tup cs=>
   split at h
   .rename_i y hy;rw[im hy];exact h
   .cases h
theorem aAb(c:sF R A B){k:Nat}{pe:fH}{f:fT}{ts:eY}{r:T}(h:sB k pe A f ts=some r):sB k pe B f ts=some r:=by
 unfold sB at h⊢;split at h
 .exact h
 .split at h
  .rename_i ts' hts;rw[PS (Kp c k) hts];exact h
  .cases h
theorem ZS(c:sF R A B){x:T}{cs:eY}(h:rA A x=some cs):rA B x=some cs:=by
 cases x<;>simp only[rA]at h⊢<;>try(first|exact h|cases h)
 split at h
 .rename_i o ho;rw[c.get ho];exact h
 .cases h
theorem RU(c:sF R A B){t:eX}{p x:T}{A':Hp}(h:tK P A t p x=some A'):∃B',tK P B t p x=some B'/\sF R A' B':=by
 unfold tK at h⊢;split at h
 .rename_i l off;split at h
  .rename_i o n ho hn;split at h
   .rename_i hc;cases h;refine⟨_,?_,c.put (pJ ho).1 _⟩;simp only[c.get ho,hn];rw[if_pos hc]
   .cases h
  .cases h
 .cases h
theorem Jh(c:sF R A B){t tx:eX}{s x r:T}{A':Hp}(h:rT P A t tx s x=some (r,A')):∃B',rT P B t tx s x=some (r,B')/\sF R A' B':=by
 unfold rT at h⊢;split at h
 .rename_i e he;split at h
  .rename_i i new m hi hs hm;have hs':=ZS c hs;simp only[he,hi,hs',hm];split at h
   .cases h
   .rename_i hg;rw[if_neg hg];split at h
    .split at h
     .rename_i h0;cases h;exact⟨B,by simp only[if_pos h0],c⟩
     .rename_i h0;split at h
      .rename_i hr;cases h;exact⟨_,by simp only[if_neg h0,if_pos hr,c.nx],c.new _⟩
      .cases h
    .split at h
     .rename_i h0;cases h;exact⟨B,by simp only[if_pos h0],c⟩
     .rename_i h0;split at h
      .rename_i hr;cases h;exact⟨_,by simp only[if_neg h0,if_pos hr,c.nx],c.new _⟩
      .cases h
    .split at h
     .rename_i h0;cases h;exact⟨B,by simp only[if_pos h0],c⟩
     .rename_i h0;split at h
      .rename_i o ho;split at h
       .rename_i hr;cases h;exact⟨_,by simp only[if_neg h0,c.get ho];rw[if_pos hr,c.nx],(c.drop (pJ ho).1).new _⟩
       .cases h
      .cases h
    .cases h
  .cases h
 .cases h
theorem Yo(c:sF R A B){pa:Bool}{t tx:eX}{s x r:T}{A':Hp}(h:NS P pa A t tx s x=some (r,A')):∃B',NS P pa B t tx s x=some (r,B')/\sF R A' B':=by
 unfold NS at h⊢;split at h
 .rename_i hp;rw[if_pos hp];unfold BN at h⊢;split at h
  .split at h
   .split at h
    .cases h
    .rename_i hn;cases h;simp only[*];exact⟨B,rfl,c⟩
   .cases h
  .cases h
 .rename_i hp;rw[if_neg hp];exact Jh c h
theorem aAf(c:sF R A B){t:eX}{l k r:T}{A':Hp}(h:rC P A t l k=some (r,A')):∃B',rC P B t l k=some (r,B')/\sF R A' B':=by
 unfold rC at h⊢;split at h
 .rename_i e n m he;split at h
  .rename_i sz bytes z h1 h2 h3;split at h
   .rename_i hc;cases h;refine⟨_,?_,c.new _⟩
    try simp only[he,h1,h2,h3]
    rw[if_pos hc,c.nx]
   .cases h
  .cases h
 .cases h
theorem yO(c:sF R A B){t:eX}{m k:T}{q:Nat×Ob×Nat×List (Nat×T×T)×TypeId×Option (Nat×Nat×T)}(h:JI P A t m k=some q):JI P B t m k=some q/\A.any q.1=some q.2.1:=by
 unfold JI at h⊢;split at h
 .rename_i kt et hm;split at h
  .rename_i l;split at h
   .rename_i o ho;split at h
    .rename_i cn es hme;split at h
     .rename_i hk;split at h
      .rename_i r hr;cases h;refine⟨?_,ho⟩;simp only[hm,c.yes _ _ ho,hme];rw[if_pos hk];simp only[hr]
      .cases h
     .cases h
    .cases h
   .cases h
  .cases h
 .cases h
theorem Ow(c:sF R A B){t:eX}{m k x:T}{A':Hp}(h:YI P A t m k x=some A'):∃B',YI P B t m k x=some B'/\sF R A' B':=by
 unfold YI at h⊢;split at h
 .rename_i l o cn es et i b v hs;obtain⟨h1,h2⟩:=yO c hs;split at h
  .rename_i hk;cases h;exact⟨_,by simp only[h1];rw[if_pos hk],c.putM h2 _ _ _⟩
  .cases h
 .rename_i l o cn es et hs;obtain⟨h1,h2⟩:=yO c hs;cases h;exact⟨_,by simp only[h1],c.putM h2 _ _ _⟩
 .cases h
theorem Qu(c:sF R A B){t:eX}{m k r:T}{A':Hp}(h:ED P A t m k=some (r,A')):∃B',ED P B t m k=some (r,B')/\sF R A' B':=by
 unfold ED at h⊢;split at h
 .rename_i l o cn es et i b v hs;obtain⟨h1,h2⟩:=yO c hs;split at h
  .rename_i hk;cases h;exact⟨_,by simp only[h1];rw[if_pos hk],c.putM h2 _ _ _⟩
  .cases h
 .rename_i l o cn es et hs;obtain⟨h1,h2⟩:=yO c hs;split at h
  .rename_i z hz;cases h;exact⟨_,by simp only[h1,hz],c.putM h2 _ _ _⟩
  .cases h
 .cases h
theorem Kf(c:sF R A B){m s x:T}{A':Hp}(h:sL A m s x=some A'):∃B',sL B m s x=some B'/\sF R A' B':=by
 unfold sL at h⊢;split at h
 .split at h
  .rename_i o ho;split at h
   .rename_i cn es hme;split at h
    .rename_i i k hf;cases h;exact⟨_,by simp only[c.yes _ _ ho,hme,hf],c.putM ho _ _ _⟩
    .cases h
   .cases h
  .cases h
 .cases h
theorem aEt(c:sF R A B){t:eX}{m k:T}{A':Hp}(h:Er P A t m k=some A'):∃B',Er P B t m k=some B'/\sF R A' B':=by
 unfold Er at h⊢;split at h
 .rename_i l o cn es et i b v hs;obtain⟨h1,h2⟩:=yO c hs;cases h;exact⟨_,by simp only[h1],c.putM h2 _ _ _⟩
 .rename_i l o cn es et hs;obtain⟨h1,h2⟩:=yO c hs;cases h;exact⟨_,by simp only[h1],c.putM h2 _ _ _⟩
 .cases h
def yW(R:Ht)(e:fE):Prop:=∀f ts A B r A',sF R A B->e f ts A=some (r,A')->∃B',e f ts B=some (r,B')/\sF R A' B'
def Ag(R:Ht)(y:fG):Prop:=∀l ts A B r A',sF R A B->y l ts A=some (r,A')->∃B',y l ts B=some (r,B')/\sF R A' B'
theorem Jz(hF:yW R F.ee)(c:sF R A B){fr:eY}{o:Oper}{v:T}{A':Hp}(h:rO P E F A fr o=some (v,A')):∃B',rO P E F B fr o=some (v,B')/\sF R A' B':=by
 obtain⟨dst,op,ty,pos,after,guard⟩:=o;cases op<;>simp only[rO]at h⊢<;>try(cases h;done)
 case alloc t=>split at h<;>cases h;exact⟨_,by rw[c.nx],c.new _⟩
 case box t x=>split at h<;>cases h;exact⟨_,by rw[c.nx],c.new _⟩
 case buildSlice t len ps=>
  split at h
  .split at h
   .split at h
    .cases h;exact⟨_,by rw[c.nx],c.new _⟩
    .cases h
   .cases h
  .cases h
 case store t p x=>
  split at h
  .split at h
   .rename_i hs;cases h;obtain⟨B',h1,h2⟩:=RU c hs;exact⟨B',by simp only[h1],h2⟩
   .cases h
  .cases h
 case makeSlice t l k=>
  split at h
  .exact aAf c h
  .cases h
 case makeMap t r=>
  split at h
  .split at h
   .rename_i hk;cases h;exact⟨_,by rw[if_pos hk,c.nx],c.new _⟩
   .cases h
  .cases h
 case mapUpdate t m k x=>
  split at h
  .split at h
   .rename_i hs;cases h;obtain⟨B',h1,h2⟩:=Ow c hs;exact⟨B',by simp only[h1],h2⟩
   .cases h
  .cases h
 case insert t m k x=>
  split at h
  .split at h
   .rename_i hs;cases h;obtain⟨B',h1,h2⟩:=Ow c hs;exact⟨B',by simp only[h1],h2⟩
   .cases h
  .cases h
 case mapEntry t m k=>
  split at h
  .exact Qu c h
  .cases h
 case entryStore t m s x=>
  split at h
  .split at h
   .rename_i hs;cases h;obtain⟨B',h1,h2⟩:=Kf c hs;exact⟨B',by simp only[h1],h2⟩
   .cases h
  .cases h
 case call k=>
  split at h
  .rename_i hk;split at h
   .split at h
    .simp only[hk]at*;try simp only[*]
     exact hF _ _ _ _ _ _ c h
    .cases h
   .cases h
  .rename_i hk;split at h
   .split at h
    .split at h
     .rename_i hs;cases h;obtain⟨B',h1,h2⟩:=aEt c hs;exact⟨B',by simp only[hk, *],h2⟩
     .cases h
    .cases h
   .cases h
  .rename_i hk;split at h
   .split at h
    .obtain⟨B',h1,h2⟩:=Yo c h;exact⟨B',by simp only[hk, *],h2⟩
    .cases h
   .cases h
  .cases h
theorem TW{o:Oper}{q:Tmp×TypeId}(h:rS F o=some q){own:Bool}{fr:eY}:oV P E own B fr o=none:=by
 obtain⟨dst,op,ty,pos,after,guard⟩:=o;cases op<;>simp only[rS]at h<;>try(cases h;done)
 rfl
theorem KJ(hpe:Dz R E F.ee)(hF:yW R F.ee){ops:fC}{s s1:Fx}{o:Oper}(h:rV P E F ops s o=some s1)(c:sF R s.H B):
  ∃B1,rV P E F ops {s with H:=B} o=some {s1 with H:=B1}/\sF R s1.H B1:=by
 unfold rV at h⊢;split at h
 .rename_i hw;rw[if_pos hw];split at h
  .rename_i v hv;cases h;exact⟨B,by simp only[EE hpe c hv],c⟩
  .rename_i hv;split at h
   .rename_i d t ha;have hn:=TW (P:=P) (E:=E) (B:=B) ha (own:=uW F o) (fr:=s.fr);split at h
    .cases h
    .rename_i hp;split at h
     .rename_i n z h1 h2;split at h
      .rename_i hc;cases h;exact⟨B,by simp only[hn,ha,h1,h2];rw[if_neg hp,if_pos hc],c⟩
      .cases h
     .cases h
   .rename_i ha;split at h
    .rename_i v H' he;have hn:=JR (B:=B) hpe he hv;obtain⟨B',h1,h2⟩:=Jz hF c he;cases h;exact⟨B',by simp only[hn,ha,h1],h2⟩
    .cases h
 .rename_i hw;rw[if_neg hw];cases h;exact⟨B,rfl,c⟩
theorem Dr(hpe:Dz R E F.ee)(hF:yW R F.ee){ops:fC}{s s1:Fx}{o:Oper}(h:qU P E F ops s o=some s1)(c:sF R s.H B):
  ∃B1,qU P E F ops {s with H:=B} o=some {s1 with H:=B1}/\sF R s1.H B1:=by
 obtain⟨fr,A,pend⟩:=s;unfold qU at h⊢;cases pend with
 |none=>exact KJ hpe hF h c
 |some q=>
  obtain⟨d,t⟩:=q;simp only at h⊢;split at h
  .split at h
   .rename_i hd;rw[if_pos hd];split at h
    .rename_i hc;rw[if_pos hc];split at h
     .rename_i y n h1 h2
      try simp only[h1,h2]
      split at h
      .rename_i h3;cases h;rw[if_pos h3];unfold RM;split
       .exact⟨_,by simp only[c.nx],c.new _⟩
       .exact⟨B,rfl,c⟩
      .cases h
     .cases h
    .cases h
   .split at h
    .cases h
    .rename_i hd ht;rw[if_neg hd,if_neg ht];exact KJ hpe hF h c
  .split at h
   .cases h
   .rename_i ht;rw[if_neg ht];exact KJ hpe hF h c
theorem zS(hpe:Dz R E F.ee)(hF:yW R F.ee){ops:fC}:∀{l:fS} {s s1:Fx} {B:Hp},pL P E F ops l s=some s1->sF R s.H B->
  ∃B1,pL P E F ops l {s with H:=B}=some {s1 with H:=B1}/\sF R s1.H B1
 |[],s,s1,B,h,c=>by cases h;exact⟨B,rfl,c⟩
 |o::l,s,s1,B,h,c=>by
  simp only[pL]at h⊢;split at h
  .rename_i s2 hs;obtain⟨B2,h1,h2⟩:=Dr hpe hF hs c;obtain⟨B1,h3,h4⟩:=zS hpe hF h h2;exact⟨B1,by rw[h1];exact h3,h4⟩
  .cases h
theorem aBo(hpe:Dz R E F.ee){ops:fC}{s s1:Fx}{o:Oper}(h:qU P E F ops s o=some s1)(hw:oW ops s.fr o=true)(hv:oV P E (uW F o) s.H s.fr o=none)(ha:rS F o=none):
  oV P E (uW F o) B s.fr o=none:=by
 have key:rV P E F ops s o=some s1->oV P E (uW F o) B s.fr o=none:=fun h=>by
  unfold rV at h;rw[if_pos hw]at h;simp only[hv,ha]at h;split at h
  .rename_i he;exact JR hpe he hv
  .cases h
 unfold qU at h;split at h
 .exact key h
 .split at h
  .rename_i e1 _ _;obtain⟨dst,op,ty,pos,after,guard⟩:=o;simp only at e1;subst e1;rfl
  .split at h
   .cases h
   .exact key h
theorem HT(hpe:Dz R E F.ee)(hF:yW R F.ee){ops:fC}:∀{l:fS} {m:Nat} {s s1:Fx} {B:Hp},pK P E F ops l m s=some s1->sF R s.H B->
  ∃B1,pK P E F ops l m {s with H:=B}=some {s1 with H:=B1}/\sF R s1.H B1
 |[],m,s,s1,B,h,c=>by
  simp only[pK]at h⊢;split at h
  .rename_i hp;cases h;exact⟨B,by rw[hp],c⟩
  .cases h
 |o::l,m,s,s1,B,h,c=>by
  simp only[pK]at h⊢;have e1:yU ops {s with H:=B} o=yU ops s o:=rfl;have e2:uM {s with H:=B} o=uM s o:=rfl;rw[e1,e2];split at h
  .rename_i hh;rw[if_pos hh];split at h
   .rename_i hc;rw[if_pos hc];exact zS hpe hF h c
   .cases h
  .rename_i hh;rw[if_neg hh];split at h
   .cases h
   .rename_i hd;rw[if_neg hd];split at h
    .rename_i hw;rw[if_pos hw];split at h
     .rename_i v hv;simp only[EE hpe c hv];exact HT hpe hF h c
     .rename_i hv;split at h
      .rename_i d t ha;have hn:=TW (P:=P) (E:=E) (B:=B) ha (own:=uW F o) (fr:=s.fr)
       try simp only[hn,ha]
       split at h
       .cases h
       .rename_i hp;rw[if_neg hp];split at h
        .rename_i n z h1 h2;split at h
         .rename_i hc;(try simp only[h1,h2]);rw[if_pos hc];exact HT hpe hF h c
         .cases h
        .cases h
      .rename_i ha;split at h
       .rename_i hc;have hn:oV P E (uW F o) B s.fr o=none:=by
         have h':=h;simp only[pL]at h';split at h'
         .rename_i s2 hs;exact aBo hpe hs hw hv ha
         .cases h'
        try simp only[hn,ha]
        rw[if_pos hc];exact zS hpe hF h c
       .cases h
    .rename_i hw;rw[if_neg hw];exact HT hpe hF h c
theorem BR(hpe:Dz R E F.ee)(hF:yW R F.ee){ops:fC}{G:fN}{p l:Nat}:∀{os:fS} {m:Nat} {af:Bool} {s s1:Fx} {B:Hp},rP P E F ops G p l os m af s=some s1->sF R s.H B->
  ∃B1,rP P E F ops G p l os m af {s with H:=B}=some {s1 with H:=B1}/\sF R s1.H B1
 |[],m,af,s,s1,B,h,c=>by
  simp only[rP]at h⊢;split at h
  .rename_i hp;cases h;exact⟨B,by rw[if_pos hp],c⟩
  .cases h
 |o::os,m,af,s,s1,B,h,c=>by
  simp only[rP]at h⊢;have e2:uM {s with H:=B} o=uM s o:=rfl;rw[e2];split at h
  .rename_i hh;rw[if_pos hh];exact zS hpe hF h c
  .rename_i hh;rw[if_neg hh];split at h
   .cases h
   .rename_i hd;rw[if_neg hd];split at h
    .rename_i hst;rw[if_pos hst];split at h
     .cases h
     .rename_i haf;rw[if_neg haf];split at h
      .rename_i t x y hop;split at h
       .rename_i l' off v h1 h2;split at h
        .rename_i hl;split at h
         .rename_i H' hs;obtain⟨B',g1,g2⟩:=RU c hs
          try simp only[hop,h1,h2]
          rw[if_pos hl]
          try simp only[g1]
          exact BR hpe hF (s:={s with H:=H'}) h g2
         .cases h
        .cases h
       .cases h
      .cases h
    .rename_i hst;rw[if_neg hst];split at h
     .rename_i hw;rw[if_pos hw];by_cases hk:((if af then tG G m p else tG G p m)||hOk E.gl l s.fr o)=true
      .rw[if_pos hk]at h⊢;split at h
       .rename_i v hv;simp only[EE hpe c hv];exact BR hpe hF h c
       .cases h
      .rw[if_neg hk]at h;cases h
     .rename_i hw;rw[if_neg hw];exact BR hpe hF h c
theorem Qo(hpe:Dz R E F.ee)(hF:yW R F.ee){ops:fC}{fr:eY}{s1:Fx}(h:qK P E F ops fr A=some s1)(c:sF R A B):∃B1,qK P E F ops fr B=some {s1 with H:=B1}/\sF R s1.H B1:=by
 unfold qK at h⊢;split at h
 .rename_i hl;rw[if_pos hl];split at h
  .rename_i b p h1 h2;split at h
   .rename_i l h3
    try simp only[h1,h2,h3]
    exact BR hpe hF (s:=⟨fr,A,none⟩) h c
   .cases h
  .cases h
 .rename_i hl;rw[if_neg hl];exact HT hpe hF (s:=⟨fr,A,none⟩) h c
theorem HV(hpe:Dz R E F.ee)(hF:yW R F.ee){ops:fC}:∀(os:fS) (m:Nat) (fr:eY) (A B:Hp) (f:eY) (A':Hp) (es ds:fN),IW P E F ops os m fr A=some (f,A',es,ds)->sF R A B->
  ∃B',IW P E F ops os m fr B=some (f,B',es,ds)/\sF R A' B'
 |[],m,fr,A,B,f,A',es,ds,h,c=>by cases h;exact⟨B,rfl,c⟩
 |o::os,m,fr,A,B,f,A',es,ds,h,c=>by
  simp only[IW]at h⊢;have hd:uM ⟨fr,B,none⟩ o=uM ⟨fr,A,none⟩ o:=rfl;rw[hd];split at h
  .cases h
  .rename_i hd;rw[if_neg hd];split at h
   .rename_i hw;rw[if_pos hw];split at h
    .rename_i v hv;simp only[EE hpe c hv];split at h
     .rename_i he;cases h;obtain⟨B',h1,h2⟩:=HV hpe hF os _ _ _ _ _ _ _ _ he c;exact⟨B',by simp only[h1],h2⟩
     .cases h
    .rename_i hv;split at h
     .rename_i v A1 hef;split at h
      .rename_i he;cases h;obtain⟨B1,h1,h2⟩:=Jz hF c hef;obtain⟨B',h3,h4⟩:=HV hpe hF os _ _ _ _ _ _ _ _ he h2;refine⟨B',?_,h4⟩;simp only[JR (B:=B) hpe hef hv,h1,h3]
      .cases h
     .cases h
   .rename_i hw;rw[if_neg hw];exact HV hpe hF os _ _ _ _ _ _ _ _ h c
theorem Ju(hpe:Dz R E F.ee)(hF:yW R F.ee){ops:fC}{fl:Bool}{fr:eY}{s1:Fx}(h:yH P E F ops fl fr A=some s1)(c:sF R A B):∃B1,yH P E F ops fl fr B=some {s1 with H:=B1}/\sF R s1.H B1:=by
 unfold yH at h⊢;split at h
 .rename_i hl;rw[if_pos hl];unfold FW at h⊢;split at h
  .rename_i he;split at h
   .rename_i hk;cases h;obtain⟨B',h1,h2⟩:=HV hpe hF _ _ _ _ _ _ _ _ _ he c;exact⟨B',by simp only[h1];rw[if_pos hk],h2⟩
   .cases h
  .cases h
 .rename_i hl;rw[if_neg hl];exact Qo hpe hF h c
end
section
variable{R:Ht}{P:fA}{E:tW}{ee:fE}{yd:fG}{ow:fX}{n:Nat}
theorem aQt(hpe:Dz R E ee)(ow:fX):Dz R E (xY ow ee).ee:=by rw[EG];exact hpe
theorem Vf(hF:yW R ee)(ow:fX):yW R (xY ow ee).ee:=by rw[EG];exact hF
theorem IB{α:Type}{A B:Hp}(c:sF R A B){l:Nat}{k:Lr->Option α}{r:α}(h:KB A l k=some r):∃o rc,A.any l=some o/\o.me=some (.loop rc)/\k rc=some r/\∀k':Lr->Option α,KB B l k'=k' rc:=by
 obtain⟨o,rc,h1,h2,h3⟩:=uO h;exact⟨o,rc,h1,h2,h3,fun k'=>by unfold KB;simp only[c.yes _ _ h1,h2,wW]⟩
theorem QG(hpe:Dz R E ee)(hF:yW R ee)(hY:Ag R yd){ops:fC}:∀{l:fS} {s s1:Fx} {B:Hp},CG P E ee yd ow ops l s=some s1->sF R s.H B->
  ∃B1,CG P E ee yd ow ops l {s with H:=B}=some {s1 with H:=B1}/\sF R s1.H B1
 |[],s,s1,B,h,c=>by cases h;exact⟨B,rfl,c⟩
 |o::l,s,s1,B,h,c=>by
  simp only[CG]at h⊢;split at h
  .rename_i l1 ars hq;split at h
   .rename_i b H' hy;obtain⟨B2,h1,h2⟩:=hY _ _ _ _ _ _ c hy;obtain⟨B1,h3,h4⟩:=QG hpe hF hY (s:=⟨pP s.fr o.dst (.bool b),H',none⟩) h h2;exact⟨B1,by simp only[h1];exact h3,h4⟩
   .cases h
  .rename_i hq;split at h
   .rename_i s2 hs;obtain⟨B2,h1,h2⟩:=Dr (aQt hpe ow) (Vf hF ow) hs c;obtain⟨B1,h3,h4⟩:=QG hpe hF hY h h2;exact⟨B1,by simp only[h1];exact h3,h4⟩
   .cases h
theorem Qr{A B A':Hp}(c:sF R A B){l:Nat}{fr fr':eY}{x:X}(h:UU l fr A=some (x,fr',A')):∃B',UU l fr B=some (x,fr',B')/\sF R A' B':=by
 unfold UU at h⊢;obtain⟨o,rc,h1,h2,h3,h4⟩:=IB c h;have hd:=c.drop h1;rw[h4];split at h3
 .cases h3
 .split at h3<;>first|(cases h3;done)|(cases h3;exact⟨_,by simp only[*],hd⟩)
theorem JO(hpe:Dz R E ee)(hF:yW R ee)(hY:Ag R yd){ro:gD}:∀(k:Code) (fr:eY) (A B:Hp) (x:X) (fr':eY) (A':Hp),sF R A B->pD P E ee yd ow n ro k fr A=some (x,fr',A')->
  ∃B',pD P E ee yd ow n ro k fr B=some (x,fr',B')/\sF R A' B':=by
 intro k
 induction k with
 |skip=>intro fr A B x fr' A' c h;cases h;exact⟨B,rfl,c⟩|label l=>intro fr A B x fr' A' c h;cases h;exact⟨B,rfl,c⟩|exit id=>intro fr A B x fr' A' c h;cases h;exact⟨B,rfl,c⟩|ret=>intro fr A B x fr' A' c h;cases h;exact⟨B,rfl,c⟩
 |region id ops draw=>
  intro fr A B x fr' A' c h;simp only[pD]at h⊢;split at h
  .rename_i hr;cases h;by_cases hd:draw=true
   .rw[if_pos hd]at hr⊢;obtain⟨B1,h1,h2⟩:=Ju (aQt hpe ow) (Vf hF ow) hr c;exact⟨B1,by simp only[h1],h2⟩
   .rw[if_neg hd]at hr⊢;obtain⟨B1,h1,h2⟩:=QG hpe hF hY (s:=⟨fr,A,none⟩) hr c;exact⟨B1,by simp only[h1],h2⟩
  .cases h
 |seq a b iha ihb=>
  intro fr A B x fr' A' c h;simp only[pD]at h⊢;split at h
  .rename_i hr;obtain⟨B1,h1,h2⟩:=iha _ _ _ _ _ _ c hr;obtain⟨B2,h3,h4⟩:=ihb _ _ _ _ _ _ h2 h;exact⟨B2,by simp only[h1];exact h3,h4⟩
  .rename_i hn;obtain⟨B1,h1,h2⟩:=iha _ _ _ _ _ _ c h;refine⟨B1,?_,h2⟩;rw[h1];cases x with
   |normal=>exact absurd h (hn _ _)|exit id=>rfl|ret=>rfl
 |cond q a b iha ihb=>
  intro fr A B x fr' A' c h;simp only[pD]at h⊢;split at h
  .split at h
   .rename_i ht;rw[if_pos ht];exact iha _ _ _ _ _ _ c h
   .rename_i ht;rw[if_neg ht];exact ihb _ _ _ _ _ _ c h
  .cases h
 |block id q ih=>
  intro fr A B x fr' A' c h;simp only[pD]at h⊢;split at h
  .rename_i hr;obtain⟨B1,h1,h2⟩:=ih _ _ _ _ _ _ c hr;rw[h1];split at h
   .rename_i e;cases h;exact⟨B1,by simp only[if_pos e],h2⟩
   .rename_i e;cases h;exact⟨B1,by simp only[if_neg e],h2⟩
  .rename_i hn;obtain⟨B1,h1,h2⟩:=ih _ _ _ _ _ _ c h;refine⟨B1,?_,h2⟩;rw[h1];cases x with
   |normal=>rfl|exit id=>exact absurd h (hn _ _ _)|ret=>rfl
 |loop q ih=>
  intro fr A B x fr' A' c h;simp only[pD]at h⊢;have key:∀(k:Nat) (fr:eY) (A B:Hp),sF R A B->oP.loopN (fun fr H=>pD P E ee yd ow n ro q fr H) k fr A=some (x,fr',A')->
    ∃B',oP.loopN (fun fr H=>pD P E ee yd ow n ro q fr H) k fr B=some (x,fr',B')/\sF R A' B':=by
   intro k
   induction k with
   |zero=>intro fr A B c h;cases h
   |succ k ihk=>
    intro fr A B c h;simp only[oP.loopN]at h⊢;split at h
    .rename_i hr;obtain⟨B1,h1,h2⟩:=ih _ _ _ _ _ _ c hr;obtain⟨B2,h3,h4⟩:=ihk _ _ _ h2 h;exact⟨B2,by simp only[h1];exact h3,h4⟩
    .rename_i hn;obtain⟨B1,h1,h2⟩:=ih _ _ _ _ _ _ c h;refine⟨B1,?_,h2⟩;rw[h1];cases x with
     |normal=>exact absurd h (hn _ _)|exit id=>rfl|ret=>rfl
  exact key n fr A B c h
 |rangeFunc g ps asg bd _ _ =>
  intro fr A B x fr' A' c h;simp only[pD]at h⊢;split at h
  .split at h
   .rename_i hro;have hro':Hh B ro=true:=by
     unfold Hh at hro⊢;split at hro
     .rfl
     .rename_i l;unfold aNs at hro⊢;split at hro
      .rename_i o ho;rw[c.yes _ _ ho];exact hro
      .cases hro
    rw[if_pos hro'];split at h
    .rename_i v A2 hc;rw[c.nx];obtain⟨B2,h1,h2⟩:=hF _ _ _ _ _ _ (c.new _) hc;obtain⟨B3,h3,h4⟩:=Qr h2 h;exact⟨B3,by simp only[h1];exact h3,h4⟩
    .cases h
   .cases h
  .cases h
 |_ =>intro fr A B x fr' A' c h;simp only[pD]at h;cases h
theorem Nh{A B A':Hp}(c:sF R A B){l:Nat}{x:X}{b:Bool}(h:HF l A x=some (b,A')):∃B',HF l B x=some (b,B')/\sF R A' B':=by
 unfold HF at h⊢;obtain⟨o,rc,h1,h2,h3,h4⟩:=IB c h;rw[h4];cases x<;>(cases h3;exact⟨_,rfl,c.put h1 _⟩)
theorem Nf(hpe:Dz R E ee)(hF:yW R ee)(hY:Ag R yd):Ag R (fun l ts H=>HD P E ee yd n l ts H):=by
 intro l ts A B b A' c h;simp only[HD]at h⊢;obtain⟨o,rc,h1,h2,h3,h4⟩:=IB c h;rw[h4];split at h3
 .rename_i hc;rw[if_pos hc];split at h3
  .rename_i fr1 A1 e1;obtain⟨B1,g1,c1⟩:=JO hpe hF hY _ _ _ _ _ _ _ c e1;simp only[g1];unfold Hj at h3⊢;obtain⟨o1,r1,k1,k2,k3,k4⟩:=IB c1 h3;rw[k4];split at k3
   .split at k3
    .rename_i x fr2 A2 e2;obtain⟨B2,g2,c2⟩:=JO hpe hF hY _ _ _ _ _ _ _ (c1.put k1 _) e2;obtain⟨B3,g3,c3⟩:=Nh c2 k3;exact⟨B3,by simp only[*],c3⟩
    .cases k3
   .cases k3
  .cases h3
 .cases h3
theorem zH{A B:Hp}(c:sF R A B){fr:eY}:∀{rs:gU} {ts:eY},rL P fr A rs=some ts->rL P fr B rs=some ts
 |[],ts,h=>h
 |r::rs,ts,h=>by
  simp only[rL]at h⊢;split at h
  .rename_i t ht;have e:ZO P fr B r=some t:=by
    cases r with
    |tmp d=>exact ht|cell a t=>exact WF c ht
   simp only[e];split at h
   .rename_i us hu;rw[zH c hu];exact h
   .cases h
  .cases h
theorem aFw(hpe:Dz R E ee)(hF:yW R ee)(hY:Ag R yd){f:fT}{ts:eY}{A B A':Hp}{r:T}(c:sF R A B)(h:Vk P E ee yd ow n f ts A=some (r,A')):∃B',Vk P E ee yd ow n f ts B=some (r,B')/\sF R A' B':=by
 unfold Vk at h⊢;split at h
 .rename_i fn hfn;split at h
  .rename_i k hk;have hx:∀(x:X) (fr:eY) (A1:Hp),pD P E ee yd ow n none k (ts++List.replicate (fn.ntmps-ts.length) oL) A=some (x,fr,A1)->∃B1,pD P E ee yd ow n none k (ts++List.replicate (fn.ntmps-ts.length) oL) B=some (x,fr,B1)/\sF R A1 B1:=
    fun x fr A1 e=>JO hpe hF hY _ _ _ _ _ _ _ c e
   split at h
   .rename_i fr A1 e;obtain⟨B1,g1,c1⟩:=hx _ _ _ e;simp only[g1];split at h
    .rename_i t ht;cases h;exact⟨B1,by simp only[zH c1 ht],c1⟩
    .rename_i us hn hu;cases h;refine⟨B1,?_,c1⟩;simp only[zH c1 hu]
    .cases h
   .rename_i fr A1 e;obtain⟨B1,g1,c1⟩:=hx _ _ _ e;simp only[g1];split at h
    .rename_i t ht;cases h;exact⟨B1,by simp only[zH c1 ht],c1⟩
    .rename_i us hn hu;cases h;refine⟨B1,?_,c1⟩;simp only[zH c1 hu]
    .cases h
   .cases h
  .cases h
 .cases h
theorem aKn{R:Ht}:yW R ZU:=fun f ts A B r A' c h=>by
 unfold ZU at h⊢;by_cases hf:f=123
 .rw[if_pos hf]at h⊢;unfold LN at h⊢;split at h
  .split at h
   .rename_i o ho;simp only[c.get ho];split at h
    .rename_i hcell;split at h
     .rename_i hc;cases h
      try simp only[hcell]
      exact⟨_,if_pos hc,c.put (pJ ho).1 _⟩
     .cases h
    .rename_i hcell;split at h
     .rename_i hc;cases h
      try simp only[hcell]
      exact⟨B,if_pos hc,c⟩
     .cases h
    .cases h
   .cases h
  .cases h
 .rw[if_neg hf]at h⊢;by_cases hf2:f=79
  .rw[if_pos hf2]at h⊢;unfold ZT at h⊢;split at h
   .split at h
    .rename_i o ho;simp only[c.get ho];split at h
     .rename_i hc;rw[if_pos hc];split at h
      .rename_i hcell;cases h
       try simp only[hcell]
       exact⟨B,rfl,c⟩
      .rename_i hcell
       try simp only[hcell]
       split at h
       .rename_i o2 ho2;simp only[c.get ho2];split at h
        .rename_i hc2;rw[if_pos hc2];split at h
         .rename_i bs hbs;cases h
          try simp only[hbs]
          exact⟨_,rfl,c.drop (pJ ho2).1⟩
         .cases h
        .cases h
       .cases h
      .cases h
     .cases h
    .cases h
   .cases h
  .rw[if_neg hf2]at h;cases h
theorem Cy{own:gJ}{ok:fZ}(hpm:∀A B f ts r,sF R A B->E.pe A f ts=some r->E.pe B f ts=some r)(hpn:∀f,ok f=true->∀B ts,E.pe B f ts=none)(hpx:∀f ts A v,ZU f ts A=some v->∀B ts,E.pe B f ts=none):∀d,yW R (tJ P E own ok n d).ee/\Ag R (tJ P E own ok n d).yd
 |0=>⟨fun _ _ _ _ _ _ _ h=>(by cases h),fun _ _ _ _ _ _ _ h=>(by cases h)⟩
 |d+1=>by
  obtain⟨h1,h2⟩:=Cy (own:=own) (ok:=ok) hpm hpn hpx d
  have hpe:Dz R E (tJ P E own ok n d).ee:=⟨hpm,fun f ts A v h B=>by
   cases d with
   |zero=>cases h
   |succ d=>
    simp only[tJ]at h;split at h
    .rename_i hk;exact hpn f hk B ts
    .exact hpx f ts A v h B ts⟩
  refine⟨fun f ts A B r A' c h=> ?_,Nf hpe h1 h2⟩;simp only[tJ]at h⊢;split at h
  .rename_i hk;rw[if_pos hk];exact aFw hpe h1 h2 c h
  .rename_i hk;rw[if_neg hk];exact aKn _ _ _ _ _ _ c h
end
end
end Go.Ps
namespace Go.Ps
variable[Inhabited Prd]
structure AE where
 f:FuncId
 pre:List A
 objs:List (TypeId×List A×List A)
 res:A
def Fin(H:Hp):Prop:=∀(m:Nat) (o:Ob),H.any m=some o->m<H.next
def aDl(H:Hp)(xs:fN)(objs:List (TypeId×List A×List A))(w:TypeId×List A×List A->List A):Prop:=
 ∀(j:Nat) (q:TypeId×List A×List A),objs[j]? =some q->∃x o,xs[j]? =some x/\H.get x=some o/\(o.elem=q.1/\o.sz=0)/\pH [0] (xs.map some) (w q) o.cells
def FB(ee:fO)(s:AE):Prop:=
 ∀(H:Hp) (ts:eY) (xs:fN),Fin H->xs.length=s.objs.length->xs.Nodup->pH [0] (xs.map some) s.pre ts->aDl H xs s.objs (·.2.1)->
  ∃r H',Ev (fun n d=>ee n d s.f ts H=some (r,H'))/\Gm [0] (xs.map some) s.res r/\Fin H'/\H.next<=H'.next/\aDl H' xs s.objs (·.2.2)/\∀y,y∉xs->y<H.next->H'.any y=H.any y
def yN(σ:fN):Nat->A->A
 |0,a=>a
 |k+1,a=>match a with
  | .ptr j o=>match σ[j]? with
   |some l=> .ptr l o|none=> .top
  | .slv e lo hi=> .slv (yN σ k e) lo hi| .slpv q e lo hi=> .slpv q (yN σ k e) lo hi| .slk es=> .slk (es.map (yN σ k))| .fn f a_s bs=> .fn f (a_s.map (yN σ k)) (bs.map (yN σ k))| .or a_s=> .or (a_s.map (yN σ k))| .agg a_s=> .agg (a_s.map (yN σ k))| .prd q a_s=> .prd q (a_s.map (yN σ k))| .tup a_s=> .tup (a_s.map (yN σ k))|a=>a
def CK(m:Nat):Nat->A->Bool
 |0,_ =>false
 |k+1,a=>match a with
  | .ptr j _ =>Nat.blt j m| .slv e _ _ | .slpv _ e _ _ =>CK m k e| .slk a_s| .or a_s| .agg a_s| .prd _ a_s| .tup a_s=>BT (CK m k) a_s| .fn _ a_s bs=>BT (CK m k) a_s&&BT (CK m k) bs| .top| .any| .ival .. | .strc _ | .strv .. | .sxv .. | .nilp| .nils| .nilf| .nili| .nilm| .ifc| .bool (.imp [] [])| .bool (.lit _)=>true|_ =>false
section
variable{ρ ρ':fI}{μ μ':fB}{S:AS}{H H':Hp}{P:fA}
theorem Wp{f:A->A}{ρ1 ρ2:fI}{μ1 μ2:fB}{a_s:List A}(h:∀a∈a_s,∀t,Gm ρ1 μ1 a t->Gm ρ2 μ2 (f a) t){ts:eY}(hg:pH ρ1 μ1 a_s ts):pH ρ2 μ2 (a_s.map f) ts:=by
 refine⟨by simpa using hg.1,fun j a t ha ht=> ?_⟩;rw[aY]at ha;obtain⟨b,hb,rfl⟩:=aF.1 ha;exact h b (bB hb) t (hg.2 j b t hb ht)
theorem Dw{f:A->A}{ρ1 ρ2:fI}{μ1 μ2:fB}{a_s:List A}(h:∀a∈a_s,∀t,Gm ρ1 μ1 (f a) t->Gm ρ2 μ2 a t){ts:eY}(hg:pH ρ1 μ1 (a_s.map f) ts):pH ρ2 μ2 a_s ts:=by
 refine⟨by simpa using hg.1,fun j a t ha ht=>h a (bB ha) t (hg.2 j (f a) t (by rw[aY,ha];rfl) ht)⟩
def aDm(σ:fN)(m:Nat)(μs μ:fB):Prop:=∀j,j<m->∃l x,σ[j]? =some l/\μs[j]? =some (some x)/\μ[l]? =some (some x)
theorem aIr{σ:fN}{m:Nat}{μs:fB}{ρs:fI}(hr:aDm σ m μs μ):∀(k:Nat) (a:A),CK m k a=true->∀(t:T),Gm ρs μs a t->Gm ρ μ (yN σ k a) t
 |0,_,h,_,_ =>by simp[CK]at h
 |k+1,a,h,t,hg=>by
  have ih:=aIr (ρs:=ρs) hr k;have ihl:∀{a_s:List A},BT (CK m k) a_s=true->∀{ts:eY},pH ρs μs a_s ts->pH ρ μ (a_s.map (yN σ k)) ts:=fun h _ hg=>Wp (fun a ha t hg=>ih a (qB h a ha) t hg) hg;cases hg with
  |top t=>exact .top t|any t h=>exact .any t h|ival k lo hi n h1 h2 h3=>exact .ival k lo hi n h1 h2 h3
  |bool B b hb=>
   rcases B with x|⟨_ |⟨p,ps⟩,_ |⟨q,qs⟩⟩
   .exact .bool _ _ hb
   .exact .bool _ _ (rK b)
   .simp[CK]at h
   .simp[CK]at h
   .simp[CK]at h
  |strc s=>exact .strc s|strv lo hi l h1 h2=>exact .strv lo hi l h1 h2|nilp=>exact .nilp|nils=>exact .nils|nilf=>exact .nilf|nili=>exact .nili|nilm=>exact .nilm|sxv lo hi full n f h1 h2=>exact .sxv lo hi full n f h1 h2|ifc t x=>exact .ifc t x
  |ptr j o x hx=>
   obtain⟨l,y,h1,h2,h3⟩:=hr j (pQ (by simpa [CK]using h));rw[hx]at h2;cases h2;simp only[yN,h1];exact .ptr l o x h3
  |slv e lo hi t xs h1 h2 h3 h4=>exact .slv _ lo hi t xs h1 h2 h3 (fun x hx=>ih e (by simpa [CK]using h) x (h4 x hx))|slpv q e lo hi t xs h0 h1 h2 h3 h4=>exact .slpv q _ lo hi t xs h0 h1 h2 h3 (fun x hx=>ih e (by simpa [CK]using h) x (h4 x hx))
  |slk es t xs h1 h2 h3=>
   have:=ihl (by simpa [CK]using h) ⟨h2,h3⟩;exact .slk _ t xs h1 this.1 this.2
  |fn f a_s bs as' bs' h1 h2 h3 h4=>
   simp only[CK,aA]at h;have e1:=ihl h.1 ⟨h1,h2⟩;have e2:=ihl h.2 ⟨h3,h4⟩;exact .fn f _ _ as' bs' e1.1 e1.2 e2.1 e2.2
  |or a_s a t hm h1=>exact .or _ (yN σ k a) t (dI hm) (ih a (qB (by simpa [CK]using h) a hm) t h1)
  |agg a_s ts h1 h2=>
   have:=ihl (by simpa [CK]using h) ⟨h1,h2⟩;exact .agg _ ts this.1 this.2
  |prd q a_s ts h0 h1 h2=>
   have:=ihl (by simpa [CK]using h) ⟨h1,h2⟩;exact .prd q _ ts h0 this.1 this.2
  |tup a_s ts h1 h2=>
   have:=ihl (by simpa [CK]using h) ⟨h1,h2⟩;exact .tup _ ts this.1 this.2
  |_ =>simp[CK]at h
theorem aIq{σ:fN}{m:Nat}{μs:fB}{ρs:fI}(hr:aDm σ m μs μ):∀(k:Nat) (a:A),CK m k a=true->∀(t:T),Gm ρ μ (yN σ k a) t->Gm ρs μs a t
 |0,_,h,_,_ =>by simp[CK]at h
 |k+1,a,h,t,hg=>by
  have ih:=aIq (ρs:=ρs) hr k;have ihl:∀{a_s:List A},BT (CK m k) a_s=true->∀{ts:eY},pH ρ μ (a_s.map (yN σ k)) ts->pH ρs μs a_s ts:=fun h _ hg=>Dw (fun a ha t hg=>ih a (qB h a ha) t hg) hg;cases a<;>simp only[yN]at hg<;>try(simp[CK]at h;done)
  case top=>exact .top t
  case any=>cases hg with|any _ h=>exact .any t h
  case ival=>cases hg with|ival _ _ _ n h1 h2 h3=>exact .ival _ _ _ n h1 h2 h3
  case bool B=>
   cases hg with
   |bool _ b hb=>
   rcases B with x|⟨_ |⟨p,ps⟩,_ |⟨q,qs⟩⟩
   .exact .bool _ _ hb
   .exact .bool _ _ (rK b)
   .simp[CK]at h
   .simp[CK]at h
   .simp[CK]at h
  case strc=>cases hg;exact .strc _
  case strv=>cases hg with|strv _ _ l h1 h2=>exact .strv _ _ l h1 h2
  case nilp=>cases hg;exact .nilp
  case nils=>cases hg;exact .nils
  case nilf=>cases hg;exact .nilf
  case nili=>cases hg;exact .nili
  case nilm=>cases hg;exact .nilm
  case sxv=>cases hg with|sxv _ _ full n f h1 h2=>exact .sxv _ _ full n f h1 h2
  case ifc=>cases hg with|ifc t x=>exact .ifc t x
  case ptr j o=>
   obtain⟨l,y,h1,h2,h3⟩:=hr j (pQ (by simpa [CK]using h));rw[h1]at hg;cases hg with
   |ptr _ _ x hx=>
   rw[h3]at hx;cases hx;exact .ptr j o y h2
  case slv e lo hi=>cases hg with|slv _ _ _ _ xs h1 h2 h3 h4=>exact .slv e lo hi t xs h1 h2 h3 (fun x hx=>ih e (by simpa [CK]using h) x (h4 x hx))
  case slpv q e lo hi=>cases hg with|slpv _ _ _ _ _ xs h0 h1 h2 h3 h4=>exact .slpv q e lo hi t xs h0 h1 h2 h3 (fun x hx=>ih e (by simpa [CK]using h) x (h4 x hx))
  case slk es=>
   cases hg with
   |slk _ _ xs h1 h2 h3=>
   have:=ihl (by simpa [CK]using h) ⟨h2,h3⟩;exact .slk es t xs h1 this.1 this.2
  case fn f a_s bs=>
   cases hg with
   |fn _ _ _ as' bs' h1 h2 h3 h4=>
   simp only[CK,aA]at h;have e1:=ihl h.1 ⟨h1,h2⟩;have e2:=ihl h.2 ⟨h3,h4⟩;exact .fn f _ _ as' bs' e1.1 e1.2 e2.1 e2.2
  case or a_s=>
   cases hg with
   |or _ b _ hm h1=>
   obtain⟨a,ha,rfl⟩:=bU.1 hm;exact .or _ a t ha (ih a (qB (by simpa [CK]using h) a ha) t h1)
  case agg a_s=>
   cases hg with
   |agg _ ts h1 h2=>
   have:=ihl (by simpa [CK]using h) ⟨h1,h2⟩;exact .agg _ ts this.1 this.2
  case prd q a_s=>
   cases hg with
   |prd _ _ ts h0 h1 h2=>
   have:=ihl (by simpa [CK]using h) ⟨h1,h2⟩;exact .prd q _ ts h0 this.1 this.2
  case tup a_s=>
   cases hg with
   |tup _ ts h1 h2=>
   have:=ihl (by simpa [CK]using h) ⟨h1,h2⟩;exact .tup _ ts this.1 this.2
end
def RN(j:Nat):List A->List A->Option Nat
 | .ptr i o::ps,.ptr l o'::a_s=>if Nat.beq i j&&(Nat.beq o 0&&Nat.beq o' 0)then some l else RN j ps a_s
 |_ ::ps,_ ::a_s=>RN j ps a_s|_,_ =>none
def aJp(pre args:List A):Nat->Nat->Option (List Nat)
 |0,_ =>some []
 |n+1,j=>match RN j pre args with
  |some l=>match aJp pre args n (j+1)with
   |some r=>if rD l r then none else some (l::r)
   |none=>none
  |none=>none
def MM(S:AS)(σ:fN):List Nat->List (TypeId×List A×List A)->Bool
 |[],[]=>true
 |l::ls,(e,c0,_)::r=>(match oO S.hp l with
  |some (.fix e' xs)=>Nat.beq e' e&&zE (JC S.cs 1 S.nl qX) xs (c0.map (yN σ qX))|_ =>false)&&MM S σ ls r
 |_,_ =>false
def Te(f:fT)(args:List A)(S:AS)(s:AE):Option (List Nat):=
 if Nat.beq s.f f&&(BT (CK s.objs.length qX) s.pre&&(s.objs.all fun q=>BT (CK s.objs.length qX) q.2.1&&BT (CK s.objs.length qX) q.2.2)&&CK s.objs.length qX s.res)then
  match aJp s.pre args s.objs.length 0 with
  |some σ=>if zE (JC S.cs 1 S.nl qX) args (s.pre.map (yN σ qX))&&MM S σ σ s.objs then some σ else none
  |none=>none
 else none
def ND:List (Nat×AO)->List Nat->List (TypeId×List A×List A)->List A->List (Nat×AO)
 |hp,l::ls,(e,_,c1)::r,ys=>ND (AB hp l (.fix e (ys.take c1.length))) ls r (ys.drop c1.length)|hp,_,_,_ =>hp
def Tf(S:AS)(s:AE)(σ:fN):Option (List AR):=
 match uK (.tup (yN σ qX s.res::s.objs.flatMap fun q=>q.2.2.map (yN σ qX))) S.nx S.cs with
 |⟨.tup (a::ys),n,cs⟩=>some [⟨a,ND S.hp σ s.objs ys,n,S.nl,cs⟩]|_ =>none
def aBk(f:fT)(args:List A)(S:AS):List AE->Option (List AR)
 |[]=>none
 |s::r=>match Te f args S s with
  |some σ=>Tf S s σ|none=>aBk f args S r
section
variable{ρ ρ':fI}{μ μ':fB}{S:AS}{H H':Hp}{P:fA}
theorem Mh:∀{l:fN},(∀i j,i<j->j<l.length->l[i]? ≠l[j]?)->l.Nodup
 |[],_ =>List.nodup_nil
 |x::xs,h=>by
  refine dS.2 ⟨fun hx=> ?_,Mh fun i j hij hj=> ?_⟩
  .obtain⟨j,hj,e⟩:=bX hx;exact h 0 (j+1) (by omega) (by simpa using hj) (by simp[<-e,hj])
  .have:=h (i+1) (j+1) (by omega) (by simpa using hj);simpa using this
theorem ML:∀{l:fN},l.Nodup->∀i j,i<j->j<l.length->l[i]? ≠l[j]?
 |x::xs,h,0,j+1,_,hj=>by
  have hj:j<xs.length:=by simpa using hj
  have:=(dS.1 h).1;simp only[cA,dK,aC hj];exact fun e=>this (by rw[bQ e];exact bV hj)
 |x::xs,h,i+1,j+1,hij,hj=>by
  have:=ML (dS.1 h).2 i j (by omega) (by simpa using hj);simpa using this
theorem XC{j:Nat}:∀{ps a_s:List A} {l:Nat},RN j ps a_s=some l->∃i:Nat,ps[i]? =some (A.ptr j 0)/\a_s[i]? =some (A.ptr l 0)
 |[],a_s,l,h=>by cases a_s<;>simp[RN]at h|p::ps,[],l,h=>by cases p<;>simp[RN]at h
 |p::ps,a::a_s,l,h=>by
  unfold RN at h;split at h
  .rename_i h1 h2;cases h1;cases h2;split at h
   .rename_i hc;cases h;simp only[aA]at hc;obtain⟨k1,k2,k3⟩:=hc;rw[oM k1,oM k2,oM k3];exact⟨0,rfl,rfl⟩
   .obtain⟨i,h1,h2⟩:=XC h;exact⟨i+1,h1,h2⟩
  .rename_i h1 h2;cases h1;cases h2;obtain⟨i,h1,h2⟩:=XC h;exact⟨i+1,h1,h2⟩
  .cases h
theorem Xr{pre args:List A}:∀(n j:Nat) (σ:fN),aJp pre args n j=some σ->σ.length=n/\σ.Nodup/\∀i,i<n->∃l,σ[i]? =some l/\RN (j+i) pre args=some l
 |0,j,σ,h=>by simp only[aJp]at h;cases h;exact⟨rfl,List.nodup_nil,fun i hi=>absurd hi (by omega)⟩
 |n+1,j,σ,h=>by
  simp only[aJp]at h;split at h
  .rename_i l hl;split at h
   .rename_i r hr;obtain⟨h1,h2,h3⟩:=Xr n (j+1) r hr;split at h
    .cases h
    .rename_i hm;cases h;refine⟨by simp[h1],dS.2 ⟨fun q=>hm (MK.2 q),h2⟩,fun i hi=> ?_⟩;cases i with
     |zero=>exact⟨l,rfl,hl⟩
     |succ i=>
      obtain⟨l',q1,q2⟩:=h3 i (by omega);exact⟨l',by simpa using q1,by rw[show j+(i+1)=j+1+i by omega];exact q2⟩
   .cases h
  .cases h
theorem GH.chg{hp:fJ}{nl:Nat}{Hm:Nat->Option Ob}{σ:fN}(hh:GH hp nl ρ μ H)(hn:H.next<=H'.next)(hf:Fin H'){xs:fN}
  (hx:∀(j l x:Nat),σ[j]? =some l->xs[j]? =some x->μ[l]? =some (some x)) (hlen:xs.length=σ.length) (hr:∀y,y∉xs->y<H.next->H'.any y=H.any y)
  {hp':fJ} (h1:∀l,l∉σ->oO hp' l=oO hp l) (h2:∀(j l x:Nat),σ[j]? =some l->xs[j]? =some x->(∃q,oO hp l=some q)/\∃e ys o,oO hp' l=some (.fix e ys)/\H'.get x=some o/\(o.elem=e/\o.sz=0)/\pH ρ μ ys o.cells):GH hp' nl ρ μ H':=by
 have dich:∀l,l∉σ\/∃j x,σ[j]? =some l/\xs[j]? =some x:=fun l=>by
  by_cases h:l∈σ
  .obtain⟨j,hj,rfl⟩:=bX h;exact .inr ⟨j,xs[j],aC hj,aC (by omega)⟩
  .exact .inl h
 have old:∀{l:Nat} {q:AO},oO hp' l=some q->∃q',oO hp l=some q':=fun{l q} h=>by
  rcases dich l with hl|⟨j,x,e1,e2⟩
  .exact⟨q,by rw[<-h1 l hl];exact h⟩
  .exact(h2 j l x e1 e2).1
 refine⟨hh.len,fun l q hl=> ?_,fun l l' q q' y hl hl' hy hy'=> ?_,fun l y hy=>bP (hh.lt l y hy) hn,fun l e ys hl=> ?_,hf⟩
 .rcases dich l with hm|⟨j,x,e1,e2⟩
  .rw[h1 l hm]at hl;obtain⟨y,k1,k2⟩:=hh.obj l q hl;refine⟨y,k1,fun z hz=> ?_⟩;obtain⟨c,k3,k4⟩:=k2 z hz;subst hz;have hzx:z∉xs:=fun hz=>by
    obtain⟨j,hj,rfl⟩:=bX hz;have hj':j<σ.length:=by omega
    have e1:=aC hj';have e2:=aC hj;have e3:=hx j _ _ e1 e2;obtain⟨q',hq'⟩:=(h2 j _ _ e1 e2).1;have:=hh.inj _ _ _ _ _ hl hq' k1 e3;exact hm (this▸bV hj')
   have hany:=hr z hzx (hh.lt l z k1);refine⟨c,?_,k4⟩;rw[<-k3];cases q with
   |loop=>exact hany|map=>exact hany|fix=>exact PG hany|row=>exact PG hany
  .obtain⟨_,e,ys,o,k1,k2,k3,k4⟩:=h2 j l x e1 e2;rw[k1]at hl;cases hl;refine⟨some x,hx j l x e1 e2,fun z hz=> ?_⟩;cases hz;exact⟨o,k2,k3,k4⟩
 .obtain⟨p,hp1⟩:=old hl;obtain⟨p',hp2⟩:=old hl';exact hh.inj l l' p p' y hp1 hp2 hy hy'
 .rcases dich l with hm|⟨j,x,e1,e2⟩
  .rw[h1 l hm]at hl;exact hh.fixp l e ys hl
  .exact⟨x,hx j l x e1 e2⟩
theorem XT:∀(σ:fN) (objs:List (TypeId×List A×List A)) (hp:fJ) (ys:List A),σ.Nodup->(∀l∈σ,∃q,oO hp l=some q)->σ.length=objs.length->
  (∀l,l∉σ->oO (ND hp σ objs ys) l=oO hp l)/\
  ∀(j l:Nat) (q:TypeId×List A×List A),σ[j]? =some l->objs[j]? =some q->oO (ND hp σ objs ys) l=some (.fix q.1 ((ys.drop ((objs.take j).flatMap (·.2.2)).length).take q.2.2.length))
 |[],[],hp,ys,_,_,_ =>⟨fun l _ =>rfl,fun j l q h=>by simp at h⟩|[],_ ::_,_,_,_,_,h=>by simp at h|_ ::_,[],_,_,_,_,h=>by simp at h
 |l0::ls,(e,c0,c1)::r,hp,ys,hnd,hin,hlen=>by
  obtain⟨n1,n2⟩:=dS.1 hnd
  have ih:=XT ls r (AB hp l0 (.fix e (ys.take c1.length))) (ys.drop c1.length) n2 (fun l hl=>by
   rw[sA];split
   .rename_i e0;subst e0;exact absurd hl n1
   .exact hin l (aJ _ hl)) (by simpa using hlen)
  simp only[ND];refine⟨fun l hl=> ?_,fun j l q hj hq=> ?_⟩
  .rw[ih.1 l (fun h=>hl (aJ _ h)),sA,if_neg (fun e0:l0=l=>hl (by subst e0;exact aR))]
  .cases j with
   |zero=>
    simp only[cA,aD]at hj hq;subst hj hq;rw[ih.1 l0 n1,sA,if_pos rfl];obtain⟨q,hq⟩:=hin l0 aR;rw[hq];simp
   |succ j=>
    simp only[dK]at hj hq;rw[ih.2 j l q hj hq];simp[List.drop_drop]
theorem KG{σ:fN}:∀(ls:fN) (objs:List (TypeId×List A×List A)),MM S σ ls objs=true->
  ∀(j l:Nat) (q:TypeId×List A×List A),ls[j]? =some l->objs[j]? =some q->∃xs,oO S.hp l=some (.fix q.1 xs)/\zE (JC S.cs 1 S.nl qX) xs (q.2.1.map (yN σ qX))=true
 |[],_,_,j,l,q,hj,_ =>by simp at hj|l0::ls,[],h,_,_,_,_,_ =>by simp[MM]at h
 |l0::ls,(e,c0,c1)::r,h,j,l,q,hj,hq=>by
  simp only[MM,aA]at h;cases j with
  |zero=>
   simp only[cA,aD]at hj hq;subst hj hq;have h1:=h.1;split at h1
   .rename_i e' xs hf;simp only[aA]at h1;have:=oM h1.1;subst this;exact⟨xs,hf,h1.2⟩
   .cases h1
  |succ j=>exact KG ls r h.2 j l q (by simpa using hj) (by simpa using hq)
theorem NU{μs:fB}{w:TypeId×List A×List A->List A}:∀(objs:List (TypeId×List A×List A)) (xs:fN),xs.length=objs.length->
  (∀(j:Nat) (q:TypeId×List A×List A),objs[j]? =some q->∃x o,xs[j]? =some x/\H.get x=some o/\(o.elem=q.1/\o.sz=0)/\pH [0] μs (w q) o.cells)->
  ∃us:List T,pH [0] μs (objs.flatMap w) us/\∀(j:Nat) (q:TypeId×List A×List A) (x:Nat),objs[j]? =some q->xs[j]? =some x->∃o,H.get x=some o/\(o.elem=q.1/\o.sz=0)/\(w q).length=o.cells.length/\o.cells=(us.drop ((objs.take j).flatMap w).length).take (w q).length
 |[],xs,_,_ =>⟨[],pH.nil,fun j q x h=>by simp at h⟩|q0::r,[],h,_ =>by simp at h
 |q0::r,x0::xr,hl,h=>by
  obtain⟨x,o,h1,h2,h3,h4⟩:=h 0 q0 rfl;simp only[cA,aD]at h1;subst h1
  obtain⟨us,u1,u2⟩:=NU (w:=w) r xr (by simpa using hl) (fun j q hq=>by
   obtain⟨x,o,k1,k2⟩:=h (j+1) q (by simpa using hq)
   exact⟨x,o,by simpa using k1,k2⟩)
  refine⟨o.cells++us,by rw[bI];exact h4.app u1,fun j q x hq hx=> ?_⟩;cases j with
  |zero=>
   simp only[cA,aD]at hq hx;subst hq hx;exact⟨o,h2,h3,h4.1,by rw[h4.1];simp⟩
  |succ j=>
   simp only[dK]at hq hx;obtain⟨o',o1,o2,o3,o4⟩:=u2 j q x hq hx;refine⟨o',o1,o2,o3,?_⟩;rw[List.take_succ_cons,bI,bK,<-List.drop_drop,h4.1,List.drop_left' rfl];exact o4
theorem aBl{ee:fO}{s:AE}(ht:FB ee s){f:fT}{args:List A}{σ:fN}(h:Te f args S s=some σ){rs:List AR}(hr:Tf S s σ=some rs){ts:eY}(hs:Sy ρ S.nx S.cs)(hh:GH S.hp S.nl ρ μ H)(hg:pH ρ μ args ts):
  ∃r H',Ev (fun n d=>ee n d f ts H=some (r,H'))/\∃R∈rs,ROk ρ μ R r H':=by
 unfold Te at h;split at h
 .rename_i hc;simp only[aA,aG]at hc;obtain⟨c1,⟨c2,c3⟩,c4⟩:=hc;have c1:=oM c1;subst c1;split at h
  .rename_i σ' hsig;split at h
   .rename_i hc;cases h;simp only[aA]at hc;obtain⟨c5,c6⟩:=hc;obtain⟨s1,s2,s3⟩:=Xr _ _ _ hsig;have hobj:∀j,j<s.objs.length->∃l x,σ[j]? =some l/\μ[l]? =some (some x):=fun j hj=>by
     obtain⟨l,h1,h2⟩:=s3 j hj;obtain⟨i,h3,h4⟩:=XC h2;obtain⟨t,h5,h6⟩:=hg.at h4;cases h6 with
     |ptr _ _ x hx=>exact⟨l,x,h1,hx⟩
    let xs:List Nat:=σ.map fun l=>match μ[l]? with
     |some (some x)=>x|_ =>0
    have hxl:xs.length=s.objs.length:=by simp[xs,s1]
    have hxs:∀(j l x:Nat),σ[j]? =some l->xs[j]? =some x->μ[l]? =some (some x):=fun j l x h1 h2=>by
     have hj:j<s.objs.length:=by rw[<-s1];exact(aK.1 h1).1
     obtain⟨l',x',e1,e2⟩:=hobj j hj;rw[h1]at e1;cases e1;simp only[xs,aY,h1,bW,e2,aD]at h2;subst h2;exact e2
    have hren:aDm σ s.objs.length (xs.map some) μ:=fun j hj=>by
     obtain⟨l,x,e1,e2⟩:=hobj j hj;refine⟨l,x,e1,?_,e2⟩;simp only[xs,List.map_map,aY,e1,bW,Function.comp,e2]
    have hin:∀l∈σ,∃q,oO S.hp l=some q:=fun l hl=>by
     obtain⟨j,hj,rfl⟩:=bX hl;have hj':j<s.objs.length:=by omega
     obtain⟨ys,k1,_⟩:=KG _ _ c6 j _ _ (aC hj) (aC hj');exact⟨_,k1⟩
    have hnd:xs.Nodup:=by
     refine Mh fun i j hij hj e=> ?_;have hi:i<xs.length:=by omega
     have ei:=aC hi;have ej:=aC hj;have hi':i<σ.length:=by omega
     have hj':j<σ.length:=by omega
     have e1:=hxs i _ _ (aC hi') ei;have e2:=hxs j _ _ (aC hj') ej;obtain⟨q,hq⟩:=hin _ (bV hi');obtain⟨q',hq'⟩:=hin _ (bV hj');rw[ei,ej]at e;have e:=bQ e;rw[e]at e1;have:=hh.inj _ _ _ _ _ hq hq' e1 e2;exact ML s2 i j hij hj' (by rw[aC hi',aC hj',this])
    have tk:∀{a:A} {t:T},Gm (ρ.take 1) (μ.take S.nl) a t->Gm ρ μ a t:=fun h=>h.ext (fun j v e=>by
     rw[bD]at e;split at e
     .exact e
     .cases e) (fun j v e=>by
     rw[bD]at e;split at e
     .exact e
     .cases e)
    have back:∀{a_s ps:List A} {us:eY},zE (JC S.cs 1 S.nl qX) a_s (ps.map (yN σ qX))=true->BT (CK s.objs.length qX) ps=true->pH ρ μ a_s us->pH [0] (xs.map some) ps us:=fun{a_s ps us} hle hok hg=>by
     have h1:=zV (fun a t x=>xR hs.cs hs.zero 1 S.nl qX a t x) hle hg;exact Dw (fun a ha t hg=>aIq hren qX a (qB hok a ha) t (tk hg)) h1
    obtain⟨r,H',q1,q2,q3,q4,q5,q6⟩:=ht H ts xs hh.fin hxl hnd (back c5 c2 hg) (fun j q hq=>by
     have hj:j<s.objs.length:=(aK.1 hq).1;obtain⟨l,x,e1,e2⟩:=hobj j hj;obtain⟨ys,k1,k2⟩:=KG _ _ c6 j l q e1 hq;have ex:xs[j]? =some x:=by simp only[xs,aY,e1,bW,e2]
     obtain⟨b,b1,b2,b3⟩:=hh.at k1 e2
     exact⟨x,b,ex,b1,b2,back k2 (c3 q (bB hq)).1 b3⟩)
    refine⟨r,H',q1,?_⟩;have fwd:∀{a:A} {t:T},CK s.objs.length qX a=true->Gm [0] (xs.map some) a t->Gm ρ μ (yN σ qX a) t:=fun ha hg=>aIr hren qX _ ha _ hg;have hcells:∃us:List T,pH ρ μ (s.objs.flatMap fun q=>q.2.2.map (yN σ qX)) us/\∀(j:Nat) (q:TypeId×List A×List A) (x:Nat),s.objs[j]? =some q->xs[j]? =some x->∃o,H'.get x=some o/\(o.elem=q.1/\o.sz=0)/\q.2.2.length=o.cells.length/\o.cells=(us.drop ((s.objs.take j).flatMap (·.2.2)).length).take q.2.2.length:=
 by
          obtain⟨us,v1,v2⟩:=NU s.objs xs hxl q5;refine⟨us,?_,v2⟩
          have:=Wp (f:=yN σ qX) (fun a ha t hg=>by
            obtain⟨q,hq,ha⟩:=List.mem_flatMap.1 ha
            exact fwd (qB (c3 q hq).2 a ha) hg) v1
          rwa [List.map_flatMap]at this
    obtain⟨us,u1,u2⟩:=hcells
    have hv:=rU (μ:=μ) hs (a:= .tup (yN σ qX s.res::s.objs.flatMap fun q=>q.2.2.map (yN σ qX))) (t:= .tup (r::us)) (by
     have:=pH.cons (fwd c4 q2) u1
     exact .tup _ _ this.1 this.2)
    unfold Tf at hr;split at hr
    .rename_i a ys n cs hm;cases hr;rw[hm]at hv;obtain⟨ρ1,e1,s4,g1⟩:=hv;cases g1 with
     |tup _ _ g1 g2=>
     have hl:pH ρ1 μ (a::ys) (r::us):=⟨g1,g2⟩;obtain⟨z1,z2⟩:=XT σ s.objs S.hp ys s2 hin s1;refine⟨_,aP _,ρ1,μ,e1,.refl _,s4,?_,hl.head⟩;refine(hh.ext e1).chg (Hm:=fun _ =>none) q4 q3 hxs (by omega) q6 z1 (fun j l x h1 h2=>⟨hin l (bB h1),?_⟩);have hj:j<s.objs.length:=by rw[<-s1];exact(aK.1 h1).1
     have hq:=aC hj;obtain⟨o,o1,o2,o3,o4⟩:=u2 j _ x hq h2;refine⟨_,_,o,z2 j l _ h1 hq,o1,o2,?_⟩;rw[o4];exact((hl.tail.drop _).take _)
    .cases hr
   .cases h
  .cases h
 .cases h
theorem Ih{ee:fO}:∀{tab:List AE},(∀s∈tab,FB ee s)->wZ (fun f args S=>aBk f args S tab) ee
 |[],_ =>fun f args S rs h=>by simp[aBk]at h
 |s::r,ht=>fun f args S rs h ρ μ H ts hs hh hg=>by
  simp only[aBk]at h;split at h
  .rename_i σ hσ;exact aBl (ht s aR) hσ h hs hh hg
  .exact Ih (fun q hq=>ht q (aJ _ hq)) f args S rs h ρ μ H ts hs hh hg
def xaG(f:fT)(args:List A)(S:AS):Option (List AR):=
 if Nat.beq f 123 then match args with
  |[.ptr l 0]=>match oO S.hp l with
   | some (.fix e [a,v])=>if Nat.beq e 135 then(match a with
     | .nilp=>some [⟨.tup [],AB S.hp l (.fix e [.ptr l 0,v]),S.nx,S.nl,S.cs⟩]| .ptr l' 0=>if Nat.beq l' l then some [⟨.tup [],S.hp,S.nx,S.nl,S.cs⟩]else none
     | .or [.nilp,.ptr l' 0]=>if Nat.beq l' l then some [⟨.tup [],AB S.hp l (.fix e [.ptr l 0,v]),S.nx,S.nl,S.cs⟩]else none
     |_ =>none)
    else none
   |_ =>none
  |_ =>none
 else if Nat.beq f 79 then match args with
  |[.ptr l 0]=>match oO S.hp l with
   | some (.fix e [a,v])=>if Nat.beq e 135 then(match v with
     | .nils=>some [⟨.strc [],S.hp,S.nx,S.nl,S.cs⟩]
     | .osl m sz si ci s c=>match oO S.hp m with
      | some (.row e2 sz2 (.ival .u8 lo hi) s2 c2)=>if Nat.beq e2 5&&(Nat.beq sz 1&&(Nat.beq sz2 1&&(Nat.beq si 0&&(ci==0&&(Nat.beq s s2&&(c==c2&& !(Nat.beq m l)))))))then
        some [⟨.str s c,vL S.hp m,S.nx,S.nl,S.cs⟩]
       else none
      |_ =>none
     |_ =>none)
    else none
   |_ =>none
  |_ =>none
 else none
section
variable{ρ ρ':fI}{μ μ':fB}{S:AS}{H H':Hp}{P:fA}
theorem Ay:∀(ts:eY),(∀t∈ts,∃n:Int,t= .int .u8 n/\0<=n/\n<256)->∃bs,JL ts=some bs/\bs.length=ts.length
 |[],_ =>⟨[],rfl,rfl⟩
 |t::ts,h=>by
  obtain⟨n,rfl,h1,h2⟩:=h t aR;obtain⟨bs,e1,e2⟩:=Ay ts (fun t ht=>h t (aJ _ ht));exact⟨UInt8.ofNat n.toNat::bs,by simp only[JL,e1];rw[if_pos ⟨h1,h2⟩],by simp[e2]⟩
theorem pH.two{a b:A}{ts:eY}(h:pH ρ μ [a,b] ts):∃x y,ts=[x,y]/\Gm ρ μ a x/\Gm ρ μ b y:=by
 obtain⟨x,r,rfl,h1,h2⟩:=h.inv_cons;obtain⟨y,r',rfl,h3,h4⟩:=h2.inv_cons;rw[h4.inv_nil];exact⟨x,y,rfl,h1,h3⟩
theorem aWm:wZ xaG (fun _ _ =>ZU):=by
 intro f args S rs h ρ μ H ts hs hh hg;unfold xaG at h;split at h
 .rename_i hf;have hf:=oM hf;subst hf;split at h
  .rename_i l;obtain⟨t,r,rfl,g1,g2⟩:=hg.inv_cons;have:=g2.inv_nil;subst this;cases g1 with
   |ptr _ _ x hx=>
   split at h
   .rename_i e a v hfa;split at h
    .rename_i he;have he:=oM he;subst he;obtain⟨o,o1,o2,o3⟩:=hh.at hfa hx;obtain⟨x1,x2,hc,c1,c2⟩:=o3.two;obtain⟨o2,hsz⟩:=o2
     .
      have put:Gm ρ μ .nilp x1\/x1= .ptr x 0->∃H',ZU 123 [.ptr x 0] H=some (.tup [],H')/\ROk ρ μ ⟨.tup [],AB S.hp l (.fix 135 [.ptr l 0,v]),S.nx,S.nl,S.cs⟩ (.tup []) H':=by
       intro hq;rcases hq with hq|hq
       .cases hq;refine⟨H.put x {o with cells:=[.ptr x 0,x2]},?_,ρ,μ,.refl _,.refl _,hs,?_,.tup _ _ rfl (fun j a t h=>by simp at h)⟩
        .simp only[ZU,if_true,LN,o1,hc];rw[if_pos ⟨o2,hsz⟩]
        .exact hh.put hfa hx o1 ⟨⟨o2,hsz⟩,pH.cons (.ptr _ _ _ hx) (pH.cons c2 .nil)⟩ (pJ o1).2
       .subst hq;refine⟨H,?_,ρ,μ,.refl _,.refl _,hs,?_,.tup _ _ rfl (fun j a t h=>by simp at h)⟩
        .simp only[ZU,if_true,LN,o1,hc];rw[if_pos ⟨trivial,o2,hsz⟩]
        .refine⟨hh.len,fun m q hm=> ?_,fun m m' q q' y hm hm' hy hy'=> ?_,hh.lt,fun m e xs hm=> ?_,hh.fin⟩
         .rw[sA]at hm;split at hm
          .rename_i e0;subst e0;rw[hfa]at hm;cases hm;refine⟨some x,hx,fun y hy=> ?_⟩;cases hy;exact⟨o,o1,⟨o2,hsz⟩,by rw[hc];exact pH.cons (.ptr _ _ _ hx) (pH.cons c2 .nil)⟩
          .exact hh.obj m q hm
         .have old:∀{m:Nat} {q:AO},oO (AB S.hp l (.fix 135 [.ptr l 0,v])) m=some q->∃q,oO S.hp m=some q:=fun{m q} h=>by
           rw[sA]at h;split at h
           .rename_i e;subst e;exact⟨_,hfa⟩
           .exact⟨q,h⟩
          obtain⟨p,hp1⟩:=old hm;obtain⟨p',hp2⟩:=old hm';exact hh.inj m m' p p' y hp1 hp2 hy hy'
         .rw[sA]at hm;split at hm
          .rename_i e0;subst e0;exact⟨x,hx⟩
          .exact hh.fixp m e xs hm
      split at h
      .cases h;obtain⟨H',q1,q2⟩:=put (.inl c1);exact⟨_,H',.of fun _ _ =>q1,_,aP _,q2⟩
      .split at h
       .rename_i l' hl';have hl':=oM hl';subst hl';cases h;cases c1 with
        |ptr _ _ y hy=>
        rw[hx]at hy;cases hy;refine⟨.tup [],H,.of fun _ _ => ?_,_,aP _,ρ,μ,.refl _,.refl _,hs,hh,.tup _ _ rfl (fun j a t h=>by simp at h)⟩;simp only[ZU,if_true,LN,o1,hc];rw[if_pos ⟨trivial,o2,hsz⟩]
       .cases h
      .split at h
       .rename_i l' hl';have hl':=oM hl';subst hl';cases h;have hq:Gm ρ μ .nilp x1\/x1= .ptr x 0:=by
         cases c1 with
         |or _ b _ hm hb=>
         simp only[aU,cB,or_false]at hm;rcases hm with rfl|rfl
         .exact .inl hb
         .cases hb with
          |ptr _ _ y hy=>rw[hx]at hy;cases hy;exact .inr rfl
        obtain⟨H',q1,q2⟩:=put hq;exact⟨_,H',.of fun _ _ =>q1,_,aP _,q2⟩
       .cases h
      .cases h
    .cases h
   .cases h
  .cases h
 .rename_i hf1;split at h
  .rename_i hf;have hf:=oM hf;subst hf;split at h
   .rename_i l;obtain⟨t,r,rfl,g1,g2⟩:=hg.inv_cons;have:=g2.inv_nil;subst this;cases g1 with
    |ptr _ _ x hx=>
    split at h
    .rename_i e a v hfa;split at h
     .rename_i he;have he:=oM he;subst he;obtain⟨o,o1,o2,o3⟩:=hh.at hfa hx;obtain⟨x1,x2,hc,c1,c2⟩:=o3.two;obtain⟨o2,hsz⟩:=o2;have base:ZU 79 [.ptr x 0] H=ZT 135 5 [.ptr x 0] H:=by simp[ZU]
      split at h
      .cases h;cases c2;refine⟨.str [],H,.of fun _ _ => ?_,_,aP _,ρ,μ,.refl _,.refl _,hs,hh,.strc _⟩;refine base.trans ?_;simp only[ZT,o1,hc];rw[if_pos ⟨o2,hsz⟩]
      .rename_i m sz si ci s c;split at h
       .rename_i e2 sz2 lo hi s2 c2' hfm;split at h
        .rename_i hk;simp only[aA,beq_iff_eq,bM]at hk;obtain⟨k1,k2,k3,k4,k5,k6,k7,k8⟩:=hk;have k1:=oM k1;have k2:=oM k2;have k3:=oM k3;have k4:=oM k4;have k6:=oM k6;subst k1 k2 k3 k4 k5 k6 k7;cases h;cases c2 with
         |osl0 _ _ _ _ _ _ vi w w1 w2 w3 w4 w5=>
          refine⟨.str [],H,.of fun _ _ => ?_,_,aP _,ρ,μ,.refl _,.refl _,hs,hh.sub (fun l o h=>LR h),.str _ _ w _ w4 (by simpa using w5.symm)⟩;refine base.trans ?_;simp only[ZT,o1,hc];rw[if_pos ⟨o2,hsz⟩]
         |osl _ _ _ _ _ _ y vi w w1 w2 w3 w4 w5=>
          rw[hs.zero]at w2;cases w2;obtain⟨o',p1,p2,p3,us,w',r1,r2,r3,r4⟩:=hh.at hfm w1;rw[w4]at r1;cases r1;have hcl:∀u∈us,∃n:Int,u= .int .u8 n/\0<=n/\n<256:=fun u hu=>by
           have:=(r4 u hu).1;cases this with
           |ival _ _ _ n n1 n2 n3=>
           have n3:(0:Int)<=n/\n<=255:=n3;exact⟨n,rfl,n3.1,by omega⟩
          have hflat:us.flatMap T.cells=us:=by
           clear r4 r3 r2
           induction us with
           |nil=>rfl
           |cons u us ih=>
            obtain⟨n,rfl,_⟩:=hcl u aR;rw[bI,ih (fun u hu=>hcl u (aJ _ hu))];rfl
          rw[hflat]at r3;obtain⟨bs,b1,b2⟩:=Ay us hcl;have hlen:(w+c).toNat=us.length:=by omega
          have hxy:y≠x:=fun e0=>by
           subst e0;have:=hh.inj _ _ _ _ _ hfm hfa w1 hx;subst this;simp at k8
          have hz:us.length≠0:=fun e0=>by
           have:=p3.2 rfl;rw[r3]at this;exact this (cY.1 e0)
          refine⟨.str bs,H.drop y,.of fun _ _ => ?_,_,aP _,ρ,μ,.refl _,.refl _,hs,hh.dropR hfm w1,.str _ _ w _ w4 (by rw[b2];omega)⟩;refine base.trans ?_;simp only[ZT,o1,hc];rw[if_pos ⟨o2,hsz⟩];have e0:(w+c).toNat=o'.cells.length:=by rw[r3];exact hlen
          have e1:(0+0:Int).toNat=0:=rfl;simp only[p1,e1];rw[if_pos ⟨p2,p3.1,e0.symm,by rw[e0,r3];exact hz⟩,r3,b1]
        .cases h
       .cases h
      .cases h
     .cases h
    .cases h
   .cases h
  .cases h
end
noncomputable def SC(P:fA)(Y:AX)(tab:List AE):Nat->bGf
 |0=>⟨fun f args S=>aBk f args S tab,fun _ _ _ =>none⟩|d+1=>⟨fun f args S=>if(tab.any fun s=>Nat.beq s.f f)then aBk f args S tab else if rD f [123,79]then(if Y.top f then none else xaG f args S)else aFx P Y (SC P Y tab d).fn (SC P Y tab d).yd f args S,aVl P Y (SC P Y tab d).fn (SC P Y tab d).yd⟩
variable{X:AX}{gl:fD}{pe:fK}
theorem Ho(hc:Cn X gl pe){tab:List AE}(ht:∀s∈tab,FB (fun n d=>(tJ P ⟨gl,pe⟩ X.own X.top n d).ee) s):
  ∀(d:Nat),wZ (SC P X tab d).fn (fun n d=>(tJ P ⟨gl,pe⟩ X.own X.top n d).ee)/\Ja (SC P X tab d).yd (fun n d=>(tJ P ⟨gl,pe⟩ X.own X.top n d).yd)
 |0=>⟨Ih ht,fun l args S rs h=>by simp[SC]at h⟩
 |d+1=>by
  obtain⟨ih1,ih2⟩:=Ho hc ht d;have hK:∀n d,Po (tJ P ⟨gl,pe⟩ X.own X.top n d).ee:=fun n d=>(xD d).1;have hKy:∀n d,Ug (tJ P ⟨gl,pe⟩ X.own X.top n d).yd:=fun n d=>(xD d).2;refine⟨fun f args S rs h ρ μ H ts hs hh ha=> ?_,fun l args S rs h ρ μ H ts x hs hh ha hx=> ?_⟩
  .simp only[SC]at h;split at h
   .exact Ih ht f args S rs h ρ μ H ts hs hh ha
   split at h
   .split at h
    .cases h
    .rename_i htop;obtain⟨r,H',⟨m,e1⟩,fin⟩:=aWm f args S rs h ρ μ H ts hs hh ha;refine⟨r,H',⟨m+1,fun n d' hn hd=> ?_⟩,fin⟩;obtain⟨d',rfl⟩:∃d0,d'=d0+1:=⟨d'-1,by omega⟩;simp only[tJ];rw[if_neg htop];exact e1 n d' (by omega) (by omega)
   .obtain⟨h1,r,H',⟨m,e1⟩,fin⟩:=Fi hc ih1 ih2 hK hKy h hs hh ha;refine⟨r,H',⟨m+1,fun n d' hn hd=> ?_⟩,fin⟩;obtain⟨d',rfl⟩:∃d0,d'=d0+1:=⟨d'-1,by omega⟩;simp only[tJ];rw[if_pos h1];exact e1 n d' (by omega) (by omega)
  .obtain⟨b,H',⟨m,e1⟩,fin⟩:=aPi hc ih1 ih2 hK hKy _ _ _ _ h ρ μ H ts x hs hh ha hx;refine⟨b,H',⟨m+1,fun n d' hn hd=> ?_⟩,fin⟩;obtain⟨d',rfl⟩:∃d0,d'=d0+1:=⟨d'-1,by omega⟩;simp only[tJ];exact e1 n d' (by omega) (by omega)
theorem Ht.over_none:∀(p:fL) (t R:Ht),Ht.gtp p t=none->Ht.over t (Ht.stp none p R)=Ht.stp none p (Ht.over t R)
 |p,.nl,R,_ =>rfl
 |[],.nd v l r,R,h=>by
  have:v=none:=h;subst this;rfl
 |false::p,.nd v l r,R,h=>by
  show Ht.over (.nd v l r) (.nd R.val (Ht.stp none p R.lf) R.rt)= .nd (Ht.over (.nd v l r) R).val (Ht.stp none p (Ht.over (.nd v l r) R).lf) (Ht.over (.nd v l r) R).rt;rw[Ht.over_nd,Ht.over_val,Ht.over_lf,Ht.over_rt];show Ht.nd _ (Ht.over l (Ht.stp none p R.lf)) _ =_;rw[Ht.over_none p l R.lf h];rfl
 |true::p,.nd v l r,R,h=>by
  show Ht.over (.nd v l r) (.nd R.val R.lf (Ht.stp none p R.rt))= .nd (Ht.over (.nd v l r) R).val (Ht.over (.nd v l r) R).lf (Ht.stp none p (Ht.over (.nd v l r) R).rt);rw[Ht.over_nd,Ht.over_val,Ht.over_lf,Ht.over_rt];show Ht.nd _ _ (Ht.over r (Ht.stp none p R.rt))=_;rw[Ht.over_none p r R.rt h];rfl
theorem sF.many{H:Hp}(hfin:Fin H):∀(xs:fN),xs.Nodup->(∀x∈xs,∃o,H.any x=some o)->
  ∃R A,sF R A H/\A.next=H.next/\(∀y,A.any y=if y∈xs then H.any y else none)/\∀y,R.get y=if y∈xs then none else H.any y
 |[],_,_ =>⟨H.objs,⟨H.next,.nl⟩,⟨rfl,fun l o h=>⟨sV _ _,hfin l o h⟩⟩,rfl,fun y=>sV _ _,fun y=>rfl⟩
 |x::xs,hnd,hx=>by
  obtain⟨n1,n2⟩:=dS.1 hnd;obtain⟨R,A,c,a1,a2,a3⟩:=sF.many hfin xs n2 (fun y hy=>hx y (aJ _ hy));obtain⟨o,ho⟩:=hx x aR;have hA:A.any x=none:=by rw[a2,if_neg n1]
  have e1:∀y,(Ht.put (some o) A.objs x).get y=if y=x then some o else A.any y:=fun y=>Ht.get_put (some o) A.objs x y
  refine⟨Ht.put none R x,⟨A.next,Ht.put (some o) A.objs x⟩,⟨?_,fun l q hq=> ?_⟩,a1,fun y=> ?_,fun y=> ?_⟩
  .show H=⟨A.next,Ht.over (Ht.put (some o) A.objs x) (Ht.put none R x)⟩;rw[Ht.over_put _ _ _ _ (fun h=>by cases h)];unfold Ht.put;rw[Ht.over_none _ _ _ hA,Ht.stp_stp];have hg:Ht.gtp (toP x) (Ht.over A.objs R)=some o:=by
    have:=ho;rw[c.eq]at this;exact this
   rw[Ht.stp_same _ _ hg];exact c.eq
  .rw[Ht.get_put]at hq;split at hq
   .cases hq
   .rename_i hne;obtain⟨q1,q2⟩:=c.dis l q hq;refine⟨?_,q2⟩;show(Ht.put (some o) A.objs x).get l=none;rw[e1,if_neg hne];exact q1
  .show(Ht.put (some o) A.objs x).get y=_;rw[e1];by_cases h:y=x
   .subst h;rw[if_pos rfl,if_pos aR,ho]
   .rw[if_neg h,a2];by_cases h2:y∈xs
    .rw[if_pos h2,if_pos (aJ _ h2)]
    .rw[if_neg h2,if_neg (fun q=>by rcases aU.1 q with q|q;exact h q;exact h2 q)]
  .rw[Ht.get_put];by_cases h:y=x
   .subst h;rw[if_pos rfl,if_pos aR]
   .rw[if_neg h,a3];by_cases h2:y∈xs
    .rw[if_pos h2,if_pos (aJ _ h2)]
    .rw[if_neg h2,if_neg (fun q=>by rcases aU.1 q with q|q;exact h q;exact h2 q)]
def WK:List (TypeId×List A×List A)->Nat->List A->List (Nat×AO)
 |[],_,_ =>[]|(e,c0,_)::r,j,a=>(j,.fix e (a.take c0.length))::WK r (j+1) (a.drop c0.length)
theorem WL:∀(objs:List (TypeId×List A×List A)) (i:Nat) (a:List A) (l:Nat) (o:AO),oO (WK objs i a) l=some o->
  ∃j q,l=i+j/\objs[j]? =some q/\o= .fix q.1 ((a.drop ((objs.take j).flatMap (·.2.1)).length).take q.2.1.length)
 |[],i,a,l,o,h=>by simp[WK,oO]at h
 |(e,c0,c1)::r,i,a,l,o,h=>by
  simp only[WK,oO]at h;split at h
  .rename_i e0;have e0:=oM e0;cases h;exact⟨0,_,by omega,rfl,by simp⟩
  .obtain⟨j,q,h1,h2,h3⟩:=WL r (i+1) _ l o h;exact⟨j+1,q,by omega,by simpa using h2,by rw[h3];simp[List.drop_drop]⟩
def SQ(k:Nat)(R:AR):List (TypeId×List A×List A)->Nat->Bool
 |[],_ =>true
 |(e,_,c1)::r,j=>(match oO R.hp j with
  |some (.fix e' ys)=>Nat.beq e' e&&zE (JC R.cs 1 k qX) ys c1|_ =>false)&&SQ k R r (j+1)
theorem UV{k:Nat}{R:AR}:∀(objs:List (TypeId×List A×List A)) (i:Nat),SQ k R objs i=true->
  ∀(j:Nat) (q:TypeId×List A×List A),objs[j]? =some q->∃ys,oO R.hp (i+j)=some (.fix q.1 ys)/\zE (JC R.cs 1 k qX) ys q.2.2=true
 |[],i,_,j,q,h=>by simp at h
 |(e,c0,c1)::r,i,h,j,q,hq=>by
  simp only[SQ,aA]at h;cases j with
  |zero=>
   simp only[cA,aD]at hq;subst hq;have h1:=h.1;split at h1
   .rename_i e' ys hf;simp only[aA]at h1;have:=oM h1.1;subst this;exact⟨ys,hf,h1.2⟩
   .cases h1
  |succ j=>
   obtain⟨ys,h1,h2⟩:=UV r (i+1) h.2 j q (by simpa using hq);exact⟨ys,by rw[show i+(j+1)=i+1+j by omega];exact h1,h2⟩
noncomputable def pX(P:fA)(X:AX)(tab:List AE)(d:Nat)(s:AE):Bool:=
 match uK (.tup (s.pre++s.objs.flatMap (·.2.1))) 1 []with
 |⟨.tup a,n,cs⟩=>match aFx P X (SC P X tab d).fn (SC P X tab d).yd s.f (a.take s.pre.length) ⟨[],WK s.objs 0 (a.drop s.pre.length),n,s.objs.length,cs⟩with
  |some rs=>rs.all fun R=>JC R.cs 1 s.objs.length qX R.a s.res&&SQ s.objs.length R s.objs 0|none=>false
 |_ =>false
theorem aWa(hc:Cn X gl pe)(hpm:∀R A B f ts r,sF R A B->pe A f ts=some r->pe B f ts=some r)(hpn:∀f,X.top f=true->∀B ts,pe B f ts=none)(hpx:∀f ts A v,ZU f ts A=some v->∀B ts,pe B f ts=none){tab:List AE}
  (ht:∀s∈tab,FB (fun n d=>(tJ P ⟨gl,pe⟩ X.own X.top n d).ee) s) {d:Nat} {s:AE} (h:pX P X tab d s=true):FB (fun n d=>(tJ P ⟨gl,pe⟩ X.own X.top n d).ee) s:=by
 intro H ts xs hfin hxl hnd hpre hobj;have hx:∀(j:Nat),j<s.objs.length->∃x o,xs[j]? =some x/\H.get x=some o:=fun j hj=>by
  obtain⟨x,o,h1,h2,_⟩:=hobj j _ (aC hj);exact⟨x,o,h1,h2⟩
 have hxa:∀x∈xs,∃o,H.get x=some o:=fun x hx'=>by
  obtain⟨j,hj,rfl⟩:=bX hx';obtain⟨x,o,h1,h2⟩:=hx j (by omega);rw[aC hj]at h1;cases h1;exact⟨o,h2⟩
 obtain⟨R,A,cm,hAn,hAany,hRget⟩:=sF.many hfin xs hnd (fun x hx=>by obtain⟨o,ho⟩:=hxa x hx;exact⟨o,(pJ ho).1⟩);have hAget:∀x∈xs,A.get x=H.get x:=fun x hx=>PG (by rw[hAany,if_pos hx]);unfold pX at h;have h0:Sy [0] 1 []:=⟨rfl,rfl,fun q hq=>by simp at hq⟩;obtain⟨us,u1,u2⟩:=NU (w:=(·.2.1)) s.objs xs hxl hobj;have hall:pH [0] (xs.map some) (s.pre++s.objs.flatMap (·.2.1)) (ts++us):=hpre.app u1;have hv:=rU h0 (a:= .tup (s.pre++s.objs.flatMap (·.2.1))) (t:= .tup (ts++us)) (.tup _ _ hall.1 hall.2);split at h
 .rename_i a n cs hm;rw[hm]at hv;obtain⟨ρ1,e1,s1,g1⟩:=hv;cases g1 with
  |tup _ _ g1 g2=>
  have ga:pH ρ1 (xs.map some) a (ts++us):=⟨g1,g2⟩;rw[show s.pre.length=ts.length from hpre.1]at h;have gt:pH ρ1 (xs.map some) (a.take ts.length) ts:=by
   have:=ga.take ts.length
   rwa [List.take_left' rfl]at this
  have gd:pH ρ1 (xs.map some) (a.drop ts.length) us:=by
   have:=ga.drop ts.length
   rwa [List.drop_left' rfl]at this
  split at h
  .rename_i rs hrs;have hh:GH (WK s.objs 0 (a.drop ts.length)) s.objs.length ρ1 (xs.map some) A:=by
    have fnd:∀{l:Nat} {o:AO},oO (WK s.objs 0 (a.drop ts.length)) l=some o->∃q,s.objs[l]? =some q/\o= .fix q.1 (((a.drop ts.length).drop ((s.objs.take l).flatMap (·.2.1)).length).take q.2.1.length):=fun{l o} h=>by
     obtain⟨j,q,h1,h2,h3⟩:=WL _ _ _ _ _ h;rw[bN]at h1;subst h1;exact⟨q,h2,h3⟩
    refine⟨by simp[hxl],fun l o hl=> ?_,fun l l' q q' y hl hl' hy hy'=> ?_,fun l y hl=> ?_,fun l e ys hl=> ?_,fun m q hq=> ?_⟩
    .obtain⟨q,h1,rfl⟩:=fnd hl;obtain⟨x,o,h2,h3,h4,h5⟩:=hobj l q h1;refine⟨some x,by rw[aY,h2];rfl,fun y hy=> ?_⟩;cases hy;obtain⟨o',k1,k2,k3,k4⟩:=u2 l q x h1 h2;rw[h3]at k1;cases k1;refine⟨o,?_,h4,?_⟩
     .show A.get x=some o;rw[hAget x (bB h2)];exact h3
     .rw[k4];exact(gd.drop _).take _
    .rw[aY]at hy hy';obtain⟨x,h1,h2⟩:=aF.1 hy;obtain⟨x',h3,h4⟩:=aF.1 hy';cases h2;cases h4;have hl1:=(aK.1 h1).1;have hl2:=(aK.1 h3).1;rcases Nat.lt_trichotomy l l' with e|e|e
     .exact absurd (h1.trans h3.symm) (ML hnd l l' e hl2)
     .exact e
     .exact absurd (h3.trans h1.symm) (ML hnd l' l e hl1)
    .rw[aY]at hl;obtain⟨x,h1,h2⟩:=aF.1 hl;cases h2;obtain⟨o,ho⟩:=hxa y (bB h1);rw[hAn];exact hfin y o (pJ ho).1
    .obtain⟨q,h1,_⟩:=fnd hl;obtain⟨x,o,h2,_⟩:=hobj l q h1;exact⟨x,by rw[aY,h2];rfl⟩
    .rw[hAany]at hq;split at hq
     .rw[hAn];exact hfin m q hq
     .cases hq
   obtain⟨ih1,ih2⟩:=Ho (P:=P) hc ht d;have hK:∀n d,Po (tJ P ⟨gl,pe⟩ X.own X.top n d).ee:=fun n d=>(xD d).1;have hKy:∀n d,Ug (tJ P ⟨gl,pe⟩ X.own X.top n d).yd:=fun n d=>(xD d).2;obtain⟨htop,r,A',⟨m,ev⟩,RR,m1,ρ2,μ2,x1,x2,x3,x4,x5⟩:=Fi hc ih1 ih2 hK hKy hrs s1 hh gt;have ev2:∀n d',m+1<=n->m+1<=d'->(tJ P ⟨gl,pe⟩ X.own X.top n d').ee s.f ts A=some (r,A'):=fun n d' hn hd'=>by
    obtain⟨d',rfl⟩:∃d0,d'=d0+1:=⟨d'-1,by omega⟩;simp only[tJ];rw[if_pos htop];exact ev n d' (by omega) (by omega)
   have mono:=fun(R:Ht) (n d':Nat)=>Cy (R:=R) (P:=P) (E:=⟨gl,pe⟩) (n:=n) (own:=X.own) (ok:=X.top) (hpm R) hpn hpx d';have e0:=ev2 (m+1) (m+1) (aZ _) (aZ _);obtain⟨B0,b1,b2⟩:=(mono R (m+1) (m+1)).1 _ _ _ _ _ _ cm e0;have keep:=(xD (P:=P) (E:=⟨gl,pe⟩) (n:=m+1) (own:=X.own) (ok:=X.top) (m+1)).1 _ _ _ _ _ e0;have hl:=aG.1 h RR m1;simp only[aA]at hl;obtain⟨l1,l2⟩:=hl;have r1:ρ2.take 1=[0]:=by
    have:=x3.zero;cases ρ2 with
    |nil=>simp at this|cons v r=>simp at this;subst this;rfl
   have r2:μ2.take s.objs.length=xs.map some:=sN x2 (by simp[hxl]);have hres:=xR x3.cs x3.zero 1 s.objs.length qX _ _ _ l1 x5;rw[r1,r2]at hres;refine⟨r,B0,⟨m+1,fun n d' hn hd'=> ?_⟩,hres,fun y q hq=> ?_,?_,fun j q hq=> ?_,fun y hy hlt=> ?_⟩
   .obtain⟨B,k1,k2⟩:=(mono R n d').1 _ _ _ _ _ _ cm (ev2 n d' hn hd');rw[b2.eq,<-k2.eq];exact k1
   .rw[b2.any]at hq;rw[b2.nx];cases hz:A'.any y with
    |some z=>exact x4.fin y z hz|none=>rw[hz]at hq;exact(b2.dis y q hq).2
   .rw[b2.nx,<-hAn];exact keep.nx
   .obtain⟨x,o,h1,h2,_⟩:=hobj j q hq;obtain⟨ys,f1,f2⟩:=UV _ _ l2 j q hq;rw[bN]at f1;obtain⟨o',o1,o2,o3⟩:=x4.at f1 (x2 j _ (by rw[aY,h1];rfl));refine⟨x,o',h1,b2.get o1,o2,?_⟩;have:=zV (fun a t x=>xR x3.cs x3.zero 1 s.objs.length qX a t x) f2 o3
    rwa [r1,r2]at this
   .have hRy:R.get y=H.any y:=by rw[hRget,if_neg hy]
    rw[b2.any,hRy];cases hz:H.any y with
    |some q=>rw[(b2.dis y q (by rw[hRy,hz])).1];rfl
    |none=>
     have cy:sF (Ht.put (some ⟨0,0,[],none⟩) .nl y) A ⟨A.next,Ht.over A.objs (Ht.put (some ⟨0,0,[],none⟩) .nl y)⟩:=⟨rfl,fun l q hq=>by
      rw[Ht.get_put]at hq;split at hq
      .rename_i e;subst e;exact⟨by rw[hAany,if_neg hy],by rw[hAn];exact hlt⟩
      .rw[Ht.get_nl]at hq;cases hq⟩
     obtain⟨By,_,k2⟩:=(mono _ (m+1) (m+1)).1 _ _ _ _ _ _ cy e0;rw[(k2.dis y _ (by rw[Ht.get_put,if_pos rfl])).1];rfl
  .cases h
 .cases h
noncomputable def xJ(P:fA)(X:AX)(tab:List AE)(d:Nat)(c:qD):Bool:=
 match uK (.tup c.pre) 1 []with
 |⟨.tup a,n,cs⟩=>match aFx P X (SC P X tab d).fn (SC P X tab d).yd c.f a ⟨[],[],n,0,cs⟩with
  |some rs=>rs.all fun R=>match frA R.hp qX R.a with
   |some b=>JC R.cs 0 0 qX b c.res|none=>false
  |none=>false
 |_ =>false
theorem xK{pe:fH}{k:Nat}(hc:Cn X gl (sB k pe))(hk:qX<=k){tab:List AE}(hs:∀s∈tab,FB (fun n d=>(tJ P ⟨gl,sB k pe⟩ X.own X.top n d).ee) s){d:Nat}{c:qD}(h:xJ P X tab d c=true){ts:eY}(ht:pH [] [] c.pre ts):
  ∃r,Yi P gl pe X.own X.top k c.f ts r/\Gm [] [] c.res r:=by
 unfold xJ at h;have h0:Sy [0] 1 []:=⟨rfl,rfl,fun q hq=>by simp at hq⟩;have hv:=rU (μ:=[]) h0 (a:= .tup c.pre) (t:= .tup ts) (.tup _ _ (ht.ext (ρ':=[0]) (fun j v h=>by simp at h) (.refl _)).1 (ht.ext (ρ':=[0]) (fun j v h=>by simp at h) (.refl _)).2);split at h
 .rename_i a n cs hm;rw[hm]at hv;obtain⟨ρ1,e1,s1,g1⟩:=hv;cases g1 with
  |tup _ _ g1 g2=>
  split at h
  .rename_i rs hrs;have hh:GH [] 0 ρ1 [] ⟨0,.nl⟩:=⟨rfl,fun l o h=>by simp[oO]at h,fun l l' o o' x h=>by simp[oO]at h,fun l x h=>by simp at h,fun l e xs h=>by simp[oO]at h,fun m o h=>by rw[sV]at h;cases h⟩;obtain⟨ih1,ih2⟩:=Ho (P:=P) hc hs d;have hK:∀n d,Po (tJ P ⟨gl,sB k pe⟩ X.own X.top n d).ee:=fun n d=>(xD d).1;have hKy:∀n d,Ug (tJ P ⟨gl,sB k pe⟩ X.own X.top n d).yd:=fun n d=>(xD d).2;obtain⟨htop,r,H',⟨m,e2⟩,R,m1,ρ2,μ2,x1,x2,x3,x4,x5⟩:=Fi hc ih1 ih2 hK hKy hrs (ρ:=ρ1) (μ:=[]) (H:=⟨0,.nl⟩) (ts:=ts) s1 hh ⟨g1,g2⟩;have hl:=aG.1 h R m1;split at hl
   .rename_i b hb;obtain⟨r',f1,f2⟩:=Qz x3.zero x4 qX R.a b r hb x5 k hk;have hg:=xR x3.cs x3.zero 0 0 qX _ _ _ hl f2;rw[RV,RV]at hg;refine⟨r',⟨m+1,fun n' d' hn hd=> ?_⟩,hg⟩;unfold pureE;have e3:(tJ P ⟨gl,sB k pe⟩ X.own X.top n' d').ee c.f ts ⟨0,.nl⟩=some (r,H'):=by
     obtain⟨d',rfl⟩:∃d0,d'=d0+1:=⟨d'-1,by omega⟩;simp only[tJ];rw[if_pos htop];exact e2 n' d' (by omega) (by omega)
    rw[e3];exact f1
   .cases hl
  .cases h
 .cases h
def tL(P:fA)(gl:fD)(pe:fH)(X:AX)(k:Nat)(c:qD):Prop:=BT (pV qX) c.pre=true/\∀ts,pH [] [] c.pre ts->∃r,Yi P gl pe X.own X.top k c.f ts r/\Gm [] [] c.res r
theorem aAo{pe:fH}{k:Nat}(hk:qX<=k){pa:FuncId->List A->Nat->List pO->Option AV}(hpa:PeA (sB k pe) pa){l:List qD}(hl:∀c∈l,tL P gl pe X k c):
  PeA (sB k (EF P gl pe X.own X.top k fun f=>l.any fun c=>Nat.beq c.f f)) (pU l pa):=by
 intro f a n cs v h ρ μ H ts hs hg;unfold pU at h;split at h
 .rename_i hany;split at h
  .rename_i c hf;have hmem:=List.mem_of_find?_eq_some hf;have hcf:=List.find?_some (p:=fun c:qD=>Nat.beq c.f f&&zE (JC cs 0 0 qX) a c.pre) hf;simp only[aA]at hcf;obtain⟨hcf,hle⟩:=hcf;have hcf:=oM hcf;subst hcf;obtain⟨h2,h3⟩:=hl c hmem;cases h;have hgp:pH [] [] c.pre ts:=by
    have:=zV (fun a t x=>xR hs.cs hs.zero 0 0 qX a t x) hle hg
    rwa [RV,RV]at this
   obtain⟨r,r1,r2⟩:=h3 ts hgp;have hfz:mapO (pF k ⟨0,.nl⟩) ts=some ts:=wF _ fun x hx=>by
    obtain⟨a,ha,hga⟩:=wA hgp.1 hgp.2 hx;exact CD qX a x (qB h2 a ha) hga k hk
   refine⟨r,?_,rU hs (r2.ext (fun j v h=>by simp at h) (fun j v h=>by simp at h))⟩;unfold sB;rw[hfz];exact VB hany r1
  .cases h
 .rename_i hno;obtain⟨r,r1,r2⟩:=hpa f a n cs v h ρ μ H ts hs hg;refine⟨r,?_,r2⟩;have hfn:∀ts,EF P gl pe X.own X.top k (fun f=>l.any fun c=>Nat.beq c.f f) f ts=pe f ts:=fun ts=>by
   unfold EF;rw[if_neg hno]
  unfold sB at r1⊢;simp only[hfn];exact r1
variable{k:Nat}{ga:Nat->Option A}{pa:FuncId->List A->Nat->List pO->Option AV}{pc:fH}{dom:fZ}
theorem Lay.stepZ(h:Lay P gl k ga pa pc dom)(hm:P.follows .mixedOrders=true)(hz:uD gl)(hk:qX<=k){X:AX}{tl:fN}(ht:X.top=fun f=>rD f tl)(htl:tl.all (fun f=>tY P f&&zD P f)=true){l:List qD}(hl:∀c∈l,tL P gl pc X k c):
  Lay P gl k ga (pU l pa) (EF P gl pc X.own X.top k fun f=>l.any fun c=>Nat.beq c.f f) (fun f=>(l.any fun c=>Nat.beq c.f f)||dom f):=by
 refine⟨h.gA,aAo hk h.pA hl,aNb hm hz h.hx h.pc (fun f hf=>bEq htl f (by rw[ht]at hf;exact hf)),fun f ts hd=> ?_,h.hx⟩;simp only[eN]at hd;unfold EF;rw[if_neg (fun q=>by have q':(l.any fun c=>Nat.beq c.f f)=true:=q;rw[hd.1]at q';cases q')];exact h.dm f ts hd.2
theorem Lay.smy(h:Lay P gl k ga pa pc dom){X:AX}(h1:X.gl=ga)(h2:X.pe=pa){il tl:fN}(h3:X.inl=fun f=>rD f il)(h4:il.all (fun f=> !dom f)=true)(h5:X.top=fun f=>rD f tl)(h6:tl.all (fun f=> !dom f)=true)
  {tab:List AE} (ht:∀s∈tab,FB (fun n d=>(tJ P ⟨gl,sB k pc⟩ X.own X.top n d).ee) s) {d:Nat} {s:AE} (hr:pX P X tab d s=true) (h7:dom 123=false) (h8:dom 79=false) (hk:qX<=k:=by first|assumption|decide):FB (fun n d=>(tJ P ⟨gl,sB k pc⟩ X.own X.top n d).ee) s:=by
 refine aWa (h.cn h1 h2 h3 h4) (fun R A B f ts r c e=>aAb c e) (fun f hf B ts=> ?_) (fun f ts A v hv B ts'=> ?_) ht hr
 rotate_left 1
 .have hd:dom f=false:=by
   unfold ZU at hv;by_cases h1:f=123
   .subst h1;exact h7
   .rw[if_neg h1]at hv;by_cases h2:f=79
    .subst h2;exact h8
    .rw[if_neg h2]at hv;cases hv
  have hn:∀ts,pc f ts=none:=fun ts=>h.dm f ts hd;unfold sB;split
  .exact hn _
  .split
   .simp only[hn]
   .rfl
 rw[h5]at hf;have hd:=MJ h6 f hf;have hn:∀ts,pc f ts=none:=fun ts=>h.dm f ts (by simpa using hd);unfold sB;split
 .exact hn _
 .split
  .simp only[hn]
  .rfl
end
end Go.Ps
namespace Go.Ps
variable[Inhabited Prd]
theorem Dk{ee:fO}{s:AE}
  (h:∀(ts:eY) (μ:fB),pH [0] μ s.pre ts->∃s':AE,FB ee s'/\s'.f=s.f/\s'.objs=s.objs/\pH [0] μ s'.pre ts/\∀r,Gm [0] μ s'.res r->Gm [0] μ s.res r):FB ee s:=by
 intro H ts xs h1 h2 h3 h4 h5;obtain⟨s',k1,k2,k3,k4,k5⟩:=h ts _ h4;obtain⟨r,H',q1,q2,q3⟩:=k1 H ts xs h1 (by rw[k3];exact h2) h3 k4 (by rw[k3];exact h5);rw[k2]at q1;rw[k3]at q3;exact⟨r,H',q1,k5 r q2,q3⟩
section
variable{P:fA}{gl:fD}{k:Nat}
theorem AF{pe:fH}{X:AX}{c:qD}(hp:BT (pV qX) c.pre=true)
  (h:∀ts,pH [] [] c.pre ts->∃c':qD,tL P gl pe X k c'/\c'.f=c.f/\pH [] [] c'.pre ts/\∀r,Gm [] [] c'.res r->Gm [] [] c.res r):tL P gl pe X k c:=by
 refine⟨hp,fun ts ht=> ?_⟩;obtain⟨c',h1,h2,h3,h4⟩:=h ts ht;obtain⟨r,r1,r2⟩:=h1.2 ts h3;rw[h2]at r1;exact⟨r,r1,h4 r r2⟩
open Classical in
noncomputable def knQ(P:fA)(gl:fD)(f0:fT)(Q:List T->T->Prop)(pe:fH):FuncId->List T->Option T:=fun f ts=>
 if Nat.beq f0 f=true then(if h:∃r,oK P gl f ts r/\Q ts r then some (Classical.choose h)else none)else pe f ts
variable{ga:Nat->Option A}{pa:FuncId->List A->Nat->List pO->Option AV}{pe:fH}{dom:fZ}
theorem Lay.knownQ(h:Lay P gl k ga pa pe dom){f0:fT}{Q:List T->T->Prop}{pq:List A->Nat->List pO->Option AV}
  (hq:∀a_s n cs v,pq a_s n cs=some v->∀ρ μ ts,Sy ρ n cs->pH ρ μ a_s ts->mapO (pF k ⟨0,.nl⟩) ts=some ts/\(∃r,oK P gl f0 ts r/\Q ts r)/\∀r,Q ts r->VOk ρ μ v r):
  Lay P gl k ga (fun f a_s n cs=>if Nat.beq f0 f then pq a_s n cs else pa f a_s n cs) (knQ P gl f0 Q pe) (fun f=>Nat.beq f0 f||dom f):=by
 refine⟨h.gA,?_,?_,fun f ts hd=> ?_,h.hx⟩
 .intro f a n cs v hv ρ μ H ts hs hg;have hv2:(if Nat.beq f0 f=true then pq a n cs else pa f a n cs)=some v:=hv;by_cases hf:Nat.beq f0 f=true
  .rw[if_pos hf]at hv2;have e:=oM hf;subst e;obtain⟨h1,h2,h3⟩:=hq a n cs v hv2 ρ μ ts hs hg;refine⟨Classical.choose h2,?_,h3 _ (cO h2).2⟩;unfold sB;rw[h1];show knQ P gl f0 Q pe f0 ts=_;unfold knQ;rw[if_pos hf,dif_pos h2]
  .rw[if_neg hf]at hv2;obtain⟨r,r1,r2⟩:=h.pA f a n cs v hv2 ρ μ H ts hs hg;refine⟨r,?_,r2⟩;have hfn:∀ts,knQ P gl f0 Q pe f ts=pe f ts:=fun ts=>by unfold knQ;rw[if_neg hf]
   unfold sB at r1⊢;simp only[hfn];exact r1
 .intro f ts r hr;unfold knQ at hr;split at hr
  .split at hr
   .rename_i h';cases hr;have q:=(cO h').1;exact⟨q.1,fun g vs hg hal hgl hv=>q.2 g vs hg ⟨0,fun l _ =>hal l⟩ hgl hv⟩
   .cases hr
  .exact h.pc f ts r hr
 .simp only[eN]at hd;unfold knQ;rw[if_neg (fun q=>by rw[hd.1]at q;cases q)];exact h.dm f ts hd.2
abbrev wI:=AX×List Nat×List qD
def FD:List wI->List qD
 |[]=>[]|[g]=>g.2.2|g::r=>g.2.2++FD r
noncomputable def qZ(P:fA)(gs:List wI):Bool:=gs.all fun g=>g.2.2.all fun c=>xJ P g.1 [] 8 c
noncomputable def aEh(dom:fZ)(gs:List wI):Bool:=gs.all fun g=>g.2.1.all (fun f=> !dom f)&&g.2.2.all fun c=>BT (pV qX) c.pre
def bDi:List wI->FuncId->Nat->Bool
 |[]=>fun _ _ =>false|g::_ =>g.1.own
def bEp:List wI->FuncId->Bool
 |[]=>fun _ =>false|g::_ =>g.1.top
def inG(ga:Nat->Option A)(pa:FuncId->List A->Nat->List pO->Option AV)(X:AX):List wI->Prop
 |[]=>True|g::r=>(g.1.gl=ga/\g.1.pe=pa/\(g.1.inl=fun f=>rD f g.2.1)/\g.1.own=X.own/\g.1.top=X.top)/\inG ga pa X r
theorem r5{α β γ δ ε:Type}{a:α}{b:β}{c:γ}{d:δ}{e:ε}:a=a/\b=b/\c=c/\d=d/\e=e:=⟨rfl,rfl,rfl,rfl,rfl⟩
theorem aSl(h:Lay P gl k ga pa pe dom)(hk:qX<=k){X:AX}:∀{gs:List wI},inG ga pa X gs->aEh dom gs=true->qZ P gs=true->∀c∈FD gs,tL P gl pe X k c:=by
 have one:∀g:wI,(g.1.gl=ga/\g.1.pe=pa/\(g.1.inl=fun f=>rD f g.2.1)/\g.1.own=X.own/\g.1.top=X.top)->(g.2.1.all (fun f=> !dom f)&&g.2.2.all fun c=>BT (pV qX) c.pre)=true->(g.2.2.all fun c=>xJ P g.1 [] 8 c)=true->∀c∈g.2.2,tL P gl pe X k c:=by
  intro g ⟨h1,h2,h3,h4,h5⟩ hc hr c hm;simp only[aA]at hc;refine⟨aG.1 hc.2 c hm,fun ts ht=> ?_⟩;obtain⟨r,r1,r2⟩:=xK (h.cn (X:=g.1) h1 h2 (l:=g.2.1) h3 hc.1) hk (tab:=[]) (by simp) (aG.1 hr c hm) ht;rw[h4,h5]at r1;exact⟨r,r1,r2⟩
 intro gs
 induction gs with
 |nil=>intro _ _ _ c hm;cases hm
 |cons g r ih=>
  intro hi hc hr c hm;unfold aEh at hc;unfold qZ at hr;simp only[List.all_cons,aA]at hc hr;have h1:=one g hi.1 (by simp only[aA];exact hc.1) hr.1;have h2:=ih hi.2 hc.2 hr.2;cases r with
  |nil=>exact h1 c hm
  |cons g' r'=>
   rcases bZ.1 (show c∈g.2.2++FD (g'::r')from hm)with h|h
   .exact h1 c h
   .exact h2 c h
theorem Lay.go(h:Lay P gl k ga pa pe dom)(hm:P.follows .mixedOrders=true)(hz:uD gl)(hk:qX<=k){g:wI}{gs:List wI}(tl:fN)(ht:g.1.top=fun f=>rD f tl)(htl:tl.all (fun f=>tY P f&&zD P f)=true)
  (h1:inG ga pa g.1 (g::gs)) (h2:aEh dom (g::gs)=true) (h3:qZ P (g::gs)=true):
  Lay P gl k ga (pU (FD (g::gs)) pa) (EF P gl pe (bDi (g::gs)) (bEp (g::gs)) k fun f=>(FD (g::gs)).any fun c=>Nat.beq c.f f) (fun f=>((FD (g::gs)).any fun c=>Nat.beq c.f f)||dom f):=
 h.stepZ hm hz hk (X:=g.1) ht htl (aSl h hk h1 h2 h3)
end
end Go.Ps
