/- Lemmas for the card; no conditions. -/
import Derived.Test.YthfdachbgpjafaaGreatDoorXc3
set_option linter.unusedSimpArgs false
set_option linter.unusedVariables false
set_option linter.unusedSectionVars false
set_option maxRecDepth 100000
open Go.IntKind
namespace Go.Ps
variable[Inhabited Prd]
structure GS(S:AS)(U:gJ)(O:fW)(fr:fU)(H:Hp):Prop where
 sy:Sy U S.nx S.cs
 hp:GH S.hp S.nl U O H
 fr:qO U O S.fr fr
structure FcA(F:hD)(ee:gP)(Fc:Nat->Nat->Fc):Prop where
 own:∀n d,(Fc n d).own=F
 ee:∀n d,(Fc n d).ee=ee n d
def AvOk(P:fV)(gl:fY)(pe:gN)(F:hD)(av:gW)(fr:fU)(H:Hp):Prop:=
 ∀o∈av,Ze o=true/\∃d,o.dst=some d/\qK P ⟨gl,pe⟩ (BG F o) H fr o=some (qR fr d)
theorem AvOk.nil{P:fV}{gl:fY}{pe:gN}{F:hD}{fr:fU}{H:Hp}:AvOk P gl pe F [] fr H:=λo h=>by simp at h
theorem Qg{P:fV}{E:tY}{H:Hp}{fr:fU}{f:Operand->Operand->Bool}(hf:∀x y,f x y=true->qG E.gl fr x=qG E.gl fr y){o1 o2:Oper}{b1 b2:Bool}(h:Qf f o1.op o2.op=true):
  qK P E b1 H fr o1=qK P E b2 H fr o2:=by
 obtain⟨d1,op1,ty1,p1,a1,g1⟩:=o1;obtain⟨d2,op2,ty2,p2,a2,g2⟩:=o2;unfold Qf at h;simp only at h;split at h
 .simp only[aA]at h;rw[aF h.1];simp only[qK,hf _ _ h.2]
 .simp only[aA]at h;rw[aF h.1,aF h.2.1];simp only[qK,hf _ _ h.2.2]
 .simp only[aA]at h;rw[aF h.1];simp only[qK,hf _ _ h.2.1,hf _ _ h.2.2]
 .simp only[qK,hf _ _ h]
 .cases h
theorem Nl{o:Oper}{d:Tmp}(h:Dw o d=true):o.dst=some d:=by
 unfold Dw at h;split at h
 .rename_i e he;rw[he,aF h]
 .cases h
theorem aWm{P:fV}{gl:fY}{pe:gN}{F:hD}{av:gW}{fr:fU}{H:Hp}(ha:AvOk P gl pe F av fr H):∀(n:Nat) (x y:jF),eqO av n x y=true->qG gl fr x=qG gl fr y:=by
 intro n;have same:∀x y,VC x y=true->qG gl fr x=qG gl fr y:=by
  intro x y h;unfold VC at h;split at h
  .rw[aF h]
  .cases h
 induction n with
 |zero=>intro x y h;exact same x y h
 |succ n ih=>
  intro x y h;simp only[eqO,bF]at h;rcases h with h|h
  .exact same x y h
  .split at h
   .rename_i a b;obtain⟨oa,m1,h1⟩:=fM.1 h;simp only[aA]at h1;obtain⟨h1,h2⟩:=h1;obtain⟨ob,m2,h3⟩:=fM.1 h2;simp only[aA]at h3;obtain⟨h3,h4⟩:=h3;obtain⟨_,d1,e1,e2⟩:=ha oa m1;obtain⟨_,d2,e3,e4⟩:=ha ob m2;rw[Nl h1]at e1;cases e1;rw[Nl h3]at e3;cases e3;have:=Qg (P:=P) (E:=⟨gl,pe⟩) (H:=H) (fr:=fr) (b1:=BG F oa) (b2:=BG F ob) ih h4;rw[e2,e4]at this;simp only[qG];exact this
   .cases h
theorem aHv{P:fV}{gl:fY}{pe:gN}{F:hD}{av:gW}{fr:fU}{H:Hp}(ha:AvOk P gl pe F av fr H){o:Oper}{d:Tmp}(h:cse av o=some d):
  qK P ⟨gl,pe⟩ (BG F o) H fr o=some (qR fr d):=by
 unfold cse at h;split at h
 .rename_i o1 hf;obtain⟨_,d1,e1,e2⟩:=ha o1 (List.mem_of_find?_eq_some hf);rw[h]at e1;cases e1;have hk:=List.find?_some (p:=λo1:Oper=>Qf (eqO av 6) o1.op o.op) hf;rw[<-e2];exact(Qg (P:=P) (E:=⟨gl,pe⟩) (λx y q=>aWm ha 6 x y q) hk).symm
 .cases h
theorem Jf:∀{l:iR} {d:Tmp},aJj d l=false->d∉l
 |[],d,_ =>by simp
 |x::xs,d,h=>by
  simp only[aJj,eM]at h;simp only[aR,not_or];exact⟨λe=>by subst e;simp at h,Jf h.2⟩
theorem aCm{gl:fY}{fr:fU}{d:Tmp}{v:T}{x:jF}(h:∀t,x= .tmp t->t≠d):qG gl (fr.set d v) x=qG gl fr x:=by
 cases x with
 |tmp t=>
  have:=h t rfl;simp only[qG,uR,aW];rw[dN (λe=>this e.symm)]
 |_ =>rfl
theorem Zk{P:fV}{E:tY}{H:Hp}{fr:fU}{o:Oper}{b:Bool}(hk:Ze o=true){d:Tmp}{v:T}(h:d∉Wa o):qK P E b H (fr.set d v) o=qK P E b H fr o:=by
 obtain⟨dst,op,ty,pos,after,guard⟩:=o;have hx:∀x∈op.operands.toList,∀t,x= .tmp t->t≠d:=by
  intro x hx t he hd;subst he hd;exact h (List.mem_filterMap.2 ⟨_,hx,rfl⟩)
 have hx':∀x,x∈op.operands.toList->qG E.gl (fr.set d v) x=qG E.gl fr x:=λx hm=>aCm (hx x hm);cases op<;>simp only[Ze]at hk<;>try(cases hk;done)
 case move x=>simp only[qK,hx' x (by simp[Op.operands])]
 case load t a=>simp only[qK,hx' a (by simp[Op.operands])]
 case fieldAddr s x f=>simp only[qK,hx' x (by simp[Op.operands])]
 case indexAddr t x i=>simp only[qK,hx' x (by simp[Op.operands]),hx' i (by simp[Op.operands])]
theorem RK{P:fV}{gl:fY}{pe:gN}{F:hD}{fr:fU}{H:Hp}{d:Tmp}{v:T}:∀{av:gW},AvOk P gl pe F av fr H->AvOk P gl pe F (RI d av) (fr.set d v) H
 |[],_ => .nil
 |o::r,ha=>by
  have ih:=RK (d:=d) (v:=v) (λx hx=>ha x (aG _ hx):AvOk P gl pe F r fr H);simp only[RI];split
  .exact ih
  .rename_i hc;simp only[bF,not_or,Bool.not_eq_true]at hc;intro x hx;rcases aR.1 hx with rfl|hx
   .obtain⟨k1,e,k2,k3⟩:=ha x aL;refine⟨k1,e,k2,?_⟩;rw[Zk k1 (Jf hc.2),k3];have hne:e≠d:=by
     intro he;subst he;have:=hc.1;unfold Dw at this;rw[k2]at this;simp at this
    simp only[uR,aW];rw[dN (λq=>hne q.symm)]
   .exact ih x hx
theorem KL{P:fV}{gl:fY}{pe:gN}{F:hD}{fa:List A}{fr:fU}{H:Hp}(hl:fa.length=fr.length){av:gW}(ha:AvOk P gl pe F av fr H){o:Oper}{v:T}(he:qK P ⟨gl,pe⟩ (BG F o) H fr o=some v):
  AvOk P gl pe F (Kj fa o av) (qU fr o.dst v) H:=by
 unfold Kj;split
 .rename_i d hd;rw[hd];simp only[qU];split
  .rename_i hc;simp only[aA,bW]at hc;intro x hx;rcases aR.1 hx with rfl|hx
   .refine⟨hc.1,d,hd,?_⟩;rw[Zk hc.1 (Jf hc.2.2),he];have hlt:d<fr.length:=by rw[<-hl];simpa [Nat.blt,Nat.lt_iff_add_one_le]using hc.2.1
    simp only[uR,aW];rw[List.getElem?_set_self hlt];rfl
   .exact RK ha x hx
  .exact RK ha
 .rename_i hd;rw[hd];exact ha
theorem rS{Y Z:Type}{f:Y->Option (List Z)}:∀{l:List Y} {r:List Z},BK f l=some r->∀x∈l,∃q,f x=some q/\∀y∈q,y∈r
 |a::a_s,r,h,x,hx=>by
  simp only[BK]at h;split at h
  .rename_i q hq;split at h
   .rename_i s hs;cases h;rcases aR.1 hx with rfl|hx
    .exact⟨q,hq,λy hy=>List.mem_append_left _ hy⟩
    .obtain⟨p,h1,h2⟩:=rS hs x hx;exact⟨p,h1,λy hy=>List.mem_append_right _ (h2 y hy)⟩
   .cases h
  .cases h
theorem qO.setSame{U:gJ}{O:fW}{a_s:List A}{ts:fU}(h:qO U O a_s ts){a:A}{d:Nat}(ha:Gm U O a (qR ts d)):qO U O (setS a a_s d) ts:=by
 rw[VF];refine⟨by simp[h.1],λj b u hb hu=> ?_⟩;rw[eC]at hb;split at hb
 .rename_i hd;subst hd;split at hb
  .cases hb;rw[uR,aW,hu]at ha;exact ha
  .cases hb
 .exact h.2 j b u hb hu
theorem qO.put{U:gJ}{O:fW}{a_s:List A}{ts:fU}(h:qO U O a_s ts){a:A}{t:T}(ha:Gm U O a t)(dst:jA):qO U O (MH a_s dst a) (qU ts dst t):=by
 cases dst with
 |none=>exact h|some d=>simp only[MH,qU];rw[VF];exact h.set ha d
theorem qO.setS{U:gJ}{O:fW}{a_s:List A}{ts:fU}(h:qO U O a_s ts){a:A}{t:T}(ha:Gm U O a t)(d:Nat):qO U O (Go.Ps.setS a a_s d) (ts.set d t):=by
 rw[VF];exact h.set ha d
section
variable{U ρ':gJ}{O μ':fW}{X:AX}{gl:fY}{pe:gN}{H:Hp}{S:AS}{P:fV}
variable{call:FuncId->List A->AS->Option (List AR)}{ee:gP}{F:hD}{Fe:Nat->Nat->Fc}{fr:fU}
theorem GS.sym(h:GS S U O fr H){n:Nat}{cs:List qV}(he:uA U ρ')(hs:Sy ρ' n cs):GS {S with nx:=n,cs:=cs} ρ' O fr H:=⟨hs,h.hp.ext he,h.fr.ext he (.refl _)⟩
theorem XX(hs:Sy U S.nx S.cs)(hh:GH S.hp S.nl U O H){t:fS}{m k x:A}{y z u:T}(hm:Gm U O m y)(hk:Gm U O k z)(hx:Gm U O x u){R:AR}(h:Jk P S t m k x=some R):
  ∃H',SN P H t y z u=some H'/\ROk U O R pV H':=by
 unfold Jk at h;split at h
 .rename_i l ik s c;split at h
  .rename_i hc;simp only[aA,beq_iff_eq]at hc;obtain⟨rfl,hc⟩:=hc;have hc:s=0:=aF hc;subst hc;cases hm with
   |mp _ l' hl'=>
   cases hk with
   |int _ _ _ v hv hin=>
   rw[hs.zero]at hv;cases hv;simp only[fO]at*;split at h
   .rename_i es hf;split at h
    .rename_i kt et hu;split at h
     .rename_i ik hik;split at h
      .rename_i hno;cases h;obtain⟨o,o1,c0,ms,o2,o3,o4⟩:=hh.atN hf hl';have hkey:IR P kt (.int .i64 c)=true:=by simp[IR,GE,hik]
       have hfm:=(XK (U:=U) (O:=O) hik (k:=c) es ms 0 o3 o4).2 hno;have hseek:HC P H t (.mp l') (.int .i64 c)=some (l',o,c0,ms,et,none):=by
        simp only[HC,hu,o1,o2,hkey,if_true,hfm]
       refine⟨putM H l' o (c0+1) (ms++[(c0,.int .i64 c,u)]),by simp only[SN,hseek],U,O,.refl _,.refl _,hs,?_,uU⟩;refine hh.putL hf hl' (o':= .map (es++[(c,x)])) ⟨c0+1,ms++[(c0,.int .i64 c,u)],rfl,by simp[o3],λj k a hj=> ?_⟩ rfl;by_cases hjl:j<es.length
       .rw[dL hjl]at hj;obtain⟨c',v,q1,q2⟩:=o4 j k a hj;exact⟨c',v,by rw[dL (by omega)];exact q1,q2⟩
       .rw[dQ (by omega)]at hj;have:j-es.length=0:=by
         have:=(aO.1 hj).1;simp at this;exact this
        rw[this]at hj;simp only[cQ,aC,aU]at hj;obtain⟨rfl,rfl⟩:=hj;exact⟨c0,u,by rw[dQ (by omega),show j-ms.length=0 by omega];rfl,hx⟩
      .cases h
     .cases h
    .cases h
   .cases h
  .cases h
 .cases h
theorem aDk(hs:Sy U S.nx S.cs)(hh:GH S.hp S.nl U O H){t:fS}:ROk U O ⟨.mp S.nl,(S.nl,.map [])::S.hp,S.nx,S.nl+1,S.cs⟩ (.mp H.next) (H.new {elem:=t,sz:=0,cells:=[],me:=some (.map 0 [])}):=
 ⟨U,O++[some H.next],.refl _,.app _ _,hs,hh.newL ⟨0,[],rfl,rfl,λj k a h=>by simp at h⟩ rfl,.mp _ _ (tM hh.len _)⟩
theorem Xr(hc:Cn X gl pe)(hcall:yI call ee)(hF:FcA F ee Fe)(hg:GS S U O fr H){o:Oper}{rs:List AR}(h:aNq P X (OU F o.dst) call S o=some rs):
  ∃t H',Ev (λn d=>xF P ⟨gl,pe⟩ (Fe n d) H fr o=some (t,H'))/\∃R∈rs,ROk U O R t H':=by
 have ev:∀{x:jF} {a:A},PX X.gl S.fr x=some a->∃t,qG gl fr x=some t/\Gm U O a t:=λh=>uZ hc.gl hg.sy.zero hg.fr h;obtain⟨dst,op,type,pos,after,guard⟩:=o;cases op<;>simp only[aNq]at h<;>simp only[xF]<;>try(cases h;done)
 case alloc t=>
  split at h
  .rename_i z hz;split at h
   .rename_i hk;cases h;obtain⟨z',e1,e2⟩:=CX (U:=U) (O:=O) hg.sy.zero hz;exact⟨.ptr H.next 0,H.new {elem:=t,sz:=0,cells:=z'.cells},.of λn d=>by simp only[e1],_,aQ _,RP hg.sy hg.hp ⟨⟨rfl,rfl⟩,(rX e2 hk).2⟩⟩
   .cases h
  .cases h
 case box t x=>
  split at h
  .rename_i y hy;split at h
   .rename_i hk;cases h;obtain⟨z,e1,e2⟩:=ev hy;exact⟨.ptr H.next 0,H.new {elem:=t,sz:=0,cells:=z.cells},.of λn d=>by simp only[e1],_,aQ _,RP hg.sy hg.hp ⟨⟨rfl,rfl⟩,(rX e2 hk).2⟩⟩
   .cases h
  .cases h
 case buildSlice t len parts=>
  split at h
  .rename_i l hl;obtain⟨R,hR,rfl⟩:=aD.1 h;obtain⟨qs,e1,e2,e3⟩:=KJ hc.gl hg.sy.zero hg.fr hl;obtain⟨e,xs,s,q1,q2,q3,q4⟩:=WK hg.sy hg.hp e2 e3 hR;exact⟨_,_,.of λn d=>by simp only[e1,q1,q2,q3],R,aQ _,q4⟩
  .cases h
 case store t p x=>
  split at h
  .rename_i q y hq hy;obtain⟨R,hR,rfl⟩:=aD.1 h;obtain⟨q',e1,e2⟩:=ev hq;obtain⟨y',e3,e4⟩:=ev hy;obtain⟨H',q1,q2⟩:=Ha hg.sy hg.hp e2 e4 hR;exact⟨_,H',.of λn d=>by simp only[e1,e3,q1],R,aQ _,q2⟩
  .cases h
 case makeMap t r=>
  split at h
  .cases h;exact⟨_,_,.of λn d=>by simp only[OO,Je,if_true];rfl,_,aQ _,aDk hg.sy hg.hp⟩
  .cases h
 case mapUpdate t m k x=>
  split at h
  .rename_i a b v ha hb hv;obtain⟨R,hR,rfl⟩:=aD.1 h;obtain⟨a',e1,e2⟩:=ev ha;obtain⟨b',e3,e4⟩:=ev hb;obtain⟨v',e5,e6⟩:=ev hv;obtain⟨H',q1,q2⟩:=XX hg.sy hg.hp e2 e4 e6 hR;exact⟨_,H',.of λn d=>by simp only[e1,e3,e5,q1],R,aQ _,q2⟩
  .cases h
 case insert t m k x=>
  split at h
  .rename_i a b v ha hb hv;obtain⟨R,hR,rfl⟩:=aD.1 h;obtain⟨a',e1,e2⟩:=ev ha;obtain⟨b',e3,e4⟩:=ev hb;obtain⟨v',e5,e6⟩:=ev hv;obtain⟨H',q1,q2⟩:=XX hg.sy hg.hp e2 e4 e6 hR;exact⟨_,H',.of λn d=>by simp only[e1,e3,e5,q1],R,aQ _,q2⟩
  .cases h
 case makeSlice t l c=>
  split at h
  .rename_i q y hq hy;obtain⟨R,hR,rfl⟩:=aD.1 h;obtain⟨q',e1,e2⟩:=ev hq;obtain⟨y',e3,e4⟩:=ev hy;obtain⟨r,H',q1,q2⟩:=Bq hg.sy hg.hp e2 e4 hR;exact⟨r,H',.of λn d=>by simp only[e1,e3,q1],R,aQ _,q2⟩
  .cases h
 case call c=>
  split at h
  .rename_i f hcal;rw[hcal];simp only;split at h
   .rename_i g first cap hf
    split at h
    .split at h
     .rename_i ars har;obtain⟨t,e1,e2⟩:=ev hf;cases e2 with
      |fn _ _ _ f' c' h1 h2 h3 h4=>
      obtain⟨ts,e3,e4⟩:=yZ hc.gl hg.sy.zero hg.fr har;obtain⟨r,H',q1,R,q2,q3⟩:=hcall _ _ _ _ h U O H _ hg.sy hg.hp ((qO.app ⟨h1,h2⟩ e4).app ⟨h3,h4⟩);refine⟨r,H',q1.mono λn d q=> ?_,R,q2,q3⟩;simp only[e1,e3,hF.ee];exact q
     .cases h
    .cases h
   .cases h
  .rename_i hcal;rw[hcal];simp only;split at h
   .rename_i s x t t' ha ht;split at h
    .rename_i a b hsa hxb;obtain⟨R,hR,rfl⟩:=aD.1 h;obtain⟨q',e1,e2⟩:=ev hsa;obtain⟨y',e3,e4⟩:=ev hxb;split at hR
     .rename_i hpa;obtain⟨r,H',q1,q2⟩:=Mn hg.sy hg.hp e2 e4 hR;exact⟨r,H',.of λn d=>by simp only[ha,ht,e1,e3,hF.own,WB];rw[if_pos hpa];exact q1,R,aQ _,q2⟩
     .rename_i hpa;obtain⟨r,H',q1,q2⟩:=Tp hg.sy hg.hp e2 e4 hR;exact⟨r,H',.of λn d=>by simp only[ha,ht,e1,e3,hF.own,WB];rw[if_neg hpa];exact q1,R,aQ _,q2⟩
    .cases h
   .cases h
  .cases h
noncomputable def Dt(P:fV)(E:tY)(F:Fc)(s:Fx)(o:Oper):Option Fx:=
 match qK P E (zO F o) s.H s.fr o with
 |some v=>some {s with fr:=qU s.fr o.dst v}
 |none=>
  match tQ F o with
  |some (d,t)=>if s.pend.isSome then none else match vZ P t,yA P t with
   |some n,some z=>if z.cells.length=n/\d<s.fr.length then some {s with fr:=s.fr.set d pV,pend:=some (d,t)}else none
   |_,_ =>none
  |none=>match xF P E F s.H s.fr o with
   |some (v,H')=>some {s with fr:=qU s.fr o.dst v,H:=H'}
   |none=>none
theorem SB{E:tY}{F:Fc}{ops:fZ}{s:Fx}{o:Oper}:tU P E F ops s o=if qH ops s.fr o then Dt P E F s o else some {s with fr:=qU s.fr o.dst pV}:=rfl
abbrev jE:=Option (Tmp×TypeId)
def xT(P:fV)(gl:fY)(pe:gN)(F:hD)(l:jB)(U:gJ)(O:fW)(fr:fU)(H:Hp)(pd:jE):Prop:=
 ∃s∈l,∃ρ' μ',uA U ρ'/\uA O μ'/\s.pend=pd/\GS s.S ρ' μ' fr H/\AvOk P gl pe F s.av fr H
theorem LU(hc:Cn X gl pe){U:gJ}{O:fW}(h0:U[0]? =some 0){fa:List A}(hf:qO U O fa fr){own:Bool}{o:Oper}(h:IP X own fa o=true)(hb:WJ own o=true):
  qK P ⟨gl,pe⟩ own H fr o=none:=by
 obtain⟨dst,op,type,pos,after,guard⟩:=o;cases op<;>simp only[IP]at h<;>try(cases h;done)
 case alloc=>rfl
 case box=>simp only[qK];rw[if_pos h]
 case buildSlice=>simp only[qK];rw[if_pos h]
 case store=>rfl
 case makeSlice=>rfl
 case makeMap=>rfl
 case mapUpdate=>rfl
 case insert=>rfl
 case call c=>
  split at h
  .rename_i hcal;simp only[qK,zA,hcal]
  .rename_i f hcal;simp only[qK,zA,hcal];split at h
   .rename_i g a b hg;obtain⟨t,e1,e2⟩:=uZ hc.gl h0 hf hg;cases e2 with
    |fn _ _ _ f' c' h1 h2 h3 h4=>
    simp only[e1];split
    .exact hc.inl g _ _ h
    .rfl
   .cases h
  .cases h
theorem OT(hF:FcA F ee Fe)(o:Oper)(n d:Nat):tQ (Fe n d) o=HB F o:=by
 obtain⟨dst,op,type,pos,after,guard⟩:=o;cases op<;>simp only[tQ,HB,hF.own];cases dst<;>rfl
theorem BZ(hF:FcA F ee Fe)(o:Oper)(n d:Nat):zO (Fe n d) o=BG F o:=by
 unfold zO BG;rw[hF.own];cases o.dst<;>rfl
theorem Mz(hc:Cn X gl pe)(hcall:yI call ee)(hF:FcA F ee Fe){s:Af}(hg:GS s.S U O fr H)(hav:AvOk P gl pe F s.av fr H){o:Oper}{l:jB}(h:EQ P X call F s o=some l):
  ∃fr' H' pd,Ev (λn d=>Dt P ⟨gl,pe⟩ (Fe n d) ⟨fr,H,s.pend⟩ o=some ⟨fr',H',pd⟩)/\xT P gl pe F l U O fr' H' pd:=by
 unfold EQ at h;split at h
 .rename_i d t hpd;split at h
  .cases h
  .rename_i hpn;split at h
   .rename_i n z hn hz;split at h
    .rename_i hcc;cases h;simp only[aA]at hcc;obtain⟨⟨k1,k2⟩,k3⟩:=hcc;obtain⟨z',e1,e2⟩:=CX (U:=U) (O:=O) hg.sy.zero hz;have hzl:z'.cells.length=n:=by rw[<-(rX e2 k2).2.1];exact pX k1
     have hal:∃e,o.op= .alloc e:=by
      obtain⟨dst,op,type,pos,after,guard⟩:=o;cases op<;>simp only[HB]at hpd<;>first|exact⟨_,rfl⟩|cases hpd
     refine⟨fr.set d pV,H,some (d,t),.of λn' d'=> ?_,_,aQ _,U,O,.refl _,.refl _,rfl,⟨hg.sy,hg.hp,hg.fr.setS uU d⟩,.nil⟩;have he:qK P ⟨gl,pe⟩ (zO (Fe n' d') o) H fr o=none:=by
      obtain⟨e,he⟩:=hal;simp only[qK,he]
     unfold Dt;simp only[he,OT hF,hpd,hn,e1];rw[if_neg (by simpa using hpn),if_pos ⟨hzl,by rw[<-hg.fr.1];exact qW k3⟩]
    .cases h
   .cases h
 .rename_i hpd;split at h
  .rename_i heff;by_cases hbs:WJ (BG F o) o=true
   .rw[if_pos hbs]at h;split at h
    .rename_i rs hrs;cases h;obtain⟨t,H',q1,R,q2,ρ',μ',q3,q4,q5,q6,q7⟩:=Xr hc hcall hF hg hrs;refine⟨qU fr o.dst t,H',s.pend,q1.mono λn d q=> ?_,_,bQ.2 ⟨R,q2,rfl⟩,ρ',μ',q3,q4,rfl,⟨q5,q6,(hg.fr.ext q3 q4).put q7 o.dst⟩,.nil⟩;unfold Dt;rw[BZ hF];simp only[LU (P:=P) (H:=H) hc hg.sy.zero hg.fr heff hbs,OT hF,hpd,q]
    .cases h
   .rw[if_neg hbs]at h;cases h
  .split at h
   .rename_i d1 hd1;cases h;have q1:=aHv hav hd1;refine⟨qU fr o.dst (qR fr d1),H,s.pend,.of λn d=> ?_,_,aQ _,U,O,.refl _,.refl _,rfl,⟨hg.sy,hg.hp,hg.fr.put (hg.fr.get d1) o.dst⟩,KL hg.fr.1 hav q1⟩;unfold Dt;rw[BZ hF];simp only[q1]
   .split at h
    .rename_i v hv;cases h;obtain⟨t,q1,ρ',q2,q3,q4⟩:=Ho hc hg.sy hg.hp hg.fr hv;refine⟨qU fr o.dst t,H,s.pend,.of λn d=> ?_,_,aQ _,ρ',O,q2,.refl _,rfl,⟨q3,hg.hp.ext q2,(hg.fr.ext q2 (.refl _)).put q4 o.dst⟩,KL hg.fr.1 hav q1⟩;unfold Dt;rw[BZ hF];simp only[q1]
    .cases h
theorem Ei(hg:GS S U O fr H){d:Tmp}{want:Bool}{a:A}(ha:Gm U O a (qR fr d)){l:List (Bool×AS)}(h:Jc S d want a=some l):
  ∃q∈l,q.1=((match fr[d]? with|some (.bool b)=>some b|_ =>none)==some want)/\GS q.2 U O fr H:=by
 unfold Jc at h;have hgt:∀x,qR fr d=x->x≠pV->fr[d]? =some x:=by
  intro x hx hne;rw[uR,aW]at hx;cases hf:fr[d]? with
  |none=>rw[hf]at hx;exact absurd hx.symm hne|some y=>rw[hf]at hx;rw[<-hx];rfl
 split at h
 .rename_i b;cases h;generalize hx:qR fr d=x at ha;cases ha with
  |bool _ b' hB=>
   obtain⟨cs',m1,m2⟩:=SM hg.sy.cs hB;have:=hgt _ hx (by simp);refine⟨_,bQ.2 ⟨(b',cs'),m1,rfl⟩,?_,⟨hg.sy.len,hg.sy.zero,m2⟩,hg.hp,hg.fr.setSame (by rw[hx];exact .bool _ _ rfl)⟩;rw[this];cases b'<;>cases want<;>rfl
 .cases h;refine⟨_,aQ _,?_,hg.sy,hg.hp,hg.fr.setSame ha⟩;generalize hx:qR fr d=x at ha;cases ha with
  |tup _ ts hl _ =>
   have:ts=[]:=by cases ts with|nil=>rfl|cons=>simp at hl
   subst this;rw[uR,aW]at hx;cases hf:fr[d]? with
   |none=>cases want<;>rfl|some y=>rw[hf]at hx;simp only[fL]at hx;subst hx;cases want<;>rfl
 .cases h
theorem EW(hg:GS S U O fr H){ops:fZ}{o:Oper}{l:List (Bool×AS)}(h:LQ ops S o=some l):∃q∈l,q.1=qH ops fr o/\GS q.2 U O fr H:=by
 unfold LQ at h;unfold qH;split at h
 .rename_i hgd;cases h;exact⟨_,aQ _,by rw[hgd],hg⟩
 .rename_i j want hgd;rw[hgd];simp only[BJ];split at h
  .rename_i d hd;rw[hd];simp only[eL];have hget:=hg.fr.get d;split at h
   .rename_i a_s hb;rw[hb]at hget;cases hget with
    |or _ a _ hm ha=>
     obtain⟨r,r1,r2⟩:=rS h a hm;obtain⟨q,q1,q2,q3⟩:=Ei hg ha r1;exact⟨q,r2 q q1,q2,q3⟩
   .obtain⟨q,q1,q2,q3⟩:=Ei hg hget h;exact⟨q,q1,q2,q3⟩
  .cases h
theorem Gu(hg:GS S U O fr H){i:Tmp}{k:iE}{s:Nat}{c w:Int}(hw:U[s]? =some w)(hx:qR fr i= .int k (w+c))(hk:HG k (w+c))(h0:0<=w+c):∀(n:Nat),w+c<n->∃S'∈Ac S i k s c n,GS S' U O fr H
 |0,h=>by omega
 |v+1,h=>by
  simp only[Ac];by_cases hv:w+c=(v:Int)
  .rw[if_neg]
   .refine⟨_,aL,⟨hg.sy.len,hg.sy.zero,.cons ⟨w,0,hw,hg.sy.zero,by omega⟩ (.cons ⟨0,w,hg.sy.zero,hw,by omega⟩ hg.sy.cs)⟩,hg.hp,hg.fr.setSame ?_⟩;rw[hx,hv];have:=Gm.int (U:=U) (O:=O) k 0 (v:Int) 0 hg.sy.zero (by rw[hv]at hk;simpa using hk);simpa using this
   .simp only[bF,not_or,Bool.not_eq_true];refine⟨?_,?_⟩
    .cases hq:leq S.cs s c 0 ((v:Int)-1)with
     |false=>rfl|true=>have:=qB hg.sy.cs hq hw hg.sy.zero;omega
    .cases hq:leq S.cs 0 ((v:Int)+1) s c with
     |false=>rfl|true=>have:=qB hg.sy.cs hq hg.sy.zero hw;omega
  .obtain⟨S',h1,h2⟩:=Gu hg hw hx hk h0 v (by omega);split
   .exact⟨S',h1,h2⟩
   .exact⟨S',aG _ h1,h2⟩
theorem MO(hg:GS S U O fr H){o:Oper}{l:List AS}(h:GR X S o=some l):∃S'∈l,GS S' U O fr H:=by
 unfold GR at h;split at h
 .rename_i c _ _ _;split at h
  .rename_i p n hb;cases h;have hget:=hg.fr.get c;rw[hb]at hget;generalize hx:qR fr c=x at hget;cases hget with
   |bool _ b' hB=>
    obtain⟨cs',m1,m2⟩:=SM hg.sy.cs hB;exact⟨_,bQ.2 ⟨(b',cs'),m1,rfl⟩,⟨hg.sy.len,hg.sy.zero,m2⟩,hg.hp,hg.fr.setSame (by rw[hx];exact .bool _ _ rfl)⟩
  .cases h
 .split at h
  .rename_i f _;split at h
   .rename_i a_s ho;cases h;have hget:=hg.fr.get f;rw[ho]at hget;cases hget with
    |or _ a _ hm ha=>exact⟨_,bQ.2 ⟨a,hm,rfl⟩,hg.sy,hg.hp,hg.fr.setSame ha⟩
   .cases h
  .cases h
 .rename_i i _;split at h
  .split at h
   .rename_i k s c hi;split at h
    .cases h
    .split at h
     .rename_i hcnd;cases h;simp only[aA]at hcnd;have hget:=hg.fr.get i;rw[hi]at hget;generalize hx:qR fr i=x at hget;cases hget with
      |int _ _ _ w hw hk=>
       have k1:=qB hg.sy.cs hcnd.1 hg.sy.zero hw;have k2:=qB hg.sy.cs hcnd.2 hw hg.sy.zero;exact Gu hg hw hx hk (by omega) 16 (by omega)
     .cases h
   .cases h
  .cases h
 .cases h
theorem xT.lift{l l':jB}{pd:jE}(hl:∀y∈l,y∈l')(h:xT P gl pe F l U O fr H pd):xT P gl pe F l' U O fr H pd:=by
 obtain⟨s,h1,h2⟩:=h;exact⟨s,hl s h1,h2⟩
theorem xT.trans{l:jB}{pd:jE}(e1:uA U ρ')(e2:uA O μ')(h:xT P gl pe F l ρ' μ' fr H pd):xT P gl pe F l U O fr H pd:=by
 obtain⟨s,h1,a,b,h2,h3,h4⟩:=h;exact⟨s,h1,a,b,e1.trans h2,e2.trans h3,h4⟩
theorem RZ(hc:Cn X gl pe)(hcall:yI call ee)(hF:FcA F ee Fe){s:Af}(hg:GS s.S U O fr H)(hav:AvOk P gl pe F s.av fr H){ops:fZ}{o:Oper}{l:jB}(h:ZA P X call F ops s o=some l):
  ∃fr' H' pd,Ev (λn d=>tU P ⟨gl,pe⟩ (Fe n d) ops ⟨fr,H,s.pend⟩ o=some ⟨fr',H',pd⟩)/\xT P gl pe F l U O fr' H' pd:=by
 unfold ZA at h;split at h
 .rename_i gs hgs;obtain⟨q,m1,m2,m3⟩:=EW hg hgs;obtain⟨r,r1,r2⟩:=rS h q m1;split at r1
  .rename_i hq;rw[hq]at m2;split at r1
   .rename_i ss hss;obtain⟨S',p1,p2⟩:=MO m3 hss;obtain⟨u,u1,u2⟩:=rS r1 S' p1;obtain⟨fr',H',pd,e1,e2⟩:=Mz (s:={s with S:=S'}) hc hcall hF p2 hav u1;refine⟨fr',H',pd,e1.mono λn d e=> ?_,e2.lift λy hy=>r2 y (u2 y hy)⟩;rw[SB,if_pos m2.symm];exact e
   .obtain⟨fr',H',pd,e1,e2⟩:=Mz (s:={s with S:=q.2}) hc hcall hF m3 hav r1;refine⟨fr',H',pd,e1.mono λn d e=> ?_,e2.lift r2⟩;rw[SB,if_pos m2.symm];exact e
  .rename_i hq;cases r1;refine⟨qU fr o.dst pV,H,s.pend,.of λn d=> ?_,_,r2 _ (aQ _),U,O,.refl _,.refl _,rfl,⟨m3.sy,m3.hp,m3.fr.put uU o.dst⟩,.nil⟩;rw[SB,if_neg (by rw[<-m2];exact hq)]
 .cases h
theorem Ru{E:tY}{G:Fc}{ops:fZ}{s:Fx}{o:Oper}{d:Tmp}{t:fS}(hp:s.pend=some (d,t))(hno:∀(t':fS) (d':Tmp) (x:jF),o.op= .store t' (.tmp d') x->o.dst=none->o.guard=none->False):
  sE P E G ops s o=if uW ops o d then none else tU P E G ops s o:=by
 unfold sE;rw[hp];simp only
 try(split<;>first|rfl|(rename_i h1 h2 h3;exact(hno _ _ _ h1 h2 h3).elim))
theorem Rs(hc:Cn X gl pe)(hcall:yI call ee)(hF:FcA F ee Fe){s:Af}(hg:GS s.S U O fr H)(hav:AvOk P gl pe F s.av fr H){ops:fZ}{o:Oper}{l:jB}(h:aBc P X call F ops s o=some l):
  ∃fr' H' pd,Ev (λn d=>sE P ⟨gl,pe⟩ (Fe n d) ops ⟨fr,H,s.pend⟩ o=some ⟨fr',H',pd⟩)/\xT P gl pe F l U O fr' H' pd:=by
 unfold aBc at h;split at h
 .rename_i hp;obtain⟨fr',H',pd,e1,e2⟩:=RZ hc hcall hF hg hav h;refine⟨fr',H',pd,e1.mono λn d e=> ?_,e2⟩;unfold sE;simp only[hp]at e⊢;exact e
 .rename_i d t hp;split at h
  .rename_i t' d' x ho hdst hgd;split at h
   .rename_i hdd;have hdd:=pX hdd;split at h
    .rename_i ht;split at h
     .rename_i y n hy hn;split at h
      .rename_i hk;cases h;simp only[aA]at hk;obtain⟨k1,k2,k3⟩:=hk;obtain⟨u,e1,e2⟩:=uZ hc.gl hg.sy.zero hg.fr hy;obtain⟨_,kc⟩:=rX e2 k1;have hul:u.cells.length=n:=by rw[<-kc.1];exact pX k2
       have hstep:∀n' d',sE P ⟨gl,pe⟩ (Fe n' d') ops ⟨fr,H,s.pend⟩ o=some (TS (Fe n' d') ⟨fr,H,s.pend⟩ d t u):=λn' d2=>by
        unfold sE;simp only[hp,ho,hdst,hgd,e1,hn];rw[if_pos hdd,if_pos ht,if_pos ⟨hul,CL kc k3⟩]
       by_cases hFd:F (d+1000)=true
       .refine⟨fr.set d (.ptr H.next 0),H.new {elem:=t,sz:=0,cells:=u.cells},none,.of λn' d2=> ?_,_,aQ _,?_⟩
        .rw[hstep];unfold TS;rw[hF.own,if_pos hFd]
        .obtain⟨ρ',μ',q3,q4,q5,q6,q7⟩:=RP (o:= .fix t y.cells) (b:={elem:=t,sz:=0,cells:=u.cells}) hg.sy hg.hp ⟨⟨rfl,rfl⟩,kc⟩;unfold Vu;rw[if_pos hFd];exact⟨ρ',μ',q3,q4,rfl,⟨q5,q6,(hg.fr.ext q3 q4).setS q7 d⟩,.nil⟩
       .refine⟨fr.set d (.ref u 0),H,none,.of λn' d2=> ?_,_,aQ _,?_⟩
        .rw[hstep];unfold TS;rw[hF.own,if_neg hFd]
        .unfold Vu;rw[if_neg hFd];exact⟨U,O,.refl _,.refl _,rfl,⟨hg.sy,hg.hp,hg.fr.setS (.ref _ _ _ k1 e2) d⟩,.nil⟩
      .cases h
     .cases h
    .cases h
   .rename_i hdd;split at h
    .cases h
    .rename_i htc;obtain⟨fr',H',pd,e1,e2⟩:=RZ hc hcall hF hg hav h;refine⟨fr',H',pd,e1.mono λn d2 e=> ?_,e2⟩;unfold sE;simp only[hp,ho,hdst,hgd]at e⊢;rw[if_neg (λq=>hdd (by rw[q];simp)),if_neg htc];exact e
  .rename_i hno;split at h
   .cases h
   .rename_i htc;obtain⟨fr',H',pd,e1,e2⟩:=RZ hc hcall hF hg hav h;refine⟨fr',H',pd,e1.mono λn d2 e=> ?_,e2⟩;rw[Ru hp hno,if_neg htc];exact e
theorem Lb(hc:Cn X gl pe)(hcall:yI call ee)(hF:FcA F ee Fe){ops:fZ}:∀(os:gW) (s:Af) (U:gJ) (O:fW) (fr:fU) (H:Hp) (l:jB),GS s.S U O fr H->AvOk P gl pe F s.av fr H->Bz P X call F ops os s=some l->
  ∃fr' H' pd,Ev (λn d=>qL P ⟨gl,pe⟩ (Fe n d) ops os ⟨fr,H,s.pend⟩=some ⟨fr',H',pd⟩)/\xT P gl pe F l U O fr' H' pd
 |[],s,U,O,fr,H,l,hg,hav,h=>by
  simp only[Bz]at h;cases h;exact⟨fr,H,s.pend,.of λn d=>rfl,_,aQ _,U,O,.refl _,.refl _,rfl,hg,hav⟩
 |o::rest,s,U,O,fr,H,l,hg,hav,h=>by
  simp only[Bz]at h;split at h
  .rename_i q hq;obtain⟨fr1,H1,pd1,e1,s1,m1,ρ1,μ1,x1,x2,x3,g1,av1⟩:=Rs hc hcall hF hg hav hq;obtain⟨r,r1,r2⟩:=rS h s1 m1;obtain⟨fr2,H2,pd2,e2,k2⟩:=Lb hc hcall hF rest s1 ρ1 μ1 fr1 H1 r g1 av1 r1;rw[x3]at e2;refine⟨fr2,H2,pd2,(e1.and e2).mono λn d ⟨a,b⟩=> ?_,(k2.lift r2).trans x1 x2⟩;simp only[qL,a];exact b
  .cases h
end
section
variable{U ρ':gJ}{O μ':fW}{X:AX}{gl:fY}{pe:gN}{H:Hp}{S:AS}{P:fV}
variable{call:FuncId->List A->AS->Option (List AR)}{ee:gP}{F:hD}{Fe:Nat->Nat->Fc}{fr:fU}
theorem WU(hc:Cn X gl pe){s:Af}(hg:GS s.S U O fr H)(hav:AvOk P gl pe F s.av fr H){o:Oper}{l:jB}(h:EQ P X call F s o=some l)(hp:HB F o=none)(he:IP X (BG F o) s.S.fr o=false):
  ∃t,qK P ⟨gl,pe⟩ (BG F o) H fr o=some t/\xT P gl pe F l U O (qU fr o.dst t) H s.pend:=by
 unfold EQ at h;rw[hp]at h;simp only at h;rw[if_neg (by rw[he];simp)]at h;split at h
 .rename_i d1 hd1;cases h;have q1:=aHv hav hd1;exact⟨_,q1,_,aQ _,U,O,.refl _,.refl _,rfl,⟨hg.sy,hg.hp,hg.fr.put (hg.fr.get d1) o.dst⟩,KL hg.fr.1 hav q1⟩
 .split at h
  .rename_i v hv;cases h;obtain⟨t,q1,ρ',q2,q3,q4⟩:=Ho hc hg.sy hg.hp hg.fr hv;exact⟨t,q1,_,aQ _,ρ',O,q2,.refl _,rfl,⟨q3,hg.hp.ext q2,(hg.fr.ext q2 (.refl _)).put q4 o.dst⟩,KL hg.fr.1 hav q1⟩
  .cases h
theorem Uh{s:Af}(hg:GS s.S U O fr H){o:Oper}{l:jB}(h:EQ P X call F s o=some l){d:Tmp}{t:fS}(hp:HB F o=some (d,t)):
  s.pend.isSome=false/\qK P ⟨gl,pe⟩ (BG F o) H fr o=none/\(∃n z,vZ P t=some n/\yA P t=some z/\z.cells.length=n)/\xT P gl pe F l U O (fr.set d pV) H (some (d,t)):=by
 unfold EQ at h;rw[hp]at h;simp only at h;split at h
 .cases h
 .rename_i hpn;split at h
  .rename_i n z hn hz;split at h
   .rename_i hcc;cases h;simp only[aA]at hcc;obtain⟨⟨k1,k2⟩,k3⟩:=hcc;obtain⟨z',e1,e2⟩:=CX (U:=U) (O:=O) hg.sy.zero hz;have hzl:z'.cells.length=n:=by rw[<-(rX e2 k2).2.1];exact pX k1
    refine⟨by simpa using hpn,?_,⟨n,z',hn,e1,hzl⟩,_,aQ _,U,O,.refl _,.refl _,rfl,⟨hg.sy,hg.hp,hg.fr.setS uU d⟩,.nil⟩;obtain⟨dst,op,type,pos,after,guard⟩:=o;cases op<;>simp only[HB]at hp<;>first|rfl|cases hp
   .cases h
  .cases h
theorem Nh(hc:Cn X gl pe)(hcall:yI call ee)(hF:FcA F ee Fe){ops:fZ}:∀(os:gW) (m:Nat) (s:Af) (U:gJ) (O:fW) (fr:fU) (H:Hp) (l:jB),GS s.S U O fr H->AvOk P gl pe F s.av fr H->NS P X call F ops os m s=some l->
  ∃fr' H' pd,Ev (λn d=>qQ P ⟨gl,pe⟩ (Fe n d) ops os m ⟨fr,H,s.pend⟩=some ⟨fr',H',pd⟩)/\xT P gl pe F l U O fr' H' pd
 |[],m,s,U,O,fr,H,l,hg,hav,h=>by
  simp only[NS]at h;split at h
  .rename_i hp;cases h;exact⟨fr,H,none,.of λn d=>by simp only[qQ,hp],_,aQ _,U,O,.refl _,.refl _,hp,hg,hav⟩
  .cases h
 |o::rest,m,s,U,O,fr,H,l,hg,hav,h=>by
  have ih:=Nh hc hcall hF (ops:=ops) rest;simp only[NS]at h;have hph:∀fr H,CA ops ⟨fr,H,s.pend⟩ o=Qj ops s o:=λfr H=>rfl;have seqs:∀{S':AS} {l':jB},(∀y∈l',y∈l)->GS S' U O fr H->rU (tL ops.toList []) m ops.size=true->Bz P X call F ops (o::rest) {s with S:=S'}=some l'->
    ∃fr' H' pd,Ev (λn d=>qL P ⟨gl,pe⟩ (Fe n d) ops (o::rest) ⟨fr,H,s.pend⟩=some ⟨fr',H',pd⟩)/\xT P gl pe F l U O fr' H' pd:=by
   intro S' l' hl hg' _ hs';obtain⟨fr',H',pd,e1,e2⟩:=Lb hc hcall hF (o::rest) {s with S:=S'} U O fr H l' hg' hav hs';exact⟨fr',H',pd,e1,e2.lift hl⟩
  split at h
  .rename_i hpd;split at h
   .rename_i hch;obtain⟨fr',H',pd,e1,e2⟩:=seqs (λy h=>h) hg hch h;refine⟨fr',H',pd,e1.mono λn d e=> ?_,e2⟩;simp only[qQ,hph];rw[if_pos hpd,if_pos hch];exact e
   .cases h
  .rename_i hpd;split at h
   .cases h
   .rename_i hdi;have hdi:¬xP ⟨fr,H,s.pend⟩ o=false:=by
     intro q;apply hdi;unfold xP at q;unfold PV;split at q
     .rename_i d hd;rw[hd];simp only[decide_eq_false_iff_not]at q;simp only;rw[hg.fr.1];cases hb:Nat.blt d fr.length with
      |false=>rfl|true=>exact absurd (qW hb) q
     .cases q
    split at h
    .rename_i gs hgs;obtain⟨q,m1,m2,m3⟩:=EW hg hgs;obtain⟨r,r1,r2⟩:=rS h q m1;split at r1
     .rename_i hq;rw[hq]at m2;have pureCase:∀{S':AS} {u:jB},GS S' U O fr H->HB F o=none->IP X (BG F o) S'.fr o=false->EQ P X call F {s with S:=S'} o=some u->∀{v:jB},BK (NS P X call F ops rest (m+1)) u=some v->(∀y∈v,y∈l)->
        ∃fr' H' pd,Ev (λn d=>qQ P ⟨gl,pe⟩ (Fe n d) ops (o::rest) m ⟨fr,H,s.pend⟩=some ⟨fr',H',pd⟩)/\xT P gl pe F l U O fr' H' pd:=by
       intro S' u g' hp he hu v hv hl;obtain⟨t,e1,s1,k1,ρ1,μ1,x1,x2,x3,g1,av1⟩:=WU (s:={s with S:=S'}) hc g' hav hu hp he;obtain⟨w,w1,w2⟩:=rS hv s1 k1;obtain⟨fr',H',pd,e2,e3⟩:=ih (m+1) s1 ρ1 μ1 _ _ w g1 av1 w1;refine⟨fr',H',pd,e2.mono λn d e=> ?_,(e3.lift λy hy=>hl y (w2 y hy)).trans x1 x2⟩;simp only[qQ,hph];rw[if_neg hpd,if_neg hdi,if_pos m2.symm,BZ hF,e1];simp only;rw[x3]at e;exact e
      have effCase:∀{S':AS} {u:jB},GS S' U O fr H->HB F o=none->IP X (BG F o) S'.fr o=true->(if(WJ (BG F o) o&&rU (tL ops.toList []) m ops.size)=true then Bz P X call F ops (o::rest) {s with S:=S'}else none)=some u->(∀y∈u,y∈l)->
        ∃fr' H' pd,Ev (λn d=>qQ P ⟨gl,pe⟩ (Fe n d) ops (o::rest) m ⟨fr,H,s.pend⟩=some ⟨fr',H',pd⟩)/\xT P gl pe F l U O fr' H' pd:=by
       intro S' u g' hp he hu hl;split at hu
       .rename_i hch;simp only[aA]at hch;obtain⟨hbs,hch⟩:=hch;obtain⟨fr',H',pd,e1,e2⟩:=seqs hl g' hch hu;refine⟨fr',H',pd,e1.mono λn d e=> ?_,e2⟩;simp only[qQ,hph];rw[if_neg hpd,if_neg hdi,if_pos m2.symm,BZ hF,LU (P:=P) (H:=H) hc g'.sy.zero g'.fr he hbs];simp only[OT hF,hp];rw[if_pos hch];exact e
       .cases hu
      split at r1
      .rename_i dt hdt;split at r1
       .rename_i ss hss;obtain⟨d,t⟩:=dt;obtain⟨k1,k2,⟨n0,z,k3,k4,k5⟩,s1,k6,ρ1,μ1,x1,x2,x3,g1,av1⟩:=Uh (gl:=gl) (pe:=pe) (s:={s with S:=q.2}) m3 hss hdt;obtain⟨w,w1,w2⟩:=rS r1 s1 k6;obtain⟨fr',H',pd,e2,e3⟩:=ih (m+1) s1 ρ1 μ1 _ _ w g1 av1 w1;refine⟨fr',H',pd,e2.mono λn d' e=> ?_,(e3.lift λy hy=>r2 y (w2 y hy)).trans x1 x2⟩;simp only[qQ,hph];rw[if_neg hpd,if_neg hdi,if_pos m2.symm,BZ hF,k2];simp only[OT hF,hdt,k3,k4];rw[if_neg (by simpa using k1),if_pos k5];rw[x3]at e;exact e
       .cases r1
      .rename_i hdt;split at r1
       .rename_i ss hss;obtain⟨S',p1,p2⟩:=MO m3 hss;obtain⟨u,u1,u2⟩:=rS r1 S' p1;split at u1
        .rename_i he;exact effCase p2 hdt he u1 (λy hy=>r2 y (u2 y hy))
        .rename_i he;split at u1
         .rename_i w hw;exact pureCase p2 hdt (by simpa using he) hw u1 (λy hy=>r2 y (u2 y hy))
         .cases u1
       .split at r1
        .rename_i he;exact effCase m3 hdt he r1 r2
        .rename_i he;split at r1
         .rename_i w hw;exact pureCase m3 hdt (by simpa using he) hw r1 r2
         .cases r1
     .rename_i hq;obtain⟨fr',H',pd,e2,e3⟩:=ih (m+1) {S:={q.2 with fr:=MH q.2.fr o.dst (.tup [])},pend:=s.pend,av:=[]} U O (qU fr o.dst pV) H r ⟨m3.sy,m3.hp,m3.fr.put uU o.dst⟩ .nil r1;refine⟨fr',H',pd,e2.mono λn d e=> ?_,e3.lift r2⟩;simp only[qQ,hph];rw[if_neg hpd,if_neg hdi,if_neg (by rw[<-m2];exact hq)];exact e
    .cases h
theorem aPu(hc:Cn X gl pe)(hg:GS S U O fr H){l lc:Nat}(hl:O[l]? =some (some lc)){o:Oper}(h:aPt X l S o=true):hOk gl lc fr o=true:=by
 unfold aPt at h;unfold hOk;have ne:∀{l' x:Nat},O[l']? =some (some x)->(!(Nat.beq l' l)&&((pY S.hp l).isSome&&(pY S.hp l').isSome))=true->x≠lc:=by
  intro l' x hx hh e;subst e;simp only[aA,bW]at hh;obtain⟨h1,h2,h3⟩:=hh;obtain⟨o1,q1⟩:=Option.isSome_iff_exists.1 h2;obtain⟨o2,q2⟩:=Option.isSome_iff_exists.1 h3;have:=hg.hp.inj l' l o2 o1 x q2 q1 hx hl;subst this;simp at h1
 split at h
 .rename_i t a ho;rw[ho];simp only;split at h
  .rename_i x off ha;obtain⟨u,u1,u2⟩:=uZ hc.gl hg.sy.zero hg.fr ha;cases u2;rw[u1]
  .rename_i l' off ha;obtain⟨u,u1,u2⟩:=uZ hc.gl hg.sy.zero hg.fr ha;cases u2 with
   |ptr _ _ x hx=>rw[u1];simpa using ne hx h
  .rename_i l' _ _ _ _ ha;obtain⟨u,u1,u2⟩:=uZ hc.gl hg.sy.zero hg.fr ha;cases u2 with
   |elp _ _ _ _ _ x w hx _ _ =>rw[u1];simpa using ne hx h
  .cases h
 .rename_i c ho;rw[ho];simp only;split at h
  .rename_i hb;rw[hb];simp only;rw[aH]at h⊢;intro x hx;have hq:=h x hx;have no:∀(a:A) (u:T),PX X.gl S.fr x=some a->Gm U O a u->qG gl fr x=some u->(match a with| .str .. | .strc _ | .sl .. | .osl .. | .nils| .sx .. | .nilm=>true|_ =>false)=true->(match qG gl fr x with|some (.mp _)=>false|_ =>true)=true:=by
    intro a u _ hg he ha;rw[he];cases u<;>first|rfl|(exfalso;cases a<;>first|(cases ha;done)|(cases hg<;>simp_all [CK]))
   cases ha:PX X.gl S.fr x with
   |none=>rw[ha]at hq;cases hq
   |some a=>
    obtain⟨u,u1,u2⟩:=uZ hc.gl hg.sy.zero hg.fr ha;refine no a u ha u2 u1 ?_;rw[ha]at hq;cases a<;>first|rfl|(cases hq;done)
  .rename_i b hb hne;rw[hne];cases b<;>first|rfl|exact absurd rfl hb
  .cases h
 .cases h
 .rename_i n1 n2 n3;split
  .rename_i t a ho;exact absurd ho (n1 _ _)
  .rename_i c ho;exact absurd ho (n2 _)
  .rename_i ho;exact absurd ho (n3 _ _ _ _)
  .rfl
theorem Du(hc:Cn X gl pe)(hcall:yI call ee)(hF:FcA F ee Fe){ops:fZ}{A:gI}{p l lc:Nat}:∀(os:gW) (m:Nat) (af:Bool) (s:Af) (U:gJ) (O:fW) (fr:fU) (H:Hp) (l':jB),GS s.S U O fr H->AvOk P gl pe F s.av fr H->s.pend=none->O[l]? =some (some lc)->LJ P X call F ops A p l os m af s=some l'->
  ∃fr' H' pd,Ev (λn d=>tC P ⟨gl,pe⟩ (Fe n d) ops A p lc os m af ⟨fr,H,none⟩=some ⟨fr',H',pd⟩)/\xT P gl pe F l' U O fr' H' pd
 |[],m,af,s,U,O,fr,H,l',hg,hav,hpn,hl,h=>by
  simp only[LJ]at h;split at h
  .rename_i ha;cases h;exact⟨fr,H,none,.of λn d=>by simp only[tC,ha,if_true],_,aQ _,U,O,.refl _,.refl _,hpn,hg,hav⟩
  .cases h
 |o::rest,m,af,s,U,O,fr,H,l',hg,hav,hpn,hl,h=>by
  have ih:=Du hc hcall hF (ops:=ops) (A:=A) (p:=p) (l:=l) (lc:=lc) rest;simp only[LJ]at h;split at h
  .rename_i hch;obtain⟨fr',H',pd,e1,e2⟩:=Lb hc hcall hF (o::rest) s U O fr H l' hg hav h;rw[hpn]at e1;refine⟨fr',H',pd,e1.mono λn d e=> ?_,e2⟩;simp only[tC];rw[if_pos hch];exact e
  .rename_i hch;split at h
   .cases h
   .rename_i hdi;have hdi:¬xP ⟨fr,H,none⟩ o=false:=by
     intro q;apply hdi;unfold xP at q;unfold PV;split at q
     .rename_i d hd;rw[hd];simp only[decide_eq_false_iff_not]at q;simp only;rw[hg.fr.1];cases hb:Nat.blt d fr.length with
      |false=>rfl|true=>exact absurd (qW hb) q
     .cases q
    split at h
    .rename_i hst;split at h
     .cases h
     .rename_i haf;split at h
      .rename_i t x y hop;split at h
       .rename_i l0 off v hx hy;split at h
        .rename_i hll;have hll:=pX hll;subst hll;split at h
         .rename_i R hR;obtain⟨q,q1,q2⟩:=uZ hc.gl hg.sy.zero hg.fr hx;obtain⟨w,w1,w2⟩:=uZ hc.gl hg.sy.zero hg.fr hy;have q2':=q2;cases q2 with
          |ptr _ _ x0 hx0=>
          rw[hl]at hx0;cases hx0;obtain⟨H1,s1,ρ1,μ1,z1,z2,z3,z4,z5⟩:=Ha hg.sy hg.hp q2' w2 hR;obtain⟨fr',H',pd,e1,e2⟩:=ih (m+1) true {S:={s.S with hp:=R.hp,nx:=R.nx,nl:=R.nl,cs:=R.cs},pend:=none,av:=[]} ρ1 μ1 fr H1 l' ⟨z3,z4,hg.fr.ext z1 z2⟩ .nil rfl (z2 _ _ hl) h;refine⟨fr',H',pd,e1.mono λn d e=> ?_,e2.trans z1 z2⟩;simp only[tC];rw[if_neg hch,if_neg hdi,if_pos hst,if_neg haf];simp only[hop,q1,w1,if_true,s1];have:af=false:=by simpa using haf
          exact e
         .cases h
        .cases h
       .cases h
      .cases h
    .rename_i hst;split at h
     .rename_i gs hgs;obtain⟨q,m1,m2,m3⟩:=EW hg hgs;obtain⟨r,r1,r2⟩:=rS h q m1;split at r1
      .rename_i hq;rw[hq]at m2;by_cases hcc:(((if af=true then vQ A m p else vQ A p m)||aPt X l q.2 o)&&((HB F o).isNone&& !(IP X (BG F o) q.2.fr o)))=true
       .rw[if_pos hcc]at r1;rw[aA,aA,bW,Option.isNone_iff_eq_none]at hcc;obtain⟨c1,c2,c3⟩:=hcc;split at r1
        .rename_i ss hss;have hh:((if af=true then vQ A m p else vQ A p m)||hOk gl lc fr o)=true:=by
          rcases bF _ _ |>.mp c1 with q|q
          .rw[q];rfl
          .rw[aPu hc m3 hl q];simp
         obtain⟨t,e1,s1,k1,ρ1,μ1,x1,x2,x3,g1,av1⟩:=WU (s:={s with S:=q.2}) hc m3 hav hss c2 c3;obtain⟨w,w1,w2⟩:=rS r1 s1 k1;obtain⟨fr',H',pd,e2,e3⟩:=ih (m+1) af s1 ρ1 μ1 _ _ w g1 av1 (by rw[x3];exact hpn) (x2 _ _ hl) w1;refine⟨fr',H',pd,e2.mono λn d e=> ?_,(e3.lift λy hy=>r2 y (w2 y hy)).trans x1 x2⟩;simp only[tC];rw[if_neg hch,if_neg hdi,if_neg hst,if_pos m2.symm,if_pos hh,BZ hF,e1];exact e
        .cases r1
       .rw[if_neg hcc]at r1;cases r1
      .rename_i hq;obtain⟨fr',H',pd,e2,e3⟩:=ih (m+1) af {S:={q.2 with fr:=MH q.2.fr o.dst (.tup [])},pend:=s.pend,av:=[]} U O (qU fr o.dst pV) H r ⟨m3.sy,m3.hp,m3.fr.put uU o.dst⟩ .nil hpn hl r1;refine⟨fr',H',pd,e2.mono λn d e=> ?_,e3.lift r2⟩;simp only[tC];rw[if_neg hch,if_neg hdi,if_neg hst,if_neg (by rw[<-m2];exact hq)];exact e
     .cases h
theorem aJh(hc:Cn X gl pe)(hg:GS S U O fr H){o:Oper}(h:Oj X S o=true):Jd gl fr o=true:=by
 unfold Oj at h;unfold Jd;split at h
 .rename_i t a ho;rw[ho];simp only;split at h
  .rename_i x off ha;obtain⟨u,u1,u2⟩:=uZ hc.gl hg.sy.zero hg.fr ha;cases u2;rw[u1]
  .cases h
 .rename_i c ho;rw[ho];simp only;split at h
  .rename_i hb;rw[hb];simp only;rw[aH]at h⊢;intro x hx;have hq:=h x hx;have no:∀(a:A) (u:T),Gm U O a u->qG gl fr x=some u->(match a with| .str .. | .strc _ | .sl .. | .osl .. | .nils| .sx .. | .nilm| .slk _ | .slp .. =>true|_ =>false)=true->(match qG gl fr x with|some (.mp _)=>false|_ =>true)=true:=by
    intro a u hg he ha;rw[he];cases u<;>first|rfl|(exfalso;cases a<;>first|(cases ha;done)|(cases hg<;>simp_all [CK]))
   cases ha:PX X.gl S.fr x with
   |none=>rw[ha]at hq;cases hq
   |some a=>
    obtain⟨u,u1,u2⟩:=uZ hc.gl hg.sy.zero hg.fr ha;refine no a u u2 u1 ?_;rw[ha]at hq;cases a<;>first|rfl|(cases hq;done)
  .rename_i b hb hne;rw[hne];cases b<;>first|rfl|exact absurd rfl hb
  .cases h
 .cases h
 .rename_i n1 n2 n3;split
  .rename_i t a ho;exact absurd ho (n1 _ _)
  .rename_i c ho;exact absurd ho (n2 _)
  .rename_i ho;exact absurd ho (n3 _ _ _ _)
  .rfl
abbrev jT:=List (AS×List Nat×List Nat)
def bJq(l:jT)(U:gJ)(O:fW)(f:fU)(H:Hp)(es ds:gI):Prop:=
 ∃q∈l,q.2.1=es/\(∀d∈ds,d∈q.2.2)/\∃ρ' μ',uA U ρ'/\uA O μ'/\GS q.1 ρ' μ' f H
theorem Mt{m:Nat}{e d:Bool}{l:Option (List (AS×List Nat×List Nat))}{r:jT}(h:Xw m e d l=some r):∃l',l=some l'/\∀q∈l',(q.1,(if e then m::q.2.1 else q.2.1),(if d then m::q.2.2 else q.2.2))∈r:=by
 unfold Xw at h;split at h
 .rename_i l';cases h;exact⟨l',rfl,λq hq=>bQ.2 ⟨q,hq,rfl⟩⟩
 .cases h
theorem Nq(hc:Cn X gl pe)(hcall:yI call ee)(hF:FcA F ee Fe){ops:fZ}:∀(os:gW) (m:Nat) (S:AS) (U:gJ) (O:fW) (fr:fU) (H:Hp) (l:jT),GS S U O fr H->WX P X call F ops os m S=some l->
  ∃f H' es ds,Ev (λn d=>KQ P ⟨gl,pe⟩ (Fe n d) ops os m fr H=some (f,H',es,ds))/\bJq l U O f H' es ds
 |[],m,S,U,O,fr,H,l,hg,h=>by
  simp only[WX]at h;cases h;exact⟨fr,H,[],[],.of λn d=>rfl,_,aQ _,rfl,λd hd=>by simp at hd,U,O,.refl _,.refl _,hg⟩
 |o::rest,m,S,U,O,fr,H,l,hg,h=>by
  have ih:=Nq hc hcall hF (ops:=ops) rest;simp only[WX]at h;split at h
  .cases h
  .rename_i hdi;have hdi:¬xP ⟨fr,H,none⟩ o=false:=by
    intro q;apply hdi;unfold xP at q;unfold PV;split at q
    .rename_i d hd;rw[hd];simp only[decide_eq_false_iff_not]at q;simp only;rw[hg.fr.1];cases hb:Nat.blt d fr.length with
     |false=>rfl|true=>exact absurd (qW hb) q
    .cases q
   split at h
   .rename_i gs hgs;obtain⟨q,m1,m2,m3⟩:=EW hg hgs;obtain⟨r,r1,r2⟩:=rS h q m1;split at r1
    .rename_i hq;rw[hq]at m2;have hsp:∃S'∈(match GR X q.2 o with|some ss=>ss|none=>[q.2]),GS S' U O fr H:=by
      cases hs:GR X q.2 o with
      |none=>exact⟨q.2,aQ _,m3⟩|some ss=>exact MO m3 hs
     obtain⟨S',s1,g'⟩:=hsp;obtain⟨u,u1,u2⟩:=rS r1 S' s1;have lift:∀y∈u,y∈l:=λy hy=>r2 y (u2 y hy);split at u1
     .rename_i heff;split at u1
      .rename_i hbs;split at u1
       .rename_i rs hrs;obtain⟨t,H1,e1,R,R1,ρ1,μ1,x1,x2,x3,x4,x5⟩:=Xr (Fe:=Fe) hc hcall hF g' hrs;obtain⟨w,w1,w2⟩:=rS u1 R R1;obtain⟨l',rfl',z⟩:=Mt w1;have g1:GS (S'.ofR o.dst R) ρ1 μ1 (qU fr o.dst t) H1:=⟨x3,x4,(g'.fr.ext x1 x2).put x5 o.dst⟩;obtain⟨f,H',es,ds,e2,q2,k1,k2,k3,ρ2,μ2,y1,y2,y3⟩:=ih (m+1) _ ρ1 μ1 _ _ l' g1 rfl';refine⟨f,H',m::es,ds,(e1.and e2).mono λn d ⟨a,b⟩=> ?_,_,lift _ (w2 _ (z q2 k1)),by simp[k2],by simpa using k3,ρ2,μ2,x1.trans y1,x2.trans y2,y3⟩;simp only[KQ];rw[if_neg hdi,if_pos m2.symm,BZ hF,LU (P:=P) (H:=H) hc g'.sy.zero g'.fr heff hbs];simp only[a,b]
       .cases u1
      .cases u1
     .split at u1
      .rename_i v hv;obtain⟨t,e1,ρ1,x1,x2,x3⟩:=Ho hc g'.sy g'.hp g'.fr hv;obtain⟨l',rfl',z⟩:=Mt u1;have g1:GS {S' with fr:=MH S'.fr o.dst v.a,nx:=v.nx,cs:=v.cs} ρ1 O (qU fr o.dst t) H:=⟨x2,g'.hp.ext x1,(g'.fr.ext x1 (.refl _)).put x3 o.dst⟩;obtain⟨f,H',es,ds,e2,q2,k1,k2,k3,ρ2,μ2,y1,y2,y3⟩:=ih (m+1) _ ρ1 O _ _ l' g1 rfl';refine⟨f,H',es,if Jd gl fr o then ds else m::ds,e2.mono λn d b=> ?_,_,lift _ (z q2 k1),by simp[k2],λd hd=> ?_,ρ2,μ2,x1.trans y1,y2,y3⟩
       .simp only[KQ];rw[if_neg hdi,if_pos m2.symm,BZ hF,e1];simp only[b]
       .by_cases hh:Oj X S' o=true
        .rw[if_pos (aJh hc g' hh)]at hd;simp only[hh,Bool.not_true,aY,if_false];exact k3 d hd
        .have hh:Oj X S' o=false:=by simpa using hh
         simp only[hh,Bool.not_false,if_true];split at hd
         .exact aG _ (k3 d hd)
         .rcases aR.1 hd with rfl|hd
          .exact aL
          .exact aG _ (k3 d hd)
      .cases u1
    .rename_i hq;have hw:¬qH ops fr o=true:=λe=>by rw[<-m2]at e;exact hq e
     have g1:GS {q.2 with fr:=MH q.2.fr o.dst (.tup [])} U O (qU fr o.dst pV) H:=⟨m3.sy,m3.hp,m3.fr.put uU o.dst⟩;obtain⟨f,H',es,ds,e2,q2,k1,k2,k3,z⟩:=ih (m+1) _ U O _ _ r g1 r1;refine⟨f,H',es,ds,e2.mono λn d b=> ?_,q2,r2 _ k1,k2,k3,z⟩;simp only[KQ];rw[if_neg hdi,if_neg hw];exact b
   .cases h
theorem aDm{A es ds ds':gI}(h:Ez A es ds=true)(hd:∀d∈ds',d∈ds):Ez A es ds'=true:=by
 simp only[Ez,aA,aH]at h⊢;exact⟨h.1,λd hdd=>h.2 d (hd d hdd)⟩
theorem aCi(hc:Cn X gl pe)(hcall:yI call ee)(hF:FcA F ee Fe){ops:fZ}(hg:GS S U O fr H){l':jB}(h:Ui P X call F ops S=some l'):
  ∃fr' H' pd,Ev (λn d=>HS P ⟨gl,pe⟩ (Fe n d) ops fr H=some ⟨fr',H',pd⟩)/\xT P gl pe F l' U O fr' H' pd:=by
 unfold Ui at h;split at h
 .rename_i l hl;split at h
  .rename_i hk;cases h;obtain⟨f,H',es,ds,e1,q,q1,q2,q3,ρ',μ',x1,x2,x3⟩:=Nq (Fe:=Fe) hc hcall hF ops.toList 0 S U O fr H l hg hl;have hw:=aH.1 hk q q1;rw[q2]at hw;refine⟨f,H',none,e1.mono λn d e=> ?_,⟨q.1,none,[]⟩,bQ.2 ⟨q,q1,rfl⟩,ρ',μ',x1,x2,rfl,x3,.nil⟩;simp only[HS,e];rw[if_pos (aDm hw q3)]
  .cases h
 .cases h
theorem aCj(hc:Cn X gl pe)(hcall:yI call ee)(hF:FcA F ee Fe){ops:fZ}{fl:Bool}(hg:GS S U O fr H){l':jB}(h:Uj P X call F fl ops S=some l'):
  ∃fr' H' pd,Ev (λn d=>AB P ⟨gl,pe⟩ (Fe n d) ops fl fr H=some ⟨fr',H',pd⟩)/\xT P gl pe F l' U O fr' H' pd:=by
 unfold Uj at h;split at h
 .rename_i hlk;obtain⟨fr',H',pd,e1,e2⟩:=aCi (Fe:=Fe) hc hcall hF hg h;exact⟨fr',H',pd,e1.mono λn d e=>by unfold AB;rw[if_pos hlk];exact e,e2⟩
 rename_i hlk;split at h
 .rename_i hlt;split at h
  .rename_i b p hb hp;split at h
   .rename_i l off hv;have hget:=hg.fr.get b;rw[hv]at hget;generalize hz:qR fr b=z at hget;cases hget with
    |ptr _ _ lc hlc=>
     obtain⟨fr',H',pd,e1,e2⟩:=Du hc hcall hF ops.toList 0 false ⟨S,none,[]⟩ U O fr H l' hg .nil rfl hlc h;refine⟨fr',H',pd,e1.mono λn d e=> ?_,e2⟩;unfold AB;rw[if_neg hlk];unfold rW;rw[if_pos hlt,hb,hp];simp only[hz];exact e
   .cases h
  .cases h
 .rename_i hlt;obtain⟨fr',H',pd,e1,e2⟩:=Nh hc hcall hF ops.toList 0 ⟨S,none,[]⟩ U O fr H l' hg .nil h;refine⟨fr',H',pd,e1.mono λn d e=> ?_,e2⟩;unfold AB;rw[if_neg hlk];unfold rW;rw[if_neg hlt];exact e
end
end Go.Ps
namespace Go.Ps
noncomputable section
structure SR(r r':Lr):Prop where
 fr:r'.fr=r.fr
 n:r'.n=r.n
 ps:r'.ps=r.ps
 asg:r'.asg=r.asg
 bd:r'.bd=r.bd
 ow:r'.ow=r.ow
theorem SR.refl(r:Lr):SR r r:=⟨rfl,rfl,rfl,rfl,rfl,rfl⟩
theorem SR.trans{a b c:Lr}(h:SR a b)(k:SR b c):SR a c:=⟨k.fr.trans h.fr,k.n.trans h.n,k.ps.trans h.ps,k.asg.trans h.asg,k.bd.trans h.bd,k.ow.trans h.ow⟩
structure rL(H H':Hp):Prop where
 nx:H.next<=H'.next
 lp:∀l,l<H.next->∀o' r',H'.any l=some o'->o'.me=some (.loop r')->∃o r,H.any l=some o/\o.me=some (.loop r)/\SR r r'
theorem rL.refl(H:Hp):rL H H:=⟨aZ _,λ_ _ o' r' h1 h2=>⟨o',r',h1,h2,.refl _⟩⟩
theorem rL.trans{A B C:Hp}(h:rL A B)(k:rL B C):rL A C:=⟨fB h.nx k.nx,λl hl o' r' h1 h2=>by
 obtain⟨o1,r1,q1,q2,q3⟩:=k.lp l (bT hl h.nx) o' r' h1 h2;obtain⟨o0,r0,p1,p2,p3⟩:=h.lp l hl o1 r1 q1 q2
 exact⟨o0,r0,p1,p2,p3.trans q3⟩⟩
theorem rL.new(H:Hp)(o:Ob):rL H (H.new o):=⟨Nat.le_succ _,λl hl o' r' h1 h2=>by
 rw[sB,if_neg (by omega)]at h1
 exact⟨o',r',h1,h2,.refl _⟩⟩
theorem rL.drop(H:Hp)(l:Nat):rL H (H.drop l):=⟨aZ _,λm _ o' r' h1 h2=>by
 rw[sA]at h1;split at h1
 .cases h1
 .exact⟨o',r',h1,h2,.refl _⟩⟩
theorem rL.put(H:Hp)(l:Nat)(o:Ob)(h:∀r,o.me≠some (.loop r)):rL H (H.put l o):=⟨aZ _,λm _ o' r' h1 h2=>by
 rw[sH]at h1;split at h1
 .cases h1;exact absurd h2 (h r')
 .exact⟨o',r',h1,h2,.refl _⟩⟩
theorem rL.putL{H:Hp}{l:Nat}{o:Ob}{r:Lr}(ho:H.any l=some o)(hm:o.me=some (.loop r))(r1:Lr)(hr:SR r r1):rL H (H.put l (DE r1)):=⟨aZ _,λm _ o' r' h1 h2=>by
 rw[sH]at h1;split at h1
 .rename_i e;subst e;cases h1;cases h2;exact⟨o,r,ho,hm,hr⟩
 .exact⟨o',r',h1,h2,.refl _⟩⟩
theorem rL.putM(H:Hp)(l:Nat)(o:Ob)(c:Nat)(es:gS):rL H (Go.Ps.putM H l o c es):=rL.put _ _ _ (λr h=>by cases h)
section
variable{P:fV}{E:tY}{F:Fc}
theorem Aj{H H':Hp}{t:fS}{p x:T}(h:wF P H t p x=some H'):rL H H':=by
 unfold wF at h;split at h
 .split at h
  .rename_i o n ho hn;split at h
   .cases h;exact rL.put _ _ _ (λr e=>by rw[show _ =o.me from rfl,(qP ho).2]at e;cases e)
   .cases h
  .cases h
 .cases h
theorem Hv{H H':Hp}{t tx:fS}{s x r:T}(h:DI P H t tx s x=some (r,H')):rL H H':=by
 unfold DI at h;split at h
 .split at h
  .split at h
   .cases h
   .cases h;exact rL.refl _
  .cases h
 .cases h
theorem Mp{H H':Hp}{t tx:fS}{s x r:T}(h:uL P H t tx s x=some (r,H')):rL H H':=by
 unfold uL at h;split at h
 .split at h
  .split at h
   .cases h
   .split at h
    .split at h
     .cases h;exact .refl _
     .split at h
      .cases h;exact .new _ _
      .cases h
    .split at h
     .cases h;exact .refl _
     .split at h
      .cases h;exact .new _ _
      .cases h
    .split at h
     .cases h;exact .refl _
     .split at h
      .split at h
       .cases h;exact(rL.drop _ _).trans (.new _ _)
       .cases h
      .cases h
    .cases h
  .cases h
 .cases h
theorem aBt{H H':Hp}{pa:Bool}{t tx:fS}{s x r:T}(h:WB P pa H t tx s x=some (r,H')):rL H H':=by
 unfold WB at h;split at h
 .exact Hv h
 .exact Mp h
theorem aDg{H H':Hp}{t:fS}{l c r:T}(h:tG P H t l c=some (r,H')):rL H H':=by
 unfold tG at h;split at h
 .split at h
  .split at h
   .cases h;exact .new _ _
   .cases h
  .cases h
 .cases h
theorem Sg{H H':Hp}{t:fS}{m k x:T}(h:SN P H t m k x=some H'):rL H H':=by
 unfold SN at h;split at h
 .split at h
  .cases h;exact .putM _ _ _ _ _
  .cases h
 .cases h;exact .putM _ _ _ _ _
 .cases h
theorem Ur{H H':Hp}{t:fS}{m k r:T}(h:HP P H t m k=some (r,H')):rL H H':=by
 unfold HP at h;split at h
 .split at h
  .cases h;exact .putM _ _ _ _ _
  .cases h
 .split at h
  .cases h;exact .putM _ _ _ _ _
  .cases h
 .cases h
theorem Nu{H H':Hp}{m s x:T}(h:vR H m s x=some H'):rL H H':=by
 unfold vR at h;split at h
 .split at h
  .split at h
   .split at h
    .cases h;exact .putM _ _ _ _ _
    .cases h
   .cases h
  .cases h
 .cases h
theorem aHw{H H':Hp}{t:fS}{m k:T}(h:Nf P H t m k=some H'):rL H H':=by
 unfold Nf at h;split at h
 .cases h;exact .putM _ _ _ _ _
 .cases h;exact .putM _ _ _ _ _
 .cases h
theorem Nn(hF:∀f ts H r H',F.ee f ts H=some (r,H')->rL H H'){H H':Hp}{fr:fU}{o:Oper}{v:T}(h:xF P E F H fr o=some (v,H')):rL H H':=by
 obtain⟨dst,op,ty,pos,after,guard⟩:=o;cases op<;>simp only[xF]at h<;>try(cases h;done)
 case alloc t=>split at h<;>cases h;exact .new _ _
 case box t x=>split at h<;>cases h;exact .new _ _
 case buildSlice t len ps=>
  split at h
  .split at h
   .split at h
    .cases h;exact .new _ _
    .cases h
   .cases h
  .cases h
 case store t p x=>
  split at h
  .split at h
   .rename_i hs;cases h;exact Aj hs
   .cases h
  .cases h
 case makeSlice t l c=>
  split at h
  .exact aDg h
  .cases h
 case makeMap t r=>
  split at h
  .split at h
   .cases h;exact .new _ _
   .cases h
  .cases h
 case mapUpdate t m k x=>
  split at h
  .split at h
   .rename_i hs;cases h;exact Sg hs
   .cases h
  .cases h
 case insert t m k x=>
  split at h
  .split at h
   .rename_i hs;cases h;exact Sg hs
   .cases h
  .cases h
 case mapEntry t m k=>
  split at h
  .exact Ur h
  .cases h
 case entryStore t m s x=>
  split at h
  .split at h
   .rename_i hs;cases h;exact Nu hs
   .cases h
  .cases h
 case call c=>
  split at h
  .split at h
   .split at h
    .exact hF _ _ _ _ _ h
    .cases h
   .cases h
  .split at h
   .split at h
    .split at h
     .rename_i hs;cases h;exact aHw hs
     .cases h
    .cases h
   .cases h
  .split at h
   .split at h
    .exact aBt h
    .cases h
   .cases h
  .cases h
theorem MF(hF:∀f ts H r H',F.ee f ts H=some (r,H')->rL H H'){ops:fZ}{s s':Fx}{o:Oper}(h:tU P E F ops s o=some s'):rL s.H s'.H:=by
 unfold tU at h;split at h
 .split at h
  .cases h;exact .refl _
  .split at h
   .split at h
    .cases h
    .split at h
     .split at h
      .cases h;exact .refl _
      .cases h
     .cases h
   .split at h
    .rename_i he;cases h;exact Nn hF he
    .cases h
 .cases h;exact .refl _
theorem Gy(hF:∀f ts H r H',F.ee f ts H=some (r,H')->rL H H'){ops:fZ}{s s':Fx}{o:Oper}(h:sE P E F ops s o=some s'):rL s.H s'.H:=by
 unfold sE at h;split at h
 .exact MF hF h
 .split at h
  .split at h
   .split at h
    .split at h
     .split at h
      .cases h;unfold TS;split
       .exact .new _ _
       .exact .refl _
      .cases h
     .cases h
    .cases h
   .split at h
    .cases h
    .exact MF hF h
  .split at h
   .cases h
   .exact MF hF h
theorem BS(hF:∀f ts H r H',F.ee f ts H=some (r,H')->rL H H'){ops:fZ}:∀{l:gW} {s s':Fx},qL P E F ops l s=some s'->rL s.H s'.H
 |[],s,s',h=>by cases h;exact .refl _
 |o::l,s,s',h=>by
  simp only[qL]at h;split at h
  .rename_i s1 hs;exact(Gy hF hs).trans (BS hF h)
  .cases h
theorem JS(hF:∀f ts H r H',F.ee f ts H=some (r,H')->rL H H'){ops:fZ}:∀{l:gW} {m:Nat} {s s':Fx},qQ P E F ops l m s=some s'->rL s.H s'.H
 |[],m,s,s',h=>by
  simp only[qQ]at h;split at h
  .cases h;exact .refl _
  .cases h
 |o::l,m,s,s',h=>by
  simp only[qQ]at h;split at h
  .split at h
   .exact BS hF h
   .cases h
  .split at h
   .cases h
   .split at h
    .split at h
     .have:=JS hF h;exact this
     .split at h
      .split at h
       .cases h
       .split at h
        .split at h
         .have:=JS hF h;exact this
         .cases h
        .cases h
      .split at h
       .exact BS hF h
       .cases h
    .have:=JS hF h;exact this
theorem BC(hF:∀f ts H r H',F.ee f ts H=some (r,H')->rL H H'){ops:fZ}{A:gI}{p l:Nat}:∀{os:gW} {m:Nat} {af:Bool} {s s':Fx},tC P E F ops A p l os m af s=some s'->rL s.H s'.H
 |[],m,af,s,s',h=>by
  simp only[tC]at h;split at h
  .cases h;exact .refl _
  .cases h
 |o::os,m,af,s,s',h=>by
  simp only[tC]at h;split at h
  .exact BS hF h
  .split at h
   .cases h
   .split at h
    .split at h
     .cases h
     .split at h
      .split at h
       .split at h
        .split at h
         .rename_i hs;exact(Aj hs).trans (BC hF h)
         .cases h
        .cases h
       .cases h
      .cases h
    .split at h
     .split at h
      .split at h
       .split at h
        .have:=BC hF h;exact this
        .cases h
       .cases h
      .split at h
       .split at h
        .have:=BC hF h;exact this
        .cases h
       .cases h
     .have:=BC hF h;exact this
theorem Uk(hF:∀f ts H r H',F.ee f ts H=some (r,H')->rL H H'){ops:fZ}{fr:fU}{H:Hp}{s':Fx}(h:rW P E F ops fr H=some s'):rL H s'.H:=by
 unfold rW at h;split at h
 .split at h
  .split at h
   .have:=BC hF h;exact this
   .cases h
  .cases h
 .have:=JS hF h;exact this
theorem JU(hF:∀f ts H r H',F.ee f ts H=some (r,H')->rL H H'){ops:fZ}:∀(os:gW) (m:Nat) (fr:fU) (H:Hp) (f:fU) (H':Hp) (es ds:gI),KQ P E F ops os m fr H=some (f,H',es,ds)->rL H H'
 |[],m,fr,H,f,H',es,ds,h=>by cases h;exact .refl _
 |o::os,m,fr,H,f,H',es,ds,h=>by
  simp only[KQ]at h;split at h
  .cases h
  .split at h
   .split at h
    .split at h
     .rename_i he;cases h;exact JU hF os _ _ _ _ _ _ _ he
     .cases h
    .split at h
     .rename_i hef;split at h
      .rename_i he;cases h;exact(Nn hF hef).trans (JU hF os _ _ _ _ _ _ _ he)
      .cases h
     .cases h
   .exact JU hF os _ _ _ _ _ _ _ h
theorem Ni(hF:∀f ts H r H',F.ee f ts H=some (r,H')->rL H H'){ops:fZ}{fl:Bool}{fr:fU}{H:Hp}{s':Fx}(h:AB P E F ops fl fr H=some s'):rL H s'.H:=by
 unfold AB at h;split at h
 .unfold HS at h;split at h
  .rename_i he;split at h
   .cases h;exact JU hF _ _ _ _ _ _ _ _ he
   .cases h
  .cases h
 .exact Uk hF h
end
section
variable{P:fV}{E:tY}{ee:gB}{yd:gF}{ow:hD}{n:Nat}
abbrev Tg(ee:gB):Prop:=∀f ts H r H',ee f ts H=some (r,H')->rL H H'
abbrev Xq(yd:gF):Prop:=∀l ts H b H',yd l ts H=some (b,H')->rL H H'
theorem Yo(hF:Tg ee)(ow:hD):∀f ts H r H',(BU ow ee).ee f ts H=some (r,H')->rL H H':=by rw[NZ];exact hF
theorem FE(hF:Tg ee)(hY:Xq yd){ops:fZ}:∀{l:gW} {s s':Fx},EH P E ee yd ow ops l s=some s'->rL s.H s'.H
 |[],s,s',h=>by cases h;exact .refl _
 |o::l,s,s',h=>by
  simp only[EH]at h;split at h
  .split at h
   .rename_i hy;exact(hY _ _ _ _ _ hy).trans (FE hF hY h)
   .cases h
  .split at h
   .rename_i s1 hs;exact(Gy (Yo hF ow) hs).trans (FE hF hY h)
   .cases h
theorem Un{l:Nat}{fr fr':fU}{H H':Hp}{x:X}(h:WY l fr H=some (x,fr',H')):H'=H.drop l:=by
 obtain⟨o,rc,_,_,h⟩:=xX h;split at h
 .cases h
 .split at h<;>cases h<;>rfl
theorem yE(hF:Tg ee)(hY:Xq yd){ro:iB}:∀(c:Code) (fr:fU) (H:Hp) (x:X) (fr':fU) (H':Hp),qI P E ee yd ow n ro c fr H=some (x,fr',H')->rL H H':=by
 intro c
 induction c with
 |skip=>intro fr H x fr' H' h;cases h;exact .refl _|label l=>intro fr H x fr' H' h;cases h;exact .refl _|exit id=>intro fr H x fr' H' h;cases h;exact .refl _|ret=>intro fr H x fr' H' h;cases h;exact .refl _
 |region id ops draw=>
  intro fr H x fr' H' h;simp only[qI]at h;split at h
  .rename_i hr;cases h;split at hr
   .exact Ni (Yo hF ow) hr
   .exact FE hF hY hr
  .cases h
 |seq a b iha ihb=>
  intro fr H x fr' H' h;simp only[qI]at h;split at h
  .rename_i hr;exact(iha _ _ _ _ _ hr).trans (ihb _ _ _ _ _ h)
  .exact iha _ _ _ _ _ h
 |cond c a b iha ihb=>
  intro fr H x fr' H' h;simp only[qI]at h;split at h
  .split at h
   .exact iha _ _ _ _ _ h
   .exact ihb _ _ _ _ _ h
  .cases h
 |block id c ih=>
  intro fr H x fr' H' h;simp only[qI]at h;split at h
  .rename_i hr;split at h<;>cases h<;>exact ih _ _ _ _ _ hr
  .exact ih _ _ _ _ _ h
 |loop c ih=>
  intro fr H x fr' H' h;simp only[qI]at h;have key:∀(k:Nat) (fr:fU) (H:Hp),pU.loopN (λfr H=>qI P E ee yd ow n ro c fr H) k fr H=some (x,fr',H')->rL H H':=by
   intro k
   induction k with
   |zero=>intro fr H h;cases h
   |succ k ihk=>
    intro fr H h;simp only[pU.loopN]at h;split at h
    .rename_i hr;exact(ih _ _ _ _ _ hr).trans (ihk _ _ h)
    .exact ih _ _ _ _ _ h
  exact key n fr H h
 |rangeFunc g ps a b _ _ =>
  intro fr H x fr' H' h;simp only[qI]at h;split at h
  .split at h
   .split at h
    .rename_i hc;rw[Un h];exact((rL.new _ _).trans (hF _ _ _ _ _ hc)).trans (.drop _ _)
    .cases h
   .cases h
  .cases h
 |_ =>intro fr H x fr' H' h;cases h
theorem Qs{l:Nat}{H H':Hp}{x:X}{b:Bool}(h:MI l H x=some (b,H')):rL H H':=by
 obtain⟨o,rc,ho,hm,h⟩:=xX h;cases x with
 |normal=>cases h;exact .putL ho hm _ ⟨rfl,rfl,rfl,rfl,rfl,rfl⟩|exit id=>cases h;exact .putL ho hm _ ⟨rfl,rfl,rfl,rfl,rfl,rfl⟩|ret=>cases h;exact .putL ho hm _ ⟨rfl,rfl,rfl,rfl,rfl,rfl⟩
theorem Qq(hF:Tg ee)(hY:Xq yd):Xq (λl ts H=>JF P E ee yd n l ts H):=by
 intro l ts H b H' h;obtain⟨o,rc,ho,hm,h⟩:=xX h;split at h
 .split at h
  .rename_i fr1 H1 h1;refine(yE hF hY _ _ _ _ _ _ h1).trans ?_;obtain⟨o1,r1,ho1,hm1,h⟩:=xX h;split at h
   .split at h
    .rename_i h2;exact((rL.putL ho1 hm1 {r1 with st:= .busy} ⟨rfl,rfl,rfl,rfl,rfl,rfl⟩).trans (yE hF hY _ _ _ _ _ _ h2)).trans (Qs h)
    .cases h
   .cases h
  .cases h
 .cases h
theorem aIx(hF:Tg ee)(hY:Xq yd){f:gV}{ts:fU}{H H':Hp}{r:T}(h:Yu P E ee yd ow n f ts H=some (r,H')):rL H H':=by
 unfold Yu at h;split at h
 .split at h
  .split at h
   .rename_i hc;split at h<;>cases h<;>exact yE hF hY _ _ _ _ _ _ hc
   .rename_i hc;split at h<;>cases h<;>exact yE hF hY _ _ _ _ _ _ hc
   .cases h
  .cases h
 .cases h
theorem Ug{tB:fS}{ts:fU}{H H':Hp}{r:T}(h:NR tB ts H=some (r,H')):rL H H':=by
 unfold NR at h;split at h
 .split at h
  .rename_i o ho;split at h
   .split at h
    .cases h;exact rL.put _ _ _ (λr e=>by rw[show _ =o.me from rfl,(qP ho).2]at e;cases e)
    .cases h
   .split at h
    .cases h;exact .refl _
    .cases h
   .cases h
  .cases h
 .cases h
theorem aEv{tB tE:fS}{ts:fU}{H H':Hp}{r:T}(h:Cb tB tE ts H=some (r,H')):rL H H':=by
 unfold Cb at h;split at h
 .split at h
  .split at h
   .split at h
    .cases h;exact .refl _
    .split at h
     .split at h
      .split at h
       .cases h;exact .drop _ _
       .cases h
      .cases h
     .cases h
    .cases h
   .cases h
  .cases h
 .cases h
theorem aMw:Tg Az:=λf ts H r H' h=>by
 unfold Az at h;by_cases h1:f=123
 .rw[if_pos h1]at h;exact Ug h
 .rw[if_neg h1]at h;by_cases h2:f=79
  .rw[if_pos h2]at h;exact aEv h
  .rw[if_neg h2]at h;cases h
theorem yO{own:iL}{ok:iA}:∀d,Tg (vH P E own ok n d).ee/\Xq (vH P E own ok n d).yd
 |0=>⟨λ_ _ _ _ _ h=>(by cases h),λ_ _ _ _ _ h=>(by cases h)⟩
 |d+1=>by
  obtain⟨h1,h2⟩:=yO (own:=own) (ok:=ok) d;refine⟨λf ts H r H' h=> ?_,Qq h1 h2⟩;simp only[vH]at h;split at h
  .exact aIx h1 h2 h
  .exact aMw _ _ _ _ _ h
end
end
variable[Inhabited Prd]
section
variable{U ρ' ρ0 ρ1:gJ}{O μ' μ0 μ1:fW}{H H1:Hp}{S S1:AS}{fr fr1:fU}
theorem uQ{Y:Type}{a b:List Y}{n:Nat}(h:uA a b)(hn:a.length=n):b.take n=a:=by
 apply fI;intro j;rw[bD];split
 .rename_i hj;rw[<-hn]at hj;rw[aB hj];exact h j _ (aB hj)
 .rename_i hj;rw[bU (by omega)]
theorem YW(he:uA ρ0 ρ1)(hm:uA μ0 μ1){n l:Nat}(hn:ρ0.length=n)(hl:μ0.length=l){a:A}{t:T}(ho:vM n l sJ a=true)(h:Gm ρ1 μ1 a t):Gm ρ0 μ0 a t:=by
 have:=Ke n l sJ a t ho h
 rwa [uQ he hn,uQ hm hl]at this
theorem Qx(he:uA ρ0 ρ1)(hm:uA μ0 μ1){n l:Nat}(hn:ρ0.length=n)(hl:μ0.length=l){w:iR}:∀(a_s bs:List A) (j:Nat) (ts:fU),ZR n l w j a_s bs=true->qO ρ1 μ1 bs ts->qO ρ0 μ0 (aSr n l w j a_s) ts
 |[],[],j,ts,_,h=>by rw[h.inv_nil];exact .nil
 |a::a_s,b::bs,j,ts,hs,h=>by
  simp only[ZR,aA]at hs;obtain⟨t,r,rfl,h1,h2⟩:=h.inv_cons;simp only[aSr];refine qO.cons ?_ (Qx he hm hn hl a_s bs (j+1) r hs.2 h2);split
  .exact .top _
  .rename_i hc;simp only[bF,bW,not_or,Bool.not_eq_false]at hc;have h3:=hs.1;simp only[bF,bW]at h3;rcases h3 with(q|q)|q
   .exact absurd q hc.1
   .rw[hc.2]at q;cases q
   .have:=JQ _ _ _ q;subst this;exact YW he hm hn hl hc.2 h1
 |[],_ ::_,_,_,h,_ =>by simp[ZR]at h|_ ::_,[],_,_,h,_ =>by simp[ZR]at h
theorem Qw(he:uA ρ0 ρ1)(hm:uA μ0 μ1){n l:Nat}(hn:ρ0.length=n)(hl:μ0.length=l){oc:gT}{m:Nat}:∀(a_s bs:List A) (j:Nat) (ts:fU),ZQ n l oc m j a_s bs=true->qO ρ1 μ1 bs ts->qO ρ0 μ0 (EO oc m j a_s) ts
 |[],[],j,ts,_,h=>by rw[h.inv_nil];exact .nil
 |a::a_s,b::bs,j,ts,hs,h=>by
  simp only[ZQ,aA]at hs;obtain⟨t,r,rfl,h1,h2⟩:=h.inv_cons;simp only[EO];refine qO.cons ?_ (Qw he hm hn hl a_s bs (j+1) r hs.2 h2);have h3:=hs.1;split
  .rename_i hc;rw[if_pos hc]at h3;exact .any _ (RU h1 h3).1
  .rename_i hc;rw[if_neg hc]at h3;simp only[aA]at h3;have:=JQ _ _ _ h3.1;subst this;exact YW he hm hn hl h3.2 h1
 |[],_ ::_,_,_,h,_ =>by simp[ZQ]at h|_ ::_,[],_,_,h,_ =>by simp[ZQ]at h
theorem AD{oc:gT}:∀(hp:gL) (m:Nat) (o:AO),pY (NE oc hp) m=some o->∃q,pY hp m=some q/\o=(match q with| .fix e xs=> .fix e (EO oc m 0 xs)|q=>q)
 |[],m,o,h=>by simp[NE,pY]at h
 |(k,.fix e xs)::r,m,o,h=>by
  simp only[NE,pY]at h⊢;split at h
  .rename_i hk;cases h;rw[if_pos hk];have:=pX hk;subst this;exact⟨_,rfl,rfl⟩
  .rename_i hk;rw[if_neg hk];exact AD r m o h
 |(k,.row e sz a s c)::r,m,o,h=>by
  simp only[NE,pY]at h⊢;split at h
  .rename_i hk;cases h;rw[if_pos hk];exact⟨_,rfl,rfl⟩
  .rename_i hk;rw[if_neg hk];exact AD r m o h
 |(k,.map es)::r,m,o,h=>by
  simp only[NE,pY]at h⊢;split at h
  .rename_i hk;cases h;rw[if_pos hk];exact⟨_,rfl,rfl⟩
  .rename_i hk;rw[if_neg hk];exact AD r m o h
 |(k,.loop st pe fr ps asg bd ow aa ab)::r,m,o,h=>by
  simp only[NE,pY]at h⊢;split at h
  .rename_i hk;cases h;rw[if_pos hk];exact⟨_,rfl,rfl⟩
  .rename_i hk;rw[if_neg hk];exact AD r m o h
theorem Fs{a b:LoopState}(h:Kx a b=true):a=b:=by cases a<;>cases b<;>first|rfl|cases h
theorem aEh{a b:jO}(h:Wi a b=true):a=b:=by
 unfold Wi at h;split at h
 .rfl
 .rfl
 .rw[pX h]
 .cases h
def aSy(n l:Nat)(oc:gT)(m:Nat):AO->AO->Prop
 | .fix e xs,.fix e' ys=>e=e'/\ZQ n l oc m 0 xs ys=true| .row e sz a s c,.row e' sz' b s' c'=>e=e'/\sz=sz'/\a=b/\vM n l sJ a=true/\s=s'/\c=c'/\s<n| .loop st pe ..,.loop st' pe' .. =>st=st'/\pe=pe'|_,_ =>False
theorem FD{n l:Nat}{oc:gT}{HF:gL}:∀(hp:gL) (m:Nat) (o:AO),LB n l oc HF hp=true->pY hp m=some o->m<l/\∃o1,pY HF m=some o1/\aSy n l oc m o o1
 |(k,.fix e xs)::r,m,o,h,hf=>by
  simp only[LB,aA]at h;simp only[pY]at hf;split at hf
  .rename_i hk;cases hf;have:=pX hk;subst this;refine⟨qW h.1,?_⟩;have h2:=h.2.1;split at h2
   .rename_i e' ys hy;simp only[aA]at h2;exact⟨_,hy,pX h2.1,h2.2⟩
   .cases h2
  .exact FD r m o h.2.2 hf
 |(k,.row e sz a s c)::r,m,o,h,hf=>by
  simp only[LB,aA]at h;simp only[pY]at hf;split at hf
  .rename_i hk;cases hf;have:=pX hk;subst this;refine⟨qW h.1,?_⟩;have h2:=h.2.1;split at h2
   .rename_i e' sz' b s' c' hy;simp only[aA,beq_iff_eq]at h2;obtain⟨a1,a2,a3,a4,a5,a6,a7⟩:=h2;exact⟨_,hy,pX a1,pX a2,JQ _ _ _ a3,a4,pX a5,a6,qW a7⟩
   .cases h2
  .exact FD r m o h.2.2 hf
 |(k,.loop st pe fr ps asg bd ow aa ab)::r,m,o,h,hf=>by
  simp only[LB,aA]at h;simp only[pY]at hf;split at hf
  .rename_i hk;cases hf;have:=pX hk;subst this;refine⟨qW h.1,?_⟩;have h2:=h.2.1;split at h2
   .rename_i hy;simp only[aA]at h2;exact⟨_,hy,Fs h2.1,aEh h2.2⟩
   .cases h2
  .exact FD r m o h.2.2 hf
 |(k,.map es)::r,m,o,h,_ =>by simp[LB]at h|[],m,o,_,hf=>by simp[pY]at hf
theorem NU{hp:gL}{l m:Nat}{o:AO}(h:pY (wU hp l) m=some o):pY hp m=some o:=by
 rw[CS]at h;split at h
 .cases h
 .exact h
theorem AP{fr:List A}:∀{sp:jD} {hp:gL} {m:Nat} {o:AO},pY (CO fr sp hp) m=some o->pY hp m=some o
 |[],hp,m,o,h=>h
 |(d,.row ..)::r,hp,m,o,h=>by
  simp only[CO]at h;split at h
  .exact NU (AP h)
  .exact AP h
 |(d,.a _)::r,hp,m,o,h=>by
  simp only[CO]at h;exact AP h
theorem yV{hp0:gL}:∀{oc:gT} {hp:gL} {m:Nat} {o:AO},pY (AA hp0 oc hp) m=some o->pY hp m=some o
 |[],hp,m,o,h=>h
 |(l,j,.row ..)::r,hp,m,o,h=>by
  simp only[AA]at h;split at h
  .exact NU (yV h)
  .exact yV h
 |(l,j,.a _)::r,hp,m,o,h=>by
  simp only[AA]at h;exact yV h
theorem xU:∀{r hp:gL} {m:Nat} {o:AO},pY (BA r hp) m=some o->pY hp m=some o
 |[],hp,m,o,h=>h
 |(l,.map es)::r,hp,m,o,h=>by
  simp only[BA]at h;exact NU (xU h)
 |(l,.fix ..)::r,hp,m,o,h=>by
  simp only[BA]at h;exact xU h
 |(l,.row ..)::r,hp,m,o,h=>by
  simp only[BA]at h;exact xU h
 |(l,.loop ..)::r,hp,m,o,h=>by
  simp only[BA]at h;exact xU h
theorem Tt{sp:jD}{oc:gT}{m:Nat}{o:AO}(h:pY (HI S sp oc) m=some o):pY S.hp m=some o:=xU (AP (yV h))
theorem aNx(hk:rL H H1)(hs:GS S ρ0 μ0 fr H)(h1:GS S1 ρ1 μ1 fr1 H1)(he:uA ρ0 ρ1)(hm:uA μ0 μ1){w:iR}{sp:jD}{oc:gT}{m0 gv:Int}(hg:0<=gv)(hg':gv<=m0)
  (hF:ZR S.nx S.nl w 0 S.fr S1.fr=true) (hH:LB S.nx S.nl oc S1.hp (HI S sp oc)=true):
  GS (Xv S w sp oc m0) (ρ0++[gv]) μ0 fr1 H1:=by
 have hn:=hs.sy.len;have hl:=hs.hp.len;have hb:=uA.app ρ0 [gv];refine⟨?_,?_,(Qx he hm hn hl _ _ _ _ hF h1.fr).ext hb (.refl _)⟩
 .have:=hs.sy.fresh (v:=gv) (lo:=0) (hi:=m0) hg hg';exact this
 .have key:∀(m:Nat) (o:AO),pY (Xv S w sp oc m0).hp m=some o->∃q o1,pY (HI S sp oc) m=some q/\m<S.nl/\pY S1.hp m=some o1/\aSy S.nx S.nl oc m q o1/\o=(match q with| .fix e xs=> .fix e (EO oc m 0 xs)|q=>q):=by
   intro m o h;obtain⟨q,h2,h3⟩:=AD _ _ _ h;obtain⟨h4,o1,h5,h6⟩:=FD _ _ _ hH h2;exact⟨q,o1,h2,h4,h5,h6,h3⟩
  have back:∀{m:Nat} {y:iB},m<S.nl->μ1[m]? =some y->μ0[m]? =some y:=by
   intro m y hlt h;have:=rN h hlt
   rwa [uQ hm hl]at this
  refine⟨hl,λm o h=> ?_,λm m' o o' x h h' hx hx'=> ?_,λm x hx=>h1.hp.lt m x (hm _ _ hx),λm e xs h=> ?_,h1.hp.fin⟩
  .obtain⟨q,o1,k0,k1,k2,k3,rfl⟩:=key m o h;obtain⟨y,k4,k5⟩:=h1.hp.obj m o1 k2;refine⟨y,back k1 k4,λx hx=> ?_⟩;obtain⟨b,k6,k7⟩:=k5 x hx;cases q with
   |map es=>cases o1<;>exact k3.elim
   |fix e xs=>
    cases o1 with
    |row=>exact k3.elim|map=>exact k3.elim|loop=>exact k3.elim
    |fix e' ys=>
     obtain⟨rfl,k3⟩:=k3;exact⟨b,k6,k7.1,(Qw he hm hn hl _ _ _ _ k3 k7.2).ext hb (.refl _)⟩
   |loop st pe fr ps asg bd ow aa ab=>
    cases o1 with
    |fix=>exact k3.elim|row=>exact k3.elim|map=>exact k3.elim
    |loop st' pe' fr' ps' asg' bd' ow' aa' ab'=>
     obtain⟨rfl,rfl⟩:=k3;obtain⟨r1,q1,q2,q3,_⟩:=k7;obtain⟨y0,p1,p2⟩:=hs.hp.obj m _ (Tt k0);have hy:y0=y:=by have:=back k1 k4;rw[p1]at this;exact bX this
     subst hy;obtain⟨b0,p3,r0,w1,w2,w3,w4,w5,w6,w7,w8⟩:=p2 x hx;subst hx;obtain⟨b2,r2,z1,z2,z3⟩:=hk.lp x (hs.hp.lt m x p1) b r1 k6 q1;have hb2:some b2=some b0:=by rw[<-z1];exact p3
     cases hb2;rw[w1]at z2;cases z2;exact⟨b,k6,r1,q1,q2,q3,z3.ps.trans w4,z3.asg.trans w5,z3.bd.trans w6,z3.ow.trans w7,by rw[z3.fr,z3.n];exact w8.ext hb (.refl _)⟩
   |row e sz a s c=>
    cases o1 with
    |fix=>exact k3.elim|loop=>exact k3.elim|map=>exact k3.elim
    |row e' sz' b' s' c'=>
     obtain⟨rfl,rfl,rfl,k8,rfl,rfl,k9⟩:=k3;obtain⟨q1,q2,ts,v,q3,q4,q5,q6⟩:=k7;refine⟨b,k6,q1,q2,ts,v,hb _ _ ?_,q4,q5,λt ht=>⟨(YW he hm hn hl k8 (q6 t ht).1).ext hb (.refl _),(q6 t ht).2⟩⟩;have:=rN q3 k9
     rwa [uQ he hn]at this
  .obtain⟨_,o1,_,_,k2,_,_⟩:=key m o h;obtain⟨_,o2,_,_,k3,_,_⟩:=key m' o' h';exact h1.hp.inj m m' o1 o2 x k2 k3 (hm _ _ hx) (hm _ _ hx')
  .obtain⟨q,o1,_,k1,k2,k3,k4⟩:=key m _ h;cases q with
   |row=>cases k4|loop=>cases k4|map=>cases k4
   |fix e' ys=>
    cases o1 with
    |row=>exact k3.elim|map=>exact k3.elim|loop=>exact k3.elim|fix e2 zs=>obtain⟨x,hx⟩:=h1.hp.fixp m _ _ k2;exact⟨x,back k1 hx⟩
structure Tr(S1:AS)(base:gL)(nl:Nat)(μ1:fW)(Si:AS)(μi:fW)(used:gI):Prop where
 row:∀(l:Nat) (q:AO) (x:Nat),pY Si.hp l=some q->μi[l]? =some (some x)->∃m o,μ1[m]? =some (some x)/\pY S1.hp m=some o/\(m∈used\/QB base m=true)
 fix:∀(l:Nat) (e:fS) (xs:List A),pY Si.hp l=some (.fix e xs)->l<nl/\∃ys,pY S1.hp l=some (.fix e ys)
theorem OJ:∀{l:gI} {d:Nat},sQ d l=true↔d∈l
 |[],d=>by simp[sQ]
 |x::xs,d=>by
  have ih:=OJ (l:=xs) (d:=d);simp only[sQ,bF,Nat.beq_eq,aR,ih];constructor
  .rintro(h|h)
   .exact .inl h.symm
   .exact .inr h
  .rintro(h|h)
   .exact .inl h.symm
   .exact .inr h
theorem VZ(h1:GS S1 ρ1 μ1 fr1 H1)(he:uA ρ0 ρ1)(hm:uA μ0 μ1){n l:Nat}(hn:ρ0.length=n)(hl:μ0.length=l){base:gL}:
  ∀(sp:jD) (used:gI) (Si:AS) (ρi:gJ) (μi:fW),Qe n l base S1 sp used=true->GS Si ρi μi fr1 H1->uA ρ0 ρi->uA μ0 μi->Tr S1 base l μ1 Si μi used->
   ∃ρ2 μ2,uA ρi ρ2/\uA μi μ2/\GS (VY sp Si) ρ2 μ2 fr1 H1/\Tr S1 base l μ1 (VY sp Si) μ2 (BO S1 sp used)
 |[],used,Si,ρi,μi,_,hg,_,_,ht=>⟨ρi,μi,.refl _,.refl _,hg,ht⟩
 |(d,.a a)::r,used,Si,ρi,μi,hok,hg,e1,e2,ht=>by
  simp only[Qe,aA]at hok;have hv:=zF h1.sy.cs h1.sy.zero n l sJ _ _ _ hok.1 (h1.fr.get d);rw[uQ he hn,uQ hm hl]at hv;obtain⟨ρ',x1,x2,x3⟩:=tT hg.sy (hv.ext e1 e2);have hg':GS {Si with fr:=setS (vY a Si.nx Si.cs).a Si.fr d,nx:=(vY a Si.nx Si.cs).nx,cs:=(vY a Si.nx Si.cs).cs} ρ' μi fr1 H1:=
   ⟨x2,hg.hp.ext x1,(hg.fr.ext x1 (.refl _)).setSame x3⟩
  obtain⟨ρ2,μ2,y1,y2,y3,y4⟩:=VZ h1 he hm hn hl r used _ ρ' μi hok.2 hg' (e1.trans x1) e2 ⟨ht.row,ht.fix⟩;exact⟨ρ2,μ2,x1.trans y1,y2,y3,y4⟩
 |(d,.row e sz a lo hi)::r,used,Si,ρi,μi,hok,hg,e1,e2,ht=>by
  simp only[Qe]at hok;have hget:=h1.fr.get d;have main:∀(y:iB) (len:Nat) (used1:gI),lo<=len->(len:Int)<=hi->(∀x,y=some x->x<H1.next/\(∀l q,pY Si.hp l=some q->μi[l]? ≠some (some x))/\∃(b:Ob) (ts:fU),H1.get x=some b/\b.elem=e/\(b.sz=sz/\(e=5->b.cells≠[]))/\b.cells=ts.flatMap T.cells/\ts.length=len/\∀t∈ts,Gm ρ0 μ0 a t/\t.cells.length=sz)->
    qR fr1 d=(match y with|some x=> .osl x sz 0 len|none=> .nils)->(y=none->len=0)->(∀x,y=some x->∃m o,μ1[m]? =some (some x)/\pY S1.hp m=some o/\m∈used1)->(∀m∈used,m∈used1)->Qe n l base S1 r used1=true->
    ∃ρ2 μ2,uA ρi ρ2/\uA μi μ2/\GS (VY ((d,.row e sz a lo hi)::r) Si) ρ2 μ2 fr1 H1/\Tr S1 base l μ1 (VY ((d,.row e sz a lo hi)::r) Si) μ2 (BO S1 r used1):=by
   intro y len used1 hlo hhi hy hval hnone hnew hsub hok';have hf:=hg.sy.fresh (v:=(len:Int)) hlo hhi;have hx1:=uA.app ρi [(len:Int)];have hx2:=uA.app μi [y];have hlen:=(hg.sy.new (len:Int)).2.1;have hgh:GH ((Si.nl,.row e sz a Si.nx 0)::Si.hp) (Si.nl+1) (ρi++[(len:Int)]) (μi++[y]) H1:=(hg.hp.ext hx1).alias (λ_ _ h=>by cases h) λx hx=>by
    obtain⟨q1,q2,b,ts,q3,q4,q5,q6,q7,q8⟩:=hy x hx;exact⟨q1,q2,b,q3,q4,q5,ts,len,hlen,by omega,q6,λt ht=>⟨(q8 t ht).1.ext (e1.trans hx1) (e2.trans hx2),(q8 t ht).2⟩⟩
   have hval':Gm (ρi++[(len:Int)]) (μi++[y]) (.osl Si.nl sz 0 0 Si.nx 0) (qR fr1 d):=by
    rw[hval];cases y with
    |none=>
     have:=hnone rfl;exact .osl0 _ _ _ _ _ _ 0 len (tM hg.hp.len _) (hx1 _ _ hg.sy.zero) (by omega) hlen (by omega)
    |some x=>
     have:=Gm.osl (U:=ρi++[(len:Int)]) (O:=μi++[some x]) Si.nl sz 0 0 Si.nx 0 x 0 len (tM hg.hp.len _) (hx1 _ _ hg.sy.zero) (by omega) hlen (by omega);simpa using this
   have hg':GS {fr:=setS (.osl Si.nl sz 0 0 Si.nx 0) Si.fr d,hp:=(Si.nl,.row e sz a Si.nx 0)::Si.hp,nx:=Si.nx+1,nl:=Si.nl+1,cs:= .le 0 Si.nx (-lo):: .le Si.nx 0 hi::Si.cs} (ρi++[(len:Int)]) (μi++[y]) fr1 H1:=
    ⟨hf,hgh,(hg.fr.ext hx1 hx2).setSame hval'⟩
   have ht':Tr S1 base l μ1 {fr:=setS (.osl Si.nl sz 0 0 Si.nx 0) Si.fr d,hp:=(Si.nl,.row e sz a Si.nx 0)::Si.hp,nx:=Si.nx+1,nl:=Si.nl+1,cs:= .le 0 Si.nx (-lo):: .le Si.nx 0 hi::Si.cs} (μi++[y]) used1:=by
    refine⟨λk q x hk hx=> ?_,λk e' xs hk=> ?_⟩
    .rcases wH hg.hp.len hx with⟨_,q2⟩|⟨q1,q2⟩
     .obtain⟨m,o,r1,r2,r3⟩:=hnew x q2;exact⟨m,o,r1,r2,.inl r3⟩
     .simp only[pY]at hk;rw[if_neg (by simp;omega)]at hk;obtain⟨m,o,r1,r2,r3⟩:=ht.row k q x hk q2;exact⟨m,o,r1,r2,r3.imp (hsub m) id⟩
    .simp only[pY]at hk;split at hk
     .cases hk
     .exact ht.fix k e' xs hk
   obtain⟨ρ2,μ2,y1,y2,y3,y4⟩:=VZ h1 he hm hn hl r used1 _ _ _ hok' hg' (e1.trans hx1) (e2.trans hx2) ht';exact⟨ρ2,μ2,hx1.trans y1,hx2.trans y2,y3,y4⟩
  split at hok
  .rename_i hv;simp only[aA,uX,aJ]at hok;rw[hv]at hget;have hnl:qR fr1 d= .nils:=by generalize qR fr1 d=z at hget;cases hget;rfl
   have hu:BO S1 ((d,.row e sz a lo hi)::r) used=BO S1 r used:=by simp only[BO,hv]
   rw[hu];exact main none 0 used (by simpa using hok.1) (by simpa using hok.2.1) (λx hx=>by cases hx) hnl (λ_ =>rfl) (λx hx=>by cases hx) (λm h=>h) hok.2.2
  .rename_i m sz' si ci s c hv;split at hok
   .rename_i e' sz2 b s' c' hf;simp only[aA,beq_iff_eq]at hok;obtain⟨k1,k2,k3,k4,k5,k6,k7,k8,k9,k10,k11,k12,k13⟩:=hok;have k1:=pX k1;have k2:=pX k2;have k3:=pX k3;have k4:=pX k4;have k6:=pX k6;have hu:BO S1 ((d,.row e sz a lo hi)::r) used=BO S1 r (m::used):=by simp only[BO,hv]
    rw[hu];subst k1 k2 k3 k4 k5 k6 k7;rw[hv]at hget;generalize hz:qR fr1 d=z at hget;cases hget with
    |osl0 _ _ _ _ _ _ vi v g1 g2 g3 g4 g5=>
     have b1:=qB h1.sy.cs k9 h1.sy.zero g4;have b2:=qB h1.sy.cs k10 g4 h1.sy.zero;exact main none 0 (m::used) (by omega) (by omega) (λx hx=>by cases hx) hz (λ_ =>rfl) (λx hx=>by cases hx) (λq h=>aG _ h) k13
    |osl _ _ _ _ _ _ l' vi v g1 g2 g3 g4 g5=>
     have b1:=qB h1.sy.cs k9 h1.sy.zero g4;have b2:=qB h1.sy.cs k10 g4 h1.sy.zero;obtain⟨ob,o1,o2,o3,ts,v1,r1,r2,r3,r4⟩:=h1.hp.at hf g1;rw[g4]at r1;cases r1;rw[h1.sy.zero]at g2;cases g2;refine main (some l') ts.length (m::used) (by omega) (by omega) (λx hx=> ?_) ?_ (λh=>by cases h) (λx hx=>⟨m,_,by cases hx;exact g1,hf,aL⟩) (λq h=>aG _ h) k13
     .cases hx;refine⟨h1.hp.lt m l' g1,λk q hk hkx=> ?_,ob,ts,o1,o2,o3,r3,rfl,λt ht=>⟨?_,(r4 t ht).2⟩⟩
      .obtain⟨m',o',p1,p2,p3⟩:=ht.row k q l' hk hkx;have:=h1.hp.inj m' m o' _ l' p2 hf p1 g1;subst this;rcases p3 with p3|p3
       .have:=OJ.2 p3;rw[this]at k11;simp at k11
       .rw[p3]at k12;simp at k12
      .have:=zF h1.sy.cs h1.sy.zero n l sJ _ _ _ k8 (r4 t ht).1
       rwa [uQ he hn,uQ hm hl]at this
     .rw[hz];have:(v+c).toNat=ts.length:=by omega
      simp[this]
   .cases hok
  .cases hok
end
section
variable{U ρ' ρ0 ρ1:gJ}{O μ' μ0 μ1:fW}{H H1:Hp}{S S1:AS}{fr fr1:fU}
theorem vV{l j:Nat}{a:A}:∀(hp:gL) (m:Nat),pY (setCell l j a hp) m=(pY hp m).map λo=>if l=m then(match o with| .fix e xs=> .fix e (xs.set j a)|o=>o)else o
 |[],m=>rfl
 |(k,.fix e xs)::r,m=>by
  have ih:=vV (l:=l) (j:=j) (a:=a) r m;by_cases hk:k=l
  .subst hk;simp only[setCell,Nat.beq_refl,if_true,pY];by_cases hm:k=m
   .subst hm;simp
   .simp only[Nat.beq_eq,hm,if_false,ih]
  .by_cases hm:k=m
   .subst hm;have:¬l=k:=λe=>hk e.symm;simp[setCell,pY,hk,this]
   .simp[setCell,pY,hk,hm,ih]
 |(k,.row e sz b s c)::r,m=>by
  have ih:=vV (l:=l) (j:=j) (a:=a) r m;simp only[setCell,pY];by_cases hm:k=m
  .subst hm;simp
  .simp only[Nat.beq_eq,hm,if_false,ih]
 |(k,.map es)::r,m=>by
  have ih:=vV (l:=l) (j:=j) (a:=a) r m;simp only[setCell,pY];by_cases hm:k=m
  .subst hm;simp
  .simp only[Nat.beq_eq,hm,if_false,ih]
 |(k,.loop st pe fr ps asg bd ow aa ab)::r,m=>by
  have ih:=vV (l:=l) (j:=j) (a:=a) r m;simp only[setCell,pY];by_cases hm:k=m
  .subst hm;simp
  .simp only[Nat.beq_eq,hm,if_false,ih]
theorem ZY(h1:GS S1 ρ1 μ1 fr1 H1)(hm:uA μ0 μ1){l:Nat}(hl:μ0.length=l){base:gL}{used:gI}{Si:AS}{hp:gL}{nl:Nat}{ρ':gJ}{μ':fW}(g0:GH hp nl ρ' μ' H1)(e2:uA μ0 μ')
  {m j:Nat} {e:fS} {xs:List A} (hf:pY S1.hp m=some (.fix e xs)) {x:Nat} (hx:μ1[m]? =some (some x)) {b:Ob} (b1:H1.get x=some b) {c:T} (c1:b.cells[j]? =some c) {a:A} (x3:Gm ρ' μ' a c)
  (hfix:∀(k:Nat) (e:fS) (xs:List A),pY hp k=some (.fix e xs)->k<l/\∃ys,pY S1.hp k=some (.fix e ys)):GH (setCell m j a hp) nl ρ' μ' H1:=by
 refine⟨g0.len,λk o hk=> ?_,λk k' o o' y hk hk' hy hy'=> ?_,g0.lt,λk e' ys hk=> ?_,g0.fin⟩
 .rw[vV]at hk;obtain⟨q,hq,rfl⟩:=aD.1 hk;obtain⟨y,q1,q2⟩:=g0.obj k q hq;refine⟨y,q1,λz hz=> ?_⟩;obtain⟨b',q3,q4⟩:=q2 z hz;split
  .rename_i hmk;subst hmk;cases q with
   |row=>exact⟨b',q3,q4⟩|loop=>exact⟨b',q3,q4⟩|map=>exact⟨b',q3,q4⟩
   |fix e' ys=>
    refine⟨b',q3,q4.1,?_⟩;obtain⟨hlt,_⟩:=hfix m e' ys hq;subst hz;have hy0:μ0[m]? =some (some x):=by
     have:=rN hx hlt
     rwa [uQ hm hl]at this
    have:=e2 _ _ hy0;rw[q1]at this;cases this;have q3:H1.get x=some b':=q3;rw[b1]at q3;cases q3;have hset:=q4.2.set x3 j;have:b.cells.set j c=b.cells:=by
     apply fI;intro i;rw[eC];split
     .rename_i hij;subst hij;split
      .exact c1.symm
      .rename_i hlt2;rw[bU (by omega)]
     .rfl
    rw[this]at hset;exact hset
  .exact⟨b',q3,q4⟩
 .rw[vV]at hk hk';obtain⟨q,hq,_⟩:=aD.1 hk;obtain⟨q',hq',_⟩:=aD.1 hk';exact g0.inj k k' q q' y hq hq' hy hy'
 .rw[vV]at hk;obtain⟨q',hq',hqe⟩:=aD.1 hk;cases q' with
  |row=>split at hqe<;>cases hqe|loop=>split at hqe<;>cases hqe|map=>split at hqe<;>cases hqe|fix e2 zs=>exact g0.fixp k e2 zs hq'
theorem Tr.cell{base:gL}{l:Nat}{Si:AS}{μi:fW}{used:gI}{m j:Nat}{a:A}{hp:gL}{fr:List A}{nx nl:Nat}{cs:List qV}
  (hrow:∀(k:Nat) (q:AO) (x:Nat),pY hp k=some q->μi[k]? =some (some x)->∃m o,μ1[m]? =some (some x)/\pY S1.hp m=some o/\(m∈used\/QB base m=true))
  (hfix:∀(k:Nat) (e:fS) (xs:List A),pY hp k=some (.fix e xs)->k<l/\∃ys,pY S1.hp k=some (.fix e ys)):
  Tr S1 base l μ1 ⟨fr,setCell m j a hp,nx,nl,cs⟩ μi used:=by
 refine⟨λk q y hk hy=> ?_,λk e' ys hk=> ?_⟩
 .rw[vV]at hk;obtain⟨q',hq',_⟩:=aD.1 hk;exact hrow k q' y hq' hy
 .rw[vV]at hk;obtain⟨q',hq',hqe⟩:=aD.1 hk;cases q' with
  |row=>split at hqe<;>cases hqe|loop=>split at hqe<;>cases hqe|map=>split at hqe<;>cases hqe
  |fix e2 zs=>
   obtain⟨p1,p2,p3⟩:=hfix k e2 zs hq';refine⟨p1,p2,?_⟩;split at hqe<;>cases hqe<;>exact p3
theorem VX(h1:GS S1 ρ1 μ1 fr1 H1)(he:uA ρ0 ρ1)(hm:uA μ0 μ1){n l:Nat}(hn:ρ0.length=n)(hl:μ0.length=l){base:gL}:
  ∀(oc:gT) (used:gI) (Si:AS) (ρi:gJ) (μi:fW),Qd n l base S1 oc used=true->GS Si ρi μi fr1 H1->uA ρ0 ρi->uA μ0 μi->Tr S1 base l μ1 Si μi used->
   ∃ρ2 μ2,uA ρi ρ2/\uA μi μ2/\GS (Mi oc Si) ρ2 μ2 fr1 H1
 |[],used,Si,ρi,μi,_,hg,_,_,_ =>⟨ρi,μi,.refl _,.refl _,hg⟩
 |(m,j,.a t)::r,used,Si,ρi,μi,hok,hg,e1,e2,ht=>by
  simp only[Qd,aA]at hok;obtain⟨hc,hr⟩:=hok;split at hc
  .rename_i e xs hf;split at hc
   .rename_i a ha;obtain⟨x,hx⟩:=h1.hp.fixp m _ _ hf;obtain⟨b,b1,b2⟩:=h1.hp.at hf hx;obtain⟨c,c1,c2⟩:=b2.2.at ha;have hv:=zF h1.sy.cs h1.sy.zero n l sJ _ _ _ hc c2;rw[uQ he hn,uQ hm hl]at hv;obtain⟨ρ',x1,x2,x3⟩:=tT hg.sy (hv.ext e1 e2);have hgh:=ZY (used:=used) (base:=base) (Si:=Si) h1 hm hl (hg.hp.ext x1) e2 hf hx b1 c1 x3 ht.fix;have hg':GS {Si with hp:=setCell m j (vY t Si.nx Si.cs).a Si.hp,nx:=(vY t Si.nx Si.cs).nx,cs:=(vY t Si.nx Si.cs).cs} ρ' μi fr1 H1:=⟨x2,hgh,hg.fr.ext x1 (.refl _)⟩;obtain⟨ρ2,μ2,y1,y1',y2⟩:=VX h1 he hm hn hl r used _ ρ' μi hr hg' (e1.trans x1) e2 (Tr.cell (Si:=Si) ht.row ht.fix);exact⟨ρ2,μ2,x1.trans y1,y1',y2⟩
   .cases hc
  .cases hc
 |(m,j,.row e sz a lo hi)::r,used,Si,ρi,μi,hok,hg,e1,e2,ht=>by
  simp only[Qd]at hok;split at hok
  .rename_i e0 xs hf;obtain⟨x0,hx0⟩:=h1.hp.fixp m _ _ hf;obtain⟨ob0,ob1,ob2⟩:=h1.hp.at hf hx0;have main:∀(y:iB) (len:Nat) (used1:gI) (c:T),ob0.cells[j]? =some c->lo<=len->(len:Int)<=hi->(∀x,y=some x->x<H1.next/\(∀l q,pY Si.hp l=some q->μi[l]? ≠some (some x))/\∃(b:Ob) (ts:fU),H1.get x=some b/\b.elem=e/\(b.sz=sz/\(e=5->b.cells≠[]))/\b.cells=ts.flatMap T.cells/\ts.length=len/\∀t∈ts,Gm ρ0 μ0 a t/\t.cells.length=sz)->
     c=(match y with|some x=> .osl x sz 0 len|none=> .nils)->(y=none->len=0)->(∀x,y=some x->∃m o,μ1[m]? =some (some x)/\pY S1.hp m=some o/\m∈used1)->(∀m∈used,m∈used1)->Qd n l base S1 r used1=true->
     ∃ρ2 μ2,uA ρi ρ2/\uA μi μ2/\GS (Mi ((m,j,.row e sz a lo hi)::r) Si) ρ2 μ2 fr1 H1:=by
    intro y len used1 c hcj hlo hhi hy hval hnone hnew hsub hok';have hf':=hg.sy.fresh (v:=(len:Int)) hlo hhi;have hx1:=uA.app ρi [(len:Int)];have hx2:=uA.app μi [y];have hlen:=(hg.sy.new (len:Int)).2.1;have hgh:GH ((Si.nl,.row e sz a Si.nx 0)::Si.hp) (Si.nl+1) (ρi++[(len:Int)]) (μi++[y]) H1:=(hg.hp.ext hx1).alias (λ_ _ h=>by cases h) λx hx=>by
     obtain⟨q1,q2,b,ts,q3,q4,q5,q6,q7,q8⟩:=hy x hx;exact⟨q1,q2,b,q3,q4,q5,ts,len,hlen,by omega,q6,λt ht=>⟨(q8 t ht).1.ext (e1.trans hx1) (e2.trans hx2),(q8 t ht).2⟩⟩
    have hval':Gm (ρi++[(len:Int)]) (μi++[y]) (.osl Si.nl sz 0 0 Si.nx 0) c:=by
     rw[hval];cases y with
     |none=>
      have:=hnone rfl;exact .osl0 _ _ _ _ _ _ 0 len (tM hg.hp.len _) (hx1 _ _ hg.sy.zero) (by omega) hlen (by omega)
     |some x=>
      have:=Gm.osl (U:=ρi++[(len:Int)]) (O:=μi++[some x]) Si.nl sz 0 0 Si.nx 0 x 0 len (tM hg.hp.len _) (hx1 _ _ hg.sy.zero) (by omega) hlen (by omega);simpa using this
    have hrow':∀(k:Nat) (q:AO) (x:Nat),pY ((Si.nl,.row e sz a Si.nx 0)::Si.hp) k=some q->(μi++[y])[k]? =some (some x)->∃m o,μ1[m]? =some (some x)/\pY S1.hp m=some o/\(m∈used1\/QB base m=true):=by
     intro k q x hk hx;rcases wH hg.hp.len hx with⟨_,q2⟩|⟨q1,q2⟩
     .obtain⟨m,o,r1,r2,r3⟩:=hnew x q2;exact⟨m,o,r1,r2,.inl r3⟩
     .simp only[pY]at hk;rw[if_neg (by simp;omega)]at hk;obtain⟨m,o,r1,r2,r3⟩:=ht.row k q x hk q2;exact⟨m,o,r1,r2,r3.imp (hsub m) id⟩
    have hfix':∀(k:Nat) (e':fS) (xs:List A),pY ((Si.nl,.row e sz a Si.nx 0)::Si.hp) k=some (.fix e' xs)->k<l/\∃ys,pY S1.hp k=some (.fix e' ys):=by
     intro k e' xs hk;simp only[pY]at hk;split at hk
     .cases hk
     .exact ht.fix k e' xs hk
    have hsc:=ZY (used:=used) (base:=base) (Si:=Si) h1 hm hl hgh (e2.trans hx2) hf hx0 ob1 hcj hval' hfix';have hg':GS {Si with hp:=setCell m j (.osl Si.nl sz 0 0 Si.nx 0) ((Si.nl,.row e sz a Si.nx 0)::Si.hp),nx:=Si.nx+1,nl:=Si.nl+1,cs:= .le 0 Si.nx (-lo):: .le Si.nx 0 hi::Si.cs} (ρi++[(len:Int)]) (μi++[y]) fr1 H1:=
     ⟨hf',hsc,hg.fr.ext hx1 hx2⟩
    obtain⟨ρ2,μ2,y1,y2,y3⟩:=VX h1 he hm hn hl r used1 _ _ _ hok' hg' (e1.trans hx1) (e2.trans hx2) (Tr.cell (Si:=Si) hrow' hfix');exact⟨ρ2,μ2,hx1.trans y1,hx2.trans y2,y3⟩
   split at hok
   .rename_i hv;simp only[aA,uX,aJ]at hok;obtain⟨c,c1,c2⟩:=ob2.2.at hv;cases c2;exact main none 0 used _ c1 (by simpa using hok.1) (by simpa using hok.2.1) (λx hx=>by cases hx) rfl (λ_ =>rfl) (λx hx=>by cases hx) (λm h=>h) hok.2.2
   .rename_i q sz' si ci s c hv;split at hok
    .rename_i e' sz2 b s' c' hfq;simp only[aA,beq_iff_eq]at hok;obtain⟨k1,k2,k3,k4,k5,k6,k7,k8,k9,k10,k11,k12,k13⟩:=hok;have k1:=pX k1;have k2:=pX k2;have k3:=pX k3;have k4:=pX k4;have k6:=pX k6;subst k1 k2 k3 k4 k5 k6 k7;obtain⟨cc,cc1,cc2⟩:=ob2.2.at hv;cases cc2 with
     |osl0 _ _ _ _ _ _ vi v g1 g2 g3 g4 g5=>
      have b1:=qB h1.sy.cs k9 h1.sy.zero g4;have b2:=qB h1.sy.cs k10 g4 h1.sy.zero;exact main none 0 (q::used) _ cc1 (by omega) (by omega) (λx hx=>by cases hx) rfl (λ_ =>rfl) (λx hx=>by cases hx) (λq h=>aG _ h) k13
     |osl _ _ _ _ _ _ l' vi v g1 g2 g3 g4 g5=>
      have b1:=qB h1.sy.cs k9 h1.sy.zero g4;have b2:=qB h1.sy.cs k10 g4 h1.sy.zero;obtain⟨ob,o1,o2,o3,ts,v1,r1,r2,r3,r4⟩:=h1.hp.at hfq g1;rw[g4]at r1;cases r1;rw[h1.sy.zero]at g2;cases g2;refine main (some l') ts.length (q::used) _ cc1 (by omega) (by omega) (λx hx=> ?_) ?_ (λh=>by cases h) (λx hx=>⟨q,_,by cases hx;exact g1,hfq,aL⟩) (λq h=>aG _ h) k13
      .cases hx;refine⟨h1.hp.lt q l' g1,λk q' hk hkx=> ?_,ob,ts,o1,o2,o3,r3,rfl,λt ht=>⟨?_,(r4 t ht).2⟩⟩
       .obtain⟨m',o',p1,p2,p3⟩:=ht.row k q' l' hk hkx;have:=h1.hp.inj m' q o' _ l' p2 hfq p1 g1;subst this;rcases p3 with p3|p3
        .have:=OJ.2 p3;rw[this]at k11;simp at k11
        .rw[p3]at k12;simp at k12
       .have:=zF h1.sy.cs h1.sy.zero n l sJ _ _ _ k8 (r4 t ht).1
        rwa [uQ he hn,uQ hm hl]at this
      .have:(v+c).toNat=ts.length:=by omega
       simp[this]
    .cases hok
   .cases hok
  .cases hok
end
def MB:T->Option Int
 | .int _ n=>some n| .str l=>some l.length| .nils=>some 0| .sl _ xs=>some xs.length| .slf _ n _ =>some n| .osl _ _ _ len=>some len|_ =>none
noncomputable def aRw:Nat->Hp->List T->Nat->Option Nat
 |0,_,_,_ =>none
 | k+1,H,fr,d=>if Nat.blt d 1000 then match qR fr d with
   | .ptr x _ =>some x|_ =>none
  else match qR fr (Nat.mod d 1000)with
   | .yl x=>match H.any x with
    |some o=>match o.me with
     |some (.loop r)=>aRw k H (r.fr.view r.n) (Nat.div d 1000-1)|_ =>none
    |none=>none
   |_ =>none
noncomputable def Bv(fr:fU)(H:Hp)(g:Int):Bb->Option Int
 | .slot d=>MB (qR fr d)
 | .cell d j=>match aRw 5 H fr d with
  |some x=>match H.get x with
   |some o=>match o.cells[j]? with
    |some t=>MB t|none=>none
   |none=>none
  |none=>none
 | .ghost=>some g| .zero=>some 0
section
variable{U ρ' ρ0 ρ1:gJ}{O μ' μ0 μ1:fW}{H H1:Hp}{S S1:AS}{fr fr1:fU}
theorem Zz(h0:U[0]? =some 0){a:A}{t:T}(hg:Gm U O a t){s:Nat}{c:Int}(h:RT a=some (s,c)):∃v,U[s]? =some v/\MB t=some (v+c):=by
 cases hg with
 |int _ _ _ v h1 h2=>simp only[RT]at h;cases h;exact⟨v,h1,rfl⟩|strc l=>simp only[RT]at h;cases h;exact⟨0,h0,by simp[MB]⟩|str _ _ v l h1 h2=>simp only[RT]at h;cases h;exact⟨v,h1,by simp[MB,h2]⟩|nils=>simp only[RT]at h;cases h;exact⟨0,h0,by simp[MB]⟩
 |sl _ _ _ _ xs v h1 h2 h3 h4=>
  simp only[RT]at h;cases h;refine⟨v,h2,?_⟩;rcases h1 with⟨rfl,rfl⟩|⟨f,rfl⟩|⟨full,m,f,rfl,rfl⟩
  .simp only[MB,<-h3];rfl
  .simp only[MB,<-h3]
  .simp only[dV,fA]at h3;simp only[MB,<-h3]
 |slp _ _ _ _ _ xs v h0' h1 h2 h3 h4=>
  simp only[RT]at h;cases h;refine⟨v,h2,?_⟩;rcases h1 with⟨rfl,rfl⟩|⟨f,rfl⟩|⟨full,m,f,rfl,rfl⟩
  .simp only[MB,<-h3];rfl
  .simp only[MB,<-h3]
  .simp only[dV,fA]at h3;simp only[MB,<-h3]
 |sx _ _ full m f v h1 h2=>simp only[RT]at h;cases h;exact⟨v,h1,by simp only[MB,h2]⟩
 |osl _ _ _ _ _ _ l' vi v h1 h2 h3 h4 h5=>
  simp only[RT]at h;cases h;exact⟨v,h4,by simp only[MB];rw[Int.toNat_of_nonneg h5]⟩
 |osl0 _ _ _ _ _ _ vi v h1 h2 h3 h4 h5=>
  simp only[RT]at h;cases h;exact⟨v,h4,by simp only[MB,h5]⟩
 |_ =>simp only[RT]at h;cases h
theorem GH.atL{hp:gL}{nl:Nat}{H:Hp}(hg:GH hp nl U O H){l x:Nat}{st:LoopState}{pn:jO}{fa:List A}{ps:Array Tmp}{asg bd:Code}{ow:hD}{aa ab:An}(h:pY hp l=some (.loop st pn fa ps asg bd ow aa ab))(hx:O[l]? =some (some x)):
  ∃b r,H.any x=some b/\b.me=some (.loop r)/\r.st=st/\r.pe=peC pn/\r.ps=ps/\r.asg=asg/\r.bd=bd/\r.ow=ow/\qO U O fa (r.fr.view r.n):=by
 obtain⟨y,h1,h2⟩:=hg.obj l _ h;rw[hx]at h1;cases h1;obtain⟨b,h3,r,h4⟩:=h2 x rfl;exact⟨b,r,h3,h4⟩
theorem Qb{hp:gL}{nl:Nat}(hh:GH hp nl U O H):∀(k:Nat) (fa:List A) (fr:fU) (d l:Nat),qO U O fa fr->Et k hp fa d=some l->∃x,aRw k H fr d=some x/\O[l]? =some (some x)
 |0,fa,fr,d,l,_,h=>by simp[Et]at h
 |k+1,fa,fr,d,l,hf,h=>by
  simp only[Et]at h;simp only[aRw];split at h
  .rename_i hd;rw[if_pos hd];have hget:=hf.get d;split at h
   .rename_i l' off hv;cases h;rw[hv]at hget;generalize qR fr d=z at hget;cases hget with
    |ptr _ _ x hx=>exact⟨x,rfl,hx⟩
   .cases h
  .rename_i hd;rw[if_neg hd];have hget:=hf.get (Nat.mod d 1000);split at h
   .rename_i l' hv;rw[hv]at hget;generalize qR fr (Nat.mod d 1000)=z at hget;cases hget with
    |yl _ x hx=>
    split at h
    .rename_i hfa;obtain⟨b,r,b1,b2,_,_,_,_,_,_,b3⟩:=hh.atL hfa hx;obtain⟨x',e1,e2⟩:=Qb hh k _ _ _ _ b3 h;exact⟨x',by simp only[b1,b2];exact e1,e2⟩
    .cases h
   .cases h
theorem xO(hg:GS S U O fr H){gs:Nat}{gc g:Int}(hgh:∀v,U[gs]? =some v->v+gc=g)(hgx:∃v,U[gs]? =some v){r:Bb}{s:Nat}{c:Int}(h:JE S gs gc r=some (s,c)):
  ∃v,U[s]? =some v/\Bv fr H g r=some (v+c):=by
 cases r with
 |slot d=>exact Zz hg.sy.zero (hg.fr.get d) h
 |cell d j=>
  simp only[JE]at h;split at h
  .rename_i l hv;obtain⟨l',hz,hl'⟩:=Qb hg.hp 5 _ _ _ _ hg.fr hv;split at h
   .rename_i e xs hf;obtain⟨b,b1,b2⟩:=hg.hp.at hf hl';split at h
    .rename_i a ha;obtain⟨t,t1,t2⟩:=b2.2.at ha;obtain⟨v,v1,v2⟩:=Zz hg.sy.zero t2 h;exact⟨v,v1,by simp only[Bv,hz,b1,t1];exact v2⟩
    .cases h
   .cases h
  .cases h
 |ghost=>
  simp only[JE]at h;cases h;obtain⟨v,hv⟩:=hgx;exact⟨v,hv,by simp only[Bv,hgh v hv]⟩
 |zero=>simp only[JE]at h;cases h;exact⟨0,hg.sy.zero,rfl⟩
theorem Ey(h1:GS S1 ρ1 μ1 fr1 H1){gs:Nat}{gc g:Int}(hgh:∀v,ρ1[gs]? =some v->v+gc=g)(hgx:∃v,ρ1[gs]? =some v):∀(cons:jV),Kc gs gc S1 cons=true->
  ∀q∈cons,∃x y,Bv fr1 H1 g q.1=some x/\Bv fr1 H1 g q.2.1=some y/\x<=y+q.2.2
 |(p,q,c)::r,h,z,hz=>by
  simp only[Kc,aA]at h;rcases aR.1 hz with rfl|hz
  .have h2:=h.1;split at h2
   .rename_i x a y b hp hq;obtain⟨v,v1,v2⟩:=xO h1 hgh hgx hp;obtain⟨w,w1,w2⟩:=xO h1 hgh hgx hq;have:=qB h1.sy.cs h2 v1 w1;exact⟨_,_,v2,w2,by simp only;omega⟩
   .cases h2
  .exact Ey h1 hgh hgx r h.2 z hz
theorem VU(hg:GS S U O fr H){gs:Nat}{g:Int}(hgg:U[gs]? =some g):∀(cons:jV) (cs:List qV),(∀q∈cons,∃x y,Bv fr H g q.1=some x/\Bv fr H g q.2.1=some y/\x<=y+q.2.2)->
  NB gs cons S=some cs->qM U cs
 |[],cs,_,h=>by simp only[NB]at h;cases h;exact hg.sy.cs
 |(p,q,c)::r,cs,hc,h=>by
  simp only[NB]at h;split at h
  .rename_i x a y b hp hq;split at h
   .rename_i cs' hcs;cases h;have ih:=VU hg hgg r cs' (λz hz=>hc z (aG _ hz)) hcs;obtain⟨v,v1,v2⟩:=xO hg (g:=g) (λv h=>by rw[hgg]at h;cases h;omega) ⟨_,hgg⟩ hp;obtain⟨w,w1,w2⟩:=xO hg (g:=g) (λv h=>by rw[hgg]at h;cases h;omega) ⟨_,hgg⟩ hq;obtain⟨x',y',z1,z2,z3⟩:=hc _ aL;simp only at z1 z2 z3;rw[v2]at z1;rw[w2]at z2;cases z1;cases z2;exact .cons ⟨v,w,v1,w1,by omega⟩ ih
   .cases h
  .cases h
theorem YU(hk:rL H H1)(hs:GS S ρ0 μ0 fr H)(h1:GS S1 ρ1 μ1 fr1 H1)(he:uA ρ0 ρ1)(hm:uA μ0 μ1){w:iR}{sp:jD}{oc:gT}{cons:jV}{m0 g:Int}(hg:0<=g)(hg':g<=m0)
  {gs:Nat} {gc:Int} (hgh:∀v,ρ1[gs]? =some v->v+gc=g) (hgx:∃v,ρ1[gs]? =some v) (hok:okS S w sp oc cons S1 gs gc=true) {Sh:AS} (hi:Om S w sp oc cons m0=some Sh):
  ∃ρ2 μ2,uA ρ0 ρ2/\uA μ0 μ2/\ρ2[S.nx]? =some g/\GS Sh ρ2 μ2 fr1 H1:=by
 simp only[okS,aA]at hok;obtain⟨k1,k2,k3,k4,k5⟩:=hok;have hn:=hs.sy.len;have hl:=hs.hp.len;have hb:=aNx (sp:=sp) hk hs h1 he hm hg hg' k1 k2;have e0:=uA.app ρ0 [g];have hgn:=(hs.sy.new g).2.1;have htr:Tr S1 (HI S sp oc) S.nl μ1 (Xv S w sp oc m0) μ0 []:=by
  refine⟨λl q x hf hx=> ?_,λl e xs hf=> ?_⟩
  .obtain⟨q',h2,_⟩:=AD _ _ _ hf;obtain⟨h4,o1,h5,_⟩:=FD _ _ _ k2 h2;exact⟨l,o1,hm _ _ hx,h5,.inr (by unfold QB;rw[h2];rfl)⟩
  .obtain⟨q',h2,h3⟩:=AD _ _ _ hf;obtain⟨h4,o1,h5,h6⟩:=FD _ _ _ k2 h2;refine⟨h4,?_⟩;cases q' with
   |row=>cases h3|loop=>cases h3|map=>cases h3
   |fix e' ys=>
    cases h3;cases o1 with
    |row=>exact h6.elim|loop=>exact h6.elim|map=>exact h6.elim|fix e2 zs=>obtain⟨rfl,_⟩:=h6;exact⟨zs,h5⟩
 obtain⟨ρa,μa,a1,a2,a3,a4⟩:=VZ h1 he hm hn hl sp [] _ _ _ k3 hb e0 (.refl _) htr;obtain⟨ρb,μb,b1,b1',b2⟩:=VX h1 he hm hn hl oc _ _ ρa μa k4 a3 (e0.trans a1) a2 a4;unfold Om at hi;simp only at hi;split at hi
 .rename_i cs hcs;cases hi;have hgb:ρb[S.nx]? =some g:=b1 _ _ (a1 _ _ hgn);have hcc:=VU b2 hgb cons cs (Ey h1 hgh hgx cons k5) hcs;exact⟨ρb,μb,(e0.trans a1).trans b1,a2.trans b1',hgb,⟨b2.sy.len,b2.sy.zero,hcc⟩,b2.hp,b2.fr⟩
 .cases hi
end
section
variable{U ρ' ρ0 ρ1:gJ}{O μ' μ0 μ1:fW}{X:AX}{gl:fY}{pe:gN}{H H1:Hp}{S S1:AS}{P:fV}
variable{call:FuncId->List A->AS->Option (List AR)}{ee:gP}{F:hD}{fr fr1:fU}
abbrev iY:=Nat->Nat->Nat->List T->Hp->Option (Bool×Hp)
variable{yld:Nat->List A->AS->Option (List AR)}{yd:iY}
abbrev hO:=List (Go.Ps.X×AS)
def XOk(l:hO)(U:gJ)(O:fW)(x:Go.Ps.X)(fr:fU)(H:Hp):Prop:=
 ∃S,(x,S)∈l/\∃ρ' μ',uA U ρ'/\uA O μ'/\GS S ρ' μ' fr H
theorem XOk.lift{l l':hO}{x:Go.Ps.X}(h:XOk l U O x fr H)(hl:∀y∈l,y∈l'):XOk l' U O x fr H:=by
 obtain⟨S,h1,h2⟩:=h;exact⟨S,hl _ h1,h2⟩
theorem XOk.trans{l:hO}{x:Go.Ps.X}(e1:uA U ρ')(e2:uA O μ')(h:XOk l ρ' μ' x fr H):XOk l U O x fr H:=by
 obtain⟨S,h1,a,b,h2,h3,h4⟩:=h;exact⟨S,h1,a,b,e1.trans h2,e2.trans h3,h4⟩
theorem YG:∀(l:jB) (q:hO),Zn l=some q->∀s∈l,s.pend=none/\(.normal,s.S)∈q
 |s::r,q,h,z,hz=>by
  simp only[Zn]at h;split at h
  .rename_i hp;split at h
   .rename_i q' hq;cases h;rcases aR.1 hz with rfl|hz
    .exact⟨hp,aL⟩
    .obtain⟨h1,h2⟩:=YG r q' hq z hz;exact⟨h1,aG _ h2⟩
   .cases h
  .cases h
theorem XE{id:Nat}:∀{l:hO} {x:Go.Ps.X} {S:AS},(x,S)∈l->((match x with| .exit id'=>if id'=id then .normal else .exit id'|x=>x:Go.Ps.X),S)∈XD id l
 |(y,S')::r,x,S,h=>by
  rcases aR.1 h with h|h
  .cases h;cases y with
   |normal=>exact aL|ret=>exact aL
   |exit id'=>
    simp only[XD];by_cases hi:id'=id
    .rw[if_pos hi,if_pos (by rw[hi];simp)];exact aL
    .rw[if_neg hi,if_neg (by simpa using hi)];exact aL
  .have ih:=XE (id:=id) h;cases y with
   |normal=>exact aG _ ih|ret=>exact aG _ ih|exit id'=>exact aG _ ih
theorem yL{w:iR}{la:LA}{oc:gT}{Sh:AS}:∀(l q:hO),BF S w la oc Sh l=some q->∀x S2,(x,S2)∈l->
  (x= .normal/\okS S w la.sp oc la.cons S2 S.nx (Int.ofNat la.gk)=true/\IV S Sh S2 la.m0 la.ms=true)\/(x≠ .normal/\(x,S2)∈q)
 |(y,S')::r,q,h,x,S2,hm=>by
  cases y with
  |normal=>
   simp only[BF]at h;split at h
   .rename_i hc;simp only[aA]at hc;rcases aR.1 hm with hm|hm
    .cases hm;exact .inl ⟨rfl,hc⟩
    .exact yL r q h x S2 hm
   .cases h
  |ret=>
   simp only[BF]at h;split at h
   .rename_i q' hq;cases h;rcases aR.1 hm with hm|hm
    .cases hm;exact .inr ⟨by simp,aL⟩
    .exact(yL r q' hq x S2 hm).imp (λz=>z) λ⟨a,b⟩=>⟨a,aG _ b⟩
   .cases h
  |exit id=>
   simp only[BF]at h;split at h
   .rename_i q' hq;cases h;rcases aR.1 hm with hm|hm
    .cases hm;exact .inr ⟨by simp,aL⟩
    .exact(yL r q' hq x S2 hm).imp (λz=>z) λ⟨a,b⟩=>⟨a,aG _ b⟩
   .cases h
noncomputable def KW(fr:fU)(H:Hp):aGt->Option Int
 | .down p=>Bv fr H 0 p
 | .up p q c=>match Bv fr H 0 p,Bv fr H 0 q with
  |some x,some y=>some (y+c-x)|_,_ =>none
theorem aKj(hs:GS S U O fr H){Sh S2:AS}{m0:Int}{ms:aGt}(h:IV S Sh S2 m0 ms=true):∃M,KW fr H ms=some M/\M<=m0:=by
 have hz:∀v,U[0]? =some v->v+0=0:=λv hv=>by rw[hs.sy.zero]at hv;cases hv;rfl
 cases ms with
 |down p=>
  simp only[IV,aA]at h;have h1:=h.1;split at h1
  .rename_i x a hp;obtain⟨v,v1,v2⟩:=xO hs hz ⟨0,hs.sy.zero⟩ hp;have:=qB hs.sy.cs h1 v1 hs.sy.zero;exact⟨_,v2,by omega⟩
  .cases h1
 |up p q c=>
  simp only[IV,aA]at h;have h1:=h.1;split at h1
  .rename_i x a y b hp hq;obtain⟨v,v1,v2⟩:=xO hs hz ⟨0,hs.sy.zero⟩ hp;obtain⟨w,w1,w2⟩:=xO hs hz ⟨0,hs.sy.zero⟩ hq;have:=qB hs.sy.cs h1 w1 v1;exact⟨w+b+c-(v+a),by simp only[KW,v2,w2],by omega⟩
  .cases h1
theorem Pv{Sh S2:AS}(hh:GS Sh U O fr H)(h2:GS S2 ρ' μ' fr1 H1)(he:uA U ρ'){m0:Int}{ms:aGt}(h:IV S Sh S2 m0 ms=true):∃M M',KW fr H ms=some M/\KW fr1 H1 ms=some M'/\M'+1<=M/\0<=M':=by
 have hz:∀v,U[0]? =some v->v+0=0:=λv hv=>by rw[hh.sy.zero]at hv;cases hv;rfl
 have hz2:∀v,ρ'[0]? =some v->v+0=0:=λv hv=>by rw[h2.sy.zero]at hv;cases hv;rfl
 cases ms with
 |down p=>
  simp only[IV,aA]at h;have h1:=h.2;split at h1
  .rename_i x a y b hp hq;simp only[aA]at h1;obtain⟨v,v1,v2⟩:=xO hh hz ⟨0,hh.sy.zero⟩ hp;obtain⟨w,w1,w2⟩:=xO h2 hz2 ⟨0,h2.sy.zero⟩ hq;have q1:=qB h2.sy.cs h1.1 w1 (he _ _ v1);have q2:=qB h2.sy.cs h1.2 h2.sy.zero w1;exact⟨_,_,v2,w2,by omega,by omega⟩
  .cases h1
 |up p q c=>
  simp only[IV,aA]at h;have h1:=h.2;split at h1
  .rename_i x a y b x' a' y' b' hp hq hp' hq';simp only[aA,beq_iff_eq]at h1;obtain⟨k1,k2,k3,k4⟩:=h1;have k1:=pX k1;subst k1 k2;obtain⟨v,v1,v2⟩:=xO hh hz ⟨0,hh.sy.zero⟩ hp;obtain⟨w,w1,w2⟩:=xO hh hz ⟨0,hh.sy.zero⟩ hq;obtain⟨v',v3,v4⟩:=xO h2 hz2 ⟨0,h2.sy.zero⟩ hp';obtain⟨w',w3,w4⟩:=xO h2 hz2 ⟨0,h2.sy.zero⟩ hq';have:=he _ _ w1;rw[w3]at this;cases this;have q1:=qB h2.sy.cs k3 (he _ _ v1) v3;have q2:=qB h2.sy.cs k4 v3 w3;exact⟨w+b+c-(v+a),w+b+c-(v'+a'),by simp only[KW,v2,w2],by simp only[KW,v4,w4],by omega,by omega⟩
  .cases h1
abbrev jK:=Nat->Nat->List T->Hp->Option (Go.Ps.X×List T×Hp)
theorem aQt{H0:Hp}(hs:GS S ρ0 μ0 fr H0){w:iR}{la:LA}{oc:gT}{Sh:AS}(hi:Om S w la.sp oc la.cons (Int.ofNat la.gk*la.m0)=some Sh){l q:hO}(hq:BF S w la oc Sh l=some q)
  {f:jK} (hbody:∀(U:gJ) (O:fW) (fr:fU) (H:Hp),GS Sh U O fr H->uA μ0 O->∃x fr' H',Ev (λn d=>f n d fr H=some (x,fr',H'))/\rL H H'/\XOk l U O x fr' H'):
  ∀(N:Nat) (U:gJ) (O:fW) (fr:fU) (H:Hp) (g:Int),GS Sh U O fr H->rL H0 H->uA ρ0 U->uA μ0 O->U[S.nx]? =some (Int.ofNat la.gk*g)->0<=g->(∀M,KW fr H la.ms=some M->M<=N)->((∃x S2,(x,S2)∈l/\x= .normal)->∃M,KW fr H la.ms=some M/\M+g<=la.m0)->
   ∃x fr' H',x≠ .normal/\(∃m,∀n d k,m<=n->m<=d->m<=k->pU.loopN (f n d) k fr H=some (x,fr',H'))/\XOk q ρ0 μ0 x fr' H':=by
 intro N
 induction N with
 |zero=>
  intro U O fr H g hg hkp e1 e2 hgg h0 hN hM;obtain⟨x,fr1,H1,⟨m,hm⟩,hk1,S2,s1,ρ',μ',x1,x2,g2⟩:=hbody U O fr H hg e2;rcases yL l q hq x S2 s1 with⟨rfl,k1,k2⟩|⟨k1,k2⟩
  .obtain⟨M,M',q1,q2,q3,q4⟩:=Pv hg g2 x1 k2;have:=hN M q1;omega
  .refine⟨x,fr1,H1,k1,⟨m+1,λn d k hn hd hk=> ?_⟩,S2,k2,ρ',μ',e1.trans x1,e2.trans x2,g2⟩;obtain⟨k,rfl⟩:∃k',k=k'+1:=⟨k-1,by omega⟩;simp only[pU.loopN,hm n d (by omega) (by omega)];cases x<;>first|rfl|exact absurd rfl k1
 |succ N ih=>
  intro U O fr H g hg hkp e1 e2 hgg h0 hN hM;obtain⟨x,fr1,H1,⟨m,hm⟩,hk1,S2,s1,ρ',μ',x1,x2,g2⟩:=hbody U O fr H hg e2;rcases yL l q hq x S2 s1 with⟨rfl,k1,k2⟩|⟨k1,k2⟩
  .obtain⟨M,M',q1,q2,q3,q4⟩:=Pv hg g2 x1 k2;have hN':=hN M q1;obtain⟨M2,q5,q6⟩:=hM ⟨_,_,s1,rfl⟩;rw[q1]at q5;cases q5;obtain⟨ρ2,μ2,y1,y2,y3,y4⟩:=YU (hkp.trans hk1) hs g2 (e1.trans x1) (e2.trans x2) (g:=Int.ofNat la.gk*(g+1)) (Int.mul_nonneg (Int.natCast_nonneg _) (by omega)) (Int.mul_le_mul_of_nonneg_left (by omega) (Int.natCast_nonneg _)) (gs:=S.nx) (gc:=Int.ofNat la.gk) (λv hv=>by rw[x1 _ _ hgg]at hv;cases hv;rw[Int.mul_add,Int.mul_one]) ⟨_,x1 _ _ hgg⟩ k1 hi;obtain⟨x',fr',H',z1,⟨m',z2⟩,z3⟩:=ih ρ2 μ2 fr1 H1 (g+1) y4 (hkp.trans hk1) y1 y2 y3 (by omega) (λM3 h3=>by rw[q2]at h3;cases h3;omega) (λ_ =>⟨M',q2,by omega⟩);refine⟨x',fr',H',z1,⟨max m m'+1,λn d k hn hd hk=> ?_⟩,z3⟩;obtain⟨k,rfl⟩:∃k',k=k'+1:=⟨k-1,by omega⟩;simp only[pU.loopN,hm n d (by omega) (by omega)];exact z2 n d k (by omega) (by omega) (by omega)
  .refine⟨x,fr1,H1,k1,⟨m+1,λn d k hn hd hk=> ?_⟩,S2,k2,ρ',μ',e1.trans x1,e2.trans x2,g2⟩;obtain⟨k,rfl⟩:∃k',k=k'+1:=⟨k-1,by omega⟩;simp only[pU.loopN,hm n d (by omega) (by omega)];cases x<;>first|rfl|exact absurd rfl k1
theorem Dc{w:iR}{sp:jD}:∀(l:jB),Mm S w sp l=true->∀s∈l,s.pend=none/\okS S w sp [] [] s.S 0 0=true
 |s::r,h,z,hz=>by
  simp only[Mm,aA]at h;rcases aR.1 hz with rfl|hz
  .exact⟨by simpa using h.1,h.2.1⟩
  .exact Dc r h.2.2 z hz
theorem RA(hs:GS S ρ0 μ0 fr H){w:iR}{l l':jB}(h:YC S w l=some l'){fr1:fU}{H1:Hp}{pd:jE}(hk:rL H H1)(ho:xT P gl pe F l ρ0 μ0 fr1 H1 pd):xT P gl pe F l' ρ0 μ0 fr1 H1 pd:=by
 have gen:∀(s:Af) (r:jB),(if Mm S w (aEp S.nx S.nl s r w) (s::r)then match Om S w (aEp S.nx S.nl s r w) [] [] 0 with|some S'=>some [⟨S',none,[]⟩]|none=>none else none)=some l'->xT P gl pe F (s::r) ρ0 μ0 fr1 H1 pd->xT P gl pe F l' ρ0 μ0 fr1 H1 pd:=by
  intro s r h ⟨z,z1,ρ1,μ1,e1,e2,e3,g1,_⟩;split at h
  .rename_i ha;split at h
   .rename_i S' hS';cases h;obtain⟨k1,k2⟩:=Dc _ ha z z1;obtain⟨ρ2,μ2,y1,y2,_,y4⟩:=YU hk hs g1 e1 e2 (g:=0) (m0:=0) (by omega) (by omega) (gs:=0) (gc:=0) (λv hv=>by rw[g1.sy.zero]at hv;cases hv;rfl) ⟨0,g1.sy.zero⟩ k2 hS';exact⟨_,aQ _,ρ2,μ2,y1,y2,by rw[<-e3,k1],y4,.nil⟩
   .cases h
  .cases h
 match l,h,ho with
 |[],h,ho=>simp only[YC]at h;cases h;exact ho|[s],h,ho=>simp only[YC]at h;cases h;exact ho|s::t::r,h,ho=>exact gen s (t::r) h ho
theorem Ou(hs:GS S ρ0 μ0 fr H){w:iR}:∀(n:Nat) (l l':jB),El S w n l=some l'->∀{fr1:fU} {H1:Hp} {pd:jE},rL H H1->xT P gl pe F l ρ0 μ0 fr1 H1 pd->xT P gl pe F l' ρ0 μ0 fr1 H1 pd
 |0,l,l',h,_,_,_,_,ho=>by simp only[El]at h;cases h;exact ho|n+1,[],l',h,_,_,_,_,ho=>by simp only[El]at h;cases h;exact ho
 |n+1,s::r,l',h,fr1,H1,pd,hk,⟨z,z1,hz⟩=>by
  simp only[El]at h;split at h
  .rename_i a ha;split at h
   .rename_i b hb;cases h;rcases aR.1 z1 with rfl|z1
    .exact(RA hs ha hk ⟨z,aL,hz⟩).lift λy hy=>List.mem_append_left _ hy
    .by_cases hq:aAy s z w=true
     .exact(RA hs ha hk ⟨z,aG _ (List.mem_filter.2 ⟨z1,hq⟩),hz⟩).lift λy hy=>List.mem_append_left _ hy
     .exact(Ou hs n _ b hb hk ⟨z,List.mem_filter.2 ⟨z1,by simpa using hq⟩,hz⟩).lift λy hy=>List.mem_append_right _ hy
   .cases h
  .cases h
def Mh(yld:Nat->List A->AS->Option (List AR))(yd:iY):Prop:=
 ∀l args S rs,yld l args S=some rs->∀(U:gJ) (O:fW) (H:Hp) (ts:fU) (x:Nat),Sy U S.nx S.cs->GH S.hp S.nl U O H->qO U O args ts->O[l]? =some (some x)->
  ∃b H',Ev (λn d=>yd n d x ts H=some (b,H'))/\∃R∈rs,ROk U O R (.bool b) H'
section
variable(P:fV)(E:tY)(e:gB)(y:gF)(ow:hD)
noncomputable def Ae(ops:fZ)(s:Fx)(o:Oper):Option Fx:=
 match(if s.pend.isNone&&qH ops s.fr o then AL E.gl s.fr o else none)with
 |some (l,ars)=>match y l ars s.H with
  |some (b,H')=>some ⟨qU s.fr o.dst (.bool b),H',none⟩|none=>none
 |none=>sE P E (BU ow e) ops s o
end
theorem SG{E:tY}{e:gB}{y:gF}{ow:hD}{ops:fZ}{o:Oper}{r:gW}{s s1:Fx}(h:Ae P E e y ow ops s o=some s1):
  EH P E e y ow ops (o::r) s=EH P E e y ow ops r s1:=by
 simp only[EH];unfold Ae at h;split at h
 .rename_i hq;rw[hq];simp only;split at h
  .rename_i hy;rw[hy];cases h;rfl
  .cases h
 .rename_i hq;rw[hq];simp only;rw[h]
theorem Wt{E:tY}{e:gB}{y:gF}{ow:hD}(hF:Tg e)(hY:Xq y){ops:fZ}{o:Oper}{s s1:Fx}(h:Ae P E e y ow ops s o=some s1):rL s.H s1.H:=by
 have h1:=SG (r:=[]) h;exact FE hF hY (s:=s) (s':=s1) (l:=[o]) (h1.trans rfl)
theorem aEq{E:tY}{G:Fc}{ops:fZ}{s s':Fx}{o:Oper}(h:sE P E G ops s o=some s')(hp:s.pend=none)(hw:qH ops s.fr o=true):AL E.gl s.fr o=none:=by
 cases hq:AL E.gl s.fr o with
 |none=>rfl
 |some q=>
  exfalso;unfold AL at hq;unfold sE at h;simp only[hp]at h;unfold tU at h;rw[if_pos hw]at h;split at hq
  .rename_i c ho;split at hq
   .rename_i f hf;split at hq
    .rename_i l hl;have e1:qK P E (zO G o) s.H s.fr o=none:=by simp only[qK,ho,zA,hf,hl]
     have e2:tQ G o=none:=by simp only[tQ,ho]
     have e3:xF P E G s.H s.fr o=none:=by simp only[xF,ho,hf,hl]
     simp only[e1,e2,e3]at h;cases h
    .cases hq
   .cases hq
  .cases hq
theorem aZq(hc:Cn X gl pe)(hg:GS S U O fr H){o:Oper}{l:Nat}{xs:List Operand}(h:yOf X.gl S.fr o=some (l,xs)){ars:List A}(ha:ET X.gl S.fr xs=some ars):∃x ts,O[l]? =some (some x)/\AL gl fr o=some (x,ts)/\qO U O ars ts:=by
 unfold yOf at h;split at h
 .rename_i c ho;split at h
  .rename_i f hf;split at h
   .rename_i l' hl;cases h;obtain⟨t,t1,t2⟩:=uZ hc.gl hg.sy.zero hg.fr hl;cases t2 with
    |yl _ x hx=>
    obtain⟨ts,u1,u2⟩:=yZ hc.gl hg.sy.zero hg.fr ha;exact⟨x,ts,hx,by simp only[AL,ho,hf,t1,u1],u2⟩
   .cases h
  .cases h
 .cases h
theorem aIq:FcA F ee (λn d=>BU F (ee n d)):=⟨λ_ _ =>rfl,λn d=>NZ _ _⟩
theorem Rv(hc:Cn X gl pe)(hcall:yI call ee)(hyl:Mh yld yd){s:Af}(hg:GS s.S U O fr H)(hav:AvOk P gl pe F s.av fr H){ops:fZ}{o:Oper}{l:jB}(h:aBe P X call yld F ops s o=some l):
  ∃fr' H' pd,Ev (λn d=>Ae P ⟨gl,pe⟩ (ee n d) (yd n d) F ops ⟨fr,H,s.pend⟩ o=some ⟨fr',H',pd⟩)/\xT P gl pe F l U O fr' H' pd:=by
 unfold aBe at h;split at h
 .split at h
  .cases h
  .rename_i hpn;have hpn:s.pend=none:=by simpa using hpn
   split at h
   .rename_i gs hgs;obtain⟨q,q1,q2,q3⟩:=EW hg hgs;obtain⟨u,u1,u2⟩:=rS h q q1;split at u1
    .rename_i hw;rw[q2]at hw;unfold bGf at u1;split at u1
     .rename_i l' xs hy;split at u1
      .rename_i ars ha;split at u1
       .rename_i rs hrs;cases u1;obtain⟨x,ts,v1,v2,v3⟩:=aZq hc q3 hy ha;obtain⟨b,H',e1,R,r1,ρ',μ',k1,k2,k3,k4,k5⟩:=hyl _ _ _ _ hrs U O H ts x q3.sy q3.hp v3 v1;refine⟨qU fr o.dst (.bool b),H',none,e1.mono λn d e=> ?_,_,u2 _ (bQ.2 ⟨R,r1,rfl⟩),ρ',μ',k1,k2,rfl,⟨k3,k4,(q3.fr.ext k1 k2).put k5 o.dst⟩,.nil⟩;unfold Ae;simp only[hpn,Option.isNone_none,Bool.true_and,hw,if_true,v2,e]
       .cases u1
      .cases u1
     .cases u1
    .rename_i hw;have hw:qH ops fr o=false:=by rw[<-q2];simpa using hw
     cases u1;refine⟨qU fr o.dst pV,H,none,.of λn d=> ?_,_,u2 _ (aQ _),U,O,.refl _,.refl _,rfl,⟨q3.sy,q3.hp,q3.fr.put uU o.dst⟩,.nil⟩;unfold Ae;simp only[hpn,hw,Option.isNone_none,Bool.and_false,aY,if_false];unfold sE;simp only[tU,hw,aY,if_false]
   .cases h
 .obtain⟨fr',H',pd,e1,e2⟩:=Rs (Fe:=λn d=>BU F (ee n d)) hc hcall aIq hg hav h;refine⟨fr',H',pd,e1.mono λn d e=> ?_,e2⟩;unfold Ae;have:(if(s.pend.isNone&&qH ops fr o)=true then AL gl fr o else none)=none:=by
   split
   .rename_i hcnd;simp only[aA]at hcnd;exact aEq e (by simpa using hcnd.1) hcnd.2
   .rfl
  simp only[this];exact e
theorem aAw(hc:Cn X gl pe)(hcall:yI call ee)(hyl:Mh yld yd){ops:fZ}:∀(os:gW) (s:Af) (U:gJ) (O:fW) (fr:fU) (H:Hp) (l:jB),GS s.S U O fr H->AvOk P gl pe F s.av fr H->aLx P X call yld F ops os s=some l->
  ∃fr' H' pd,Ev (λn d=>EH P ⟨gl,pe⟩ (ee n d) (yd n d) F ops os ⟨fr,H,s.pend⟩=some ⟨fr',H',pd⟩)/\xT P gl pe F l U O fr' H' pd
 |[],s,U,O,fr,H,l,hg,hav,h=>by
  simp only[aLx]at h;cases h;exact⟨fr,H,s.pend,.of λn d=>rfl,_,aQ _,U,O,.refl _,.refl _,rfl,hg,hav⟩
 |o::rest,s,U,O,fr,H,l,hg,hav,h=>by
  simp only[aLx]at h;split at h
  .rename_i q hq;obtain⟨fr1,H1,pd1,e1,s1,m1,ρ1,μ1,x1,x2,x3,g1,av1⟩:=Rv hc hcall hyl hg hav hq;obtain⟨r,r1,r2⟩:=rS h s1 m1;obtain⟨fr2,H2,pd2,e2,k2⟩:=aAw hc hcall hyl rest s1 ρ1 μ1 fr1 H1 r g1 av1 r1;rw[x3]at e2;refine⟨fr2,H2,pd2,(e1.and e2).mono λn d ⟨a,b⟩=> ?_,(k2.lift r2).trans x1 x2⟩;rw[SG a];exact b
  .cases h
theorem Ev.ex{p:jY}(h:Ev p):∃n d,p n d:=by obtain⟨m,hm⟩:=h;exact⟨m,m,hm m m (aZ _) (aZ _)⟩
theorem aAv(hc:Cn X gl pe)(hcall:yI call ee)(hyl:Mh yld yd)(hK:∀n d,Tg (ee n d))(hKy:∀n d,Xq (yd n d))(hs:GS S ρ0 μ0 fr H){ops:fZ}:∀(os:gW) (w:iR) (l l':jB) (fr1:fU) (H1:Hp) (pd:jE),aLw P X call yld F S ops w os l=some l'->rL H H1->xT P gl pe F l ρ0 μ0 fr1 H1 pd->
  ∃fr' H' pd',Ev (λn d=>EH P ⟨gl,pe⟩ (ee n d) (yd n d) F ops os ⟨fr1,H1,pd⟩=some ⟨fr',H',pd'⟩)/\xT P gl pe F l' ρ0 μ0 fr' H' pd'
 |[],w,l,l',fr1,H1,pd,h,_,ho=>by simp only[aLw]at h;cases h;exact⟨fr1,H1,pd,.of λn d=>rfl,ho⟩
 |o::rest,w,l,l',fr1,H1,pd,h,hk,⟨s,s1,ρ1,μ1,e1,e2,e3,g1,av1⟩=>by
  simp only[aLw]at h;split at h
  .rename_i q hq;obtain⟨u,u1,u2⟩:=rS hq s s1;obtain⟨fr2,H2,pd2,k1,k2⟩:=Rv hc hcall hyl g1 av1 u1;have hk2:rL H H2:=by
    obtain⟨n,d,e⟩:=k1.ex;have:=Wt (hK n d) (hKy n d) e;exact hk.trans this
   have k3:xT P gl pe F q ρ0 μ0 fr2 H2 pd2:=(k2.lift u2).trans e1 e2;split at h
   .rename_i l2 hl2;have k4:xT P gl pe F l2 ρ0 μ0 fr2 H2 pd2:=by
     split at hl2
     .exact Ou hs _ _ _ hl2 hk2 k3
     .cases hl2;exact k3
    obtain⟨fr',H',pd',k5,k6⟩:=aAv hc hcall hyl hK hKy hs rest _ l2 l' fr2 H2 pd2 h hk2 k4;rw[e3]at k1;refine⟨fr',H',pd',(k1.and k5).mono λn d ⟨a,b⟩=> ?_,k6⟩;rw[SG a];exact b
   .cases h
  .cases h
def Mf(O:fW):Option Nat->Option Nat->Prop
 |none,none=>True|some l,some x=>O[l]? =some (some x)|_,_ =>False
theorem Mf.ext{O μ':fW}(h:uA O μ'){a b:iB}(hr:Mf O a b):Mf μ' a b:=by
 cases a<;>cases b<;>first|trivial|exact hr.elim|exact h _ _ hr
theorem Yg{l:Nat}:∀(rs:List AR) (q:hO),aPd S l rs=some q->∀R∈rs,∃st pn fa ps asg bd ow aa ab,pY R.hp l=some (.loop st pn fa ps asg bd ow aa ab)/\st≠ .busy/\(aXf pn,{fr:=S.fr,hp:=wU R.hp l,nx:=R.nx,nl:=R.nl,cs:=R.cs})∈q
 |R::rs,q,h,R',hm=>by
  simp only[aPd]at h;split at h
  .rename_i st pn fa ps asg bd ow aa ab hf;split at h
   .cases h
   .rename_i hst;split at h
    .rename_i q' hq;cases h;rcases aR.1 hm with rfl|hm
     .exact⟨st,pn,fa,ps,asg,bd,ow,aa,ab,hf,λe=>hst (by rw[e];rfl),aL⟩
     .obtain⟨st,pn,fa,ps,asg,bd,ow,aa,ab,a1,a2,a3⟩:=Yg rs q' hq R' hm;exact⟨st,pn,fa,ps,asg,bd,ow,aa,ab,a1,a2,aG _ a3⟩
    .cases h
  .cases h
theorem UU{Y:Type}{H:Hp}{l:Nat}{b:Ob}{r:Lr}(h1:H.any l=some b)(h2:b.me=some (.loop r))(k:Lr->Option Y):RM H l k=k r:=by
 unfold RM;simp only[h1,okO];simp only[h2]
theorem aRz(hg:GS S U O fr H){ro ro':iB}(h:roA S ro=true)(hr:Mf O ro ro'):Qp H ro'=true:=by
 cases ro with
 |none=>cases ro' with
  |none=>rfl|some x=>exact hr.elim
 |some l=>cases ro' with
  |none=>exact hr.elim
  |some x=>
   simp only[roA]at h;split at h
   .rename_i st pn fa ps asg bd ow aa ab hf;obtain⟨b,r,h1,h2,_⟩:=hg.hp.atL hf hr;simp only[Qp,aQa,h1,h2]
   .cases h
theorem aDw(hcall:yI call ee)(hc:Cn X gl pe){ro ro':iB}{g:jF}{ps:Array Tmp}{asg bd:Code}{an:An}(hg:GS S U O fr H)(hro:Mf O ro ro'){l:hO}{J:jM}(h:wT P X call yld F J ro (.rangeFunc g ps asg bd) an S=some l):
  ∃x fr' H',Ev (λn d=>qI P ⟨gl,pe⟩ (ee n d) (yd n d) F n ro' (.rangeFunc g ps asg bd) fr H=some (x,fr',H'))/\XOk l U O x fr' H':=by
 simp only[wT]at h;split at h
 .rename_i gf cap hgf;split at h
  .rename_i hra;split at h
   .rename_i rs hrs;obtain⟨t,t1,t2⟩:=uZ hc.gl hg.sy.zero hg.fr hgf;cases t2 with
    |fn _ _ _ f' cap' q1 q2 q3 q4=>
    have hf':f'=[]:=by cases f' with|nil=>rfl|cons=>simp at q1
    subst hf';obtain⟨v1,v2⟩:=Qc (n:=fr.length) (fr:=fr) rfl;have hgm:Ti U (O++[some H.next]) (.loop .ready none S.fr ps asg bd F an.l an.r) (DE ⟨.ready,none,FT.of fr 0 .nl,fr.length,ps,asg,bd,F⟩):=
     ⟨_,rfl,rfl,rfl,rfl,rfl,rfl,rfl,by rw[v1];exact hg.fr.ext (.refl _) (.app _ _)⟩
    have hnew:=hg.hp.newL hgm rfl;obtain⟨r,H2,e1,R,m1,ρ',μ',k1,k2,k3,k4,k5⟩:=hcall _ _ _ _ hrs U (O++[some H.next]) _ (.yl H.next::cap') hg.sy hnew (qO.cons (.yl _ _ (tM hg.hp.len _)) (qO.ext (.refl _) (.app _ _) ⟨q3,q4⟩));obtain⟨st,pn,fa,ps',asg',bd',ow',aa,ab,w1,w2,w3⟩:=Yg rs l h R m1;have hx:μ'[S.nl]? =some (some H.next):=k2 _ _ (tM hg.hp.len _);obtain⟨b,rc,z1,z2,z3,z4,_⟩:=k4.atL w1 hx;refine⟨aXf pn,fr,H2.drop H.next,e1.mono λn d e=> ?_,_,w3,ρ',μ',k1,(uA.app _ _).trans k2,k3,k4.dropR w1 hx,hg.fr.ext k1 ((uA.app _ _).trans k2)⟩;simp only[qI,t1];rw[if_pos (aRz hg hra hro),e];simp only[WY];rw[UU z1 z2,z3,z4];cases st<;>first|exact absurd rfl w2|(rcases pn with _ |_ |id<;>rfl)
   .cases h
  .cases h
 .cases h
theorem YD{m:Nat}:∀(cs:List qV),qM U cs->qM U (TL m cs)
 |[],h=>h
 | .le x y c::r,h=>by
  have hr:=YD (m:=m) r (λq hq=>h q (aG _ hq));simp only[TL];split
  .exact .cons (h _ aL) hr
  .exact hr
 | .ne x y c::r,h=>by
  have hr:=YD (m:=m) r (λq hq=>h q (aG _ hq));simp only[TL];split
  .exact .cons (h _ aL) hr
  .exact hr
theorem Vb(h:GS S U O fr H):GS (gcS S) U O fr H:=⟨⟨h.sy.len,h.sy.zero,YD _ h.sy.cs⟩,h.hp,h.fr⟩
theorem aMp{g:An->AS->Option (List (Go.Ps.X×AS))}{ro ro':iB}{f:jK}
  (hb:∀(b:An) (S:AS) (U:gJ) (O:fW) (fr:fU) (H:Hp) (l:hO),GS S U O fr H->Mf O ro ro'->g b S=some l->∃x fr' H',Ev (λn d=>f n d fr H=some (x,fr',H'))/\XOk l U O x fr' H'):
  ∀(k:List An) (S:AS) (U:gJ) (O:fW) (fr:fU) (H:Hp) (l:hO),GS S U O fr H->Mf O ro ro'->aMo g k S=some l->
   ∃x fr' H',(∃m,∀n d k,m<=n->m<=d->m<=k->pU.loopN (f n d) k fr H=some (x,fr',H'))/\XOk l U O x fr' H'
 |[],_,_,_,_,_,_,_,_,h=>by simp[aMo]at h
 |b0::k,S,U,O,fr,H,l,hg,hro,h=>by
  simp only[aMo]at h;split at h
  .rename_i r hr;obtain⟨x,fr1,H1,⟨m,e1⟩,S1,s1,ρ1,μ1,x1,x2,g1⟩:=hb b0 S U O fr H r hg hro hr;obtain⟨u,u1,u2⟩:=rS h _ s1;cases x with
   |normal=>
    obtain⟨y,fr2,H2,⟨m',e2⟩,k2⟩:=aMp hb k (gcS S1) ρ1 μ1 fr1 H1 u (Vb g1) (hro.ext x2) u1;refine⟨y,fr2,H2,⟨max m m'+1,λn d j hn hd hj=> ?_⟩,(k2.lift u2).trans x1 x2⟩;obtain⟨j,rfl⟩:∃j',j=j'+1:=⟨j-1,by omega⟩;simp only[pU.loopN,e1 n d (by omega) (by omega)];exact e2 n d j (by omega) (by omega) (by omega)
   |exit id=>
    cases u1;refine⟨.exit id,fr1,H1,⟨m+1,λn d j hn hd hj=> ?_⟩,gcS S1,u2 _ (aQ _),ρ1,μ1,x1,x2,Vb g1⟩;obtain⟨j,rfl⟩:∃j',j=j'+1:=⟨j-1,by omega⟩;simp only[pU.loopN,e1 n d (by omega) (by omega)]
   |ret=>
    cases u1;refine⟨.ret,fr1,H1,⟨m+1,λn d j hn hd hj=> ?_⟩,gcS S1,u2 _ (aQ _),ρ1,μ1,x1,x2,Vb g1⟩;obtain⟨j,rfl⟩:∃j',j=j'+1:=⟨j-1,by omega⟩;simp only[pU.loopN,e1 n d (by omega) (by omega)]
  .cases h
theorem WS(hc:Cn X gl pe)(hcall:yI call ee)(hyl:Mh yld yd)(hK:∀n d,Tg (ee n d))(hKy:∀n d,Xq (yd n d)){J:jM}{ro ro':iB}:∀(c:Code) (an:An) (S:AS) (U:gJ) (O:fW) (fr:fU) (H:Hp) (l:hO),GS S U O fr H->Mf O ro ro'->wT P X call yld F J ro c an S=some l->
  ∃x fr' H',Ev (λn d=>qI P ⟨gl,pe⟩ (ee n d) (yd n d) F n ro' c fr H=some (x,fr',H'))/\XOk l U O x fr' H':=by
 intro c
 induction c with
 |skip=>intro an S U O fr H l hg hro h;simp only[wT]at h;cases h;exact⟨.normal,fr,H,.of λn d=>rfl,S,aQ _,U,O,.refl _,.refl _,hg⟩|label _ =>intro an S U O fr H l hg hro h;simp only[wT]at h;cases h;exact⟨.normal,fr,H,.of λn d=>rfl,S,aQ _,U,O,.refl _,.refl _,hg⟩|exit id=>intro an S U O fr H l hg hro h;simp only[wT]at h;cases h;exact⟨.exit id,fr,H,.of λn d=>rfl,S,aQ _,U,O,.refl _,.refl _,hg⟩|ret=>intro an S U O fr H l hg hro h;simp only[wT]at h;cases h;exact⟨.ret,fr,H,.of λn d=>rfl,S,aQ _,U,O,.refl _,.refl _,hg⟩
 |region id ops draw=>
  intro an S U O fr H l hg hro h;simp only[wT]at h;split at h
  .rename_i r hr;cases draw with
   |true=>
    simp only[if_true]at hr;obtain⟨fr',H',pd,e1,s,s1,ρ',μ',x1,x2,x3,g1,_⟩:=aCj (Fe:=λn d=>BU F (ee n d)) hc hcall aIq hg hr;obtain⟨p1,p2⟩:=YG r l h s s1;refine⟨.normal,fr',H',e1.mono λn d e=> ?_,s.S,p2,ρ',μ',x1,x2,g1⟩;simp only[qI,if_true];rw[e,<-x3,p1]
   |false=>
    simp only[aY,if_false]at hr;have hseq:∃fr' H' pd,Ev (λn d=>EH P ⟨gl,pe⟩ (ee n d) (yd n d) F ops ops.toList ⟨fr,H,none⟩=some ⟨fr',H',pd⟩)/\xT P gl pe F r U O fr' H' pd:=by
     split at hr
     .split at hr
      .rename_i l0 hl0;obtain⟨fr',H',pd,e1,e2⟩:=aAv hc hcall hyl hK hKy hg ops.toList [] [⟨S,none,[]⟩] l0 fr H none hl0 (.refl _) ⟨_,aQ _,U,O,.refl _,.refl _,rfl,hg,.nil⟩;have hk:rL H H':=by
        obtain⟨n,d,e⟩:=e1.ex;exact FE (hK n d) (hKy n d) e
       exact⟨fr',H',pd,e1,RA hg hr hk e2⟩
      .cases hr
     .exact aAw hc hcall hyl ops.toList ⟨S,none,[]⟩ U O fr H r hg .nil hr
    obtain⟨fr',H',pd,e1,s,s1,ρ',μ',x1,x2,x3,g1,_⟩:=hseq;obtain⟨p1,p2⟩:=YG r l h s s1;refine⟨.normal,fr',H',e1.mono λn d e=> ?_,s.S,p2,ρ',μ',x1,x2,g1⟩;simp only[qI,aY,if_false];rw[e,<-x3,p1]
  .cases h
 |seq a b iha ihb=>
  intro an S U O fr H l hg hro h;simp only[wT]at h;split at h
  .rename_i r hr;obtain⟨x,fr1,H1,e1,S1,s1,ρ1,μ1,x1,x2,g1⟩:=iha _ S U O fr H r hg hro hr;obtain⟨u,u1,u2⟩:=rS h _ s1;cases x with
   |normal=>
    obtain⟨y,fr2,H2,e2,k2⟩:=ihb _ S1 ρ1 μ1 fr1 H1 u g1 (hro.ext x2) u1;refine⟨y,fr2,H2,(e1.and e2).mono λn d ⟨p,q⟩=> ?_,(k2.lift u2).trans x1 x2⟩;simp only[qI,p];exact q
   |exit id=>
    cases u1;refine⟨.exit id,fr1,H1,e1.mono λn d p=> ?_,S1,u2 _ (aQ _),ρ1,μ1,x1,x2,g1⟩;simp only[qI,p]
   |ret=>
    cases u1;refine⟨.ret,fr1,H1,e1.mono λn d p=> ?_,S1,u2 _ (aQ _),ρ1,μ1,x1,x2,g1⟩;simp only[qI,p]
  .cases h
 |cond c a b iha ihb=>
  intro an S U O fr H l hg hro h;simp only[wT]at h;split at h
  .rename_i B hB;obtain⟨t,t1,t2⟩:=uZ hc.gl hg.sy.zero hg.fr hB;cases t2 with
   |bool _ b' hb=>
    obtain⟨cs',m1,m2⟩:=SM hg.sy.cs hb;obtain⟨u,u1,u2⟩:=rS h _ m1;have hg':GS {S with cs:=cs'} U O fr H:=⟨⟨hg.sy.len,hg.sy.zero,m2⟩,hg.hp,hg.fr⟩;cases b' with
    |true=>
     simp only[if_true]at u1;obtain⟨x,fr1,H1,e1,k1⟩:=iha _ _ U O fr H u hg' hro u1;refine⟨x,fr1,H1,e1.mono λn d p=> ?_,k1.lift u2⟩;simp only[qI,t1,if_true];exact p
    |false=>
     simp only[aY,if_false]at u1;obtain⟨x,fr1,H1,e1,k1⟩:=ihb _ _ U O fr H u hg' hro u1;refine⟨x,fr1,H1,e1.mono λn d p=> ?_,k1.lift u2⟩;simp only[qI,t1,aY,if_false];exact p
  .cases h
 |block id c ih=>
  intro an S U O fr H l hg hro h;simp only[wT]at h;split at h
  .rename_i r hr;cases h;obtain⟨x,fr1,H1,e1,S1,s1,k1⟩:=ih _ S U O fr H r hg hro hr;have hm:=XE (id:=id) s1;cases x with
   |normal=>exact⟨.normal,fr1,H1,e1.mono λn d p=>by simp only[qI,p],S1,hm,k1⟩|ret=>exact⟨.ret,fr1,H1,e1.mono λn d p=>by simp only[qI,p],S1,hm,k1⟩
   |exit id'=>
    by_cases hi:id'=id
    .simp only[if_pos hi]at hm;exact⟨.normal,fr1,H1,e1.mono λn d p=>by simp only[qI,p,if_pos hi],S1,hm,k1⟩
    .simp only[if_neg hi]at hm;exact⟨.exit id',fr1,H1,e1.mono λn d p=>by simp only[qI,p,if_neg hi],S1,hm,k1⟩
  .cases h
 |loop c ih=>
  intro an S U O fr H l hg hro h;simp only[wT]at h;split at h
  .rename_i k;obtain⟨x,fr',H',⟨m,e1⟩,e2⟩:=aMp (ro:=ro) (ro':=ro') (f:=λn d fr H=>qI P ⟨gl,pe⟩ (ee n d) (yd n d) F n ro' c fr H) (λb S U O fr H l hg hro h=>ih b S U O fr H l hg hro h) k S U O fr H l hg hro h;refine⟨x,fr',H',⟨m,λn d hn hd=> ?_⟩,e2⟩;simp only[qI];exact e1 n d n hn hd hn
  .rename_i la b;split at h
   .rename_i oc hoc;split at h
    .rename_i hcc;simp only[aA,uX,aJ]at hcc;split at h
     .rename_i Sh hSh;split at h
      .rename_i r hr;have hbody:∀(ρ':gJ) (μ':fW) (fr:fU) (H:Hp),GS Sh ρ' μ' fr H->uA O μ'->∃x fr' H',Ev (λn d=>qI P ⟨gl,pe⟩ (ee n d) (yd n d) F n ro' c fr H=some (x,fr',H'))/\rL H H'/\XOk r ρ' μ' x fr' H':=λρ' μ' fr H hg hμ=>by
        obtain⟨x,fr',H',e1,e2⟩:=ih _ Sh ρ' μ' fr H r hg (hro.ext hμ) hr;refine⟨x,fr',H',e1,?_,e2⟩;obtain⟨n,d,e⟩:=e1.ex;exact yE (hK n d) (hKy n d) _ _ _ _ _ _ e
       obtain⟨ρ2,μ2,y1,y2,y3,y4⟩:=YU (.refl _) hg hg (.refl _) (.refl _) (g:=0) (m0:=Int.ofNat la.gk*la.m0) (by omega) (Int.mul_nonneg (Int.natCast_nonneg _) hcc.1.1.1.1) (gs:=0) (gc:=0) (λv hv=>by rw[hg.sy.zero]at hv;cases hv;rfl) ⟨0,hg.sy.zero⟩ hcc.2 hSh;have hM:(∃x S2,(x,S2)∈r/\x= .normal)->∃M,KW fr H la.ms=some M/\M<=la.m0:=by
        rintro⟨x,S2,h1,rfl⟩;rcases yL r l h _ S2 h1 with⟨_,_,k2⟩|⟨k1,_⟩
        .exact aKj hg k2
        .exact absurd rfl k1
       obtain⟨x,fr',H',z1,⟨m,z2⟩,z3⟩:=aQt hg hSh h (f:=λn d fr H=>qI P ⟨gl,pe⟩ (ee n d) (yd n d) F n ro' c fr H) hbody ((KW fr H la.ms).getD 0).toNat ρ2 μ2 fr H 0 y4 (.refl _) y1 y2 (by rw[Int.mul_zero];exact y3) (by omega)
        (λM h=>by rw[h];simp only[fL];omega) (λhx=>by obtain⟨M,q1,q2⟩:=hM hx;exact⟨M,q1,by omega⟩)
       refine⟨x,fr',H',⟨m,λn d hn hd=> ?_⟩,z3⟩;simp only[qI];exact z2 n d n hn hd hn
      .cases h
     .cases h
    .cases h
   .cases h
  .cases h
 |rangeFunc g ps asg bd _ _ =>
  intro an S U O fr H l hg hro h;exact aDw hcall hc hg hro h
 |_ =>intro an S U O fr H l hg hro h;simp only[wT]at h;cases h
theorem aBl(hs:Sy U S.nx S.cs)(hh:GH S.hp S.nl U O H){l x:Nat}(hx:O[l]? =some (some x)){st:LoopState}{pn:jO}{S':AS}(h:Wy S l st pn=some S'):
  ∃b r,H.any x=some b/\b.me=some (.loop r)/\Sy U S'.nx S'.cs/\S'.fr=S.fr/\GH S'.hp S'.nl U O (H.put x (DE {r with st:=st,pe:=peC pn})):=by
 unfold Wy at h;split at h
 .rename_i st' pn' fa ps asg bd ow aa ab hf;cases h;obtain⟨b,r,h1,h2,h3,h4,h5,h6,h7,h8,h9⟩:=hh.atL hf hx;exact⟨b,r,h1,h2,hs,rfl,hh.putL hf hx ⟨_,rfl,rfl,rfl,h5,h6,h7,h8,h9⟩ rfl⟩
 .cases h
theorem ZJ{l:Nat}:∀(r:hO) (q:List AR),VB l r=some q->∀x S,(x,S)∈r->∃S',Wy S l (if YK x then .ready else .done) (peX x)=some S'/\(⟨.bool (.lit (YK x)),S'.hp,S'.nx,S'.nl,S'.cs⟩:AR)∈q
 |(y,S0)::r,q,h,x,S,hm=>by
  simp only[VB]at h;split at h
  .rename_i S' hS';split at h
   .rename_i q' hq;cases h;rcases aR.1 hm with hm|hm
    .cases hm;exact⟨S',hS',aL⟩
    .obtain⟨S2,a1,a2⟩:=ZJ r q' hq x S hm;exact⟨S2,a1,aG _ a2⟩
   .cases h
  .cases h
theorem Fy:∀(ps:iR) (a_s:List A) (ts:fU) (fa:List A) (fr:fU),qO U O a_s ts->qO U O fa fr->qO U O (Wl ps a_s fa) (FF ps ts fr)
 |[],a_s,ts,fa,fr,_,h=>by
  cases a_s<;>cases ts<;>exact h
 |p::ps,[],ts,fa,fr,h1,h=>by rw[h1.inv_nil];exact h
 |p::ps,a::a_s,ts,fa,fr,h1,h=>by
  obtain⟨t,r,rfl,h2,h3⟩:=h1.inv_cons;exact Fy ps a_s r (fa.set p a) (fr.set p t) h3 (h.set h2 p)
theorem aLt{x y:Go.Ps.X}(h:aUp x y=true):x=y:=by
 cases x<;>cases y<;>first|rfl|(cases h;done)|(rw[pX h])
theorem YJ{S':AS}{x:Go.Ps.X}:∀(r:hO),(∃S,(x,S)∈r)->(x,S')∈NI S' r
 |(y,S0)::r,⟨S,h⟩=>by
  simp only[NI];rcases aR.1 h with h|h
  .cases h;split
   .rename_i hm;have key:∀(l:hO),aRa x l=true->∃S,(x,S)∈l:=by
     intro l
     induction l with
     |nil=>intro h;cases h
     |cons q l ih=>
      obtain⟨z,Sz⟩:=q;intro h;simp only[aRa,bF]at h;rcases h with h|h
      .exact⟨Sz,by rw[aLt h];exact aL⟩
      .obtain⟨S2,h2⟩:=ih h;exact⟨S2,aG _ h2⟩
    exact YJ r (key r hm)
   .exact aL
  .have ih:=YJ (S':=S') r ⟨S,h⟩;split
   .exact ih
   .exact aG _ ih
theorem YT{oc:gT}:∀(r:hO),Kd S oc r=true->∀x S1,(x,S1)∈r->okS {S with fr:=[.top]} [0] [] oc [] {S1 with fr:=[.top]} 0 0=true
 |(y,S0)::r,h,x,S1,hm=>by
  simp only[Kd,aA]at h;rcases aR.1 hm with hm|hm
  .cases hm;exact h.1
  .exact YT r h.2 x S1 hm
theorem Tz(hs:GS S ρ0 μ0 fr H){ab:An}{r r':hO}(h:Ia S ab r=some r'){x:Go.Ps.X}{S1:AS}(hm:(x,S1)∈r){fr1:fU}{H1:Hp}(hk:rL H H1)(h1:GS S1 ρ1 μ1 fr1 H1)(he:uA ρ0 ρ1)(he':uA μ0 μ1):
  ∃S2 ρ2 μ2 fr2,(x,S2)∈r'/\uA ρ0 ρ2/\uA μ0 μ2/\GS S2 ρ2 μ2 fr2 H1:=by
 unfold Ia at h;split at h
 .split at h
  .rename_i oc hoc;split at h
   .rename_i hcc;simp only[aA]at hcc;split at h
    .rename_i S' hS';cases h;have g0:GS {S with fr:=[.top]} ρ0 μ0 [pV] H:=⟨hs.sy,hs.hp,qO.cons (.top _) .nil⟩;have g1:GS {S1 with fr:=[.top]} ρ1 μ1 [pV] H1:=⟨h1.sy,h1.hp,qO.cons (.top _) .nil⟩;obtain⟨ρ2,μ2,y1,y2,_,y4⟩:=YU hk g0 g1 he he' (g:=0) (m0:=0) (by omega) (by omega) (gs:=0) (gc:=0) (λv hv=>by rw[h1.sy.zero]at hv;cases hv;rfl) ⟨0,h1.sy.zero⟩ (YT r hcc.2 x S1 hm) hS';exact⟨S',ρ2,μ2,_,YJ r ⟨S1,hm⟩,y1,y2,y4⟩
    .cases h
   .cases h
  .cases h
 .cases h;exact⟨S1,ρ1,μ1,fr1,hm,he,he',h1⟩
theorem aRy(hc:Cn X gl pe)(hcall:yI call ee)(hyl:Mh yld yd)(hK:∀n d,Tg (ee n d))(hKy:∀n d,Xq (yd n d)):
  Mh (aYj P X call yld) (λn d=>JF P ⟨gl,pe⟩ (ee n d) (yd n d) n):=by
 intro l args S rs h U O H ts x hs hh ha hx;unfold aYj at h;split at h
 .rename_i st pn fa ps asg bd ow aa ab hf;obtain⟨b,rc,h1,h2,h3,h4,h5,h6,h7,h8,h9⟩:=hh.atL hf hx;split at h
  .rename_i hcc;simp only[aA]at hcc;obtain⟨c1,c2,c3⟩:=hcc;have c1:=pX c1;split at h
   .rename_i r hr;have hg0:GS {S with fr:=Wl ps.toList args fa} U O (FF ps.toList ts (rc.fr.view rc.n)) H:=⟨hs,hh,Fy _ _ _ _ _ ha h9⟩;obtain⟨x1,fr1,H1,e1,S1,s1,ρ1,μ1,k1,k2,g1⟩:=WS (F:=ow) (ro:=some l) (ro':=some x) hc hcall hyl hK hKy asg aa _ U O _ H r hg0 hx hr;obtain⟨u,u1,u2⟩:=rS h _ s1;unfold aUm at u1;split at u1
    .rename_i hn;simp only[aA]at hn;have hx1:x1= .normal:=by cases x1<;>first|rfl|cases hn.1
     subst hx1;have hrd:=hn.2;unfold Zf at hrd;split at hrd
     .rename_i st1 pn1 fa1 ps1 asg1 bd1 ow1 aa1 ab1 hf1;have hst1:st1= .ready:=Fs hrd;subst hst1;have hx':=k2 _ _ hx;split at u1
      .rename_i S2 hS2;have hpe:aYa S1 l=pn1:=by simp only[aYa,hf1]
       rw[hpe]at hS2;obtain⟨b1,r1,p1,p2,p3,p4,p5,p6,p7,p8,p9⟩:=g1.hp.atL hf1 hx';obtain⟨b2,r2,q1,q2,q3,q4,q5⟩:=aBl g1.sy g1.hp hx' hS2;rw[p1]at q1;cases q1;rw[p2]at q2;cases q2;have hg2:GS S2 ρ1 μ1 fr1 (H1.put x (DE {r1 with st:= .busy})):=by
        refine⟨q3,?_,by rw[q4];exact g1.fr⟩;have:({r1 with st:= .busy,pe:=peC pn1}:Lr)={r1 with st:= .busy}:=by rw[<-p4]
        rw[<-this];exact q5
       split at u1
       .rename_i rr0 hrr;obtain⟨x2,fr2',H2,e2,S3',s3',ρ2',μ2',y1',y2',g3'⟩:=WS (F:=ow) (ro:=some l) (ro':=some x) hc hcall hyl hK hKy bd ab.body S2 ρ1 μ1 fr1 _ rr0 hg2 hx' hrr;split at u1
        case h_2=>cases u1
        rename_i rr hbnd;have hkk:rL (H1.put x (DE {r1 with st:= .busy})) H2:=by
         obtain⟨n,d,e⟩:=e2.ex;exact yE (hK n d) (hKy n d) _ _ _ _ _ _ e
        obtain⟨S3,ρ2,μ2,fr2,s3,y1,y2,g3⟩:=Tz hg2 hbnd s3' hkk g3' y1' y2';obtain⟨S4,w1,w2⟩:=ZJ rr u u1 x2 S3 s3;have hx2:=y2 _ _ hx';obtain⟨b3,r3,v1,v2,v3,v4,v5⟩:=aBl g3.sy g3.hp hx2 w1;refine⟨YK x2,H2.put x (DE {r3 with st:=(if YK x2 then .ready else .done),pe:=peC (peX x2)}),(e1.and e2).mono λn d ⟨a1,a2⟩=> ?_,_,u2 _ w2,ρ2,μ2,k1.trans y1,k2.trans y2,v3,v5,.bool _ _ rfl⟩;show JF P ⟨gl,pe⟩ (ee n d) (yd n d) n x ts H=_;simp only[JF];rw[UU h1 h2,if_pos ⟨by rw[<-ha.1,c1,h5],by rw[h6];exact c2,by rw[h7];exact c3⟩,h5,h6,h8];rw[a1];simp only[Kq];rw[UU p1 p2,p3];simp only;rw[h8,h7,a2];simp only[MI];rw[UU v1 v2];cases x2<;>rfl
       .cases u1
      .cases u1
     .cases hrd
    .cases u1
   .cases h
  .cases h
 .cases h
end
section
variable{U ρ' ρ0 ρ1:gJ}{O μ' μ0 μ1:fW}{X:AX}{gl:fY}{pe:gN}{H H1:Hp}{S S1:AS}{P:fV}{fr fr1:fU}
theorem ZI:∀(rs:jH) (S:AS) (U:gJ) (fa:List A) (l:List A) (S':AS),GS S U O fr H->qO U O fa fr->OY P fa rs S=some (l,S')->
  ∃ts ρ',sS P fr H rs=some ts/\uA U ρ'/\Sy ρ' S'.nx S'.cs/\S'.hp=S.hp/\S'.nl=S.nl/\qO ρ' O l ts
 |[],S,U,fa,l,S',hg,hf,h=>by
  simp only[OY]at h;cases h;exact⟨[],U,rfl,.refl _,hg.sy,rfl,rfl,.nil⟩
 |r::rs,S,U,fa,l,S',hg,hf,h=>by
  simp only[OY]at h;split at h
  .rename_i v hv;have one:∃t,Qo P fr H r=some t/\VOk U O v t:=by
    cases r with
    |tmp t=>simp only[bHk]at hv;cases hv;exact⟨_,rfl,.here hg.sy (hf.get t)⟩|cell a t=>exact Pm hg.sy hg.hp (hf.get a) hv
   obtain⟨t,t1,ρ1,e1,s1,g1⟩:=one;split at h
   .rename_i l' S2 hr;cases h;obtain⟨ts,ρ2,q1,q2,q3,q4,q5,q6⟩:=ZI rs {S with nx:=v.nx,cs:=v.cs} ρ1 fa l' _ (hg.sym e1 s1) (hf.ext e1 (.refl _)) hr;exact⟨t::ts,ρ2,by simp only[sS,t1,q1],e1.trans q2,q3,q4,q5,qO.cons (g1.ext q2 (.refl _)) q6⟩
   .cases h
  .cases h
def aSt:List T->T
 |[t]=>t|ts=> .tup ts
theorem aSs{a_s:List A}{ts:fU}(h:qO U O a_s ts):Gm U O (bIe a_s) (aSt ts):=by
 cases a_s with
 |nil=>rw[h.inv_nil];exact uU
 |cons a a_s=>
  obtain⟨t,r,rfl,h1,h2⟩:=h.inv_cons;cases a_s with
  |nil=>rw[h2.inv_nil];exact h1
  |cons b bs=>
   obtain⟨u,r',rfl,h3,h4⟩:=h2.inv_cons;exact .tup _ _ h.1 h.2
theorem Nr(rs:jH):∀(l:hO) (q:List AR),Yh P rs l=some q->∀(x:Go.Ps.X) (S:AS),(x,S)∈l->∀(U:gJ) (O:fW) (fr:fU) (H:Hp),GS S U O fr H->
  (x= .normal\/x= .ret)/\∃ts,sS P fr H rs=some ts/\∃R∈q,ROk U O R (aSt ts) H
 |(y,S')::r,q,h,x,S,hm,U,O,fr,H,hg=>by
  simp only[Yh]at h;split at h
  .cases h
  .rename_i hne;split at h
   .rename_i l' S2 hres;split at h
    .rename_i q' hq;cases h;rcases aR.1 hm with hm|hm
     .cases hm;obtain⟨ts,ρ',q1,q2,q3,q4,q5,q6⟩:=ZI rs _ U _ l' S2 hg hg.fr hres;refine⟨?_,ts,q1,_,aL,ρ',O,q2,.refl _,q3,?_,aSs q6⟩
      .cases y with
       |normal=>exact .inl rfl|ret=>exact .inr rfl|exit id=>exact absurd rfl (hne id)
      .rw[q4,q5];exact hg.hp.ext q2
     .obtain⟨k1,ts,k2,R,k3,k4⟩:=Nr rs r q' hq x S hm U O fr H hg;exact⟨k1,ts,k2,R,aG _ k3,k4⟩
    .cases h
   .cases h
theorem Fj{oc:gT}{res:A}:∀(l:List AR),aAh S oc res l=true->∀r∈l,okS {S with fr:=[.top]} [0] [(0,.a res)] oc [] {fr:=[r.a],hp:=r.hp,nx:=r.nx,nl:=r.nl,cs:=r.cs} 0 0=true
 |r::rs,h,z,hz=>by
  simp only[aAh,aA]at h;rcases aR.1 hz with rfl|hz
  .exact h.1
  .exact Fj rs h.2 z hz
theorem aBz(hk:rL H H1)(hs:Sy U S.nx S.cs)(hh:GH S.hp S.nl U O H){args:List A}{p:Mb}{l rs:List AR}(h:Ty S args p l=some rs){R:AR}(hR:R∈l){t:T}(hr:ROk U O R t H1):∃R'∈rs,ROk U O R' t H1:=by
 unfold Ty at h;split at h
 .rename_i oc hoc;split at h
  .rename_i hcc;simp only[aA]at hcc;split at h
   .rename_i S' hS';cases h;obtain⟨ρ1,μ1,e1,e2,s1,g1,v1⟩:=hr;have hS:GS {S with fr:=[.top]} U O [t] H:=⟨hs,hh,qO.cons (.top _) .nil⟩;have h1:GS {fr:=[R.a],hp:=R.hp,nx:=R.nx,nl:=R.nl,cs:=R.cs} ρ1 μ1 [t] H1:=⟨s1,g1,qO.cons v1 .nil⟩;obtain⟨ρ2,μ2,y1,y2,_,y4⟩:=YU hk hS h1 e1 e2 (g:=0) (m0:=0) (by omega) (by omega) (gs:=0) (gc:=0) (λv hv=>by rw[s1.zero]at hv;cases hv;rfl) ⟨0,s1.zero⟩ (Fj l hcc.2 R hR) hS';exact⟨_,aQ _,ρ2,μ2,y1,y2,y4.sy,y4.hp,y4.fr.get 0⟩
   .cases h
  .cases h
 .cases h
theorem Iz(hc:Cn X gl pe){call:FuncId->List A->AS->Option (List AR)}{ee:gP}{yld:Nat->List A->AS->Option (List AR)}{yd:iY}
  (hcall:yI call ee) (hyl:Mh yld yd) (hK:∀n d,Tg (ee n d)) (hKy:∀n d,Xq (yd n d)) {f:gV} {args:List A} {rs:List AR} (h:aIz P X call yld f args S=some rs) (hs:Sy U S.nx S.cs) (hh:GH S.hp S.nl U O H) {ts:fU} (ha:qO U O args ts):
  X.top f=true/\∃r H',Ev (λn d=>Yu P ⟨gl,pe⟩ (ee n d) (yd n d) (X.own f) n f ts H=some (r,H'))/\∃R∈rs,ROk U O R r H':=by
 unfold aIz at h;split at h
 .cases h
 rename_i hinl;refine⟨by simpa using hinl,?_⟩;split at h
 .rename_i fn hfn;split at h
  .rename_i c hbody;split at h
   .rename_i l hl;have hg:GS {S with fr:=args++List.replicate (fn.ntmps-args.length) (.tup [])} U O (ts++List.replicate (fn.ntmps-ts.length) pV) H:=
     ⟨hs,hh,by rw[<-ha.1];exact ha.app (qO.replicate uU _)⟩
    obtain⟨x,fr',H',e1,S',s1,ρ1,μ1,x1,x2,g1⟩:=WS (F:=X.own f) (ro:=none) (ro':=none) hc hcall hyl hK hKy c _ _ U O _ H l hg trivial hl;have hk:rL H H':=by
     obtain⟨n,d,e⟩:=e1.ex;exact yE (hK n d) (hKy n d) _ _ _ _ _ _ e
    split at h
    .rename_i rs' hrs;obtain⟨k1,us,k2,R,k3,k4⟩:=Nr _ l rs' hrs x S' s1 ρ1 μ1 fr' H' g1;have k4':ROk U O R (aSt us) H':=by
      obtain⟨a,b,h1,h2,h3⟩:=k4;exact⟨a,b,x1.trans h1,x2.trans h2,h3⟩
     have fin:∃R'∈rs,ROk U O R' (aSt us) H':=by
      split at h
      .exact aBz hk hs hh h k3 k4'
      .cases h;exact⟨R,k3,k4'⟩
     refine⟨_,H',e1.mono λn d e=> ?_,fin⟩;simp only[Yu,hfn,hbody];rw[e];rcases k1 with rfl|rfl<;>simp only[k2]<;>(rcases us with _ |⟨t,_ |⟨u,r⟩⟩<;>rfl)
    .cases h
   .cases h
  .cases h
 .cases h
end
section
variable{P:fV}{gl:fY}
noncomputable def pureE(P:fV)(gl:fY)(pe:gG)(own:iL)(ok:iA)(k n d:Nat)(f:gV)(ts:fU):Option T:=
 match(vH P ⟨gl,uH k pe⟩ own ok n d).ee f ts ⟨0,.nl⟩with
 |some (q,H')=>qJ k H' q|none=>none
theorem Ql(hm:P.follows .mixedOrders=true)(hz:wR gl)(hx:tX P gl Az){pe:gG}(hp:PcOk P gl pe){own:iL}{ok:iA}(hok:∀f,ok f=true->vL P f=true/\zD P f=true)
  {k n d:Nat} {f:gV} {ts:fU} {r:T} (h:pureE P gl pe own ok k n d f ts=some r):
  vL P f=true/\∀(g:G) (vs:gM),rZ g->(∀l,¬g.al l)->GlOk gl g->RdL g vs ts->
   Calls P f vs.toArray g.w λe w'=>∃v g',e= .returned v/\g'.w=w'/\PStep g g'/\rZ g'/\Rd g' v r:=by
 unfold pureE at h;split at h
 .rename_i q H' he;obtain⟨h1,h2⟩:=(aAs hm (E:=⟨gl,uH k pe⟩) (UT (k:=k) hz hp) hx hok (own:=own) (n:=n) d).1 f ts _ q H' he;refine⟨h1,λg vs hg hal hgl hv=> ?_⟩;have hs:St g ⟨0,.nl⟩:=St.nl _ _ (λl _ =>hal l);refine(h2 g vs hg hs hgl hv).mono λe w' ⟨v,g',e1,e2,e3,e4,e5,e6⟩=> ?_;refine⟨v,g'.frz H' g,e1,e2,?_,?_,LO e5 k q r v h e6⟩
  .refine⟨e3.os,e3.tape,e3.output,e3.size,λb hb=>e3.block b hb (λl o ho=>(by rw[uI]at ho;cases ho)),λb hb=> .inl (e3.sub b hb),λb hb=> ?_,rfl,rfl,rfl⟩;rcases hb with hb|⟨l,o,ho,rfl⟩
   .rcases e3.fresh b hb with q|q|⟨l,o,ho,_⟩
    .exact .inl q
    .exact .inr q
    .rw[uI]at ho;cases ho
   .rcases e3.live l o (qP ho).1 with⟨l0,o0,q,_⟩|q
    .rw[uI]at q;cases q
    .exact .inr q
  .intro b hb;rcases hb with hb|⟨l,o,ho,rfl⟩
   .exact e4 b hb
   .exact e5.lt (qP ho).1
 .cases h
def Ans(P:fV)(gl:fY)(pe:gG)(own:iL)(ok:iA)(k:Nat)(f:gV)(ts:fU)(r:T):Prop:=
 ∃m,∀n d,m<=n->m<=d->pureE P gl pe own ok k n d f ts=some r
theorem Ans.unique{pe:gG}{own:iL}{ok:iA}{k:Nat}{f:gV}{ts:fU}{r r':T}(h:Ans P gl pe own ok k f ts r)(h':Ans P gl pe own ok k f ts r'):r=r':=by
 obtain⟨m,hm⟩:=h;obtain⟨m',hm'⟩:=h';have:=hm (max m m') (max m m') (by omega) (by omega);rw[hm' (max m m') (max m m') (by omega) (by omega)]at this;exact(bX this).symm
open Classical in
noncomputable def FW(P:fV)(gl:fY)(pe:gG)(own:iL)(ok:iA)(k:Nat)(tab:iA):FuncId->List T->Option T:=λf ts=>
 if tab f=true then(if h:∃r,Ans P gl pe own ok k f ts r then some (Classical.choose h)else none)else pe f ts
theorem aPh(hm:P.follows .mixedOrders=true)(hz:wR gl)(hx:tX P gl Az){pe:gG}(hp:PcOk P gl pe){own:iL}{ok:iA}(hok:∀f,ok f=true->vL P f=true/\zD P f=true){k:Nat}{tab:iA}:
  PcOk P gl (FW P gl pe own ok k tab):=by
 intro f ts r h;unfold FW at h;split at h
 .split at h
  .rename_i hex;cases h;obtain⟨m,hm'⟩:=dF hex;exact Ql hm hz hx hp hok (hm' m m (aZ _) (aZ _))
  .cases h
 .exact hp f ts r h
theorem XF{pe:gG}{own:iL}{ok:iA}{k:Nat}{tab:iA}{f:gV}{ts:fU}{r:T}(ht:tab f=true)(h:Ans P gl pe own ok k f ts r):FW P gl pe own ok k tab f ts=some r:=by
 unfold FW;rw[if_pos ht,dif_pos ⟨r,h⟩];exact congrArg some ((dF ⟨r,h⟩:Ans P gl pe own ok k f ts _).unique h)
structure rE where
 f:FuncId
 pre:List A
 res:A
theorem TZ{Y:Type}(l:List Y):l.take 0=[]:=rfl
def qX(l:List rE)(pe:FuncId->List A->Nat->List qV->Option AV):FuncId->List A->Nat->List qV->Option AV:=λf a_s n cs=>
 if l.any λc=>Nat.beq c.f f then match l.find? (λc=>Nat.beq c.f f&&BD (KV cs 0 0 sJ) a_s c.pre)with
  |some c=>some (vY c.res n cs)|none=>none
 else pe f a_s n cs
end
end Go.Ps
namespace Go.Proofs.Tryz
namespace Cal
def bfZ(y:Int):Int:=365*(y-1)+(y-1).tdiv 4-(y-1).tdiv 100+(y-1).tdiv 400
def leap(y:Int):Bool:=decide (y.tmod 4=0)&&(decide (y.tmod 100≠0)||decide (y.tmod 400=0))
theorem bf_one:bfZ 1=0:=by decide
theorem tdiv_nn{a b:Int}(h:0<=a):a.tdiv b=a/b:=Int.tdiv_eq_ediv_of_nonneg h
theorem aSq{a b:Int}(h:0<=a):a.tmod b=a%b:=Int.tmod_eq_emod_of_nonneg h
theorem bf_nn{y:Int}(h:1<=y)(h2:y<=10000):0<=bfZ y/\bfZ y<=4000000:=by
 unfold bfZ;rw[tdiv_nn (by omega),tdiv_nn (by omega),tdiv_nn (by omega)];omega
theorem bf_succ{y:Int}(h:1<=y):bfZ (y+1)=bfZ y+(if leap y then 366 else 365):=by
 unfold bfZ leap;simp only[tdiv_nn (show(0:Int)<=y+1-1 by omega),tdiv_nn (show(0:Int)<=y-1 by omega),aSq (show(0:Int)<=y by omega)];have h4:(y+1-1)/4=(y-1)/4+(if y%4=0 then 1 else 0):=by split<;>omega
 have h100:(y+1-1)/100=(y-1)/100+(if y%100=0 then 1 else 0):=by split<;>omega
 have h400:(y+1-1)/400=(y-1)/400+(if y%400=0 then 1 else 0):=by split<;>omega
 rw[h4,h100,h400];by_cases c4:y%4=0<;>by_cases c100:y%100=0<;>by_cases c400:y%400=0<;>simp only[c4,c100,c400,decide_true,decide_false,if_true,if_false,bC,Bool.true_and,Bool.and_false,Bool.false_and,Bool.or_true,Bool.or_false,ne_eq,not_true,not_false_eq_true,aY]<;>omega
theorem bf_start{n:Int}(h:0<=n)(h2:n<=3652058):n<bfZ (min (n/365+1) 9999+1):=by
 unfold bfZ;rw[tdiv_nn (by omega),tdiv_nn (by omega),tdiv_nn (by omega)];omega
def remL(l:Bool)(k:Int):Int:=
 if k<=1 then(if l then 366 else 365)else if k<=2 then(if l then 335 else 334)else if k<=3 then 306 else if k<=4 then 275 else if k<=5 then 245 else if k<=6 then 214 else if k<=7 then 184
 else if k<=8 then 153 else if k<=9 then 122 else if k<=10 then 92 else if k<=11 then 61 else if k<=12 then 31 else 0
def mdL(l:Bool)(k:Int):Int:=if k=2 then(if l then 29 else 28)else if k=4\/k=6\/k=9\/k=11 then 30 else 31
theorem rem_step{l:Bool}{k:Int}(h:1<=k)(h2:k<=12):remL l k=mdL l k+remL l (k+1):=by
 have:k=1\/k=2\/k=3\/k=4\/k=5\/k=6\/k=7\/k=8\/k=9\/k=10\/k=11\/k=12:=by omega
 rcases this with rfl|rfl|rfl|rfl|rfl|rfl|rfl|rfl|rfl|rfl|rfl|rfl<;>cases l<;>decide
theorem rem_one(l:Bool):remL l 1=if l then 366 else 365:=by simp[remL]
theorem rem_end(l:Bool){k:Int}(h:13<=k):remL l k=0:=by
 unfold remL;simp only[if_neg (show¬k<=1 by omega),if_neg (show¬k<=2 by omega),if_neg (show¬k<=3 by omega),if_neg (show¬k<=4 by omega),if_neg (show¬k<=5 by omega),if_neg (show¬k<=6 by omega),if_neg (show¬k<=7 by omega),if_neg (show¬k<=8 by omega),if_neg (show¬k<=9 by omega),if_neg (show¬k<=10 by omega),if_neg (show¬k<=11 by omega),if_neg (show¬k<=12 by omega)]
end Cal
end Go.Proofs.Tryz
namespace Go.Ps
open Classical in
noncomputable def aAb(f:gV)(ts:fU)(r:T):FuncId->List T->Option T:=λg us=>if g=f/\us=ts then some r else none
section
variable{P:fV}{gl:fY}
theorem aYe(hm:P.follows .mixedOrders=true)(hz:wR gl)(hx:tX P gl Az){pe:gG}(hp:PcOk P gl pe){n d k:Nat}{f:gV}{ts:fU}{r:T}
  (h:pureE P gl pe (λ_ _ =>true) (λf=>vL P f&&zD P f) k n d f ts=some r) (hf:mapO (qJ k ⟨0,.nl⟩) ts=some ts):pW P gl f ts r:=by
 letI:Inhabited Prd:=⟨⟨λ_ _ =>False,λ_ _ h=>h.elim⟩⟩
 have h0:=Ql hm hz hx hp (λf hf=>by simpa using hf) h;have hq:PcOk P gl (aAb f ts r):=λg us r' hr=>by
  unfold aAb at hr;split at hr
  .rename_i e;cases hr;rw[e.1,e.2];exact h0
  .cases hr
 have key:∀H:Hp,uH k (aAb f ts r) H f ts=some r:=λH=>by unfold uH aAb;rw[hf];simp
 refine⟨h0.1,λg vs hg ⟨N,hN⟩ hgl hv=> ?_⟩;obtain⟨h1,h2⟩:=UT (k:=k) hz hq ⟨N,.nl⟩ f ts r (key ⟨N,.nl⟩);exact h2 g vs hg (St.nl _ _ hN) hgl hv
end
end Go.Ps
namespace Go.Proofs.Tryz
open Go.Ps
noncomputable section
def pb(p:Prop):Bool:= @decide p (Classical.propDecidable p)
theorem rD{p:Prop}:pb p=true↔p:=by unfold pb;simp
def F0:Fc:=⟨λ_ =>false,λ_ _ _ =>none⟩
variable(m:Int)(te:fS)
def DZ:Ed:=⟨glZ m te,λ_ _ _ =>none⟩
theorem cxZ:Cx prog (DZ m te) F0:=⟨follows,rR,rG⟩
def bGv:List T:=(List.range 13).map λi=>T.int .i64 (10^i:Nat)
theorem rK{f:gV}{ts:fU}{r:T}(h:Ps.pureE prog (glZ m te) peT (λ_ _ =>true) (λf=>vL prog f&&zD prog f) 40 100 30 f ts=some r)(hf:mapO (qJ 40 ⟨0,.nl⟩) ts=some ts):pW prog (glZ m te) f ts r:=
 aYe follows (rC m te) (aMy _) (PcOk.of λf ts r h=>aAi (Vt h)) h hf
theorem aDq:pW prog (glZ m te) 342 [] (.agg bGv):=rK m te (by kernel_rfl) (by kernel_rfl)
abbrev mxN:Int:=999999999999999
def wP(n:Int):Int:=if n<i64.wrap (0-n)then i64.wrap (0-n)else n
def zT(n s:Int):Int:=if wP n>mxN\/n< -mxN\/s<0\/s>12 then 2 else 0
def aEf:List T->Option (T×List Bool)
 |[.int .i64 n]=>some (.int .i64 (wP n),[])|_ =>none
def aSc:List T->Option (T×List Bool)
 |[.agg [.int .i64 n,.int .i64 s]]=>some (.int .i64 (zT n s),[])|_ =>none
def Aw(n a b:Int):Bool:=decide (a<=n)&&decide (n<=b)
def aEg:List T->Option (T×List Bool)
 |[.int .i64 n,.int .i64 a,.int .i64 b]=>some (.bool (Aw n a b),[])|_ =>none
def UV(y:Int):Bool:=Aw y 1 9999&&Cal.leap y
def bHq:List T->Option (T×List Bool)
 |[.int .i64 y]=>some (.bool (UV y),[])|_ =>none
def bHn:List T->Option (T×List Bool)
 |[.int .i64 y]=>some (.int .i64 (Cal.bfZ y),[decide (1<=y),decide (y<=10000)])|_ =>none
def bHo:List T->Option (T×List Bool)
 |[.int .i64 y,.int .i64 k]=>some (.int .i64 (Cal.mdL (UV y) k),[decide (1<=k),decide (k<=12)])|_ =>none
def s40:List T->Option (T×List Bool)
 |[.int .i64 n]=>some (.str (vS n),[decide (-9223372036854775808<=n),decide (n<=9223372036854775807)])|_ =>none
def bHm:List T->Option (T×List Bool)
 |[.str s,.int .i64 n]=>some (.str (Lib.repeatL s n.toNat),[decide (0<=n),decide (n<=100),decide (s.length<=1)])|_ =>none
def DP:Ed:=⟨glZ m te,rT 329 aEg (rT 295 aEf (λ_ _ _ =>none))⟩
def DQ:Ed:=⟨glZ m te,rT 345 bHq (rT 301 aSc (rT 329 aEg (rT 295 aEf (λ_ _ _ =>none))))⟩
def DR:Ed:=⟨glZ m te,rT 330 bHn (rT 331 bHo (rT 312 bHm (rT 40 s40 (rT 301 aSc (rT 329 aEg (rT 295 aEf (λ_ _ _ =>none)))))))⟩
def c1s(f:gV)(m:Int)(te:fS)(x r:T):List T->Option (T×List Bool)
 |[y]=>some (r,[pb (y=x),pb (pW prog (glZ m te) f [x] r)])|_ =>none
def c2s(f:gV)(m:Int)(te:fS)(x z r:T):List T->Option (T×List Bool)
 |[y,u]=>some (r,[pb (y=x),pb (u=z),pb (pW prog (glZ m te) f [x,z] r)])|_ =>none
def s9:List T->Option (T×List Bool)
 |[]=>some (.bool true,[])|_ =>none
theorem Ud{f:gV}{m:Int}{te:fS}{x r:T}{ts:fU}{r':T}{cs:gH}(h:c1s f m te x r ts=some (r',cs))(hc:qA cs=true):pW prog (glZ m te) f ts r':=by
 unfold c1s at h;split at h
 .cases h;simp only[qA,bC,aA,rD]at hc;rw[hc.1];exact hc.2
 .cases h
theorem Ie{f:gV}{m:Int}{te:fS}{x z r:T}{ts:fU}{r':T}{cs:gH}(h:c2s f m te x z r ts=some (r',cs))(hc:qA cs=true):pW prog (glZ m te) f ts r':=by
 unfold c2s at h;split at h
 .cases h;simp only[qA,bC,aA,rD]at hc;rw[hc.1,hc.2.1];exact hc.2.2
 .cases h
end
noncomputable section
structure Lr where
 e:Int
 np:Nat
 p:Nat->T
 ms:Int
 no:Nat
 o:Nat->T
 b:Vl
 node:List UInt8
 text:List UInt8
 ver:Int
def Lr.m(y:Lr):List T:=[.int .i64 y.e,.slf false y.np y.p,.int .i64 y.ms,.slf false y.no y.o,.int .i64 y.b.kind,.int .i64 y.b.int,.int .i64 y.b.scale,.str y.b.text,.slf false y.b.n y.b.list,.slf false y.b.m y.b.fld]
def Lr.c(y:Lr):List T:=[.int .i64 y.e,.slf false y.np y.p,.int .i64 y.ms,.slf false y.no y.o,.int .i64 y.b.kind,.int .i64 y.b.int,.int .i64 y.b.scale,.str y.b.text,.slf false y.b.n y.b.list,.slf false y.b.m y.b.fld,.str y.node,.str y.text,.int .i64 y.ver]
variable(m:Int)(te:fS)
abbrev iW:=Nat->Lr
def zI(w:iW)(i:Nat):T:= .agg (w i).c
def LX(n:Nat)(w:iW):T:= .agg [.int .i64 0,.int .i64 0,.int .i64 0,.nils,.nils,.nils,.nils,.slf false n λi=>zI w i]
structure Fl where
 nd:List UInt8
 rs:List UInt8
 fr:Int
 till:Int
 fl:Bool
 k:Nat
 u:Nat->T
def yQ(a:Fl):T:= .agg [.str a.nd,.str a.rs,.int .i64 a.fr,.int .i64 a.till,.slf a.fl a.k a.u]
def bOf(f y:T):Bool:=pb (pW prog (glZ m te) 13 [f,y] (.bool true)/\pW prog (glZ m te) 14 [f,y] (.bool true))
def s13(b:kB)(f:T):List T->Option (T×List Bool)
 |[x,y]=>some (.bool (b y),[pb (x=f),pb (pW prog (glZ m te) 13 [f,y] (.bool (b y)))])|_ =>none
def D63(b:kB)(f:T):Ed:=⟨glZ m te,rT 13 (s13 m te b f) (λ_ _ _ =>none)⟩
def aJb(l:Nat)(a:Fl)(n:Nat)(w:iW)(g:gZ)(i:Int):List T:=
 (List.range 23).map λc=>cond (Nat.beq c 0) (.fn (.yield l) [] []) (cond (Nat.beq c 1) (.ref (LX n w) 0) (cond (Nat.beq c 2) (.ref (yQ a) 0) (cond (Nat.beq c 7) (.slf false n λi=>zI w i) (cond (Nat.beq c 8) (.int .i64 n) (cond (Nat.beq c 9) (.int .i64 i) (g c))))))
noncomputable def b63:Code:=match qD f63 with
 | .seq _ (.block _ (.loop c))=>c|c=>c
def yX:RD YR->Option (X×MZ×List X)
 | .ok ((x,_,o),st) _ _ =>some (x,o,st.map Prod.fst)|_ =>none
def yFr:RD YR->List T
 | .ok ((_,fr,_),_) _ _ =>fr|_ =>[]
def Sx:RD YR->List Bool
 | .ok _ _ log=>log|_ =>[false]
section
variable(m:Int)(te:fS)(b:kB)(l:Nat)(a:Fl)(n:Nat)(w:iW)(g:gZ)(i:Int)
def Tf(ds:gH):RD YR:=yS prog (D63 m te b (yQ a)) F0 b63 (aJb l a n w g i) ds []
abbrev dsT:List Bool:=[true,true,true,true,true,true,true,true,true,false]
abbrev dsF:List Bool:=[true,false,false,false,false,false,false]
theorem bSr:yX (Tf m te b l a n w g i dsT)=some (.normal,[.y (l,[zI w i.toNat])],[.ret]):=by kernel_rfl
theorem bSp:yX (Tf m te b l a n w g i dsF)=some (.normal,[],[]):=by kernel_rfl
theorem bSo:yX (Tf m te b l a n w g i [false])=some (.exit 0,[],[]):=by kernel_rfl
theorem bOz:Sx (Tf m te b l a n w g i dsT)=[true,true]++List.replicate 7 (b (zI w i.toNat))++[pb (yQ a=yQ a),pb (pW prog (glZ m te) 13 [yQ a,zI w i.toNat] (.bool (b (zI w i.toNat)))),true,true,decide (0<=i),decide (i<n),true,decide (i<n)]:=by kernel_rfl
theorem bOx:Sx (Tf m te b l a n w g i dsF)=[true]++List.replicate 5 (!b (zI w i.toNat))++[pb (yQ a=yQ a),pb (pW prog (glZ m te) 13 [yQ a,zI w i.toNat] (.bool (b (zI w i.toNat)))),true,true,decide (0<=i),decide (i<n),true,decide (i<n)]:=by kernel_rfl
theorem bOw:Sx (Tf m te b l a n w g i [false])=[!decide (i<n)]:=by kernel_rfl
theorem bMp:yFr (Tf m te b l a n w g i dsT)=aJb l a n w (λc=>qR (yFr (Tf m te b l a n w g i dsT)) c) (i64.wrap (i+1)):=by kernel_rfl
theorem bMm:yFr (Tf m te b l a n w g i dsF)=aJb l a n w (λc=>qR (yFr (Tf m te b l a n w g i dsF)) c) (i64.wrap (i+1)):=by kernel_rfl
theorem aBn{R:RD YR}{x:X}{o:MZ}{s:List X}(h:yX R=some (x,o,s)):∃st ds,R= .ok ((x,yFr R,o),st) ds (Sx R)/\st.map Prod.fst=s:=by
 unfold yX at h;split at h
 .cases h;exact⟨_,_,rfl,rfl⟩
 .cases h
end
def Ay(b:jM):Nat->Nat->List Nat
 |0,_ =>[]|k+1,j=>if b j then j::Ay b k (j+1)else Ay b k (j+1)
section
variable{m:Int}{te:fS}{b:kB}{l:Nat}{a:Fl}{n:Nat}{w:iW}
structure Ls(m:Int)(te:fS)(b:kB)(a:Fl)(n:Nat)(w:iW):Prop where
 le:n<=12
 p:∀j,j<n->pW prog (glZ m te) 13 [yQ a,zI w j] (.bool (b (zI w j)))
theorem bPe(hL:Ls m te b a n w)(N e:Nat):∀(k j:Nat) (g:gZ),j+k=n->∃fr st,OE (wJ prog (D63 m te b (yQ a)).env F0 noY N b63) (k+1+e) (aJb l a n w g j)=
  some ((.exit 0,fr,(Ay (λi=>b (zI w i)) k j).map λi=> .y (l,[zI w i])),st)/\∀q∈st,q.1= .ret:=by
 have hx:=hL.le;intro k
 induction k with
 |zero=>
  intro j g hj;obtain⟨st,ds,h1,h2⟩:=aBn (bSo m te b l a n w g j);have hlog:qA (Sx (Tf m te b l a n w g j [false]))=true:=by
   rw[bOw];simp[qA];omega
  obtain⟨q1,_⟩:=JR (n:=N) h1 hlog;have hst:st=[]:=List.map_eq_nil_iff.1 h2;subst hst;refine⟨yFr (Tf m te b l a n w g j [false]),[],?_,by simp⟩;rw[show 0+1+e=e+1 by omega];simp only[OE,q1,List.all_nil,if_true];rfl
 |succ k ih=>
  intro j g hj;have hjn:j<n:=by omega
  have hp:=hL.p j hjn;have hw:i64.wrap ((j:Int)+1)=((j+1:Nat):Int):=by rw[IntKind.wrap_i64];omega
  by_cases hb:b (zI w j)=true
  .obtain⟨st,ds,h1,h2⟩:=aBn (bSr m te b l a n w g j);have hlog:qA (Sx (Tf m te b l a n w g j dsT))=true:=by
    rw[bOz];simp only[eJ];rw[hb]at hp⊢;simp[qA,rD,hp,hjn]
   obtain⟨q1,_⟩:=JR (n:=N) h1 hlog;rw[bMp,hw]at q1;obtain⟨fr,st',h3,h4⟩:=ih (j+1) (λc=>qR (yFr (Tf m te b l a n w g j dsT)) c) (by omega);refine⟨fr,st++st',?_,λq hq=> ?_⟩
   .rw[show k+1+1+e=(k+1+e)+1 by omega];have hall:(st.all λq=> !q.1.isN)=true:=by
     rw[aH];intro q hq;have:q.1∈st.map Prod.fst:=eB hq;rw[h2]at this;simp at this;rw[this];rfl
    simp only[OE,q1,hall,if_true,h3];simp[Ay,hb]
   .rcases bH.1 hq with hq|hq
    .have:q.1∈st.map Prod.fst:=eB hq;rw[h2]at this;simpa using this
    .exact h4 q hq
  .have hb:b (zI w j)=false:=by simpa using hb
   obtain⟨st,ds,h1,h2⟩:=aBn (bSp m te b l a n w g j);have hlog:qA (Sx (Tf m te b l a n w g j dsF))=true:=by
    rw[bOx];simp only[eJ];rw[hb]at hp⊢;simp[qA,rD,hp,hjn]
   obtain⟨q1,_⟩:=JR (n:=N) h1 hlog;rw[bMm,hw]at q1;have hst:st=[]:=List.map_eq_nil_iff.1 h2;subst hst;obtain⟨fr,st',h3,h4⟩:=ih (j+1) (λc=>qR (yFr (Tf m te b l a n w g j dsF)) c) (by omega);refine⟨fr,st',?_,h4⟩;rw[show k+1+1+e=(k+1+e)+1 by omega];simp only[OE,q1,List.all_nil,if_true,h3];simp[Ay,hb]
noncomputable def a63:Code:=match qD f63 with
 | .seq a _ =>a|c=>c
theorem e63:qD f63= .seq a63 (.block 0 (.loop b63)):=by kernel_rfl
def DL(a:Fl)(n:Nat)(w:iW):List T:=[.ref (LX n w) 0,.ref (yQ a) 0]
def q63(m:Int)(te:fS)(b:kB)(l:Nat)(a:Fl)(n:Nat)(w:iW):RD YR:=yS prog (D63 m te b (yQ a)) F0 a63 (([.fn (.yield l) [] []]++DL a n w)++List.replicate 20 pV) [] []
theorem bSq(m:Int)(te:fS)(b:kB)(l:Nat)(a:Fl)(n:Nat)(w:iW):yX (q63 m te b l a n w)=some (.normal,[],[]):=by kernel_rfl
theorem bOy(m:Int)(te:fS)(b:kB)(l:Nat)(a:Fl)(n:Nat)(w:iW):qA (Sx (q63 m te b l a n w))=true:=by kernel_rfl
theorem bMo(m:Int)(te:fS)(b:kB)(l:Nat)(a:Fl)(n:Nat)(w:iW):yFr (q63 m te b l a n w)=aJb l a n w (λc=>qR (yFr (q63 m te b l a n w)) c) (0:Nat):=by kernel_rfl
theorem bLq(m:Int)(te:fS)(b:kB)(a:Fl):Cx prog (D63 m te b (yQ a)) F0:=by
 refine⟨follows,?_,rG⟩;refine qN rR λts r cs h hc=> ?_;unfold s13 at h;split at h
 .cases h;simp only[qA,bC,aA,rD]at hc;rw[hc.1];exact hc.2
 .cases h
theorem aXd(hL:Ls m te b a n w):Mg prog (glZ m te) 63 (DL a n w) ((Ay (λi=>b (zI w i)) n 0).map λi=>[zI w i]):=by
 refine aSf λl=> ?_;have x:=bLq m te b a;obtain⟨st0,ds0,h1,h2⟩:=aBn (bSq m te b l a n w);obtain⟨q1,_⟩:=JR (n:=20) h1 (bOy m te b l a n w);have hst:st0=[]:=List.map_eq_nil_iff.1 h2;subst hst;rw[bMo]at q1;have hx:=hL.le;obtain⟨fr,st,h3,h4⟩:=bPe (l:=l) hL 20 (19-n) n 0 (λc=>qR (yFr (q63 m te b l a n w)) c) (by omega);rw[show n+1+(19-n)=20 by omega]at h3;have he:xG prog (D63 m te b (yQ a)).env F0 noY 20 63 ([.fn (.yield l) [] []]++DL a n w)=
   some ((.tup [],(Ay (λi=>b (zI w i)) n 0).map λi=> .y (l,[zI w i])),st.map λ_ => .tup []):=by
  have hm:∀st:List (X×List T),(∀q∈st,q.1= .ret)->xG.mapO (xG.endY prog []) (st.map λq=>(exB 0 q.1,q.2))=some (st.map λ_ => .tup []):=by
   intro st
   induction st with
   |nil=>intro _;rfl
   |cons q r ih=>
    intro hq;have hq1:=hq q (by simp);obtain⟨x,f⟩:=q;simp only at hq1;subst hq1;simp only[cB,xG.mapO,ih λq h=>hq q (by simp[h])];rfl
  have hc:wJ prog (D63 m te b (yQ a)).env F0 noY 20 (qD f63) (([.fn (.yield l) [] []]++DL a n w)++List.replicate 20 pV)=
    some ((.normal,fr,(Ay (λi=>b (zI w i)) n 0).map λi=> .y (l,[zI w i])),st.map λq=>(exB 0 q.1,q.2)):=by
   rw[e63];simp only[wJ,q1,Ak,h3];simp[exB]
  unfold xG;rw[func63];simp only;rw[show f63.body=some (qD f63) by kernel_rfl];simp only;rw[show f63.ntmps-([T.fn (.yield l) [] []]++DL a n w).length=20 from rfl,hc,show f63.results.toList=[] by kernel_rfl];simp only;rw[show xG.endY prog [] (X.normal,fr)=some (.tup [])from rfl];simp only;rw[hm st h4]
 refine⟨_,_,.tup [],aWs (L:=l) x.hm x.hE x.hF (by kernel_rfl) (by kernel_rfl) he (λt ht=> ?_) (λq hq=> ?_),?_,?_⟩
 .obtain⟨_,_,rfl⟩:=bQ.1 ht;rfl
 .obtain⟨_,_,rfl⟩:=bQ.1 hq;rfl
 .have:∀s:List Nat,(vals (s.map λi=>Xc.y (l,[zI w i]))).map Prod.snd=s.map λi=>[zI w i]:=by
   intro s
   induction s with
   |nil=>rfl|cons i s ih=>simp only[cB,vals,Xc.vals];simp[ih]
  exact this _
 .have:∀s:List Nat,∀q∈vals (s.map λi=>Xc.y (l,[zI w i])),q.1=l:=by
   intro s
   induction s with
   |nil=>intro q hq;simp[vals]at hq
   |cons i s ih=>
    intro q hq;simp only[cB,vals,Xc.vals]at hq;rcases bH.1 hq with h|h
    .simp at h;rw[h]
    .exact ih q h
  exact this _
end
def clo(a:Fl)(n:Nat)(w:iW):T:= .fn (.func 63) [] (DL a n w)
def s32(a:Fl)(n:Nat)(w:iW):List T->Option (T×List Bool)
 |[x,y]=>some (clo a n w,[pb (x=LX n w),pb (y=yQ a)])|_ =>none
def F17:Fc:=⟨λs=>Nat.beq s 5||Nat.beq s 6,λ_ _ _ =>none⟩
def Wz(k:Nat)(v:iW):List (List T):=(List.range k).map λj=>[zI v j]
def aUy(k:Nat)(v:iW):FuncId->List T->Option (List (List T)×List Bool):=λf cap=>if f=63 then some (Wz k v,[pb (Mg prog (glZ m te) 63 cap (Wz k v))])else none
section
variable(m:Int)(te:fS)(a:Fl)(n:Nat)(w:iW)(v:iW)
theorem c32:pW prog (glZ m te) 32 [LX n w,yQ a] (clo a n w):=
 pure_ru (cxZ m te) (rC m te) (It:=λ_ _ =>none) (k:=40) (n:=20) (λf c xs h=>by cases h) (by kernel_rfl) (by kernel_rfl) func32 (c:=qD f32) (by kernel_rfl) (L:=4) (by kernel_rfl) (by kernel_rfl) (ds:=[]) (log:=[]) (by kernel_rfl) rfl
end
abbrev noI:FuncId->List T->Option (List (List T)×List Bool):=λ_ _ =>none
def u(D:Ed)(F:Fc)(f:Func)(ts:fU)(ds:gH):Option (T×List Bool):=aAg prog f 40 (zC prog D F noI 20 40 (qD f) (ts++List.replicate (f.ntmps-ts.length) pV) ⟨0,.nl⟩ ds [])
theorem u_ok{m:Int}{te:fS}{D:Ed}{F:Fc}(x:Cx prog D F)(hg:D.gl=glZ m te){f:gV}{fn:Func}(h1:vL prog f=true)(h2:Yv prog f=true)(hfn:prog.funcs[f]? =some fn)(hb:fn.body=some (qD fn)){ts:fU}(hts:mapO (qJ 40 ⟨0,.nl⟩) ts=some ts){ds:gH}{r:T}{b:Bool}
  (h:(u D F fn ts ds).map (λq=>(q.1,qA q.2))=some (r,b)) (hl:b=true):pW prog (glZ m te) f ts r:=by
 rw[aD]at h;obtain⟨⟨r',log⟩,e1,e2⟩:=h;simp only[aU]at e2;obtain⟨rfl,e3⟩:=e2;rw[hl]at e3;rw[<-hg];exact pure_ru x (hg▸rC m te) (λf c xs h=>by cases h) h1 h2 hfn hb rfl hts e1 e3
section
variable(m:Int)(te:fS)
abbrev iG:=Nat->Int
def aJm(n:Nat)(p:iG):T:= .slf false n λi=> .int .i64 (p i)
end
structure Gr where
 node:List UInt8
 text:List UInt8
 cnt:Int
 mass:Int
 first:Int
 last:Int
def Gr.c(a:Gr):List T:=[.str a.node,.str a.text,.int .i64 a.cnt,.int .i64 a.mass,.int .i64 a.first,.int .i64 a.last]
def cI(x y:Int):Int:=bif x !=0 then x else y
def cG(a b:Gr):Int:=cI (Lib.compareBytes a.node b.node) (Lib.compareBytes a.text b.text)
def aSd:List T->Option (T×List Bool)
 |[.str a,.str b]=>some (.int .i64 (Lib.compareBytes a b),[])|_ =>none
def bHr:List T->Option (T×List Bool)
 |[.sl true [.int .i64 x,.int .i64 y]]=>some (.int .i64 (cI x y),[])|_ =>none
section
variable(m:Int)(te:fS)
theorem aAt{f:gV}(hf:∀a b:List UInt8,pW prog (glZ m te) f [.str a,.str b] (.int .i64 (Lib.compareBytes a b))){ts:fU}{r:T}{cs:gH}(h:aSd ts=some (r,cs))(hc:qA cs=true):pW prog (glZ m te) f ts r:=by
 unfold aSd at h;split at h
 .cases h;exact hf _ _
 .cases h
theorem bLf(a b:gU):pW prog (glZ m te) 66 [.str a,.str b] (.int .i64 (Lib.compareBytes a b)):=aAi (Vt (f:=66) (by rfl))
theorem bLr:Cx prog ⟨glZ m te,rT 66 aSd (λ_ _ _ =>none)⟩ F0:=⟨follows,qN rR λts r cs h hc=>aAt m te (bLf m te) h hc,rG⟩
theorem bLa(a b:gU):pW prog (glZ m te) 36 [.str a,.str b] (.int .i64 (Lib.compareBytes a b)):=
 u_ok (bLr m te) rfl (f:=36) (by kernel_rfl) (by kernel_rfl) func36 (by kernel_rfl) (by kernel_rfl) (ds:=[]) (b:=true) (by kernel_rfl) rfl
theorem bKz(x y:Int):pW prog (glZ m te) 35 [.sl true [.int .i64 x,.int .i64 y]] (.int .i64 (cI x y)):=by
 unfold cI;by_cases hx:(x !=0)=true
 .rw[hx,cond_true];exact u_ok (cxZ m te) rfl (f:=35) (by kernel_rfl) (by kernel_rfl) func35 (by kernel_rfl) (by kernel_rfl) (ds:=[true,true]) (b:=(x !=0)&&true) (by kernel_rfl) (by rw[hx];rfl)
 .have hx:(x !=0)=false:=by simpa using hx
  rw[hx,cond_false];by_cases hy:(y !=0)=true
  .exact u_ok (cxZ m te) rfl (f:=35) (by kernel_rfl) (by kernel_rfl) func35 (by kernel_rfl) (by kernel_rfl) (ds:=[true,false,true,true]) (b:=(y !=0)&&(!(x !=0)&&true)) (by kernel_rfl) (by rw[hx,hy];rfl)
  .have hy:(y !=0)=false:=by simpa using hy
   have h:=u_ok (cxZ m te) rfl (f:=35) (by kernel_rfl) (by kernel_rfl) func35 (by kernel_rfl) (ts:=[.sl true [.int .i64 x,.int .i64 y]]) (by kernel_rfl) (ds:=[true,false,true,false,false]) (r:= .int .i64 0) (b:= !(y !=0)&&(!(x !=0)&&true)) (by kernel_rfl) (by rw[hx,hy];rfl);have e:y=0:=by simpa using hy
   rw[e]at h⊢;exact h
def Dg:Ed:=⟨glZ m te,rT 36 aSd (rT 35 bHr (λ_ _ _ =>none))⟩
theorem bLs:Cx prog (Dg m te) F0:=by
 refine⟨follows,qN (qN rR λts r cs h hc=> ?_) λts r cs h hc=>aAt m te (bLa m te) h hc,rG⟩;unfold bHr at h;split at h
 .cases h;exact bKz m te _ _
 .cases h
theorem c34(a b:Gr):pW prog (glZ m te) 34 [.agg a.c,.agg b.c] (.int .i64 (cG a b)):=
 u_ok (bLs m te) rfl (f:=34) (by kernel_rfl) (by kernel_rfl) func34 (by kernel_rfl) (by kernel_rfl) (ds:=[]) (b:=true) (by kernel_rfl) rfl
end
abbrev gY:=Nat->Gr
def flG(L:gY)(k:Nat):List T:=(List.range k).flatMap λi=>(L i).c
def obG(L:gY)(k:Nat):Ob:={elem:=53,sz:=6,cells:=flG L k}
def BN(L:gY)(k:Nat):Hp:=⟨1,.nd (some (obG L k)) .nl .nl⟩
def Bj:T:= .fn (.func 34) [] []
def Lv(k:Nat)(i j:Int)(g:gZ):List T:=(List.range 53).map λs=>cond (Nat.beq s 0) (.osl 0 6 0 k) (cond (Nat.beq s 1) (.int .i64 0) (cond (Nat.beq s 2) (.int .i64 k) (cond (Nat.beq s 3) Bj (cond (Nat.beq s 8) (.int .i64 i) (cond (Nat.beq s 9) (.int .i64 j) (g s))))))
def sw(L:gY)(j:Nat):Nat->Gr:=λi=>bif Nat.beq i j then L (j+1)else bif Nat.beq i (j+1)then L j else L i
def s34:List T->Option (T×List Bool)
 |[.agg [.str a0,.str a1,.int .i64 a2,.int .i64 a3,.int .i64 a4,.int .i64 a5],.agg [.str b0,.str b1,.int .i64 b2,.int .i64 b3,.int .i64 b4,.int .i64 b5]]=>some (.int .i64 (cG ⟨a0,a1,a2,a3,a4,a5⟩ ⟨b0,b1,b2,b3,b4,b5⟩),[])|_ =>none
section
variable(m:Int)(te:fS)
def Dh:Ed:=⟨glZ m te,rT 34 s34 (λ_ _ _ =>none)⟩
theorem bLt:Cx prog (Dh m te) F0:=by
 refine⟨follows,qN rR λts r cs h hc=> ?_,rG⟩;unfold s34 at h;split at h
 .cases h;exact c34 m te ⟨_,_,_,_,_,_⟩ ⟨_,_,_,_,_,_⟩
 .cases h
noncomputable def TI:Code:=match qD f100 with
 | .seq _ (.block _ (.loop (.seq _ (.seq (.block _ (.seq _ (.block _ (.loop c)))) _))))=>c|c=>c
def p1:Code:=match TI with
 | .seq a _ =>a|c=>c
def p2:Code:=match TI with
 | .seq _ b=>b|c=>c
def cX:RD (X×List T×Hp)->Option (X×Hp)
 | .ok (x,_,H) _ _ =>some (x,H)|_ =>none
def ED:RD (X×List T×Hp)->List T
 | .ok (_,fr,_) _ _ =>fr|_ =>[]
def Te:RD (X×List T×Hp)->Bool
 | .ok _ _ log=>qA log|_ =>false
def rI(k:Nat)(L:gY)(i j:Int)(g:gZ)(ds:gH):RD (X×List T×Hp):=qE prog (Dh m te) F0 p1 (Lv k i j g) (BN L k) ds []
def dsI(d:Bool):List Bool:=List.replicate 13 true++[d]
def ltG(L:gY)(j:Nat):Bool:=decide (cG (L (j+1)) (L j)<0)
def rJ(k:Nat)(L:gY)(i j:Int)(g:gZ):Option (X×List T×Hp):=pU prog (Dh m te).env F0 20 p2 (Lv k i j g) (BN L k)
def Es:Option (X×List T×Hp)->List T
 |some (_,fr,_)=>fr|none=>[]
structure SI(k j:Nat)(L:gY)(i:Int)(g:gZ):Prop where
 t:cX (rI m te k L i (j+1:Nat) g (dsI true))=some (.normal,BN L k)
 tl:Te (rI m te k L i (j+1:Nat) g (dsI true))=(ltG L j&&true)
 tf:ED (rI m te k L i (j+1:Nat) g (dsI true))=Lv k i (j+1:Nat) (qR (ED (rI m te k L i (j+1:Nat) g (dsI true))))
 e:cX (rI m te k L i (j+1:Nat) g (dsI false))=some (.exit 2,BN L k)
 el:Te (rI m te k L i (j+1:Nat) g (dsI false))=(!ltG L j&&true)
 ef:ED (rI m te k L i (j+1:Nat) g (dsI false))=Lv k i (j+1:Nat) (qR (ED (rI m te k L i (j+1:Nat) g (dsI false))))
 s:(rJ m te k L i (j+1:Nat) g).map (λz=>(z.1,z.2.2))=some (.normal,BN (sw L j) k)
 sf:Es (rJ m te k L i (j+1:Nat) g)=Lv k i (j:Nat) (qR (Es (rJ m te k L i (j+1:Nat) g)))
theorem si(L:gY)(i:Int)(g:gZ)(k j:Nat)(hk:k<=12)(hj:j+1<k):SI m te k j L i g:=by
 rcases k with _ |_ |_ |_ |_ |_ |_ |_ |_ |_ |_ |_ |_ |k<;>rcases j with _ |_ |_ |_ |_ |_ |_ |_ |_ |_ |_ |j<;>first|omega|(constructor<;>kernel_rfl)
theorem zIn(L:gY)(i:Int)(g:gZ)(k:Nat):cX (rI m te k L i (0:Nat) g (List.replicate 14 false))=some (.exit 2,BN L k)/\Te (rI m te k L i (0:Nat) g (List.replicate 14 false))=true/\ED (rI m te k L i (0:Nat) g (List.replicate 14 false))=Lv k i (0:Nat) (qR (ED (rI m te k L i (0:Nat) g (List.replicate 14 false)))):=by
 refine⟨?_,?_,?_⟩<;>kernel_rfl
theorem aWh:TI= .seq p1 p2:=by kernel_rfl
theorem TC{D:Ed}{c:Code}{fr:fU}{H:Hp}{ds:gH}{x:X}{H':Hp}(n:Nat)(h:cX (qE prog D F0 c fr H ds [])=some (x,H'))(hl:Te (qE prog D F0 c fr H ds [])=true):
  pU prog D.env F0 n c fr H=some (x,ED (qE prog D F0 c fr H ds []),H'):=by
 generalize hr:qE prog D F0 c fr H ds []=r at h hl;unfold cX at h;split at h
 .cases h;exact(AZ n hr hl).1
 .cases h
def IL:Nat->(Nat->Gr)->Nat->Gr
 |0,L=>L|j+1,L=>bif ltG L j then IL j (sw L j)else L
theorem Po{f:jL}{k:Nat}{fr fr':fU}{H H':Hp}(h:f fr H=some (.normal,fr',H')):pU.loopN f (k+1) fr H=pU.loopN f k fr' H':=by
 simp only[pU.loopN,h]
theorem RL{f:jL}{k id:Nat}{fr fr':fU}{H H':Hp}(h:f fr H=some (.exit id,fr',H')):pU.loopN f (k+1) fr H=some (.exit id,fr',H'):=by
 simp only[pU.loopN,h]
theorem aTs{k:Nat}(hk:k<=12)(i:Int)(e:Nat):∀(j:Nat) (L:gY) (g:gZ),j<k->∃(j':Int) (g':gZ),pU.loopN (λfr H=>pU prog (Dh m te).env F0 20 TI fr H) (j+1+e) (Lv k i j g) (BN L k)=some (.exit 2,Lv k i j' g',BN (IL j L) k)
 |0,L,g,_ =>by
  obtain⟨h1,h2,h3⟩:=zIn m te L i g k;have h:=TC 20 h1 h2;rw[show ED (qE prog (Dh m te) F0 p1 (Lv k i (0:Nat) g) (BN L k) (List.replicate 14 false) [])=_ from h3]at h;rw[show 0+1+e=e+1 by omega];exact⟨_,_,RL (by show pU prog (Dh m te).env F0 20 TI _ _ =_;rw[aWh];simp only[pU,h];rfl)⟩
 |j+1,L,g,hj=>by
  have S:=si m te L i g k j hk hj;rw[show j+1+1+e=(j+1+e)+1 by omega];by_cases hb:ltG L j=true
  .have h:=TC 20 S.t (S.tl.trans (by rw[hb];rfl));rw[show ED (qE prog (Dh m te) F0 p1 (Lv k i (j+1:Nat) g) (BN L k) (dsI true) [])=_ from S.tf]at h;generalize hg:qR (ED (rI m te k L i (j+1:Nat) g (dsI true)))=g1 at h;have S2:=si m te L i g1 k j hk hj;have s:=S2.s;rw[aD]at s;obtain⟨⟨x,fr,H'⟩,e1,e2⟩:=s;simp only[aU]at e2;obtain⟨rfl,rfl⟩:=e2;have sf:=S2.sf;rw[e1]at sf;have sf:fr=_ :=sf;have e1:pU prog (Dh m te).env F0 20 p2 (Lv k i (j+1:Nat) g1) (BN L k)=some (.normal,fr,BN (sw L j) k):=e1;rw[sf]at e1;rw[Po (by show pU prog (Dh m te).env F0 20 TI _ _ =_;rw[aWh];simp only[pU,h];exact e1)];rw[show IL (j+1) L=IL j (sw L j) by simp only[IL,hb,cond_true]];exact aTs hk i e j (sw L j) _ (by omega)
  .have hb:ltG L j=false:=by simpa using hb
   have h:=TC 20 S.e (S.el.trans (by rw[hb];rfl));rw[show ED (qE prog (Dh m te) F0 p1 (Lv k i (j+1:Nat) g) (BN L k) (dsI false) [])=_ from S.ef]at h;rw[show IL (j+1) L=L by simp only[IL,hb,cond_false]];exact⟨_,_,RL (by show pU prog (Dh m te).env F0 20 TI _ _ =_;rw[aWh];simp only[pU,h];rfl)⟩
end
section
variable(m:Int)(te:fS)
def Lw(k:Nat)(i:Int)(g:gZ):List T:=(List.range 53).map λs=>cond (Nat.beq s 0) (.osl 0 6 0 k) (cond (Nat.beq s 1) (.int .i64 0) (cond (Nat.beq s 2) (.int .i64 k) (cond (Nat.beq s 3) Bj (cond (Nat.beq s 8) (.int .i64 i) (g s)))))
noncomputable def bO:Code:=match qD f100 with
 | .seq _ (.block _ (.loop c))=>c|c=>c
noncomputable def o0:Code:=match qD f100 with
 | .seq c _ =>c|c=>c
def o1:Code:=match bO with
 | .seq a _ =>a|c=>c
def o3:Code:=match bO with
 | .seq _ (.seq (.block _ (.seq a _)) _)=>a|c=>c
def o2:Code:=match bO with
 | .seq _ (.seq _ b)=>b|c=>c
theorem ebO:bO= .seq o1 (.seq (.block 1 (.seq o3 (.block 2 (.loop TI)))) o2):=by kernel_rfl
theorem bCi:qD f100= .seq o0 (.block 0 (.loop bO)):=by kernel_rfl
def rO(c:Code)(fr:fU)(H:Hp)(ds:gH):RD (X×List T×Hp):=qE prog (Dh m te) F0 c fr H ds []
structure SO(k:Nat)(H:Hp)(i j:Int)(g:gZ):Prop where
 t:cX (rO m te o1 (Lw k i g) H [true])=some (.normal,H)
 tl:Te (rO m te o1 (Lw k i g) H [true])=(decide (i<k)&&true)
 tf:ED (rO m te o1 (Lw k i g) H [true])=Lw k i (qR (ED (rO m te o1 (Lw k i g) H [true])))
 e:cX (rO m te o1 (Lw k i g) H [false])=some (.exit 0,H)
 el:Te (rO m te o1 (Lw k i g) H [false])=(!decide (i<k)&&true)
 r:cX (rO m te o3 (Lw k i g) H [])=some (.normal,H)
 rl:Te (rO m te o3 (Lw k i g) H [])=true
 rf:ED (rO m te o3 (Lw k i g) H [])=Lv k i i (qR (ED (rO m te o3 (Lw k i g) H [])))
 n:cX (rO m te o2 (Lv k i j g) H [])=some (.normal,H)
 nl:Te (rO m te o2 (Lv k i j g) H [])=true
 nf:ED (rO m te o2 (Lv k i j g) H [])=Lw k (i64.wrap (i+1)) (qR (ED (rO m te o2 (Lv k i j g) H [])))
theorem so(k:Nat)(H:Hp)(i j:Int)(g:gZ):SO m te k H i j g:=by constructor<;>kernel_rfl
def srt:Nat->Nat->(Nat->Gr)->Nat->Gr
 |0,_,L=>L|n+1,i,L=>srt n (i+1) (IL i L)
theorem aUj{k:Nat}(hk:k<=12)(e:Nat):∀(n i:Nat) (L:gY) (g:gZ),k-i=n->∃fr',pU.loopN (λfr H=>pU prog (Dh m te).env F0 20 bO fr H) (n+1+e) (Lw k i g) (BN L k)=some (.exit 0,fr',BN (srt n i L) k)
 |0,i,L,g,hn=>by
  have S:=so m te k (BN L k) i 0 g;have h:=TC 20 S.e (S.el.trans (by simp;omega));rw[show 0+1+e=e+1 by omega];exact⟨_,RL (by show pU prog (Dh m te).env F0 20 bO _ _ =_;rw[ebO];simp only[pU,h];rfl)⟩
 |n+1,i,L,g,hn=>by
  have S:=so m te k (BN L k) i 0 g;have h1:=TC 20 S.t (S.tl.trans (by simp;omega));rw[show ED (qE prog (Dh m te) F0 o1 (Lw k i g) (BN L k) [true] [])=_ from S.tf]at h1;generalize hg1:qR (ED (rO m te o1 (Lw k i g) (BN L k) [true]))=g1 at h1;have S1:=so m te k (BN L k) i 0 g1;have h2:=TC 20 S1.r S1.rl;rw[show ED (qE prog (Dh m te) F0 o3 (Lw k i g1) (BN L k) [] [])=_ from S1.rf]at h2;obtain⟨j',g2,h3⟩:=aTs m te hk i (19-i) i L (qR (ED (rO m te o3 (Lw k i g1) (BN L k) []))) (by omega);rw[show i+1+(19-i)=20 by omega]at h3;have S2:=so m te k (BN (IL i L) k) i j' g2;have h4:=TC 20 S2.n S2.nl;rw[show ED (qE prog (Dh m te) F0 o2 (Lv k i j' g2) (BN (IL i L) k) [] [])=_ from S2.nf]at h4;have hw:i64.wrap ((i:Int)+1)=((i+1:Nat):Int):=by rw[IntKind.wrap_i64];omega
  rw[hw]at h4;rw[show n+1+1+e=(n+1+e)+1 by omega];rw[Po (by show pU prog (Dh m te).env F0 20 bO _ _ =_;rw[ebO];simp only[pU,h1,h2,h3,if_true];exact h4)];exact aUj hk e n (i+1) (IL i L) _ (by omega)
def tsG(k:Nat):List T:=[.osl 0 6 0 k,.int .i64 0,.int .i64 k,Bj]
theorem so0(k:Nat)(H:Hp):(cX (rO m te o0 (tsG k++List.replicate 49 pV) H [])=some (.normal,H)/\Te (rO m te o0 (tsG k++List.replicate 49 pV) H [])=true)/\ED (rO m te o0 (tsG k++List.replicate 49 pV) H [])=Lw k (1:Nat) (qR (ED (rO m te o0 (tsG k++List.replicate 49 pV) H []))):=by
 refine⟨⟨?_,?_⟩,?_⟩<;>kernel_rfl
def AK(k:Nat)(L:gY):Nat->Gr:=srt (k-1) 1 L
theorem bCs{k:Nat}(hk:k<=12)(L:gY):PY prog (Dh m te).env F0 20 100 (tsG k) (BN L k)=some (.tup [],BN (AK k L) k):=by
 obtain⟨⟨a1,a2⟩,a3⟩:=so0 m te k (BN L k);have h0:=TC 20 a1 a2;rw[show ED (qE prog (Dh m te) F0 o0 (tsG k++List.replicate 49 pV) (BN L k) [] [])=_ from a3]at h0;obtain⟨fr',h1⟩:=aUj m te hk (19-(k-1)) (k-1) 1 L (qR (ED (rO m te o0 (tsG k++List.replicate 49 pV) (BN L k) []))) rfl;rw[show k-1+1+(19-(k-1))=20 by omega]at h1;have hc:pU prog (Dh m te).env F0 20 (qD f100) (tsG k++List.replicate 49 pV) (BN L k)=some (.normal,fr',BN (AK k L) k):=by
  rw[bCi];simp only[pU,h0,h1,if_true];rfl
 unfold PY;rw[func100];simp only;rw[show f100.body=some (qD f100) by kernel_rfl];simp only;rw[show f100.ntmps-(tsG k).length=49 from rfl,hc,show f100.results.toList=[] by kernel_rfl];rfl
theorem bCj{k:Nat}(hk:k<=12)(L:gY):UB prog (glZ m te) 100 (tsG k) (BN L k) (.tup []) (BN (AK k L) k):=
 have x:=bLt m te
 ⟨by kernel_rfl,λg vs hg hs hgl hv=>aTq x.hm x.hE x.hF (by kernel_rfl) (bCs m te hk L) g vs hg hs hgl hv⟩
end
section
variable(m:Int)(te:fS)
def l12(k:Nat):Int:=[0,1,2,2,3,3,3,3,4,4,4,4,4].getD k 0
theorem bKa(k:Nat)(hk:k<=12):pW prog (glZ m te) 109 [.int .u64 k] (.int .i64 (l12 k)):=by
 refine u_ok (cxZ m te) rfl (f:=109) (by kernel_rfl) (by kernel_rfl) func109 (by kernel_rfl) (by kernel_rfl) (ds:=[false,false,false]) (b:=true) ?_ rfl;rcases k with _ |_ |_ |_ |_ |_ |_ |_ |_ |_ |_ |_ |_ |k<;>first|omega|kernel_rfl
def aLr:List T->Option (T×List Bool)
 |[.int .u64 x]=>some (.int .i64 (l12 x.toNat),[decide (0<=x),decide (x<=12)])|_ =>none
theorem Ku{f:gV}(hf:∀k:Nat,k<=12->pW prog (glZ m te) f [.int .u64 k] (.int .i64 (l12 k))){ts:fU}{r:T}{cs:gH}(h:aLr ts=some (r,cs))(hc:qA cs=true):pW prog (glZ m te) f ts r:=by
 unfold aLr at h;split at h
 .rename_i x;cases h;simp only[qA,bC,aA,aJ]at hc;have:=hf x.toNat (by omega)
  rwa [show((x.toNat:Nat):Int)=x by omega]at this
 .cases h
theorem bBr(k:Nat)(hk:k<=12):pW prog (glZ m te) 65 [.int .u64 k] (.int .i64 (l12 k)):=by
 have x:Cx prog ⟨glZ m te,rT 109 aLr (λ_ _ _ =>none)⟩ F0:=⟨follows,qN rR λts r cs h hc=>Ku m te (bKa m te) h hc,rG⟩;exact u_ok x rfl (f:=65) (by kernel_rfl) (by kernel_rfl) func65 (by kernel_rfl) (by kernel_rfl) (ds:=[false]) (b:=decide ((0:Int)<=k)&&(decide ((k:Int)<=12)&&true)) (by kernel_rfl) (by simp;omega)
def eG(ts:fU)(k:Nat)(L:gY):List T->Hp->Option (T×Hp×List Bool):=λus H=>some (.tup [],BN (AK k L) k,[pb (us=ts),pb (H=BN L k)])
theorem bCg{f:gV}{ts:fU}{k:Nat}{L:gY}(h:UB prog (glZ m te) f ts (BN L k) (.tup []) (BN (AK k L) k))(us:fU)(H:Hp)(r:T)(H':Hp)(cs:gH)(e:eG ts k L us H=some (r,H',cs))(hc:qA cs=true):UB prog (glZ m te) f us H r H':=by
 cases e;simp only[qA,bC,aA,rD]at hc;rw[hc.1,hc.2];exact h
def Fg(f:gV)(ts:fU)(k:Nat)(L:gY):Fc:=⟨λ_ =>false,Yf f (eG ts k L) (λ_ _ _ =>none)⟩
theorem aSw{f:gV}{ts:fU}{k:Nat}{L:gY}(h:UB prog (glZ m te) f ts (BN L k) (.tup []) (BN (AK k L) k)):tX prog (glZ m te) (Fg f ts k L).ee:=Nm (own:=λ_ =>false) rG (bCg m te h) _
def aFd(k:Nat):List T:=[.osl 0 6 0 k,.int .i64 0,.int .i64 k,.int .i64 (l12 k),Bj]
theorem bSd(k:Nat)(L:gY):(aRr prog f64 (rB prog (DZ m te) (Fg 100 (tsG k) k L) 20 (qD f64) (aFd k++List.replicate 143 pV) (BN L k) [true] [])).map (λz=>(z.1,z.2.1,qA z.2.2))=
  some (.tup [],BN (AK k L) k,qA [pb (tsG k=tsG k),pb (BN L k=BN L k),decide (i64.wrap ((k:Int)-0)<=12)]):=by kernel_rfl
theorem bMe{k:Nat}(hk:k<=12)(L:gY):UB prog (glZ m te) 64 (aFd k) (BN L k) (.tup []) (BN (AK k L) k):=by
 have h:=bSd m te k L;rw[aD]at h;obtain⟨⟨r,H',log⟩,e1,e2⟩:=h;simp only[aU]at e2;obtain⟨rfl,rfl,e3⟩:=e2;have x:Cx prog (DZ m te) (Fg 100 (tsG k) k L):=⟨follows,(cxZ m te).hE,aSw m te (bCj m te hk L)⟩;exact aTn x (by kernel_rfl) (by kernel_rfl) func64 (by kernel_rfl) (L:=143) (by kernel_rfl) e1 (e3.trans (by simp[qA,rD,IntKind.wrap_i64];omega))
def bId(k:Nat):List T:=[.osl 0 6 0 k,Bj]
def Di:Ed:=⟨glZ m te,rT 65 aLr (λ_ _ _ =>none)⟩
theorem bSc(k:Nat)(L:gY):(aRr prog f33 (rB prog (Di m te) (Fg 64 (aFd k) k L) 20 (qD f33) (bId k++List.replicate 12 pV) (BN L k) [] [])).map (λz=>(z.1,z.2.1,qA z.2.2))=
  some (.tup [],BN (AK k L) k,qA [pb ([.osl 0 6 0 k,.int .i64 0,.int .i64 k,.int .i64 (l12 (IntKind.u64.wrap k).toNat),Bj]=aFd k),pb (BN L k=BN L k),decide (0<=IntKind.u64.wrap (k:Int)),decide (IntKind.u64.wrap (k:Int)<=12)]):=by kernel_rfl
theorem bMd{k:Nat}(hk:k<=12)(L:gY):UB prog (glZ m te) 33 (bId k) (BN L k) (.tup []) (BN (AK k L) k):=by
 have h:=bSc m te k L;rw[aD]at h;obtain⟨⟨r,H',log⟩,e1,e2⟩:=h;simp only[aU]at e2;obtain⟨rfl,rfl,e3⟩:=e2;have x:Cx prog (Di m te) (Fg 64 (aFd k) k L):=⟨follows,qN rR λts r cs h hc=>Ku m te (bBr m te) h hc,aSw m te (bMe m te hk L)⟩;have hw:IntKind.u64.wrap (k:Int)=k:=by rcases k with _ |_ |_ |_ |_ |_ |_ |_ |_ |_ |_ |_ |_ |k<;>first|omega|rfl
 exact aTn x (by kernel_rfl) (by kernel_rfl) func33 (by kernel_rfl) (L:=12) (by kernel_rfl) e1 (e3.trans (by rw[hw];simp[qA,rD,aFd];omega))
end
end
end Go.Proofs.Tryz
namespace Go.Ps
def HF(o:Ob):Hp:=⟨1,.nd (some o) .nl .nl⟩
theorem NF{o o':Ob}{l:Nat}(h:(HF o).any l=some o'):l=0/\o'=o:=by
 have e:(HF o).any l=if l=0 then some o else none:=by
  have:=sH (⟨1,.nl⟩:Hp) 0 o l;rw[uI]at this;exact this
 rw[e]at h;split at h
 .cases h;exact⟨by assumption,rfl⟩
 .cases h
theorem aBs(o:Ob):(HF o).any 0=some o:=by
 have:=sH (⟨1,.nl⟩:Hp) 0 o 0;rw[if_pos rfl]at this;exact this
theorem Qm{g g':G}{vs:gM}{ts:fU}(h:∀c∈ts,BI c=true)(hr:RdL g vs ts):RdL g' vs ts:=
 ⟨hr.1,λj v c hv hc=>Rc (h c (bB hc)) (hr.2 j v c hv hc)⟩
theorem aYg{g g':G}{v:gQ}{f:Fn}(h:Rd g v (.fn f [] [])):Rd g' v (.fn f [] []):=by
 cases h with
 |fn _ _ _ vs us h1 h2 h3 h4=>exact .fn f [] [] vs us h1 (λj v c _ hc=>by simp at hc) h3 (λj v c _ hc=>by simp at hc)
theorem aRx{g g':G}{v:gQ}(h:Rd g v (.tup [])):Rd g' v (.tup []):=by
 cases h with
 |tup _ vs h1 h2=>exact .tup [] vs h1 (λj v c _ hc=>by simp at hc)
theorem aWi{P:fV}{gl:fY}{f:gV}{sz n:Nat}{ob ob':Ob}{k:Fn}(hz:wR gl)(h:UB P gl f [.osl 0 sz 0 n,.fn k [] []] (HF ob) (.tup []) (HF ob'))(hm:ob.me=none)(hm':ob'.me=none)
  (hc:∀c∈ob.cells,BI c=true) (hc':∀c∈ob'.cells,BI c=true) {H:Hp} {l:Nat} (hl:H.any l=some ob):UB P gl f [.osl l sz 0 n,.fn k [] []] H (.tup []) (H.put l ob'):=by
 refine⟨h.1,λg vs hg hs hgl hv=> ?_⟩;obtain⟨hal,hnS,hlt⟩:=hs.at_ hl;have hsD:St g (H.drop l):=by
  refine⟨λi o ho=> ?_,λi o m ho hme=> ?_,λi i' o o' h1 h2 e=> ?_,hs.new⟩
  .rw[XO]at ho;split at ho
   .cases ho
   .exact hs.own i o ho
  .rw[sA]at ho;split at ho
   .cases ho
   .exact hs.ownM i o m ho hme
  .rw[sA]at h1 h2;split at h1
   .cases h1
   .split at h2
    .cases h2
    .exact hs.sep i i' o o' h1 h2 e
 let g1:G:=g.frz (H.drop l) {w:=g.w,S:=g.S,al:=λi=>i=0,loc:=λ_ =>g.loc l,cp:=λ_ =>g.cp l}
 have hg1:rZ g1:=λb hb=>by
  rcases hb with hb|⟨i,o,ho,rfl⟩
  .exact hg b hb
  .exact(aK.1 (hsD.own i o ho).2.2.choose_spec.1).1
 have hS1:¬g1.S (g.loc l):=by
  rintro(hb|⟨i,o,ho,e⟩)
  .exact hnS hb
  .have ho':=ho;rw[XO]at ho;split at ho
   .cases ho
   .rename_i hne;unfold Hp.get at ho;split at ho
    .rename_i q hq;exact hne (hs.sep i l q ob hq hl e)
    .cases ho
 have hs1:St g1 (HF ob):=by
  refine⟨λi o ho=> ?_,λi o m ho hme=> ?_,λi i' o o' h1 h2 _ =>by rw[(NF h1).1,(NF h2).1],λi (hi:1<=i) (e:i=0)=>by omega⟩
  .have:(HF ob).any i=some o:=by
    unfold Hp.get at ho;split at ho
    .rename_i q hq;obtain⟨rfl,rfl⟩:=NF hq;have hp:Ob.plain q=some q:=by simp[Ob.plain,hm]
     rw[hp]at ho;cases ho;exact hq
    .cases ho
   obtain⟨rfl,rfl⟩:=NF this;obtain⟨_,_,cs,q1,q2,q3,q4,q5⟩:=hs.own l o (yC hl hm);exact⟨rfl,hS1,cs,q1,q2,q3,q4,Qm hc q5⟩
  .obtain⟨rfl,rfl⟩:=NF ho;rw[hm]at hme;cases hme
 have hv1:RdL g1 vs [.osl 0 sz 0 n,.fn k [] []]:=by
  match vs,hv with
  |[a,b],hv=>
   refine RdL.cons ?_ (RdL.cons (aYg (hv.2 1 b _ rfl rfl)) RdL.nil);have:=hv.2 0 a _ rfl rfl;cases this with
   |osl _ _ _ _ b o cap q1 q2 q3 q4 q5=>exact .osl 0 sz 0 n b o cap rfl q2 q3 q4 q5
  |[],hv=>have:=hv.1;simp at this|[_],hv=>have:=hv.1;simp at this|_ ::_ ::_ ::_,hv=>have:=hv.1;simp at this
 refine(h.2 g1 vs hg1 hs1 (GlOk.frz hz hsD hgl) hv1).mono λe w' ⟨v,g2,e1,e2,e3,e4,e5,e6⟩=> ?_;have hloc:g2.loc 0=g.loc l:=e3.loc 0 rfl;have hcp:g2.cp 0=g.cp l:=e3.cp 0 rfl;have hbl:∀b,b<g.w.heap.size->b≠g.loc l->g2.w.heap[b]? =g.w.heap[b]? :=λb hb hne=>e3.block b hb λi o ho e=>hne e.symm;have hsub:∀i o,(H.put l ob').any i=some o->∃o0,H.any i=some o0:=λi o ho=>by
  rw[sH]at ho;split at ho
  .rename_i e;subst e;exact⟨ob,hl⟩
  .exact⟨o,ho⟩
 have hss:qF H g (H.put l ob') {g with w:=w'}:=by
  subst e2;refine⟨e3.os,e3.tape,e3.output,e3.size,λb hb hn=>hbl b hb λe=>hn l ob hl e.symm,λb hb=>hb,λb hb=> .inl hb,λi hi=>hi,λi hi=>rfl,λi hi=>rfl,λi o ho=> ?_⟩;obtain⟨o0,h0⟩:=hsub i o ho;exact .inl ⟨i,o0,h0,rfl⟩
 have hoth:∀i o0,H.any i=some o0->i≠l->w'.heap[g.loc i]? =g.w.heap[g.loc i]? :=λi o0 h0 hne=>by
  subst e2;exact hbl _ (hs.at_ h0).2.2 λe=>hne (hs.sep i l o0 ob h0 hl e)
 refine⟨v,{g with w:=w'},e1,rfl,hss,λb hb=> ?_,⟨λi o ho=> ?_,λi o mo ho hme=> ?_,λi i' o o' h1 h2 e=> ?_,hs.new⟩,aRx e6⟩
 .subst e2;exact bT (hg b hb) e3.size
 .rw[get_put _ _ _ _ hm']at ho;split at ho
  .rename_i e;subst e;cases ho;obtain⟨_,_,cs,q1,q2,q3,q4,q5⟩:=e5.own 0 ob' (yC (aBs ob') hm');rw[hloc,e2]at q1;rw[hcp]at q4;exact⟨hal,hnS,cs,q1,q2,q3,q4,Qm hc' q5⟩
  .rename_i hne;obtain⟨a1,a2,cs,q1,q2,q3,q4,q5⟩:=hs.own i o ho;have h0:H.any i=some o:=by
    unfold Hp.get at ho;split at ho
    .rename_i q hq;have:q=o:=by
      unfold Ob.plain at ho;split at ho
      .cases ho;rfl
      .cases ho
     rw[this]at hq;exact hq
    .cases ho
   exact⟨a1,a2,cs,by show w'.heap[g.loc i]? =_;rw[hoth i o h0 hne];exact q1,q2,q3,q4,q5.sstep hs hss⟩
 .rw[sH]at ho;split at ho
  .cases ho;rw[hm']at hme;cases hme
  .rename_i hne;obtain⟨a1,a2,b,q1,q2⟩:=hs.ownM i o mo ho hme;exact⟨a1,a2,b,by show w'.heap[g.loc i]? =_;rw[hoth i o ho hne];exact q1,q2.mono (λ_ _ q=>q.sstep hs hss) λj hj=>⟨hj,rfl⟩⟩
 .obtain⟨o0,h0⟩:=hsub i o h1;obtain⟨o1,h1'⟩:=hsub i' o' h2;exact hs.sep i i' o0 o1 h0 h1' e
section
variable{P:fV}{E:tY}{F:Fc}{ops:fZ}{s:Fx}{o:Oper}
theorem Rw{t:fS}{x i:jF}{ok:Bool}{a b r:T}(hp:s.pend=none)(hg:o.guard=none)(ho:o.op= .lookup t x i ok)(hx:qG E.gl s.fr x=some a)(hi:qG E.gl s.fr i=some b)(h:zH P s.H t a b ok=some r):
  sE P E F ops s o=some {s with fr:=qU s.fr o.dst r}:=by
 have he:qK P E (zO F o) s.H s.fr o=some r:=by simp only[qK,ho,hx,hi,h]
 have hw:qH ops s.fr o=true:=by simp only[qH,hg]
 unfold sE;simp only[hp];unfold tU;rw[if_pos hw];simp only[he,hp]
theorem Rx{t:fS}{x i y:jF}{a b c:T}{H':Hp}(hp:s.pend=none)(hg:o.guard=none)(hd:o.dst=none)(ho:o.op= .mapUpdate t x i y)(hx:qG E.gl s.fr x=some a)(hi:qG E.gl s.fr i=some b)(hy:qG E.gl s.fr y=some c)(h:SN P s.H t a b c=some H'):
  sE P E F ops s o=some {s with H:=H'}:=by
 have he:qK P E (zO F o) s.H s.fr o=none:=by simp only[qK,ho]
 have hf:xF P E F s.H s.fr o=some (pV,H'):=by simp only[xF,ho,hx,hi,hy,h]
 have ha:tQ F o=none:=by simp only[tQ,ho]
 have hw:qH ops s.fr o=true:=by simp only[qH,hg]
 unfold sE;simp only[hp];unfold tU;rw[if_pos hw];simp only[he,ha,hf,hd,hp];rfl
theorem Lc:∀(l l':gW) (s:Fx),qL P E F ops (l++l') s=match qL P E F ops l s with|some s'=>qL P E F ops l' s'|none=>none
 |[],l',s=>rfl
 |o::l,l',s=>by
  simp only[List.cons_append,qL];cases sE P E F ops s o with
  |none=>rfl|some s'=>exact Lc l l' s'
theorem ZH{n id:Nat}{fr fr':fU}{H H':Hp}(h:qL P E F ops ops.toList ⟨fr,H,none⟩=some ⟨fr',H',none⟩):pU P E F n (.region id ops false) fr H=some (.normal,fr',H'):=by
 simp only[pU,aY,if_false,h]
end
end Go.Ps
namespace Go.Proofs.Tryz
open Go.Ps
noncomputable section
def pk(s:Nat)(d:T):List (Nat×T)->T
 |[]=>d|(k,v)::r=>cond (Nat.beq k s) v (pk s d r)
def rQ(kv:iM)(n:Nat)(g:gZ):List T:=(List.range n).map λs=>pk s (g s) kv
def zU(n t:gU):T:= .agg [.str n,.str t]
def FU:Nat->List Gr->List (Nat×T×T)
 |_,[]=>[]|i,g::r=>(i,zU g.node g.text,.agg g.c)::FU (i+1) r
abbrev iC:=List Gr
def tH(gs:iC):Ob:={elem:=78,sz:=0,cells:=[],me:=some (.map gs.length (FU 0 gs))}
abbrev kG:=Nat->Ob
def CZ(o:Ob)(J:kG):Nat->Hp
 |0=>⟨1,.nd (some o) .nl .nl⟩|r+1=>(CZ o J r).new (J r)
def mnI(x y:Int):Int:=if y<x then y else x
def mxI(x y:Int):Int:=if x<y then y else x
def RO(y:Lr):Gr:=⟨y.node,y.text,i64.wrap (0+1),i64.wrap (0+y.ms),mnI y.e y.e,mxI y.e y.e⟩
def Aq(a:Gr)(y:Lr):Gr:=⟨a.node,a.text,i64.wrap (a.cnt+1),i64.wrap (a.mass+y.ms),mnI a.first y.e,mxI a.last y.e⟩
def yP(y:Lr):List Gr->List Gr
 |[]=>[RO y]|a::r=>if(y.node==a.node&&y.text==a.text)=true then Aq a y::r else a::yP y r
def UC(y:Lr):List Gr->Option Gr
 |[]=>none|a::r=>if(y.node==a.node&&y.text==a.text)=true then some a else UC y r
theorem aPf(n t n' t':gU):eqK prog 83 (zU n t) (zU n' t')=some (n==n'&&t==t'):=by
 have h:eqK prog 83 (zU n t) (zU n' t')=(match some (n==n')with|some true=>(match some (t==t')with|some true=>some true|q=>q)|q=>q):=by kernel_rfl
 rw[h];cases n==n'<;>cases t==t'<;>rfl
theorem Iw(y:Lr):∀(gs:iC) (i:Nat),∃r,CT prog 83 (zU y.node y.text) (FU i gs) i=some r/\
  ((UC y gs=none/\r=none/\FU i gs++[(i+gs.length,zU y.node y.text,.agg (RO y).c)]=FU i (yP y gs))\/
   ∃p a,UC y gs=some a/\r=some (i+p,i+p,.agg a.c)/\SF (FU i gs) p (zU y.node y.text)=true/\UG (zU y.node y.text) (.agg (Aq a y).c) (FU i gs) p=FU i (yP y gs))
 |[],i=>⟨none,rfl,.inl ⟨rfl,rfl,rfl⟩⟩
 |a::gs,i=>by
  simp only[FU,CT,aPf,UC,yP];cases hb:(y.node==a.node&&y.text==a.text)with
  |true=>
   have hb':=hb;simp only[aA,beq_iff_eq]at hb';refine⟨_,rfl,.inr ⟨0,a,by simp,by simp,?_,?_⟩⟩
   .simp[SF,zU,Qy,ZU,ZT,hb'.1,hb'.2]
   .simp[UG,FU,Aq,hb'.1,hb'.2]
  |false=>
   obtain⟨r,h1,h2⟩:=Iw y gs (i+1);refine⟨r,h1,?_⟩;rcases h2 with⟨q1,q2,q3⟩|⟨p,b,q1,q2,q3,q4⟩
   .refine .inl ⟨by simpa using q1,q2,?_⟩;simp only[aY,if_false,FU,List.cons_append,bL];rw[<-q3];rw[show i+(gs.length+1)=i+1+gs.length by omega]
   .refine .inr ⟨p+1,b,by simpa using q1,by rw[q2];simp;omega,q3,?_⟩;simp only[aY,if_false,FU,UG];rw[<-q4]
noncomputable def g16:Code:=match qD f16 with
 | .seq _ (.seq _ (.seq (.seq _ (.block _ (.rangeFunc _ _ _ b))) _))=>b|c=>c
noncomputable def Uz:Code:=match qD f16 with
 | .seq _ (.seq _ (.seq (.seq _ (.block _ (.rangeFunc _ _ a _))) _))=>a|c=>c
def q1:Code:=match g16 with
 | .block _ (.seq a _)=>a|c=>c
def q2:Code:=match g16 with
 | .block _ (.seq _ (.seq a _))=>a|c=>c
def q3:Code:=match g16 with
 | .block _ (.seq _ (.seq _ (.seq a _)))=>a|c=>c
def q4:Code:=match g16 with
 | .block _ (.seq _ (.seq _ (.seq _ (.seq a (.seq b (.seq c (.seq d _)))))))=> .seq a (.seq b (.seq c d))|c=>c
def SC:Code:=match g16 with
 | .block _ (.seq _ (.seq _ (.seq _ (.seq a (.seq b (.seq c (.seq d e)))))))=>e|c=>c
def xZ:Code->Array Oper
 | .region _ ops _ =>ops|_ => #[]
def q41:Code:=match q4 with
 | .seq a _ =>a|c=>c
def q42:Code:=match q4 with
 | .seq _ (.seq a _)=>a|c=>c
def q43:Code:=match q4 with
 | .seq _ (.seq _ (.seq a _))=>a|c=>c
def q44:Code:=match q4 with
 | .seq _ (.seq _ (.seq _ a))=>a|c=>c
theorem bMf:g16= .block 1 (.seq q1 (.seq q2 (.seq q3 (.seq q41 (.seq q42 (.seq q43 (.seq q44 SC))))))):=by kernel_rfl
theorem eq3:q3= .region 6 (xZ q3) false:=by kernel_rfl
theorem eq5:SC= .region 12 (xZ SC) false:=by kernel_rfl
def Av:Fc:=⟨λs=>Nat.beq s 9,λ_ _ _ =>none⟩
section
variable(E:tY)
abbrev mR:T:= .ref (.mp 0) 0
def sX:Option (X×List T×Hp)->Option (X×Hp)
 |some (x,_,H)=>some (x,H)|none=>none
def fX:Option Fx->Option (Hp×Option (Tmp×TypeId))
 |some s=>some (s.H,s.pend)|none=>none
def Ea:Option Fx->List T
 |some s=>s.fr|none=>[]
theorem ZP{o:Option (X×List T×Hp)}{x:X}{H:Hp}{fr:fU}(h:sX o=some (x,H))(hf:Es o=fr):o=some (x,fr,H):=by
 unfold sX at h;split at h
 .cases h;rw[<-hf];rfl
 .cases h
theorem XG{o:Option Fx}{H:Hp}{p:jE}{fr:fU}(h:fX o=some (H,p))(hf:Ea o=fr):o=some ⟨fr,H,p⟩:=by
 unfold fX at h;split at h
 .cases h;rw[<-hf];rfl
 .cases h
def k0(y:Lr):List (Nat×T):=[(5,mR),(18,.agg y.c)]
def k1(y:Lr):List (Nat×T):=[(5,mR),(6,.ref (.agg y.c) 0)]
def k2(y:Lr):List (Nat×T):=[(5,mR),(6,.ref (.agg y.c) 0),(7,.int .i64 y.e),(8,.ref (zU y.node y.text) 0)]
def k3(y:Lr):List (Nat×T):=(29,.mp 0)::(30,zU y.node y.text)::k2 y
def k4(y:Lr)(r:T):List (Nat×T):=(31,r)::k3 y
def eV(c:Code)(fr:fU)(H:Hp):Option (X×List T×Hp):=pU prog E Av 20 c fr H
theorem pa(y:Lr)(g:gZ)(H:Hp):sX (eV E Uz (rQ (k0 y) 80 g) H)=some (.normal,H)/\Es (eV E Uz (rQ (k0 y) 80 g) H)=rQ (k1 y) 80 (qR (Es (eV E Uz (rQ (k0 y) 80 g) H))):=by
 constructor<;>kernel_rfl
theorem pb1(y:Lr)(g:gZ)(H:Hp):sX (eV E (.seq q1 q2) (rQ (k1 y) 80 g) H)=some (.normal,H)/\Es (eV E (.seq q1 q2) (rQ (k1 y) 80 g) H)=rQ (k2 y) 80 (qR (Es (eV E (.seq q1 q2) (rQ (k1 y) 80 g) H))):=by
 constructor<;>kernel_rfl
def sV(c:Code)(l:gW)(fr:fU)(H:Hp):Option Fx:=qL prog E Av (xZ c) l ⟨fr,H,none⟩
def l3a:List Oper:=(xZ q3).toList.take 2
def l3b:List Oper:=(xZ q3).toList.drop 3
theorem pc(y:Lr)(g:gZ)(H:Hp):fX (sV E q3 l3a (rQ (k2 y) 80 g) H)=some (H,none)/\Ea (sV E q3 l3a (rQ (k2 y) 80 g) H)=rQ (k3 y) 80 (qR (Ea (sV E q3 l3a (rQ (k2 y) 80 g) H))):=by
 constructor<;>kernel_rfl
def zG:Gr:=⟨[],[],0,0,0,0⟩
def Qa(a:Gr):Ob:={elem:=53,sz:=0,cells:=a.c}
def jS(J:kG)(r:Nat)(o:Ob):Nat->Ob:=λi=>bif Nat.beq i r then o else J i
def k5(y:Lr)(r:Nat)(b:Bool):List (Nat×T):=(9,.ptr (1+r) 0)::(10,.bool b)::k2 y
def aCv(y:Lr)(r:Nat):List (Nat×T):=[(5,mR),(8,.ref (zU y.node y.text) 0),(9,.ptr (1+r) 0)]
def k7(y:Lr)(q:Gr):List (Nat×T):=[(64,.mp 0),(65,zU y.node y.text),(66,.agg q.c)]
def nx(b:Bool)(a:Gr)(y:Lr):Gr:=bif b then Aq a y else RO y
def q4':Code:= .seq q41 (.seq q42 (.seq q43 q44))
def l5a:List Oper:=(xZ SC).toList.take 3
structure PD(y:Lr)(a:Gr)(b:Bool)(o:Ob)(J:kG)(r:Nat)(g:gZ):Prop where
 d:fX (sV E q3 l3b (rQ (k4 y (.tup [.agg a.c,.bool b])) 80 g) (CZ o J r))=some (CZ o (jS J r (Qa a)) (r+1),none)
 df:Ea (sV E q3 l3b (rQ (k4 y (.tup [.agg a.c,.bool b])) 80 g) (CZ o J r))=rQ (k5 y r b) 80 (qR (Ea (sV E q3 l3b (rQ (k4 y (.tup [.agg a.c,.bool b])) 80 g) (CZ o J r))))
 e:sX (eV E q4' (rQ (k5 y r b) 80 g) (CZ o (jS J r (Qa a)) (r+1)))=some (.normal,CZ o (jS J r (Qa (nx b a y))) (r+1))
 ef:Es (eV E q4' (rQ (k5 y r b) 80 g) (CZ o (jS J r (Qa a)) (r+1)))=rQ (aCv y r) 80 (qR (Es (eV E q4' (rQ (k5 y r b) 80 g) (CZ o (jS J r (Qa a)) (r+1)))))
 f:fX (sV E SC l5a (rQ (aCv y r) 80 g) (CZ o (jS J r (Qa (nx b a y))) (r+1)))=some (CZ o (jS J r (Qa (nx b a y))) (r+1),none)
 ff:Ea (sV E SC l5a (rQ (aCv y r) 80 g) (CZ o (jS J r (Qa (nx b a y))) (r+1)))=rQ (k7 y (nx b a y)) 80 (qR (Ea (sV E SC l5a (rQ (aCv y r) 80 g) (CZ o (jS J r (Qa (nx b a y))) (r+1)))))
theorem pd(y:Lr)(a:Gr)(b:Bool)(o:Ob)(J:kG)(r:Nat)(hr:r<12)(g:gZ):PD E y a b o J r g:=by
 rcases r with _ |_ |_ |_ |_ |_ |_ |_ |_ |_ |_ |_ |r<;>first|omega|(cases b<;>(constructor<;>kernel_rfl))
end
end
end Go.Proofs.Tryz
namespace Go.Ps
theorem VD{P:fV}{E:tY}{F:Fc}{n:Nat}{a b:Code}{fr fr':fU}{H H':Hp}(h:pU P E F n (.seq a b) fr H=some (.normal,fr',H')):∃fr1 H1,pU P E F n a fr H=some (.normal,fr1,H1)/\pU P E F n b fr1 H1=some (.normal,fr',H'):=by
 simp only[pU]at h;split at h
 .exact⟨_,_,by assumption,h⟩
 .rename_i hn;exact absurd h (hn _ _)
end Go.Ps
namespace Go.Proofs.Tryz
open Go.Ps
noncomputable section
theorem Jg(o:Ob)(J:kG)(r:Nat)(hr:r<=12):(CZ o J r).any 0=some o:=by
 rcases r with _ |_ |_ |_ |_ |_ |_ |_ |_ |_ |_ |_ |_ |r<;>first|omega|kernel_rfl
theorem aPw(o o':Ob)(J:kG)(r:Nat)(hr:r<=12):(CZ o J r).put 0 o'=CZ o' J r:=by
 rcases r with _ |_ |_ |_ |_ |_ |_ |_ |_ |_ |_ |_ |_ |r<;>first|omega|kernel_rfl
theorem VV(y:Lr):∀gs:List Gr,(UC y gs=none->(yP y gs).length=gs.length+1)/\(∀a,UC y gs=some a->(yP y gs).length=gs.length)
 |[]=>⟨λ_ =>rfl,λa h=>by simp[UC]at h⟩
 |a::r=>by
  obtain⟨h1,h2⟩:=VV y r;unfold UC yP;split
  .exact⟨λh=>by simp at h,λ_ _ =>by simp⟩
  .exact⟨λh=>by simp[h1 h],λb h=>by simp[h2 b h]⟩
theorem aMl:prog.underlying 78=some (.map 83 53):=by kernel_rfl
theorem Zj(n t:gU):IR prog 83 (zU n t)=true:=by kernel_rfl
theorem aZr:yA prog 53=some (.agg zG.c):=by kernel_rfl
def lkR:Option Gr->T
 |some a=> .tup [.agg a.c,.bool true]|none=> .tup [.agg zG.c,.bool false]
theorem bPd{H:Hp}{y:Lr}{gs:iC}(h:H.any 0=some (tH gs)):zH prog H 78 (.mp 0) (zU y.node y.text) true=some (lkR (UC y gs)):=by
 obtain⟨r,h1,h2⟩:=Iw y gs 0;have he:HQ H (.mp 0)=some (FU 0 gs):=by simp only[HQ,h,tH]
 unfold zH;simp only[aMl,Zj,he,h1,if_true];rcases h2 with⟨q1,rfl,_⟩|⟨p,a,q1,rfl,_⟩
 .rw[q1];simp only[aZr];rfl
 .rw[q1];rfl
def nxO(q:Option Gr)(y:Lr):Gr:=match q with
 |some a=>Aq a y|none=>RO y
theorem upd{H:Hp}{y:Lr}{gs:iC}(h:H.any 0=some (tH gs)):SN prog H 78 (.mp 0) (zU y.node y.text) (.agg (nxO (UC y gs) y).c)=some (H.put 0 (tH (yP y gs))):=by
 obtain⟨r,h1,h2⟩:=Iw y gs 0;have hs:HC prog H 78 (.mp 0) (zU y.node y.text)=some (0,tH gs,gs.length,FU 0 gs,53,r):=by
  unfold HC;simp only[aMl,h,tH,Zj,h1,if_true]
 obtain⟨l1,l2⟩:=VV y gs;unfold SN;rw[hs];rcases h2 with⟨q1,rfl,q3⟩|⟨p,a,q1,rfl,q3,q4⟩
 .simp only[q1,nxO];rw[bP]at q3;unfold putM tH;rw[q3,l1 q1]
 .simp only[q1,nxO,bP];rw[if_pos q3,q4];unfold putM tH;rw[l2 a q1]
section
variable(E:tY)
theorem cCp:2<(xZ Tryz.q3).toList.length:=of_decide_eq_true (by kernel_rfl)
theorem cCq:3<(xZ SC).toList.length:=of_decide_eq_true (by kernel_rfl)
def oL:Oper:=(xZ Tryz.q3).toList[2]'cCp
def oU:Oper:=(xZ SC).toList[3]'cCq
theorem aYx:(xZ Tryz.q3).toList=l3a++oL::l3b:=by kernel_rfl
theorem aYy:(xZ SC).toList=l5a++[oU]:=by kernel_rfl
theorem bFz:oL.op= .lookup 78 (.tmp 29) (.tmp 30) true/\oL.dst=some 31/\oL.guard=none:=⟨by kernel_rfl,by kernel_rfl,by kernel_rfl⟩
theorem bGc:oU.op= .mapUpdate 78 (.tmp 64) (.tmp 65) (.tmp 66)/\oU.dst=none/\oU.guard=none:=⟨by kernel_rfl,by kernel_rfl,by kernel_rfl⟩
theorem bGy(y:Lr)(g:gZ)(r:T):qU (rQ (k3 y) 80 g) (some 31) r=rQ (k4 y r) 80 (qR (qU (rQ (k3 y) 80 g) (some 31) r)):=by kernel_rfl
theorem ev3(gl:fY)(y:Lr)(g:gZ):qG gl (rQ (k3 y) 80 g) (.tmp 29)=some (.mp 0)/\qG gl (rQ (k3 y) 80 g) (.tmp 30)=some (zU y.node y.text):=⟨by kernel_rfl,by kernel_rfl⟩
theorem ev7(gl:fY)(y:Lr)(q:Gr)(g:gZ):qG gl (rQ (k7 y q) 80 g) (.tmp 64)=some (.mp 0)/\qG gl (rQ (k7 y q) 80 g) (.tmp 65)=some (zU y.node y.text)/\qG gl (rQ (k7 y q) 80 g) (.tmp 66)=some (.agg q.c):=⟨by kernel_rfl,by kernel_rfl,by kernel_rfl⟩
theorem aXm(q:Option Gr):∃a b,lkR q= .tup [.agg a.c,.bool b]/\∀y,nx b a y=nxO q y:=by
 cases q with
 |none=>exact⟨zG,false,rfl,λy=>rfl⟩|some a=>exact⟨a,true,rfl,λy=>rfl⟩
theorem aLq(y:Lr)(gs:iC)(J:kG)(r:Nat)(hr:r<12)(g:gZ):∃fr' J',pU prog E Av 20 g16 (rQ (k1 y) 80 g) (CZ (tH gs) J r)=some (.normal,fr',CZ (tH (yP y gs)) J' (r+1)):=by
 obtain⟨b1,b2⟩:=pb1 E y g (CZ (tH gs) J r);have e1:=ZP b1 b2;generalize qR (Es (eV E (.seq Tryz.q1 q2) (rQ (k1 y) 80 g) (CZ (tH gs) J r)))=g1 at e1;obtain⟨c1,c2⟩:=pc E y g1 (CZ (tH gs) J r);have e2:=XG c1 c2;generalize qR (Ea (sV E Tryz.q3 l3a (rQ (k2 y) 80 g1) (CZ (tH gs) J r)))=g2 at e2;have hany:=Jg (tH gs) J r (by omega);have hl:=bPd (y:=y) hany;obtain⟨a,b,hab,hnx⟩:=aXm (UC y gs);rw[hab]at hl;obtain⟨o1,o2,o3⟩:=bFz;obtain⟨v1,v2⟩:=ev3 E.gl y g2;have e3:=Rw (P:=prog) (E:=E) (F:=Av) (ops:=xZ Tryz.q3) (s:=⟨rQ (k3 y) 80 g2,CZ (tH gs) J r,none⟩) rfl o3 o1 v1 v2 hl;rw[o2]at e3;simp only at e3;rw[bGy]at e3;generalize qR (qU (rQ (k3 y) 80 g2) (some 31) (.tup [.agg a.c,.bool b]))=g3 at e3;have D:=pd E y a b (tH gs) J r hr g3;have e4:=XG D.d D.df;generalize qR (Ea (sV E Tryz.q3 l3b (rQ (k4 y (.tup [.agg a.c,.bool b])) 80 g3) (CZ (tH gs) J r)))=g4 at e4;have h3:pU prog E Av 20 Tryz.q3 (rQ (k2 y) 80 g1) (CZ (tH gs) J r)=some (.normal,rQ (k5 y r b) 80 g4,CZ (tH gs) (jS J r (Qa a)) (r+1)):=by
  rw[eq3];refine ZH ?_;rw[aYx,Lc];unfold sV at e2 e4;rw[e2];simp only[qL,e3,e4]
 have D2:=pd E y a b (tH gs) J r hr g4;have e5:=ZP D2.e D2.ef;generalize qR (Es (eV E q4' (rQ (k5 y r b) 80 g4) (CZ (tH gs) (jS J r (Qa a)) (r+1))))=g5 at e5;have D3:=pd E y a b (tH gs) J r hr g5;have e6:=XG D3.f D3.ff;generalize qR (Ea (sV E SC l5a (rQ (aCv y r) 80 g5) (CZ (tH gs) (jS J r (Qa (nx b a y))) (r+1))))=g6 at e6;have hany2:=Jg (tH gs) (jS J r (Qa (nx b a y))) (r+1) (by omega);have hu:=upd (y:=y) hany2;rw[aPw _ _ _ _ (by omega),<-hnx y]at hu;obtain⟨u1,u2,u3⟩:=bGc;obtain⟨w1,w2,w3⟩:=ev7 E.gl y (nx b a y) g6;have e7:=Rx (P:=prog) (E:=E) (F:=Av) (ops:=xZ SC) (s:=⟨rQ (k7 y (nx b a y)) 80 g6,CZ (tH gs) (jS J r (Qa (nx b a y))) (r+1),none⟩) rfl u3 u2 u1 w1 w2 w3 hu;have h5:pU prog E Av 20 SC (rQ (aCv y r) 80 g5) (CZ (tH gs) (jS J r (Qa (nx b a y))) (r+1))=some (.normal,rQ (k7 y (nx b a y)) 80 g6,CZ (tH (yP y gs)) (jS J r (Qa (nx b a y))) (r+1)):=by
  rw[eq5];refine ZH ?_;rw[aYy,Lc];unfold sV at e6;rw[e6];simp only[qL,e7]
 obtain⟨f1,H1,p1,p2⟩:=VD e1;obtain⟨f3,H3,p3,p4⟩:=VD e5;obtain⟨f4,H4,p5,p6⟩:=VD p4;obtain⟨f5,H5,p7,p8⟩:=VD p6;have hb:pU prog E Av 20 g16 (rQ (k1 y) 80 g) (CZ (tH gs) J r)=some (.normal,rQ (k7 y (nx b a y)) 80 g6,CZ (tH (yP y gs)) (jS J r (Qa (nx b a y))) (r+1)):=by
  rw[bMf];simp only[pU,p1,p2,h3,p3,p5,p7,p8,h5]
 exact⟨_,_,hb⟩
end
end
end Go.Proofs.Tryz
namespace Go.Ps
def AU(P:fV)(E:tY)(ro:iB)(n:Nat)(c:Code)(fr:fU)(H:Hp)(Q:gR):Prop:=
 ∀(g0 g:G) (H0:Hp) (a:Act) (ds:iI),qT E g0 H0 g a fr H->∀(R:gC),(∀a w,¬R .outgrown a w)->(∀x fr' H' a' g',Q x fr' H'->qT E g0 H0 g' a' fr' H'->R x.exit_ (DS ds a') g'.w)->c.wpIn (Fw ro) n P R (DS ds a) g.w
section
variable{P:fV}{E:tY}{F:Fc}{ro:iB}{n:Nat}{c c1 c2:Code}{fr:fU}{H:Hp}{Q:gR}
theorem uC(hm:P.follows .mixedOrders=true)(hE:vP P E.gl E.pe)(hF:tX P E.gl F.ee){m:Nat}(hok:codeOk c=true)(hin:tR c=true){x:X}{fr':fU}{H':Hp}(he:pU P E F m c fr H=some (x,fr',H'))(hQ:Q x fr' H'):AU P E ro n c fr H Q:=
 λg0 g H0 a ds hc R hno hR=>NP hm hE hF m c _ _ _ _ _ hok hin he g0 g H0 a hc R hno λa' g' hc'=>hR x fr' H' a' g' hQ hc'
theorem yK(h:AU P E ro n c1 fr H (wV (λfr' H'=>AU P E ro n c2 fr' H' Q) Q)):AU P E ro n (.seq c1 c2) fr H Q:=by
 intro g0 g H0 a ds hc R hno hR;refine wpIn_seq (h g0 g H0 a ds hc _ (uV hno) λx fr' H' a' g' hQ hc'=> ?_);cases x with
 |normal=>exact hQ g0 g' H0 a' ds hc' R hno hR|exit id=>exact hR _ _ _ _ _ hQ hc'|ret=>exact hR _ _ _ _ _ hQ hc'
theorem TH{id:Nat}(h:AU P E ro n c fr H (xH id Q)):AU P E ro n (.block id c) fr H Q:=by
 intro g0 g H0 a ds hc R hno hR;refine wpIn_block (h g0 g H0 a ds hc _ (λa w q=>hno a w q) λx fr' H' a' g' hQ hc'=> ?_);cases x with
 |normal=>exact hR _ _ _ _ _ hQ hc'
 |exit id'=>
  simp only[xH]at hQ;simp only[X.exit_,Exit.inBlock];split at hQ
  .rename_i e;rw[if_pos e];exact hR _ _ _ _ _ hQ hc'
  .rename_i e;rw[if_neg e];exact hR _ _ _ _ _ hQ hc'
 |ret=>exact hR _ _ _ _ _ hQ hc'
def Hl(P:fV)(E:tY)(o:Oper)(fr:fU)(H:Hp)(cs:kF):Prop:=
 ∀(g:G) (a:Act),rZ g->St g H->GlOk E.gl g->RdL g a.tmps.toList fr->∃t H',(t,H')∈cs/\EOk P o a g H t H'
theorem Wn{o:Oper}{ty:fS}{x:jF}(ho:o.op= .range ty x){v t:T}{H':Hp}(hx:qG E.gl fr x=some v)(h:ZE P H ty v=some (t,H')):Hl P E o fr H [(t,H')]:=by
 intro g a hg hs hgl hfr;obtain⟨dst,op,ty',pos,after,guard⟩:=o;simp only at ho;subst ho;have hv:=(EB.of hfr none).eval hgl (λ_ _ =>by simp) hx;obtain⟨u,g',e1,e2,e3,e4,e5⟩:=aLg (P:=P) hs hg h hv;refine⟨t,H',bV.2 rfl,yY (g':=g') (v:=u) ?_ e2 e4 e3 e5⟩;simp only[execOp,aP,e1,aI];simp
theorem aEk{o:Oper}{s:Bool}{x:jF}(ho:o.op= .next x s){v:T}{cs:kF}(hx:qG E.gl fr x=some v)(h:Er H s v=some cs):Hl P E o fr H cs:=by
 intro g a hg hs hgl hfr;obtain⟨dst,op,ty',pos,after,guard⟩:=o;simp only at ho;subst ho;have hv:=(EB.of hfr none).eval hgl (λ_ _ =>by simp) hx;obtain⟨t,H1,u,g',e0,e1,e2,e3,e4,e5⟩:=aRg (P:=P) hs hg h hv ty';refine⟨t,H1,e0,yY (g':=g') (v:=u) ?_ e2 e4 e3 e5⟩;simp only[execOp,aP,e1,aI];simp
theorem Wm{o:Oper}{x:jF}(ho:o.op= .entry x){v:T}{cs:kF}(hx:qG E.gl fr x=some v)(h:stepT H v=some cs):Hl P E o fr H cs:=by
 intro g a hg hs hgl hfr;obtain⟨dst,op,ty',pos,after,guard⟩:=o;simp only at ho;subst ho;have hv:=(EB.of hfr none).eval hgl (λ_ _ =>by simp) hx;obtain⟨t,H1,u,g',e0,e1,e2,e3,e4,e5⟩:=aSj (P:=P) hs hg h hv;refine⟨t,H1,e0,yY (g':=g') (v:=u) ?_ e2 e4 e3 e5⟩;simp only[execOp,aP,e1,aI];simp
theorem Le{g0:G}{H0:Hp}(hE:vP P E.gl E.pe)(hF:tX P E.gl F.ee){ops:fZ}{K:gC}(r:gI):∀(l:gW) (k:Nat) (s s':Fx) (a:Act) (g:G),(∀j o,l[j]? =some o->ops[k+j]? =some o)->Inv P E g0 H0 g a s->qL P E F ops l s=some s'->
  (∀a' g',Inv P E g0 H0 g' a' s'->wpOps P ops K r a' g'.w)->wpOps P ops K (List.range' k l.length++r) a g.w
 |[],k,s,s',a,g,_,h,he,hQ=>by
  simp only[qL,aC]at he;subst he;exact hQ a g h
 |o::l,k,s,s',a,g,hl,h,he,hQ=>by
  simp only[qL]at he;split at he
  .rename_i s1 hs1;have h0:ops[k]? =some o:=by simpa using hl 0 o rfl
   rw[bL,eU,List.cons_append,wpOps_cons];refine PK hE hF h hs1 h0 (λa' g' h'=> ?_);exact Le hE hF r l (k+1) s1 s' a' g' (λj o' hj=>by have:=hl (j+1) o' (by simpa using hj);simpa [dW,Nat.add_comm 1 j]using this) h' he hQ
  .cases he
theorem LP(hE:vP P E.gl E.pe)(hF:tX P E.gl F.ee){ops:fZ}{id:Nat}{pre post:gW}{o:Oper}(hp:uD ops=true)(hsp:ops.toList=pre++o::post)(hg:o.guard=none){fr1:fU}{H1:Hp}(h1:qL P E F ops pre ⟨fr,H,none⟩=some ⟨fr1,H1,none⟩)
  {cs:kF} (hs:Hl P E o fr1 H1 cs) (h2:∀t H2,(t,H2)∈cs->∃fr' H',qL P E F ops post ⟨qU fr1 o.dst t,H2,none⟩=some ⟨fr',H',none⟩/\Q .normal fr' H'):AU P E ro n (.region id ops false) fr H Q:=by
 intro g0 g H0 a ds hc R hno hR;refine wpIn_region (PN hp hno _ _ _ ?_);have hlen:ops.size=pre.length+(post.length+1):=by rw[<-dH,hsp];simp
 have hat:∀(j:Nat) (q:Oper),(pre++o::post)[j]? =some q->ops[j]? =some q:=λj q h=>by rw[<-hsp]at h;simpa using h
 have hr:List.range ops.size=List.range' 0 pre.length++(pre.length::List.range' (pre.length+1) post.length):=by
  rw[List.range_eq_range',hlen,<-List.range'_append_1,bP,eU]
 rw[hr];refine Le (g0:=g) (H0:=H) hE hF _ pre 0 _ _ a g (λj q hj=>hat _ q (by rw[bP,dL (aO.1 hj).1];exact hj)) hc.toInv h1 (λa' g1 hi=> ?_);rw[wpOps_cons];have hc1:qT E g0 H0 g1 a' fr1 H1:=hi.toC hc.step rfl;obtain⟨t,H2,hmem,hEok⟩:=hs g1 a' hc1.ok hc1.st hc1.gl hc1.fr;obtain⟨fr',H',he,hq⟩:=h2 t H2 hmem;have h0:ops[pre.length]? =some o:=hat _ o (by rw[dQ (aZ _),Nat.sub_self];rfl);have hwd:Region.wanted o (yielded ops a'.tmps)=true:=by unfold Region.wanted;rw[hg]
 unfold wpOp;rw[h0];simp only[hwd,if_true];refine .inl (hEok _ _ λv g2 hss hok hst hrd=> ?_);have hc2:qT E g0 H0 g2 (a'.put o.dst v) (qU fr1 o.dst t) H2:=⟨hok,hst,hc1.gl.sstep hc1.st hss,by rw[tJ];exact hc1.df,((EB.of (hc1.fr.sstep hc1.st hss) none).put hrd).all,hc1.step.trans hss⟩;have:=Le (g0:=g2) (H0:=H2) (K:=λe a w=>R e (DS ds a) w) hE hF [] post (pre.length+1) _ _ _ g2 (λj q hj=>hat _ q (by rw[dQ (by omega),show pre.length+1+j-pre.length=j+1 by omega];exact hj)) hc2.toInv he (λa3 g3 h3=>hR .normal fr' H' a3 g3 hq (h3.toC hc2.step rfl))
 rwa [fP]at this
end
section
variable{P:fV}{E:tY}{ro:iB}{n:Nat}{c:Code}{fr:fU}{H:Hp}{Q:gR}
theorem KY{R:gC}:∀(k:Nat) (a:Act) (w:iK),Code.roundsIn (Fw ro) n P c R k a w->Code.roundsIn (Fw ro) n P c R (k+1) a w
 |0,_,_,h=>h.elim
 |k+1,a,w,h=>by
  rw[roundsIn_succ]at h⊢;refine wpIn_mono h λe a' w' q=> ?_;cases e with
  |normal=>exact KY k a' w' q|_ =>exact q
theorem Qu{R:gC}{k m:Nat}(hkm:k<=m){a:Act}{w:iK}(h:Code.roundsIn (Fw ro) n P c R k a w):Code.roundsIn (Fw ro) n P c R m a w:=by
 induction m with
 |zero=>
  have:k=0:=by omega
  subst this;exact h
 |succ m ih=>
  rcases eE hkm with e|hlt
  .exact e▸h
  .exact KY m a w (ih (by omega))
theorem Og(I:Nat->List T->Hp->Prop)(hs:∀k fr H,I k fr H->AU P E ro n c fr H (wV (λfr' H'=>∃m,m<k/\I m fr' H') Q))(k:Nat)(hI:I k fr H):AU P E ro n (.loop c) fr H Q:=by
 intro g0 g H0 a ds hc R hno hR;refine wpIn_loop_rounds (k+1) ?_;have key:∀k fr H a g,I k fr H->qT E g0 H0 g a fr H->Code.roundsIn (Fw ro) n P c R (k+1) (DS ds a) g.w:=by
  intro k
  induction k using Nat.strongRecOn with
  |_ k ih=>
   intro fr H a g hi hc;rw[roundsIn_succ];refine hs k fr H hi g0 g H0 a ds hc _ (uV hno) λx fr' H' a' g' hQ hc'=> ?_;cases x with
   |normal=>
    obtain⟨m,hm,him⟩:=hQ;exact Qu (k:=m+1) (by omega) (ih m hm fr' H' a' g' him hc')
   |exit id=>exact hR _ _ _ _ _ hQ hc'|ret=>exact hR _ _ _ _ _ hQ hc'
 exact key k fr H a g hI hc
end
end Go.Ps
namespace Go.Proofs.Tryz
open Go.Ps
noncomputable section
section
variable(E:tY)
abbrev kH:=List Lr
def EM(ys:kH)(gs:iC):List Gr:=ys.foldl (λs y=>yP y s) gs
theorem bHv(y:Lr)(g:gZ):FF [18] [.agg y.c] (rQ [(5,mR)] 80 g)=rQ (k0 y) 80 g:=by kernel_rfl
theorem Yw(g:gZ):∀(ys:kH) (gs:iC) (J:kG) (r:Nat),r+ys.length<=12->∃J',HU prog E Av 20 [18] Uz g16 (rQ [(5,mR)] 80 g) (ys.map λy=>[.agg y.c]) (CZ (tH gs) J r)=some (.normal,CZ (tH (EM ys gs)) J' (r+ys.length))
 |[],gs,J,r,_ =>⟨J,rfl⟩
 |y::ys,gs,J,r,h=>by
  have h:r+(ys.length+1)<=12:=h;obtain⟨a1,a2⟩:=pa E y g (CZ (tH gs) J r);have e1:=ZP a1 a2;unfold eV at e1;obtain⟨fr',J1,e2⟩:=aLq E y gs J r (by omega) (qR (Es (eV E Uz (rQ (k0 y) 80 g) (CZ (tH gs) J r))));have e3:ZK prog E Av 20 [18] Uz g16 (rQ [(5,mR)] 80 g) [.agg y.c] (CZ (tH gs) J r)=some (.normal,CZ (tH (yP y gs)) J1 (r+1)):=by
   unfold ZK;rw[bHv,e1];unfold eV at e2;simp only[e2]
  obtain⟨J2,e4⟩:=Yw g ys (yP y gs) J1 (r+1) (by omega);refine⟨J2,?_⟩;simp only[cB,HU,e3];rw[e4,bL,show r+1+ys.length=r+(ys.length+1) by omega];rfl
end
theorem Uv:∀(gs:iC) (i:Nat),∀e∈FU i gs,∃j g,gs[j]? =some g/\e=(i+j,zU g.node g.text,.agg g.c)
 |[],i,e,h=>by simp[FU]at h
 |a::gs,i,e,h=>by
  simp only[FU,aR]at h;rcases h with rfl|h
  .exact⟨0,a,rfl,rfl⟩
  .obtain⟨j,g,h1,h2⟩:=Uv gs (i+1) e h;exact⟨j+1,g,by simpa using h1,by rw[h2];simp;omega⟩
theorem Ym:∀(gs:iC) (i j:Nat) (g:Gr),gs[j]? =some g->(FU i gs).find? (λe=>Nat.beq e.1 (i+j))=some (i+j,zU g.node g.text,.agg g.c)
 |[],i,j,g,h=>by simp at h|a::gs,i,0,g,h=>by simp at h;subst h;simp[FU]
 |a::gs,i,j+1,g,h=>by
  have:=Ym gs (i+1) j g (by simpa using h);simp only[FU,List.find?_cons];have hb:Nat.beq i (i+(j+1))=false:=by
   cases hh:Nat.beq i (i+(j+1))with
   |false=>rfl|true=>have:=aF hh;omega
  simp only[hb];rw[show i+(j+1)=i+1+j by omega];exact this
structure MS(gs:iC)(N:Nat)(seen:gI)(H:Hp):Prop where
 m:H.any 0=some (tH gs)
 it:H.any N=some (KR (.mit 0 gs.length seen gs.length))
 p:0<N
 lt:N<H.next
def SD(gs:iC)(done:gI):Ob:={elem:=53,sz:=6,cells:=done.flatMap λi=>(gs.getD i zG).c}
inductive VP(gs:iC)(N:Nat)(H:Hp):List Nat->T->Prop
 |nil:VP gs N H [] .nils
 |row (done:gI) (l:Nat):done≠[]->N<l->l<H.next->H.any l=some (SD gs done)->VP gs N H done (.osl l 6 0 done.length)
noncomputable def Sc:Code:=match qD f16 with
 | .seq _ (.seq _ (.seq _ t))=>t|c=>c
def m13:Code:=match Sc with
 | .seq a _ =>a|c=>c
def m14:Code:=match Sc with
 | .seq _ (.seq (.seq a _) _)=>a|c=>c
def bM:Code:=match Sc with
 | .seq _ (.seq (.seq _ (.block _ (.loop b))) _)=>b|c=>c
def m18:Code:=match Sc with
 | .seq _ (.seq _ (.seq a _))=>a|c=>c
def m19:Code:=match Sc with
 | .seq _ (.seq _ (.seq _ b))=>b|c=>c
theorem etl:Sc= .seq m13 (.seq (.seq m14 (.block 2 (.loop bM))) (.seq m18 m19)):=by kernel_rfl
def m15:Code:=match bM with
 | .seq a _ =>a|c=>c
def mC:Code:=match bM with
 | .seq _ (.seq a _)=>a|c=>c
def m16:Code:=match bM with
 | .seq _ (.seq _ (.block _ (.seq a _)))=>a|c=>c
def m17:Code:=match bM with
 | .seq _ (.seq _ (.block _ (.seq _ b)))=>b|c=>c
theorem ebM:bM= .seq m15 (.seq mC (.block 3 (.seq m16 m17))):=by kernel_rfl
theorem bMg:m14= .region 14 (xZ m14) false:=by kernel_rfl
theorem bMh:m15= .region 15 (xZ m15) false:=by kernel_rfl
theorem bMi:m16= .region 16 (xZ m16) false:=by kernel_rfl
theorem bYx:1<(xZ m14).toList.length:=of_decide_eq_true (by kernel_rfl)
theorem bYy:0<(xZ m15).toList.length:=of_decide_eq_true (by kernel_rfl)
theorem bYz:0<(xZ m16).toList.length:=of_decide_eq_true (by kernel_rfl)
def oR:Oper:=(xZ m14).toList[1]'bYx
def oN:Oper:=(xZ m15).toList[0]'bYy
def oE:Oper:=(xZ m16).toList[0]'bYz
def l14:List Oper:=(xZ m14).toList.take 1
def l15:List Oper:=(xZ m15).toList.drop 1
def l16:List Oper:=(xZ m16).toList.drop 1
theorem bRq:(xZ m14).toList=l14++oR::[]:=by kernel_rfl
theorem bRr:(xZ m15).toList=[]++oN::l15:=by kernel_rfl
theorem bRs:(xZ m16).toList=[]++oE::l16:=by kernel_rfl
theorem bGb:oR.op= .range 78 (.tmp 67)/\oR.dst=some 68/\oR.guard=none:=⟨by kernel_rfl,by kernel_rfl,by kernel_rfl⟩
theorem bGa:oN.op= .next (.tmp 68) false/\oN.dst=some 69/\oN.guard=none:=⟨by kernel_rfl,by kernel_rfl,by kernel_rfl⟩
theorem bFy:oE.op= .entry (.tmp 68)/\oE.dst=some 71/\oE.guard=none:=⟨by kernel_rfl,by kernel_rfl,by kernel_rfl⟩
section
variable(E:tY)
abbrev aGj:List (Nat×T):=[(5,mR)]
def z1:List (Nat×T):=[(5,mR),(11,.nils)]
def z2:List (Nat×T):=[(11,.nils),(67,.mp 0)]
def zL(N:Nat)(o:T):List (Nat×T):=[(11,o),(68,.ptr N 0)]
def zB(N:Nat)(o:T)(b:Bool):List (Nat×T):=(70,.bool b)::zL N o
def zE(N:Nat)(o:T)(a:Gr):List (Nat×T):=(13,.ref (.agg a.c) 0)::zL N o
theorem p13(g:gZ)(H:Hp):sX (eV E m13 (rQ aGj 80 g) H)=some (.normal,H)/\Es (eV E m13 (rQ aGj 80 g) H)=rQ z1 80 (qR (Es (eV E m13 (rQ aGj 80 g) H))):=by
 constructor<;>kernel_rfl
theorem p14(g:gZ)(H:Hp):fX (sV E m14 l14 (rQ z1 80 g) H)=some (H,none)/\Ea (sV E m14 l14 (rQ z1 80 g) H)=rQ z2 80 (qR (Ea (sV E m14 l14 (rQ z1 80 g) H))):=by
 constructor<;>kernel_rfl
theorem bGz(g:gZ)(N:Nat):qU (rQ z2 80 g) (some 68) (.ptr N 0)=rQ (zL N .nils) 80 (qR (qU (rQ z2 80 g) (some 68) (.ptr N 0))):=by kernel_rfl
theorem p15(g:gZ)(H:Hp)(N:Nat)(o:T)(b:Bool)(r:fU):fX (sV E m15 l15 (qU (rQ (zL N o) 80 g) (some 69) (.tup (.bool b::r))) H)=some (H,none)/\Ea (sV E m15 l15 (qU (rQ (zL N o) 80 g) (some 69) (.tup (.bool b::r))) H)=rQ (zB N o b) 80 (qR (Ea (sV E m15 l15 (qU (rQ (zL N o) 80 g) (some 69) (.tup (.bool b::r))) H))):=by
 constructor<;>kernel_rfl
theorem bGp(g:gZ)(H:Hp)(N:Nat)(o:T):eV E mC (rQ (zB N o true) 80 g) H=some (.normal,rQ (zB N o true) 80 g,H)/\eV E mC (rQ (zB N o false) 80 g) H=some (.exit 2,rQ (zB N o false) 80 g,H):=by
 constructor<;>kernel_rfl
theorem p16(g:gZ)(H:Hp)(N:Nat)(o k:T)(a:Gr):fX (sV E m16 l16 (qU (rQ (zB N o true) 80 g) (some 71) (.tup [k,.agg a.c])) H)=some (H,none)/\Ea (sV E m16 l16 (qU (rQ (zB N o true) 80 g) (some 71) (.tup [k,.agg a.c])) H)=rQ (zE N o a) 80 (qR (Ea (sV E m16 l16 (qU (rQ (zB N o true) 80 g) (some 71) (.tup [k,.agg a.c])) H))):=by
 constructor<;>kernel_rfl
theorem evM(gl:fY)(g:gZ)(N:Nat)(o:T):qG gl (rQ z2 80 g) (.tmp 67)=some (.mp 0)/\qG gl (rQ (zL N o) 80 g) (.tmp 68)=some (.ptr N 0)/\qG gl (rQ (zB N o true) 80 g) (.tmp 68)=some (.ptr N 0):=⟨by kernel_rfl,by kernel_rfl,by kernel_rfl⟩
end
section
variable(D:Ed)
def rA(fr:fU)(H:Hp):RD (X×List T×Hp):=qE prog D Av m17 fr H [] []
theorem bQc(g:gZ)(H:Hp)(N:Nat)(a:Gr):cX (rA D (rQ (zE N .nils a) 80 g) H)=some (.normal,H.new {elem:=53,sz:=6,cells:=a.c})/\Te (rA D (rQ (zE N .nils a) 80 g) H)=true/\
  ED (rA D (rQ (zE N .nils a) 80 g) H)=rQ (zL N (.osl H.next 6 0 1)) 80 (qR (ED (rA D (rQ (zE N .nils a) 80 g) H))):=by
 refine⟨?_,?_,?_⟩<;>kernel_rfl
theorem bQd(g:gZ)(H:Hp)(N l k:Nat)(a:Gr):cX (rA D (rQ (zE N (.osl l 6 0 k) a) 80 g) H)=some (.normal,(H.drop l).new {elem:=53,sz:=6,cells:=(UY H l).cells++a.c})/\Te (rA D (rQ (zE N (.osl l 6 0 k) a) 80 g) H)=(Px H l 53 6 k&&(zP (k+1) 64&&true))/\
  ED (rA D (rQ (zE N (.osl l 6 0 k) a) 80 g) H)=rQ (zL N (.osl H.next 6 0 (k+1))) 80 (qR (ED (rA D (rQ (zE N (.osl l 6 0 k) a) 80 g) H))):=by
 refine⟨?_,?_,?_⟩<;>kernel_rfl
end
theorem Eo(seen:gI)(j:Nat):∀(gs:iC) (i:Nat),j<i->wC (seen++[j]) (FU i gs)=wC seen (FU i gs)
 |[],i,_ =>rfl
 |a::gs,i,h=>by
  have ih:=Eo seen j gs (i+1) (by omega);unfold wC at ih⊢;simp only[FU,List.filter_cons];rw[ih];have:(seen++[j]).contains i=seen.contains i:=by
   rw[eR];simp;omega
  rw[this]
theorem Ph(seen:gI)(j:Nat)(hj:seen.contains j=false):∀(gs:iC) (i:Nat),i<=j->j<i+gs.length->(wC (seen++[j]) (FU i gs)).length+1=(wC seen (FU i gs)).length
 |[],i,h1,h2=>by simp at h2;omega
 |a::gs,i,h1,h2=>by
  by_cases e:i=j
  .subst e;have hs:=Eo seen i gs (i+1) (by omega);unfold wC at hs⊢;simp only[FU,List.filter_cons];rw[hs,hj];have:(seen++[i]).contains i=true:=by simp
   rw[this];simp
  .have ih:=Ph seen j hj gs (i+1) (by omega) (by simp at h2;omega);unfold wC at ih⊢;simp only[FU,List.filter_cons];have:(seen++[j]).contains i=seen.contains i:=by
    rw[eR];simp;omega
   rw[this];cases seen.contains i
   .simp only[Bool.not_false,if_true,bL];omega
   .simpa using ih
theorem aAq(gs:iC):∀done:List Nat,(SD gs done).cells.length=done.length*6
 |[]=>rfl
 |i::done=>by
  have ih:=aAq gs done;unfold SD at ih⊢;simp only[bG,bI,bL];simp only at ih;rw[ih];show 6+_ =_;omega
theorem aAp(gs:iC)(done:gI)(j:Nat)(g:Gr)(h:gs[j]? =some g):({elem:=53,sz:=6,cells:=(SD gs done).cells++g.c}:Ob)=SD gs (done++[j]):=by
 unfold SD;simp[dY,aW,h]
theorem EY(H:Hp)(l:Nat):(H.drop l).next=H.next:=rfl
theorem IW(H:Hp)(o:Ob):(H.new o).next=H.next+1:=rfl
theorem VP.keep{gs:iC}{N:Nat}{H H':Hp}{done:gI}{o:T}(h:VP gs N H done o)(hn:H.next<=H'.next)(ha:∀l,N<l->l<H.next->H'.any l=H.any l):VP gs N H' done o:=by
 cases h with
 |nil=>exact .nil|row _ l h1 h2 h3 h4=>exact .row done l h1 h2 (by omega) ((ha l h2 h3).trans h4)
structure IM(gs:iC)(k:Nat)(fr:fU)(H:Hp):Prop where
 ex:∃N seen o g,fr=rQ (zL N o) 80 g/\MS gs N seen H/\VP gs N H seen o/\seen.Nodup/\(∀i∈seen,i<gs.length)/\(wC seen (FU 0 gs)).length=k/\seen.length+k=gs.length
structure PM(gs:iC)(fr:fU)(H:Hp):Prop where
 ex:∃N done o g,fr=rQ (zB N o false) 80 g/\VP gs N H done o/\done.Nodup/\(∀i∈done,i<gs.length)/\done.length=gs.length
theorem Zv{gs:iC}{N:Nat}{seen:gI}{H:Hp}(h:MS gs N seen H):Er H false (.ptr N 0)=(match wC seen (FU 0 gs)with
  |[]=>some [(.tup [.bool false],H.drop N)]|left=>some (left.map λe=>(.tup [.bool true,e.2.1,e.2.2],H.put N (KR (.mit 0 gs.length (seen++[e.1]) gs.length))))):=by
 have hall:((FU 0 gs).all λe=>Nat.ble (Nat.succ e.1) gs.length)=true:=by
  rw[aH];intro e he;obtain⟨j,g,h1,h2⟩:=Uv gs 0 e he;have:=(aO.1 h1).1;rw[h2];exact Nat.ble_eq_true_of_le (by simp;omega)
 have hle:Nat.ble gs.length gs.length=true:=Nat.ble_eq_true_of_le (aZ _);unfold Er;simp only[h.it,h.m,KR,tH,aY,if_false,hall,hle,Bool.and_self,if_true];cases wC seen (FU 0 gs)<;>rfl
theorem aSi{gs:iC}{N:Nat}{seen:gI}{H:Hp}{j:Nat}{g:Gr}(h:MS gs N (seen++[j]) H)(hg:gs[j]? =some g):Go.Ps.stepT H (.ptr N 0)=some [(.tup [zU g.node g.text,.agg g.c],H)]:=by
 have hf:=Ym gs 0 j g hg;rw[bP]at hf;have hb:Nat.beq gs.length gs.length=true:=Nat.beq_refl _;unfold Go.Ps.stepT;simp only[h.it,h.m,KR,tH,List.getLast?_concat,hb,if_true,hf]
theorem PT{D:Ed}{F:Fc}{c:Code}{fr fr':fU}{H H':Hp}{x:X}(n:Nat)(h:cX (qE prog D F c fr H [] [])=some (x,H'))(hl:Te (qE prog D F c fr H [] [])=true)(hf:ED (qE prog D F c fr H [] [])=fr'):
  pU prog D.env F n c fr H=some (x,fr',H'):=by
 generalize hr:qE prog D F c fr H [] []=r at h hl hf;unfold cX at h;split at h
 .cases h;rw[<-hf];exact(AZ n hr hl).1
 .cases h
section
variable{D:Ed}{ro:iB}{n:Nat}
theorem bLn{gs:iC}(hg12:gs.length<=12){N j:Nat}{seen:gI}{H:Hp}{o:T}{a:Gr}(g:gZ)(hm:MS gs N (seen++[j]) H)(ho:VP gs N H seen o)(ha:gs[j]? =some a)(hl:seen.length<=12):
  ∃o' g' H',pU prog D.env Av 20 m17 (rQ (zE N o a) 80 g) H=some (.normal,rQ (zL N o') 80 g',H')/\MS gs N (seen++[j]) H'/\VP gs N H' (seen++[j]) o':=by
 have h0:(0:Nat)≠N:=by have:=hm.p;omega
 cases ho with
 |nil=>
  obtain⟨e1,e2,e3⟩:=bQc D g H N a;have e:=PT 20 e1 e2 e3;have hlt:=hm.lt;refine⟨_,_,_,e,⟨?_,?_,hm.p,by rw[IW];omega⟩,?_⟩
  .rw[sB,if_neg (by have:=hm.p;omega)];exact hm.m
  .rw[sB,if_neg (by omega)];exact hm.it
  .have hr:=aAp gs [] j a ha;refine .row [j] H.next (by simp) hlt (by rw[IW];omega) ?_;rw[sB,if_pos rfl];rw[<-show _ =SD gs [j]from hr];rfl
 |row _ l h1 h2 h3 h4=>
  have hp:(SD gs seen).me=none:=rfl;have hget:H.get l=some (SD gs seen):=yC h4 hp;have hobv:UY H l=SD gs seen:=by unfold UY;rw[hget]
  obtain⟨e1,e2,e3⟩:=bQd D g H N l seen.length a;have hroom:zP (seen.length+1) 64=true:=by
   unfold zP;simp only[aA,aJ];omega
  have happ:Px H l 53 6 seen.length=true:=by
   unfold Px;rw[hget];simp only;rw[if_pos ⟨rfl,rfl⟩];exact decide_eq_true (aAq gs seen)
  have e:=PT 20 e1 (e2.trans (by rw[happ,hroom];rfl)) e3;rw[hobv,aAp gs seen j a ha]at e;have hlt:=hm.lt;refine⟨_,_,_,e,⟨?_,?_,hm.p,by rw[IW,EY];omega⟩,?_⟩
  .rw[sB,if_neg (by rw[EY];have:=hm.p;omega),sA,if_neg (by omega)];exact hm.m
  .rw[sB,if_neg (by rw[EY];omega),sA,if_neg (by omega)];exact hm.it
  .have:=VP.row (gs:=gs) (N:=N) (H:=(H.drop l).new (SD gs (seen++[j]))) (seen++[j]) H.next (by simp) hlt (by rw[IW,EY];omega) (by rw[sB,EY,if_pos rfl]);rw[bI]at this;exact this
theorem bPn:uD (xZ m15)=true:=by kernel_rfl
theorem bPo:uD (xZ m16)=true:=by kernel_rfl
theorem bPm:uD (xZ m14)=true:=by kernel_rfl
theorem aOd(x:Cx prog D Av){gs:iC}(hg12:gs.length<=12)(k:Nat)(fr:fU)(H:Hp)(hI:IM gs k fr H):
  AU prog D.env ro n bM fr H (wV (λfr' H'=>∃m,m<k/\IM gs m fr' H') (λq fr' H'=>q= .exit 2/\PM gs fr' H')):=by
 obtain⟨N,seen,o,g,rfl,hm,ho,hnd,hlt,hk,hsum⟩:=hI.ex;rw[ebM];refine yK ?_;rw[bMh];obtain⟨o1,o2,o3⟩:=bGa;obtain⟨cs,hcs⟩:∃cs,Er H false (.ptr N 0)=some cs:=by
  rw[Zv hm];cases wC seen (FU 0 gs)<;>exact⟨_,rfl⟩
 refine LP x.hE x.hF bPn bRr o3 (fr1:=rQ (zL N o) 80 g) (H1:=H) rfl (aEk o1 (evM D.env.gl g N o).2.1 hcs) λt H2 hmem=> ?_;rw[Zv hm]at hcs;rw[o2];cases hl:wC seen (FU 0 gs)with
 |nil=>
  rw[hl]at hcs hk;cases hcs;rcases bV.1 hmem with e;cases e;obtain⟨f1,f2⟩:=p15 D.env g (H.drop N) N o false [];have e1:=XG f1 f2;refine⟨_,_,e1,?_⟩;refine yK (uC x.hm x.hE x.hF (m:=20) (by kernel_rfl) (by kernel_rfl) (bGp D.env _ _ N o).2 ?_);refine⟨rfl,⟨N,seen,o,_,rfl,ho.keep (aZ _) λl h1 h2=>by rw[sA,if_neg (by omega)],hnd,hlt,?_⟩⟩;simp at hk;omega
 |cons e0 rest=>
  rw[hl]at hcs;have hcs:(e0::rest).map (λe=>((T.tup [.bool true,e.2.1,e.2.2]:T),H.put N (KR (.mit 0 gs.length (seen++[e.1]) gs.length))))=cs:=bX hcs;subst hcs;obtain⟨e,he,e1⟩:=bQ.1 hmem;cases e1;rw[<-hl]at he;obtain⟨he1,he2⟩:=List.mem_filter.1 he;obtain⟨j,a,ha,rfl⟩:=Uv gs 0 e he1;simp only[bP]at he2⊢;have hj:j<gs.length:=(aO.1 ha).1;have hnj:seen.contains j=false:=by simpa using he2
  have hm1:MS gs N (seen++[j]) (H.put N (KR (.mit 0 gs.length (seen++[j]) gs.length))):=by
   refine⟨?_,?_,hm.p,hm.lt⟩
   .rw[sH,if_neg (by have:=hm.p;omega)];exact hm.m
   .rw[sH,if_pos rfl]
  have ho1:VP gs N (H.put N (KR (.mit 0 gs.length (seen++[j]) gs.length))) seen o:=ho.keep (aZ _) λl h1 h2=>by rw[sH,if_neg (by omega)]
  generalize H.put N (KR (.mit 0 gs.length (seen++[j]) gs.length))=H1 at hm1 ho1⊢;obtain⟨f1,f2⟩:=p15 D.env g H1 N o true [zU a.node a.text,.agg a.c];have e1:=XG f1 f2;refine⟨_,_,e1,?_⟩;refine yK (uC x.hm x.hE x.hF (m:=20) (by kernel_rfl) (by kernel_rfl) (bGp D.env _ _ N o).1 ?_);refine TH (yK ?_);rw[bMi];obtain⟨q1,q2,q3⟩:=bFy;refine LP x.hE x.hF bPo bRs q3 (fr1:=rQ (zB N o true) 80 _) (H1:=H1) rfl (Wm q1 (evM D.env.gl _ N o).2.2 (aSi hm1 ha)) λt H2 hmem=> ?_;rcases bV.1 hmem with e;cases e;rw[q2];obtain⟨r1,r2⟩:=p16 D.env (qR (Ea (sV D.env m15 l15 (qU (rQ (zL N o) 80 g) (some 69) (.tup (.bool true::[zU a.node a.text,.agg a.c]))) H1))) H1 N o (zU a.node a.text) a;have e2:=XG r1 r2;refine⟨_,_,e2,?_⟩;obtain⟨o',g',H',c1,c2,c3⟩:=bLn (D:=D) hg12 (qR (Ea (sV D.env m16 l16 (qU (rQ (zB N o true) 80 (qR (Ea (sV D.env m15 l15 (qU (rQ (zL N o) 80 g) (some 69) (.tup (.bool true::[zU a.node a.text,.agg a.c]))) H1)))) (some 71) (.tup [zU a.node a.text,.agg a.c])) H1))) hm1 ho1 ha (by omega);have hlen:=Ph seen j hnj gs 0 (by omega) (by omega);refine uC x.hm x.hE x.hF (m:=20) (by kernel_rfl) (by kernel_rfl) c1 ⟨(wC (seen++[j]) (FU 0 gs)).length,by omega,⟨N,seen++[j],o',g',rfl,c2,c3,?_,λi hi=> ?_,rfl,by simp;omega⟩⟩
  .rw[List.nodup_append];refine⟨hnd,by simp,λi hi b hb=> ?_⟩;rw[bV.1 hb];rintro rfl;rw[List.contains_iff_mem.2 hi]at hnj;cases hnj
  .rcases bH.1 hi with h|h
   .exact hlt i h
   .rw[bV.1 h];exact hj
end
end
end Go.Proofs.Tryz
namespace Go.Ps
section
variable{P:fV}{E:tY}
def Cd(P:fV)(fn:Func)(k:Nat)(r:T)(x:X)(fr:fU)(H:Hp):Prop:=
 (x= .normal\/x= .ret)/\∃t r',sS P fr H fn.results.toList=some [t]/\qJ k H t=some r'/\∀g v,Rd g v r'->Rd g v r
theorem aDt(hz:wR E.gl){f:gV}{fn:Func}{c:Code}(h1:vL P f=true)(hfn:P.funcs[f]? =some fn)(hc:fn.body=some c){k:Nat}{ts:fU}(hts:mapO (qJ k ⟨0,.nl⟩) ts=some ts){r:T}
  (hcode:∀(g0 g:G) (a:Act),qT E g0 ⟨0,.nl⟩ g a (ts++List.replicate (fn.ntmps-ts.length) pV) ⟨0,.nl⟩->∀(R:gC),(∀a w,¬R .outgrown a w)->
   (∀x fr' H' a' g' ds',Cd P fn k r x fr' H'->qT E g0 ⟨0,.nl⟩ g' a' fr' H'->Mk g0 g' H' ds'->R x.exit_ (DS ds' a') g'.w)->Mk g0 g ⟨0,.nl⟩ []->c.wpIn (Fw none) 0 P R (DS [] a) g.w):pW P E.gl f ts r:=by
 refine⟨h1,λg vs hg ⟨N,hN⟩ hgl hv=> ?_⟩;have hsN:St g ⟨N,.nl⟩:=St.nl _ _ hN;have hv':RdL g.bare vs ts:=by
  have:=JW (g0:=g.bare) hsN (KG hts) hv;rw[AQ]at this;exact this
 have hgl':GlOk E.gl g.bare:=by
  have:=GlOk.frz (g0:=g.bare) hz hsN hgl;rw[AQ]at this;exact this
 have hframe:RdL g.bare (vs.toArray++Array.replicate (fn.ntmps-vs.toArray.size) undef).toList (ts++List.replicate (fn.ntmps-ts.length) pV):=by
  have:(vs.toArray++Array.replicate (fn.ntmps-vs.toArray.size) undef).toList=vs++List.replicate (fn.ntmps-ts.length) undef:=by simp[hv'.1]
  rw[this];exact hv'.append (RdL.replicate _ Rd.undef)
 have hs0:St g.bare ⟨0,.nl⟩:=St.nl _ _ (λl _ q=>q);have hinv:qT E g.bare ⟨0,.nl⟩ g.bare {tmps:=vs.toArray++Array.replicate (fn.ntmps-vs.toArray.size) undef,defers:=[]} (ts++List.replicate (fn.ntmps-ts.length) pV) ⟨0,.nl⟩:=⟨hg,hs0,hgl',rfl,hframe,qF.refl _ _⟩
 let Mb:Ending->World->Prop:=λe w'=>∃v g',e= .returned v/\g'.w=w'/\PStep g g'/\rZ g'/\Rd g' v r
 have fin:∀(x:X) (fr:fU) (H1:Hp),Cd P fn k r x fr H1->∀(a':Act) (g':G),qT E g.bare ⟨0,.nl⟩ g' a' fr H1->LeavesIn (Fw none) 0 P fn a'.tmps Mb [] .returning g'.w:=by
  intro x fr H1 ⟨_,t,r',ht,hfz,hrd⟩ a' g' hci;show∃v,_;obtain⟨us,q1,q2⟩:=uJ (P:=P) hci.st hci.fr ht
  match us,q2 with
  |[u],q2=>
   refine⟨u,?_,u,g'.frz H1 g,rfl,rfl,?_,?_,hrd _ _ (LO hci.st k t r' u hfz (q2.inv_cons).1)⟩
   .have:fn.results=fn.results.toList.toArray:=by simp
    rw[uE,this,dM];simp only[aP,eY];rw[q1];simp
   .have e3:=hci.step;refine⟨e3.os,e3.tape,e3.output,e3.size,λb hb=>e3.block b hb (λl o ho=>(by rw[uI]at ho;cases ho)),λb hb=> .inl (e3.sub b hb),λb hb=> ?_,rfl,rfl,rfl⟩;rcases hb with hb|⟨l,o,ho,rfl⟩
    .rcases e3.fresh b hb with q|q|⟨l,o,ho,_⟩
     .exact .inl q
     .exact .inr q
     .rw[uI]at ho;cases ho
    .rcases e3.live l o (qP ho).1 with⟨l0,o0,q,_⟩|q
     .rw[uI]at q;cases q
     .exact .inr q
   .intro b hb;rcases hb with hb|⟨l,o,ho,rfl⟩
    .exact hci.ok b hb
    .exact hci.st.lt (qP ho).1
  |[],q2=>simp[RdL]at q2|_ ::_ ::_,q2=>simp[RdL]at q2
 have fin2:∀(x:X) (fr:fU) (H1:Hp),Cd P fn k r x fr H1->∀(a':Act) (g':G) (ds:iI),qT E g.bare ⟨0,.nl⟩ g' a' fr H1->Mk g.bare g' H1 ds->LeavesInM (Fw none) 0 P fn (DS ds a').tmps Mb (DS ds a').defers .returning g'.w:=by
  intro x fr H1 hr a' g' ds hci hd;have e:(DS ds a').defers=ds:=by simp[DS,hci.df]
  rw[e];exact BX (λg2 h2=>fin x fr H1 hr a' g2 h2) ds g' hci hd
 refine uY.1 (callsIn_of_wp_marks (F:=Fw none) (n:=0) hfn hc trivial ?_ rfl);have hmk:Mk g.bare g.bare ⟨0,.nl⟩ []:=⟨λd hd=>by simp at hd,List.nodup_nil⟩
 have:=hcode g.bare g.bare _ hinv (λe a w=>e≠ .outgrown/\bodyPostM (Fw none) 0 P fn Mb e a w) (λa w h=>h.1 rfl) (λx fr' H' a' g' ds' hq hci hd=>by
  refine⟨?_,?_⟩
  .rcases hq.1 with rfl|rfl<;>simp[X.exit_]
  .have:=fin2 x fr' H' hq a' g' ds' hci hd
   rcases hq.1 with rfl|rfl<;>exact this) hmk
 rw[yW]at this;exact wpIn_mono this (λe a w h=>h.2)
end
section
variable{P:fV}{E:tY}{F:Fc}{n:Nat}{c c1 c2:Code}{fr:fU}{H:Hp}{Q:gR}
def Ce(P:fV)(E:tY)(n:Nat)(c:Code)(fr:fU)(H:Hp)(Q:gR):Prop:=
 ∀(g0 g:G) (H0:Hp) (a:Act) (ds:iI),qT E g0 H0 g a fr H->Mk g0 g H ds->∀(R:gC),(∀a w,¬R .outgrown a w)->
  (∀x fr' H' a' g' ds',Q x fr' H'->qT E g0 H0 g' a' fr' H'->Mk g0 g' H' ds'->R x.exit_ (DS ds' a') g'.w)->c.wpIn (Fw none) n P R (DS ds a) g.w
theorem AU.toM(h:AU P E none n c fr H Q):Ce P E n c fr H Q:=
 λg0 g H0 a ds hc hd R hno hR=>h g g H a ds hc.self R hno λx fr' H' a' g' hq hc'=>hR x fr' H' a' g' ds hq (hc.based hc') (hd.sstep hc'.step)
theorem KB(h:Ce P E n c1 fr H (wV (λfr' H'=>Ce P E n c2 fr' H' Q) Q)):Ce P E n (.seq c1 c2) fr H Q:=by
 intro g0 g H0 a ds hc hd R hno hR;refine wpIn_seq (h g0 g H0 a ds hc hd _ (uV hno) λx fr' H' a' g' ds' hQ hc' hd'=> ?_);cases x with
 |normal=>exact hQ g0 g' H0 a' ds' hc' hd' R hno hR|exit id=>exact hR _ _ _ _ _ _ hQ hc' hd'|ret=>exact hR _ _ _ _ _ _ hQ hc' hd'
theorem Oh{It:iJ}(hm:P.follows .mixedOrders=true)(hz:wR E.gl)(hE:vP P E.gl E.pe)(hF:tX P E.gl F.ee)(hI:aNk P E.gl It){m k:Nat}(hok:GY c=true){x:X}{fr':fU}{H':Hp}(he:xW P E F It m k c fr H=some (x,fr',H'))(hQ:Q x fr' H'):Ce P E n c fr H Q:=
 λg0 g H0 a ds hc hd R hno hR=>XC hm hz hE hF hI c _ _ _ _ _ hok he g0 g H0 a ds hc hd R hno λa' g' ds' hc' hd'=>hR x fr' H' a' g' ds' hQ hc' hd'
end
end Go.Ps
namespace Go.Proofs.Tryz
open Go.Ps
noncomputable section
section
variable(m:Int)(te:fS)
theorem bAt:pW prog (glZ m te) 100 [.nils,.int .i64 0,.int .i64 0,Bj] (.tup []):=
 u_ok (cxZ m te) rfl (f:=100) (by kernel_rfl) (by kernel_rfl) func100 (by kernel_rfl) (by kernel_rfl) (ds:=[false]) (b:=true) (by kernel_rfl) rfl
def sN(ts:fU):List T->Option (T×List Bool):=λus=>some (.tup [],[pb (us=ts)])
theorem aUo{f:gV}{ts:fU}(h:pW prog (glZ m te) f ts (.tup [])){us:fU}{r:T}{cs:gH}(e:sN ts us=some (r,cs))(hc:qA cs=true):pW prog (glZ m te) f us r:=by
 cases e;simp only[qA,bC,rD]at hc;rw[hc];exact h
theorem bLd:pW prog (glZ m te) 64 [.nils,.int .i64 0,.int .i64 0,.int .i64 0,Bj] (.tup []):=by
 have x:Cx prog ⟨glZ m te,rT 100 (sN [.nils,.int .i64 0,.int .i64 0,Bj]) (λ_ _ _ =>none)⟩ F0:=⟨follows,qN rR λts r cs h hc=>aUo m te (bAt m te) h hc,rG⟩;exact u_ok x rfl (f:=64) (by kernel_rfl) (by kernel_rfl) func64 (by kernel_rfl) (by kernel_rfl) (ds:=[true]) (b:=pb ([T.nils,.int .i64 0,.int .i64 0,Bj]=[.nils,.int .i64 0,.int .i64 0,Bj])&&true) (by kernel_rfl) (by simp[rD])
theorem bKy:pW prog (glZ m te) 33 [.nils,Bj] (.tup []):=by
 have x:Cx prog ⟨glZ m te,rT 65 aLr (rT 64 (sN [.nils,.int .i64 0,.int .i64 0,.int .i64 0,Bj]) (λ_ _ _ =>none))⟩ F0:=⟨follows,qN (qN rR λts r cs h hc=>aUo m te (bLd m te) h hc) λts r cs h hc=>Ku m te (bBr m te) h hc,rG⟩;exact u_ok x rfl (f:=33) (by kernel_rfl) (by kernel_rfl) func33 (by kernel_rfl) (by kernel_rfl) (ds:=[]) (b:=pb ([T.nils,.int .i64 0,.int .i64 0,.int .i64 0,Bj]=[.nils,.int .i64 0,.int .i64 0,.int .i64 0,Bj])&&true) (by kernel_rfl) (by simp[rD])
def bHp:List T->Option (T×List Bool)
 |[.nils,y]=>some (.tup [],[pb (y=Bj)])|_ =>none
def Cc(a:Fl)(n:Nat)(w:iW):Ed:=⟨glZ m te,rT 32 (s32 a n w) (rT 33 bHp (λ_ _ _ =>none))⟩
theorem bRh(a:Fl)(n:Nat)(w:iW):vP prog (glZ m te) (Cc m te a n w).env.pe:=by
 refine qN (qN rR λts r cs h hc=> ?_) λts r cs h hc=> ?_
 .unfold bHp at h;split at h
  .cases h;simp only[qA,bC,rD]at hc;rw[hc];exact bKy m te
  .cases h
 .unfold s32 at h;split at h
  .cases h;simp only[qA,bC,aA,rD]at hc;rw[hc.1,hc.2];exact c32 m te a n w
  .cases h
def eS(l k:Nat)(L:gY)(H0:Hp):List T->Hp->Option (T×Hp×List Bool):=λus H=>some (.tup [],H.put l (obG (AK k L) k),[pb (us=[.osl l 6 0 k,Bj]),pb (H=H0)])
def F0S(l k:Nat)(L:gY)(H0:Hp):Fc:=⟨λs=>Nat.beq s 9,Yf 33 (eS l k L H0) (λ_ _ _ =>none)⟩
theorem Rf(L:gY)(k:Nat):∀c∈flG L k,BI c=true:=by
 intro c hc;obtain⟨i,_,h⟩:=List.mem_flatMap.1 hc;simp[Gr.c]at h;rcases h with rfl|rfl|rfl|rfl|rfl|rfl<;>rfl
theorem bAm{l k:Nat}(hk:k<=12){L:gY}{H0:Hp}(h:H0.any l=some (obG L k)):tX prog (glZ m te) (F0S l k L H0).ee:=by
 refine Nm (own:=λ_ =>false) rG (λus H r H' cs e hc=> ?_) _;cases e;simp only[qA,bC,aA,rD]at hc;rw[hc.1,hc.2];exact aWi (rC m te) (ob:=obG L k) (ob':=obG (AK k L) k) (bMd m te hk L) rfl rfl (Rf L k) (Rf _ k) h
end
section
variable(m:Int)(te:fS)
def cj2(p q:jM):Nat->Bool
 |0=>true|k+1=>p k&&(q k&&cj2 p q k)
theorem aHp{p q:jM}:∀{k:Nat},(∀j,j<k->p j=true/\q j=true)->cj2 p q k=true
 |0,_ =>rfl|k+1,h=>by simp[cj2,h k (by omega),aHp (k:=k) λj hj=>h j (by omega)]
end
end
end Go.Proofs.Tryz
